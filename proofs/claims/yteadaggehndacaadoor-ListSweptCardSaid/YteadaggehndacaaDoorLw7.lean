/- For every input ListSwept returns true, and leaves its arguments as they were; tied: Rows.ListSweptCardSaid. Conditions: none beyond the given statement's own. (Part 7 of 7.) -/
import Derived.Test.YteadaggehndacaaDoorLw6
import Derived.ProofKit
import Derived.OpenShut
import Derived.Below
import Derived.LaidMore
import Derived.Deep.Fields
import Derived.Deep.Slices
import Derived.Test.YteadaggehndacaaDoorRows
import Derived.LaidLaws
import Derived.ChangeSame
import Derived.ChangeVars
import Derived.JoinedOf
import Derived.Stop.Joined
import Derived.RowKitTokens
import Derived.Test.YteadaggehndacaaDoorCards
import Derived.Test.YteadaggehndacaaDoorTie
import Derived.SevenTiedAt
/- New worlds (reference), that their callers may write into: contracts. -/
namespace Go.Proofs.YteadaggehndacaaDoor
set_option maxRecDepth 100000
set_option maxHeartbeats 16000000
open Go Go.RowKit
set_option linter.unusedSimpArgs false
attribute [local irreducible] zY zZ Step zV Sub zI zO Fn
/-- the free list's words -/
def freeW (t : Nat) : Nat → List Int → List Int
  | 0, l => l
  | k + 1, l => (freeW t k l).set (8 + t + 8 * k + 7) ((k : Int) + 2)
theorem freeW_len (t : Nat) (l : List Int) : ∀ k, (freeW t k l).length = l.length
  | 0 => rfl
  | k + 1 => by rw [freeW, List.length_set, freeW_len t l k]
def newW (t c : Nat) : List Int := freeW t (c - 1) ((List.replicate (8 + t + 8 * c) 0).set 1 1)
def newS (t c : Nat) (k : Nat) : AS :=
  { t := [(0, .p (.val (.int .i64 (t : Nat)))), (1, .p (.val (.int .i64 (c : Nat)))), (4, .ptr 4 0), (5, .p (.val (.int .i64 0))), (6, .ptr 6 0), (7, .p (.val (.int .i64 ((k + 1 : Nat) : Int))))],
    s := [(4, .box 26 ([.val (.int .i64 0), .val (.int .i64 0), .val (.slice none 0 0)].map AV.p)), (6, .box 26 [.p (.val (.int .i64 (t : Nat))), .p (.val (.int .i64 (c : Nat))), .own 30]), (30, vY 27 1 (wds (freeW t k ((List.replicate (8 + t + 8 * c) 0).set 1 1))))] }
theorem new9A_fn (t c : Nat) (h1 : 1 ≤ t) (h64 : t ≤ 64) (hc1 : 1 ≤ c) (hc : c ≤ 65536) : FnAg Tryd.prog 23 [.val (.int .i64 t), .val (.int .i64 c)] [.p (.val (.int .i64 t)), .p (.val (.int .i64 c)), .o 0] 27 1 (wds (newW t c)) (some (.int .i64 0)) := by
  have g1 : decide ((t : Int) < 1) = false := decide_eq_false (by omega)
  have g2 : decide ((64 : Int) < t) = false := decide_eq_false (by omega)
  have f1 : decide ((c : Int) < 0) = false := decide_eq_false (by omega)
  have f2 : decide ((65536 : Int) < c) = false := decide_eq_false (by omega)
  have g3 : (8 + t + 8 * c) * 1 ≤ 16777216 ∧ 8 * (8 + t + 8 * c) ≤ 281474976710656 ∧ 8 + t + 8 * c ≤ maxLen := by simp only [maxLen]; omega
  have g4 : IntKind.i64.wrap (8 + (t : Int)) = 8 + (t : Int) := wrap_i64 _ (by omega)
  have g4b : IntKind.i64.wrap (8 * (c : Int)) = 8 * (c : Int) := wrap_i64 _ (by omega)
  have g5 : IntKind.i64.wrap (8 + (t : Int) + 8 * (c : Int)) = ((8 + t + 8 * c : Nat) : Int) := by rw [wrap_i64 _ (by omega)]; omega
  have g6 : ∀ e ∈ List.replicate (8 + t + 8 * c) (PV.val (.int .u64 0)), e.cells.length = 1 := fun e he => by rw [List.eq_of_mem_replicate he]; rfl
  have g7 : (0 : Int) ≤ 1 ∧ (1 : Int) < (List.replicate (8 + t + 8 * c) (PV.val (.int .u64 0))).length := by simp; omega
  have g8 : (1 : Int).toNat < (List.replicate (8 + t + 8 * c) (PV.val (.int .u64 0))).length := by simp; omega
  have g9 : decide ((0 : Int) < c) = true := decide_eq_true (by omega)
  refine fn_ofAg Tryd.func23 rfl Tryd.ntmps23 (Nat.le_of_ble_eq_true rfl) ?_
  repeat' (first | (refine zY.at_ 31 rfl ?_; refine zY.v rfl rfl (w_buildAg 30 rfl (by rfl) (by rfl) rfl rfl (by rfl) (by rfl) rfl (by decide)) ?_) | (refine zY.is ?_; first | refine zY.nil ?_ | (refine zY.at_ 6 rfl ?_; refine zY.rc (.m y7 (.w yF .e)) ?_)) | (refine zZ.is ?_; first | refine zZ.seq ?_ | (refine zZ.isR (id := 0) ?_; refine zZ.rc [0, 1] [4, 6, 30] (r := (.m y7 (.v zM .e))) (h := ?_)) | (refine zZ.isR (id := 1) ?_; refine zZ.rc [0, 1, 4, 5] [4, 6, 30] (r := (.v zA (.v v43_0 (.v zA (.gY zA (.gY v45_0 (.v v5_1 (.v zA (.gY zA (.gY v43_0 (.v v5_1 (.v zA (.gY zA (.gY v45_0 (.v v5_1 .e))))))))))))))) (h := ?_)) | (refine zZ.isR (id := 3) ?_; refine zZ.rc [0, 1, 4, 5] [4, 6, 30] (r := (.v zA (.v zA (.v zA (.v vQ (.v zA (.v v32_0 (.v vQ (.m m21_0 .e))))))))) (h := ?_)) | (refine zZ.isR (id := 4) ?_; refine zZ.rc [0, 1, 4, 5, 6] [4, 6, 30] (r := (.v zA (.v v45_0 .e))) (h := ?_)) | (refine zZ.isR (id := 5) ?_; refine zZ.rc [0, 1, 4, 5, 6] [4, 6, 30] (r := (.v yH (.v v2_8 (.v vE (.w w24_1 .e))))) (h := ?_)) | (refine zZ.isR (id := 6) ?_; refine zZ.rc [0, 1, 4, 5, 6] [4, 6, 30] (r := (.v zM .e)) (h := ?_)) | refine zZ.yS rfl bA ?_ | refine zZ.yT rfl bA ?_ | refine zZ.skip ?_ | refine zZ.block ?_))
  refine zZ.loop (newS t c) (fun k => k + 1 ≤ c) (fun k => c - k) 0 ?h0 (by omega) ?rd
  case h0 =>
    have e0 : wds (freeW t 0 ((List.replicate (8 + t + 8 * c) 0).set 1 1)) = (List.replicate (8 + t + 8 * c) (PV.val (.int .u64 0))).set (1 : Int).toNat (.val (.int .u64 1)) := by simp [wds, freeW, List.map_set]
    unfold newS
    rw [e0]
    exact yP K_1m K_1n
  case rd =>
    rintro k hk
    have hfl : (freeW t k ((List.replicate (8 + t + 8 * c) 0).set 1 1)).length = 8 + t + 8 * c := by rw [freeW_len]; simp
    unfold newS
    by_cases hkc : k + 1 < c
    case pos =>
      have f3 : decide (((k + 1 : Nat) : Int) < c) = true := decide_eq_true (by omega)
      have c3 : Fn Tryd.prog 10 [.val (.int .i64 (t : Nat)), .val (.int .i64 ((k + 1 : Nat) : Int)), .val (.int .i64 7)] (.p (.val (.int .i64 ((8 + t + 8 * k + 7 : Nat) : Int)))) := by
        have h := wG t ((k + 1 : Nat) : Int) 7 (by unfold Small; omega) (by omega) (by unfold Small; omega)
        have e : zG t ((k + 1 : Nat) : Int) 7 = ((8 + t + 8 * k + 7 : Nat) : Int) := by unfold zG; omega
        rw [← e]; exact h
      have g10 : IntKind.i64.wrap (((k + 1 : Nat) : Int) + 1) = ((k + 2 : Nat) : Int) := by rw [wrap_i64 _ (by omega)]; omega
      have g11 : IntKind.u64.wrap ((k + 2 : Nat) : Int) = (k : Int) + 2 := by rw [wrap_u64 _ (by omega)]; omega
      have g12 := wds_cells (freeW t k ((List.replicate (8 + t + 8 * c) 0).set 1 1))
      have g13 : (0 : Int) ≤ ((8 + t + 8 * k + 7 : Nat) : Int) ∧ ((8 + t + 8 * k + 7 : Nat) : Int) < (wds (freeW t k ((List.replicate (8 + t + 8 * c) 0).set 1 1))).length := by rw [qN, hfl]; omega
      have g14 : ((8 + t + 8 * k + 7 : Nat) : Int).toNat < (wds (freeW t k ((List.replicate (8 + t + 8 * c) 0).set 1 1))).length := by rw [qN, hfl]; omega
      repeat' (first | (refine zY.nil ?_) | (refine zZ.is ?_; first | refine zZ.seq ?_ | (refine zZ.isR (id := 7) ?_; refine zZ.rc [0, 1, 4, 5, 6, 7, 39] [4, 6, 30] (r := (.v zA (.v zA (.v v43_0 .e)))) (h := ?_)) | (refine zZ.isR (id := 9) ?_; refine zZ.rk [0, 1, 4, 5, 6, 7, 39] [4, 6, 30] ?_; refine zZ.draws ?_) | (refine zZ.isR (id := 8) ?_; refine zZ.rc [0, 1, 4, 5, 6, 7, 39] [4, 6, 30] (r := (.v zA (.v vQ (.v zM .e)))) (h := ?_)) | refine zZ.yS rfl bA ?_ | refine zZ.skip ?_ | refine zZ.block ?_) | refine zN.n ?_ | (refine Draws.is ?_; first | refine Draws.rc (.v zA (.v vQ (.v qH (.v vE .e)))) ?_ | refine Draws.rc (.v yH (.v v2_8 (.v zA (.v zA .e)))) ?_ | (refine Draws.in_ [46] rfl ?_; refine Draws.v rfl rfl (zP (c3) rfl rfl rfl (by decide)) ?_) | refine Draws.done (by kernel_rfl) (by kernel_rfl) (by kernel_rfl) ?_) | (refine zI.is ?_; first | refine zI.nil ?_ | refine zI.rc (.w w24_1 .e) ?_))
      refine ⟨k + 1, ?_, by omega, by omega⟩
      have e1 : wds (freeW t (k + 1) ((List.replicate (8 + t + 8 * c) 0).set 1 1)) = (wds (freeW t k ((List.replicate (8 + t + 8 * c) 0).set 1 1))).set ((8 + t + 8 * k + 7 : Nat) : Int).toNat (.val (.int .u64 ((k : Int) + 2))) := by rw [wds_set, Int.toNat_natCast]; rfl
      show Sub _ (newS t c (k + 1))
      unfold newS
      rw [e1]
      exact yP K_1m K_1n
    case neg =>
      obtain rfl : k = c - 1 := by omega
      have f3 : decide (((c - 1 + 1 : Nat) : Int) < c) = false := decide_eq_false (by omega)
      repeat' (first | (refine zY.nil ?_) | (refine zZ.is ?_; first | refine zZ.seq ?_ | (refine zZ.isR (id := 7) ?_; refine zZ.rc [0, 1, 4, 5, 6, 7, 39] [4, 6, 30] (r := (.v zA (.v zA (.v v43_0 .e)))) (h := ?_)) | (refine zZ.isR (id := 10) ?_; refine zZ.rc [4, 5, 6] [4, 6, 30] (r := (.v v2_19 (.w yF (.v zM .e)))) (h := ?_)) | refine zZ.yT rfl bA ?_ | refine zZ.exit ?_ | refine zZ.ret ?_))
      all_goals exact ⟨by first | exact .inl rfl | exact .inr rfl, .two (k := 30) rfl rfl rfl (by rfl) (by rfl) rfl rfl⟩
theorem new10A_fn (t c : Nat) (h1 : 1 ≤ t) (h64 : t ≤ 64) (hc1 : 1 ≤ c) (hc : c ≤ 65536) : FnAg Tryd.prog 8 [.val (.int .i64 t), .val (.int .i64 c)] ([.p (.val (.int .i64 t)), .p (.val (.int .i64 c)), .o 0] ++ (wO 0 (List.replicate t ([], 0)) (List.replicate t ([], 0))).cells.map .p) 27 1 (wds (newW t c)) none := by
  have c1 := new9A_fn t c h1 h64 hc1 hc
  have c2 := new7_fn t h1 h64
  refine fn_ofAg Tryd.func8 rfl Tryd.ntmps8 (Nat.le_of_ble_eq_true rfl) ?_
  repeat' (first | (refine zY.is ?_; first | refine zY.nil ?_ | (refine zY.at_ 15 rfl ?_; refine zY.rc (.v v0_4 (.v xP (.v xP (.m y7 (.w yF (.v zM .e)))))) ?_) | (refine zY.at_ 9 rfl ?_; refine zY.rc (.v v0_4 (.v v9_2 (.v xP (.m y7 (.w yF (.v zM .e)))))) ?_) | (refine zY.in_ [17] rfl ?_; refine zY.v rfl rfl (xA (c2) rfl rfl rfl (by decide)) ?_) | (refine zY.in_ [12] rfl ?_; refine zY.m rfl rfl (w_callAg c1 rfl rfl rfl (by decide)) ?_)) | (refine zZ.is ?_; first | refine zZ.seq ?_ | (refine zZ.isR (id := 0) ?_; refine zZ.rc [0, 1] [4, 5, 7, 12, 17] (r := (.m y7 .e)) (h := ?_)) | (refine zZ.isR (id := 1) ?_; refine zZ.rc [0, 1, 4] [4, 5, 7, 12, 17] (r := (.v zA (.v zA .e))) (h := ?_)) | (refine zZ.isR (id := 2) ?_; refine zZ.rc [0, 4, 5] [4, 5, 7, 12, 17] (r := (.v zA .e)) (h := ?_)) | (refine zZ.isR (id := 3) ?_; refine zZ.rc [4, 5, 7] [4, 5, 7, 12, 17] (r := (.v v2_19 (.v v2_6 (.v v10_2 (.w yF .e))))) (h := ?_)) | refine zZ.ret ?_))
  all_goals exact ⟨by first | exact .inl rfl | exact .inr rfl, .one (k := 12) rfl rfl rfl (by rfl) (by rfl) rfl⟩
end Go.Proofs.YteadaggehndacaaDoor
/- The list's example: by evaluation, and its contracts. -/
namespace Go.Proofs.YteadaggehndacaaDoor
set_option maxRecDepth 100000
set_option maxHeartbeats 16000000
open Go Go.RowKit
set_option linter.unusedSimpArgs false
theorem run_keeps {α : Type} {good : α → Prop} {me : Nat} {f : Nat → Bool} : ∀ {p : Pr α} {n b i j : Nat} {W W' : Wd} {x : α}, p.xD good n → WdOK b W → p.run (wSt me f) (W, i) = .done x (W', j) →
    i ≤ j ∧ WdOK (b + 1000 * (j - i)) W' ∧ W'.t = W.t ∧ W'.c = W.c ∧ W'.r0.length = W.r0.length ∧ W'.ws.length = W.ws.length ∧ good x
  | .ret _, n, b, i, j, W, W', x, hf, h, hr => by
    rw [zH] at hr
    injection hr with e1 e2
    injection e2 with e2 e3
    subst e1 e2 e3
    exact ⟨Nat.le_refl _, h.le (by omega), rfl, rfl, rfl, rfl, hf⟩
  | .stuck, _, _, _, _, _, _, _, _, _, hr => by cases hr
  | .ask q k, n, b, i, j, W, W', x, hf, h, hr => by
    rw [wS] at hr
    have hr2 : (k (doX W me q (f i)).2).run (wSt me f) ((doX W me q (f i)).1, i + 1) = .done x (W', j) := hr
    obtain ⟨h1, h2⟩ := doX_ok h hf.1 me (f i)
    obtain ⟨k1, k2, k3, k4, _⟩ := doX_keeps W me q (f i)
    obtain ⟨a1, a2, a3, a4, a5, a6, a7⟩ := run_keeps (hf.2 _ h2) h1 hr2
    exact ⟨by omega, a2.le (by omega), a3.trans k1, a4.trans k2, a5.trans k3, a6.trans k4, a7⟩
def wd0 : Wd := ⟨0, 0, [], 0, [], []⟩
structure ResN where
  o : OutN
  W : Wd
  m : Nat
/-- what an operation answers, that steps alone -/
def rsN (p : Pr OutN) (me : Nat) (W : Wd) : ResN := match p.run (wSt me noFail) (W, 0) with
  | .done o s => ⟨o, s.1, s.2⟩
  | _ => ⟨⟨0, false, 0, 0⟩, wd0, 1000⟩
theorem freeW_U (t : Nat) {l : List Int} (hl : ∀ x ∈ l, U x) : ∀ k, k ≤ 65536 → ∀ x ∈ freeW t k l, U x
  | 0, _, x, hx => hl x hx
  | k + 1, hk, x, hx => by
    rw [freeW] at hx
    rcases List.mem_or_eq_of_mem_set hx with hx | rfl
    · exact freeW_U t hl k (by omega) x hx
    · unfold U; omega
theorem newW_U {t c : Nat} (h2 : c ≤ 65536) : ∀ x ∈ newW t c, U x := freeW_U t (fun x hx => by
    rcases List.mem_or_eq_of_mem_set hx with hx | rfl
    · rw [List.eq_of_mem_replicate hx]; exact U.zero
    · unfold U; decide) _ (by omega)
theorem newW_len (t c : Nat) : (newW t c).length = 8 + t + 8 * c := by rw [newW, freeW_len]; simp
/-- an operation that steps alone, in a world: its contract, and what is kept -/
structure AlN (B : Nat) (me : Nat) (k u v w : Int) (most : Nat) (W : Wd) (R : ResN) : Prop where
  fn : Fn Tryd.prog 9 [W.pv, .val (.int .i64 me), opV k u v w, .val (.int .i64 most)] (.tup [R.W.pv, outV R.o.e R.o.is R.o.n R.o.w, .val (.bool true)])
  ok : WdOK (B + 20000) R.W
  t : R.W.t = W.t
  c : R.W.c = W.c
  r0 : R.W.r0.length = W.r0.length
  ws : R.W.ws.length = W.ws.length
theorem alN_of {B me : Nat} {k u v w : Int} {most : Nat} {W : Wd} {R : ResN} (hr : (opL W.t k u v w).run (wSt me noFail) (W, 0) = .done R.o (R.W, R.m)) (ht : Small W.t) (hop : OpL k u v w) (hW : WdOK B W) (hme : me < W.r0.length) (hm : R.m ≤ most) (h20 : most ≤ 20) (hB : B ≤ 500000) : AlN B me k u v w most W R := by
  have hk := run_keeps (fine_opL (t := W.t) hop) hW hr
  exact ⟨alone_fn B W R.W me k u v w most R.m R.o hW ht hme hop hr hm (by omega) (by omega) (by omega), hk.2.1.le (by omega), hk.2.2.1, hk.2.2.2.1, hk.2.2.2.2.1, hk.2.2.2.2.2.1⟩
/-! ### The document's example -/
def slW : Wd := ⟨1, 2, (newW 1 2).set 10 5, 0, [([], 0)], [([], 0)]⟩
def slV : ResN := rsN (opL 1 24 0 0 1) 0 slW
def slB : ResN := rsN (opL 1 8 0 0 5) 0 slV.W
def slD : ResN := rsN (opL 1 8 0 0 4) 0 slV.W
def slE : ResN := rsN (opL 1 8 0 0 6) 0 slV.W
def slF : ResN := rsN (opL 1 25 0 0 5) 0 slV.W
theorem sl1 : (opL 1 24 0 0 1).run (wSt 0 noFail) (slW, 0) = .done slV.o (slV.W, slV.m) := by kernel_rfl
theorem sl2 : (opL 1 8 0 0 5).run (wSt 0 noFail) (slV.W, 0) = .done slB.o (slB.W, slB.m) := by kernel_rfl
theorem sl3 : (opL 1 8 0 0 4).run (wSt 0 noFail) (slV.W, 0) = .done slD.o (slD.W, slD.m) := by kernel_rfl
theorem sl4 : (opL 1 8 0 0 6).run (wSt 0 noFail) (slV.W, 0) = .done slE.o (slE.W, slE.m) := by kernel_rfl
theorem sl5 : (opL 1 25 0 0 5).run (wSt 0 noFail) (slV.W, 0) = .done slF.o (slF.W, slF.m) := by kernel_rfl
theorem sl6 : slV.o.is = true ∧ (slB.o.n = 1 ∧ slB.o.w = 0 ∧ slB.o.is = true) ∧ (slD.o.n = 1 ∧ slD.o.is = false) ∧ (slE.o.n = 0 ∧ slE.o.w = 1 ∧ slE.o.is = false) ∧ slF.o.n = 1 ∧ slF.o.is = true := by refine ⟨?_, ⟨?_, ?_, ?_⟩, ⟨?_, ?_⟩, ⟨?_, ?_, ?_⟩, ?_, ?_⟩ <;> kernel_rfl
theorem sl7 : slV.m ≤ 9 ∧ slB.m ≤ 9 ∧ slD.m ≤ 9 ∧ slE.m ≤ 9 ∧ slF.m ≤ 9 := by refine ⟨?_, ?_, ?_, ?_, ?_⟩ <;> exact Nat.le_of_ble_eq_true (by kernel_rfl)
theorem slW_ok : WdOK 0 slW := ⟨fun x hx => by
    rcases List.mem_or_eq_of_mem_set hx with hx | rfl
    · exact newW_U (by decide) x hx
    · unfold U; decide, by show ((newW 1 2).set 10 5).length ≤ _; rw [List.length_set, newW_len]; decide, rfl, by decide, fun p hp => by
    have hp : p ∈ [(([] : List Int), (0 : Int))] := hp
    rw [List.mem_singleton] at hp
    subst hp
    exact Nat.le_refl _⟩
theorem al_sl : AlN 0 0 24 0 0 1 9 slW slV ∧ AlN 20000 0 8 0 0 5 9 slV.W slB ∧ AlN 20000 0 8 0 0 4 9 slV.W slD ∧ AlN 20000 0 8 0 0 6 9 slV.W slE ∧ AlN 20000 0 25 0 0 5 9 slV.W slF := by
  obtain ⟨m1, m2, m3, m4, m5⟩ := sl7
  have z : Rf 0 := ⟨by decide, by decide⟩
  have z1 : Rf 1 := ⟨by decide, by decide⟩
  have hu : ∀ n : Int, 0 ≤ n → n ≤ 9 → U n := fun n h1 h2 => by unfold U; omega
  have hs : Small 1 := by unfold Small; omega
  have a1 : AlN 0 0 24 0 0 1 9 slW slV := alN_of sl1 hs ⟨fun _ => z, fun _ => ⟨z, z1⟩, hu _ (by decide) (by decide)⟩ slW_ok (by decide) m1 (by decide) (by decide)
  have ht : slV.W.t = 1 := a1.t
  have hr : 0 < slV.W.r0.length := by rw [a1.r0]; decide
  exact ⟨a1, alN_of (by rw [ht]; exact sl2) (by rw [ht]; exact hs) ⟨fun _ => z, fun h => absurd h (by decide), hu _ (by decide) (by decide)⟩ a1.ok hr m2 (by decide) (by decide),
    alN_of (by rw [ht]; exact sl3) (by rw [ht]; exact hs) ⟨fun _ => z, fun h => absurd h (by decide), hu _ (by decide) (by decide)⟩ a1.ok hr m3 (by decide) (by decide),
    alN_of (by rw [ht]; exact sl4) (by rw [ht]; exact hs) ⟨fun _ => z, fun h => absurd h (by decide), hu _ (by decide) (by decide)⟩ a1.ok hr m4 (by decide) (by decide),
    alN_of (by rw [ht]; exact sl5) (by rw [ht]; exact hs) ⟨fun _ => z, fun h => absurd h (by decide), hu _ (by decide) (by decide)⟩ a1.ok hr m5 (by decide) (by decide)⟩
end Go.Proofs.YteadaggehndacaaDoor
/- The law ListSeeks: what a search and a seek alone answer of the records that are laid. -/
namespace Go.Proofs.YteadaggehndacaaDoor
set_option maxRecDepth 100000
set_option maxHeartbeats 16000000
open Go Go.RowKit
set_option linter.unusedSimpArgs false
set_option linter.unusedVariables false
def skWd (m : Int → Int) : Wd := ⟨1, 10, ofM 89 m, 0, [([], 0)], [([], 0)]⟩
theorem skWd_mem (m : Int → Int) : MemW 10 (skWd m) m := memW_of (C := 10) (by decide)
theorem skWd_ok {m : Int → Int} (hu : ∀ c : Int, 0 ≤ c → U (m c)) : WdOK 0 (skWd m) := ⟨fun x hx => by
    obtain ⟨c, _, rfl⟩ := List.mem_map.1 hx
    exact hu _ (by omega), by show (ofM 89 m).length ≤ _; rw [ofM_len]; decide, rfl, by show 1 ≤ 1000000; decide, fun p hp => by
    have hp : p ∈ [(([] : List Int), (0 : Int))] := hp
    rw [List.mem_singleton] at hp
    subst hp
    exact Nat.le_refl _⟩
theorem skNx : ∀ r : Nat, r ≤ 10 → memOf (newW 1 10) (yZ 1 r) = 0 := fun r hr => by
  have h : ∀ r : Fin 11, memOf (newW 1 10) (yZ 1 (r.val : Int)) = 0 := by decide
  exact h ⟨r, by omega⟩
theorem memOf_out {ws : List Int} {c : Int} (h : (ws.length : Int) ≤ c) : memOf ws c = 0 := by
  unfold memOf
  rw [List.getElem?_eq_none (by omega)]
  rfl
theorem skOK0 (k : Int) : SkOK k [] ⟨memOf (newW 1 10), 0, 0, false⟩ := by
  refine ⟨by decide, skNx 0 (by decide), fun r hr => ?_, fun r h1 h2 => ?_, by decide, Int.le_refl _, by decide, rfl, rfl, fun c hc => ?_⟩
  · have hr : (0 : Int) < r := hr
    show memOf (newW 1 10) (yZ 1 r) = 0
    by_cases h : r ≤ 10
    · have := skNx r.toNat (by omega)
      rwa [show ((r.toNat : Nat) : Int) = r by omega] at this
    · refine memOf_out ?_
      rw [newW_len, wQ, if_neg (by omega)]
      omega
  · have h2 : r ≤ 0 := h2
    omega
  · show U (memOf (newW 1 10) c)
    unfold memOf
    cases h : (newW 1 10)[c.toNat]? with
    | none => exact U.zero
    | some x => exact newW_U (by decide) x (List.mem_of_getElem? h)
section
variable {k : Int} {bs : List Bool} {s : SkS}
theorem SkOK.keys (_ : SkOK k bs s) : ∀ r : Int, 1 ≤ r → s.m (zG 1 r 1) = (fun r => s.m (zG 1 r 1)) r := fun _ _ => rfl
theorem SkOK.fl (h : SkOK k bs s) : ∀ x ∈ nms (skL 0 bs), vO (s.m (zG 1 x 2)) 2 = false := fun x hx => by
  have hb := (skL_nms bs 0 x).1 hx
  rw [h.f x (by omega) (by omega)]
  unfold vO
  rw [decide_eq_false (show ¬ 4 * x / 2 % 2 = 1 by omega)]
  simp
end
end Go.Proofs.YteadaggehndacaaDoor
/- The law ListSwept, in plain terms: the records that are laid, and what stays behind a sweep. Generic over the program. -/
namespace Go.Proofs.YteadaggehndacaaDoor
set_option maxRecDepth 100000
set_option maxHeartbeats 16000000
open Go Go.RowKit
set_option linter.unusedSimpArgs false
set_option linter.unusedVariables false
theorem updW_twice (m : Int → Int) (c v w : Int) : yB (yB m c v) c w = yB m c w := by
  funext x
  unfold yB
  split <;> rfl
def vtx (e : Int) : Bool := decide (128 ≤ e)
def swK (i : Nat) (e : Int) : Int := bif vtx e then ((i : Int) + 1) * 2147483648 else 2 * ((i : Int) + 1)
def swA (i : Nat) (e : Int) (m : Int → Int) : Int → Int := yB (yB (yB (yB m (zG 1 ((i : Int) + 1) 1) (swK i e)) (zG 1 ((i : Int) + 1) 2) (4 * ((i : Int) + 1))) (zG 1 ((i : Int) + 1) 4) (e % 4)) (zG 1 ((i : Int) + 1) 5) (e / 4 % 4)
/-- the words, a record more -/
def swW (i : Nat) (e : Int) (b : Bool) (m : Int → Int) : Int → Int := bif b then yB (skN i (swA i e m)) (yZ 1 ((i : Int) + 1)) 1 else skN i (swA i e m)
theorem swA_out (i : Nat) (e : Int) (m : Int → Int) {x : Int} (h1 : x ≠ zG 1 ((i : Int) + 1) 1) (h2 : x ≠ zG 1 ((i : Int) + 1) 2) (h4 : x ≠ zG 1 ((i : Int) + 1) 4) (h5 : x ≠ zG 1 ((i : Int) + 1) 5) : swA i e m x = m x := by
  unfold swA
  rw [zU _ _ h5, zU _ _ h4, zU _ _ h2, zU _ _ h1]
theorem swA_n (i : Nat) (e : Int) (m : Int → Int) {r : Int} (hr : 0 ≤ r) : swA i e m (yZ 1 r) = m (yZ 1 r) := swA_out i e m (nf_ne _ _ 1 hr (by omega) (by decide)) (nf_ne _ _ 2 hr (by omega) (by decide)) (nf_ne _ _ 4 hr (by omega) (by decide)) (nf_ne _ _ 5 hr (by omega) (by decide))
structure SwF (i : Nat) (e : Int) (b : Bool) (m m' : Int → Int) : Prop where
  n : ∀ r : Int, 0 ≤ r → r ≠ i → r ≠ (i : Int) + 1 → m' (yZ 1 r) = m (yZ 1 r)
  n0 : m' (yZ 1 i) = m (yZ 1 i) + 2 * ((i : Int) + 1)
  n1 : m (yZ 1 ((i : Int) + 1)) = 0 → m' (yZ 1 ((i : Int) + 1)) = bI b
  f : ∀ r f : Int, 1 ≤ r → r ≠ (i : Int) + 1 → 1 ≤ f → f ≤ 7 → m' (zG 1 r f) = m (zG 1 r f)
  f1 : m' (zG 1 ((i : Int) + 1) 1) = swK i e
  f2 : m' (zG 1 ((i : Int) + 1) 2) = 4 * ((i : Int) + 1)
  f4 : m' (zG 1 ((i : Int) + 1) 4) = e % 4
  f5 : m' (zG 1 ((i : Int) + 1) 5) = e / 4 % 4
  e : m' 3 = m 3
theorem swN_f (i : Nat) (e : Int) (m : Int → Int) : SwF i e false m (skN i (swA i e m)) := by
  have hi : (0 : Int) ≤ i := by omega
  have hx : (1 : Int) ≤ (i : Int) + 1 := by omega
  have out : ∀ q f : Int, 1 ≤ q → 1 ≤ f → f ≤ 7 → skN i (swA i e m) (zG 1 q f) = swA i e m (zG 1 q f) := fun q f hq h1 h2 => by
    unfold skN
    exact zU _ _ (Ne.symm (nf_ne _ q f hi hq ⟨h1, h2⟩))
  refine ⟨fun r h0 h1 h2 => ?_, ?_, fun h => ?_, fun r f h0 h1 h2 h3 => ?_, ?_, ?_, ?_, ?_, ?_⟩
  · unfold skN
    rw [zU _ _ (fun h => h1 (nx_inj h0 hi h)), swA_n i e m h0]
  · unfold skN
    rw [vI, swA_n i e m hi]
  · unfold skN
    rw [zU _ _ (fun h => by have := nx_inj (by omega) hi h; omega), swA_n i e m (by omega), h]
    rfl
  · rw [out r f h0 h2 h3]
    exact swA_out i e m (ff_ne _ _ _ _ (.inl h1) (by omega) (by decide)) (ff_ne _ _ _ _ (.inl h1) (by omega) (by decide)) (ff_ne _ _ _ _ (.inl h1) (by omega) (by decide)) (ff_ne _ _ _ _ (.inl h1) (by omega) (by decide))
  · rw [out _ 1 hx (by decide) (by decide)]
    unfold swA
    rw [zU _ _ (ff_ne _ _ _ _ (.inr (by decide)) (by decide) (by decide)), zU _ _ (ff_ne _ _ _ _ (.inr (by decide)) (by decide) (by decide)), zU _ _ (ff_ne _ _ _ _ (.inr (by decide)) (by decide) (by decide)), vI]
  · rw [out _ 2 hx (by decide) (by decide)]
    unfold swA
    rw [zU _ _ (ff_ne _ _ _ _ (.inr (by decide)) (by decide) (by decide)), zU _ _ (ff_ne _ _ _ _ (.inr (by decide)) (by decide) (by decide)), vI]
  · rw [out _ 4 hx (by decide) (by decide)]
    unfold swA
    rw [zU _ _ (ff_ne _ _ _ _ (.inr (by decide)) (by decide) (by decide)), vI]
  · rw [out _ 5 hx (by decide) (by decide)]
    unfold swA
    rw [vI]
  · unfold skN
    rw [zU _ _ (by rw [wQ]; split <;> omega), swA_out i e m (by rw [yI]; omega) (by rw [yI]; omega) (by rw [yI]; omega) (by rw [yI]; omega)]
theorem swW_f (i : Nat) (e : Int) (b : Bool) (m : Int → Int) : SwF i e b m (swW i e b m) := by
  have h := swN_f i e m
  cases b with
  | false => exact h
  | true =>
    have hx : (0 : Int) ≤ (i : Int) + 1 := by omega
    have out : ∀ q f : Int, 1 ≤ q → 1 ≤ f → f ≤ 7 → yB (skN i (swA i e m)) (yZ 1 ((i : Int) + 1)) 1 (zG 1 q f) = skN i (swA i e m) (zG 1 q f) := fun q f hq h1 h2 => zU _ _ (Ne.symm (nf_ne _ q f hx hq ⟨h1, h2⟩))
    show SwF i e true m (yB (skN i (swA i e m)) (yZ 1 ((i : Int) + 1)) 1)
    refine ⟨fun r h0 h1 h2 => ?_, ?_, fun _ => vI _ _ _, fun r f h0 h1 h2 h3 => (out r f h0 h2 h3).trans (h.f r f h0 h1 h2 h3), (out _ 1 (by omega) (by decide) (by decide)).trans h.f1, (out _ 2 (by omega) (by decide) (by decide)).trans h.f2, (out _ 4 (by omega) (by decide) (by decide)).trans h.f4, (out _ 5 (by omega) (by decide) (by decide)).trans h.f5, ?_⟩
    · rw [zU _ _ (fun e => h2 (nx_inj h0 hx e))]; exact h.n r h0 h1 h2
    · rw [zU _ _ (fun e => by have := nx_inj (by omega) hx e; omega)]; exact h.n0
    · rw [zU _ _ (by rw [wQ]; split <;> omega)]; exact h.e
/-! ### What is gone -/
/-- is a record whose ends are told so to go? -/
def gnE (s e : Int) : Bool := !vtx e && (decide (e % 4 = s) || decide (e / 4 % 4 = s))
def gN (s : Int) (es : List Int) (x : Int) : Bool := gnE s (es.getD (x - 1).toNat 0)
theorem gnE_of {m : Int → Int} {s e : Int} {i : Nat} (hi : i < 10) (h1 : m (zG 1 ((i : Int) + 1) 1) = swK i e) (h4 : m (zG 1 ((i : Int) + 1) 4) = e % 4) (h5 : m (zG 1 ((i : Int) + 1) 5) = e / 4 % 4) : gone m s ((i : Int) + 1) = gnE s e := by
  unfold gone gnE
  rw [h1, h4, h5]
  unfold swK
  cases vtx e with
  | true => rw [cond_true, decide_eq_true (show ((i : Int) + 1) * 2147483648 % 2147483648 = 0 by omega)]
  | false => rw [cond_false, decide_eq_false (show ¬ 2 * ((i : Int) + 1) % 2147483648 = 0 by omega)]
/-- the words, behind so many rounds -/
def swAt (es : List Int) (bs : List Bool) : Nat → Int → Int
  | 0 => memOf (newW 1 10)
  | i + 1 => swW i (es.getD i 0) (bs.getD i false) (swAt es bs i)
/-- what stays, of so many -/
def y9 (s : Int) (es : List Int) (bs : List Bool) (i : Nat) : List Int := nms (swpL (gN s es) (skL 0 (bs.take i)))
structure SwOK (s : Int) (es : List Int) (bs : List Bool) (i : Nat) (m : Int → Int) : Prop where
  l : Lnk 10 m 0 false (skL 0 (bs.take i))
  n : ∀ r : Int, (i : Int) < r → m (yZ 1 r) = 0
  f : ∀ r : Int, 1 ≤ r → r ≤ i → m (zG 1 r 2) = 4 * r
  g : ∀ r : Int, 1 ≤ r → r ≤ i → gone m s r = gN s es r
  e : m 3 = 0
  u : ∀ c : Int, 0 ≤ c → U (m c)
theorem swW_ok {s : Int} {es : List Int} {bs : List Bool} {i : Nat} {m : Int → Int} (h : SwOK s es bs i m) (hi : i < 10) (hb : i < bs.length) (he : 0 ≤ es.getD i 0 ∧ es.getD i 0 < 256) : SwOK s es bs (i + 1) (swW i (es.getD i 0) (bs.getD i false) m) := by
  have htl : (bs.take i).length = i := by rw [List.length_take]; omega
  have hz : lastN 0 (skL 0 (bs.take i)) = (i : Int) := by have := skL_last (bs.take i) 0; rw [Nat.zero_add, htl] at this; exact this
  have hlast := Lnk.lastw h.l
  rw [hz] at hlast
  have q := swW_f i (es.getD i 0) (bs.getD i false) m
  have hbi : bs.getD i false = bs[i] := by simp [List.getD, hb]
  have htk : bs.take (i + 1) = bs.take i ++ [bs.getD i false] := by rw [List.take_add_one, hbi, List.getElem?_eq_getElem hb]; rfl
  have hx0 := h.n ((i : Int) + 1) (by omega)
  have hL : skL 0 (bs.take (i + 1)) = skL 0 (bs.take i) ++ [((i : Int) + 1, bs.getD i false)] := by
    rw [htk, skL_snoc, Nat.zero_add, htl]
  have hno : ∀ x ∈ nms (skL 0 (bs.take i)), 1 ≤ x ∧ x ≤ i := fun x hx => by have := (skL_nms (bs.take i) 0 x).1 hx; omega
  generalize hge : es.getD i 0 = e at *
  generalize bs.getD i false = b at *
  have hlk : Lnk 10 (swW i e b m) 0 false (skL 0 (bs.take (i + 1))) := by
    rw [hL]
    refine Lnk.snoc (m := m) ⟨by omega, by omega⟩ h.l (List.nodup_cons.2 ⟨fun h0 => by have := hno 0 h0; omega, skL_nodup _ 0⟩) (fun r hr hne => ?_) ?_ (q.n1 hx0)
    · rw [hz] at hne
      refine q.n r ?_ hne ?_
      · rcases hr with rfl | hr
        · omega
        · have := hno r hr; omega
      · rcases hr with rfl | hr
        · omega
        · have := hno r hr; omega
    · rw [hz]
      exact q.n0
  refine ⟨hlk, fun r hr => (q.n r (by omega) (by omega) (by omega)).trans (h.n r (by omega)), fun r h1 h2 => ?_, fun r h1 h2 => ?_, q.e.trans h.e, ?_⟩
  · by_cases e1 : r = (i : Int) + 1
    · subst e1; exact q.f2
    · exact (q.f r 2 h1 e1 (by decide) (by decide)).trans (h.f r h1 (by omega))
  · by_cases e1 : r = (i : Int) + 1
    · subst e1
      rw [gnE_of hi q.f1 q.f4 q.f5]
      unfold gN
      rw [show ((i : Int) + 1 - 1).toNat = i by omega, hge]
    · rw [← h.g r h1 (by omega)]
      unfold gone
      rw [q.f r 1 h1 e1 (by decide) (by decide), q.f r 4 h1 e1 (by decide) (by decide), q.f r 5 h1 e1 (by decide) (by decide)]
  · have hk : U (swK i e) := by
      unfold swK
      cases vtx e
      · exact ⟨by show 0 ≤ 2 * ((i : Int) + 1); omega, by show 2 * ((i : Int) + 1) < _; omega⟩
      · exact ⟨by show 0 ≤ ((i : Int) + 1) * 2147483648; omega, by show ((i : Int) + 1) * 2147483648 < _; omega⟩
    have a1 : ∀ c : Int, 0 ≤ c → U (swA i e m c) := updW_U (updW_U (updW_U (updW_U h.u hk) ⟨by omega, by omega⟩) ⟨by omega, by omega⟩) ⟨by omega, by omega⟩
    have a3 : ∀ c : Int, 0 ≤ c → U (skN i (swA i e m) c) := updW_U a1 (by rw [swA_n i e m (by omega)]; exact ⟨by omega, by omega⟩)
    unfold swW
    cases b
    · exact a3
    · exact updW_U a3 ⟨by decide, by decide⟩
theorem swAt_ok {s : Int} {es : List Int} {bs : List Bool} (hn : es.length ≤ 10) (hb : es.length ≤ bs.length) (he : ∀ x ∈ es, 0 ≤ x ∧ x < 256) : ∀ i, i ≤ es.length → SwOK s es bs i (swAt es bs i)
  | 0, _ => by
    have h := skOK0 0
    exact ⟨h.l, h.n, fun r h1 h2 => by omega, fun r h1 h2 => by omega, h.e, h.u⟩
  | i + 1, hi => swW_ok (swAt_ok hn hb he i (by omega)) (by omega) (by omega) (by
      have : es.getD i 0 = es[i]'(by omega) := by simp [List.getD, show i < es.length by omega]
      rw [this]
      exact he _ (List.getElem_mem _))
/-! ### What stays -/
theorem swpL_snoc (g : Int → Bool) (x : Int) (b : Bool) : ∀ (l : List (Int × Bool)), swpL g (l ++ [(x, b)]) = swpL g l ++ (bif b || g x then [] else [(x, b)])
  | [] => by
    show (bif b || g x then swpL g [] else (x, b) :: swpL g []) = _
    cases b || g x <;> rfl
  | (y, c) :: l => by
    show (bif c || g y then swpL g (l ++ [(x, b)]) else (y, c) :: swpL g (l ++ [(x, b)])) = (bif c || g y then swpL g l else (y, c) :: swpL g l) ++ _
    rw [swpL_snoc g x b l]
    cases c || g y <;> rfl
theorem nms_app (l k : List (Int × Bool)) : nms (l ++ k) = nms l ++ nms k := List.map_append
theorem swpT_has (g : Int → Bool) : ∀ (l : List (Int × Bool)) (x : Int) (b : Bool), (nms l).Nodup → (x, b) ∈ l → (x ∈ swpT g l ↔ (b || g x) = true)
  | (y, c) :: l, x, b, hnd, h => by
    obtain ⟨h1, h2⟩ := List.nodup_cons.1 hnd
    show x ∈ (bif c || g y then y :: swpT g l else swpT g l) ↔ _
    rcases List.mem_cons.1 h with e | h
    · injection e with e1 e2
      subst e1 e2
      have hn : x ∉ swpT g l := fun h => h1 (swpT_sub g l x h)
      cases b || g x
      · exact ⟨fun h => absurd h hn, fun h => by cases h⟩
      · exact ⟨fun _ => rfl, fun _ => List.mem_cons_self ..⟩
    · have hne : x ≠ y := fun e => h1 (e ▸ List.mem_map.2 ⟨(x, b), h, rfl⟩)
      rw [← swpT_has g l x b h2 h]
      cases c || g y
      · exact Iff.rfl
      · exact ⟨fun h => (List.mem_cons.1 h).resolve_left hne, fun h => List.mem_cons_of_mem _ h⟩
section
variable {s : Int} {es : List Int} {bs : List Bool} {i : Nat}
theorem take_cons (hb : i < bs.length) : bs.take (i + 1) = bs.take i ++ [bs.getD i false] := by
  have hbi : bs.getD i false = bs[i] := by simp [List.getD, hb]
  rw [List.take_add_one, hbi, List.getElem?_eq_getElem hb]
  rfl
theorem gN_at (i : Nat) : gN s es ((i : Int) + 1) = gnE s (es.getD i 0) := by
  unfold gN
  rw [show ((i : Int) + 1 - 1).toNat = i by omega]
theorem stay_step (hb : i < bs.length) : y9 s es bs (i + 1) = y9 s es bs i ++ (bif bs.getD i false || gnE s (es.getD i 0) then [] else [(i : Int) + 1]) := by
  have htl : (bs.take i).length = i := by rw [List.length_take]; omega
  unfold y9
  rw [take_cons hb, skL_snoc, Nat.zero_add, htl, swpL_snoc, nms_app, gN_at]
  cases bs.getD i false || gnE s (es.getD i 0) <;> rfl
theorem skL_at : ∀ (bs : List Bool) (i j : Nat), j < bs.length → ((i : Int) + (j : Int) + 1, bs.getD j false) ∈ skL i bs
  | b :: bs, i, 0, _ => by
    show ((i : Int) + ((0 : Nat) : Int) + 1, b) ∈ ((i : Int) + 1, b) :: skL (i + 1) bs
    rw [show (i : Int) + ((0 : Nat) : Int) + 1 = (i : Int) + 1 by omega]
    exact List.mem_cons_self ..
  | b :: bs, i, j + 1, h => by
    have h2 := skL_at bs (i + 1) j (by simpa using h)
    show ((i : Int) + ((j + 1 : Nat) : Int) + 1, bs.getD j false) ∈ ((i : Int) + 1, b) :: skL (i + 1) bs
    rw [show (i : Int) + ((j + 1 : Nat) : Int) + 1 = ((i + 1 : Nat) : Int) + (j : Int) + 1 by omega]
    exact List.mem_cons_of_mem _ h2
theorem skL_mem {n j : Nat} (hn : n ≤ bs.length) (hj : j < n) : ((j : Int) + 1, bs.getD j false) ∈ skL 0 (bs.take n) := by
  have h := skL_at (bs.take n) 0 j (by rw [List.length_take]; omega)
  have e : (bs.take n).getD j false = bs.getD j false := by simp [List.getD, List.getElem?_take, hj]
  rw [e, show ((0 : Nat) : Int) + (j : Int) + 1 = (j : Int) + 1 by omega] at h
  exact h
theorem stay_cnt : ∀ {i : Nat}, i ≤ bs.length → (y9 s es bs i).length ≤ i
  | 0, _ => Nat.le_refl _
  | i + 1, h => by
    have := stay_cnt (i := i) (by omega)
    rw [stay_step (by omega), List.length_append]
    cases bs.getD i false || gnE s (es.getD i 0)
    · show _ + 1 ≤ _; omega
    · show _ + 0 ≤ _; omega
/-- what is at a place, behind what stays of fewer -/
theorem stay_at {n : Nat} (hn : n ≤ bs.length) (hi : i < n) : (y9 s es bs n)[(y9 s es bs i).length]? = some ((i : Int) + 1) ↔ (bs.getD i false || gnE s (es.getD i 0)) = false := by
  have step2 : ∀ k, i + 1 + k ≤ bs.length → ∃ t, y9 s es bs (i + 1 + k) = y9 s es bs (i + 1) ++ t ∧ ∀ x ∈ t, (i : Int) + 1 < x := fun k => by
    induction k with
    | zero => exact fun _ => ⟨[], by simp, fun x h => by cases h⟩
    | succ k ih =>
      intro hk
      obtain ⟨t, h1, h2⟩ := ih (by omega)
      rw [show i + 1 + (k + 1) = i + 1 + k + 1 by omega, stay_step (show i + 1 + k < bs.length by omega), h1, List.append_assoc]
      refine ⟨_, rfl, fun x hx => ?_⟩
      rcases List.mem_append.1 hx with hx | hx
      · exact h2 x hx
      · cases hc : bs.getD (i + 1 + k) false || gnE s (es.getD (i + 1 + k) 0) with
        | true => rw [hc] at hx; cases hx
        | false =>
          rw [hc] at hx
          have := List.mem_singleton.1 hx
          omega
  obtain ⟨t, h1, h2⟩ := step2 (n - (i + 1)) (by omega)
  rw [show i + 1 + (n - (i + 1)) = n by omega] at h1
  rw [h1, stay_step (show i < bs.length by omega), List.append_assoc, List.getElem?_append_right (Nat.le_refl _), Nat.sub_self]
  cases hc : bs.getD i false || gnE s (es.getD i 0) with
  | true =>
    refine ⟨fun h => ?_, fun h => by cases h⟩
    have := h2 _ (List.mem_of_getElem? (show t[0]? = some ((i : Int) + 1) from h))
    omega
  | false => exact ⟨fun _ => rfl, fun _ => rfl⟩
end
end Go.Proofs.YteadaggehndacaaDoor
/- The law ListSwept: what a sweep alone leaves of the records that are laid. -/
namespace Go.Proofs.YteadaggehndacaaDoor
set_option maxRecDepth 100000
set_option maxHeartbeats 16000000
open Go Go.RowKit
set_option linter.unusedSimpArgs false
set_option linter.unusedVariables false
structure Swept (s : Int) (l : List (Int × Bool)) (g : Int → Bool) (m : Int → Int) (W' : Wd) (m' : Int → Int) : Prop where
  fn : Fn Tryd.prog 9 [(skWd m).pv, .val (.int .i64 (0 : Nat)), opV 10 0 0 s, .val (.int .i64 (400 : Nat))] (.tup [W'.pv, outV 0 false 0 0, .val (.bool true)])
  t : W'.t = 1
  c : W'.c = 10
  w : MemW 10 W' m'
  a : Aft m m' (0 :: nms l) (swpT g l)
  l : Lnk 10 m' 0 false (swpL g l)
theorem sweep_al {s : Int} {es : List Int} {bs : List Bool} {n : Nat} {m : Int → Int} (h : SwOK s es bs n m) (hn : n ≤ 10) (hb : n ≤ bs.length) (hs : U s) : ∃ W' m', Swept s (skL 0 (bs.take n)) (gN s es) m W' m' := by
  have htl : (bs.take n).length = n := by rw [List.length_take]; omega
  have hll : (skL 0 (bs.take n)).length = n := by rw [skL_len]; exact htl
  have hno : ∀ x ∈ nms (skL 0 (bs.take n)), 1 ≤ x ∧ x ≤ n := fun x hx => by have := (skL_nms (bs.take n) 0 x).1 hx; omega
  obtain ⟨m', hr, ha, hl⟩ := sweep_run (C := 10) (by decide) s (g := gN s es) h.l (List.nodup_cons.2 ⟨fun h0 => by have := hno 0 h0; omega, skL_nodup _ 0⟩) (fun x hx => by
    have := hno x hx
    rw [h.f x (by omega) (by omega)]
    unfold vO
    rw [decide_eq_false (show ¬ 4 * x / 2 % 2 = 1 by omega)]
    simp) (by rw [h.e]; omega) (fun x hx => h.g x (hno x hx).1 (hno x hx).2) (by omega)
  rw [hll] at hr
  have hr2 : Rns 10 (opL 1 10 0 0 s) m ⟨0, false, 0, 0⟩ m' (1 + 14 * n + 0) := by
    refine hr.bind (f := fun b => bif b then Pr.ret (⟨0, false, 0, 0⟩ : OutN) else .ret ⟨7, false, 0, 0⟩) ?_
    exact Rns.ret _
  obtain ⟨W', j, e, hm, hj⟩ := hr2 (skWd m) 0 (skWd_mem m)
  have z : Rf 0 := ⟨by decide, by decide⟩
  have hop : OpL 10 0 0 s := ⟨fun _ => z, fun h => absurd h (by decide), hs⟩
  have hok := skWd_ok h.u
  have hk := run_keeps (fine_opL (t := 1) hop) hok e
  exact ⟨W', m', alone_fn 0 (skWd m) W' 0 10 0 0 s 400 j _ hok (by show Small 1; unfold Small; omega) (by show 0 < 1; decide) hop e (by omega) (by decide) (by decide) (by decide), hk.2.2.1, hk.2.2.2.1, hm, ha, hl⟩
end Go.Proofs.YteadaggehndacaaDoor
/- A row of words, as it is stored in word by word: what the walk asks of it. Generic over the program. -/
namespace Go.Proofs.YteadaggehndacaaDoor
set_option maxRecDepth 100000
set_option maxHeartbeats 16000000
open Go Go.RowKit
set_option linter.unusedSimpArgs false
set_option linter.unusedVariables false
structure RowF (n : Nat) (R : List PV) (m : Int → Int) : Prop where
  e : R = wds (ofM n m)
section
variable {n : Nat} {R : List PV} {m : Int → Int} {p : Int}
theorem RowF.of (n : Nat) (m : Int → Int) : RowF n (wds (ofM n m)) m := ⟨rfl⟩
theorem RowF.set (h : RowF n R m) (hp : 0 ≤ p ∧ p < n) (v : Int) : RowF n (R.set p.toNat (.val (.int .u64 v))) (yB m p v) := ⟨by rw [h.e, wds_set, ofM_set n m hp.1 hp.2]⟩
theorem RowF.k (h : RowF n R m) : ∀ e ∈ R, e.cells.length = 1 := by rw [h.e]; exact wds_cells _
theorem RowF.c (h : RowF n R m) : ∀ e ∈ R, e.cells = [e] := by
  rw [h.e]
  intro e he
  obtain ⟨x, _, rfl⟩ := List.mem_map.1 he
  rfl
theorem RowF.len (h : RowF n R m) : R.length = n := by rw [h.e, qN, ofM_len]
theorem RowF.r (h : RowF n R m) (hp : 0 ≤ p ∧ p < n) : (0 : Int) ≤ p ∧ p < (R.length : Nat) := by rw [h.len]; exact hp
theorem RowF.i (h : RowF n R m) (hp : 0 ≤ p ∧ p < n) : p.toNat < R.length := by rw [h.len]; omega
theorem RowF.g (h : RowF n R m) (hp : 0 ≤ p ∧ p < n) {v : Int} (hv : m p = v) : R[p.toNat * 1]? = some (.val (.int .u64 v)) := by
  rw [h.e, Nat.mul_one]
  refine wds_at ?_
  rw [ofM_at _ _ (by omega), show ((p.toNat : Nat) : Int) = p by omega, hv]
end
end Go.Proofs.YteadaggehndacaaDoor
/- Two worlds that are the same: contract. -/
namespace Go.Proofs.YteadaggehndacaaDoor
set_option maxRecDepth 100000
set_option maxHeartbeats 16000000
open Go Go.RowKit
set_option linter.unusedSimpArgs false
set_option linter.unusedVariables false
attribute [local irreducible] zY zZ Step zV Sub zI zO Fn
def sameMS (v : PV) (i : Nat) : AS := { t := [(2, .ptr 2 0), (3, .ptr 3 0), (5, .p (.val (.int .i64 (i : Nat))))], s := [(2, .box 26 (v.cells.map AV.p)), (3, .box 26 (v.cells.map AV.p))] }
def sameRS (v : PV) (i : Nat) : AS := { t := [(0, .p v), (1, .p v), (5, .p (.val (.int .i64 (i : Nat))))], s := [] }
end Go.Proofs.YteadaggehndacaaDoor
/- The records that are linked, as wealdref15.Linked tells them: contract. -/
namespace Go.Proofs.YteadaggehndacaaDoor
set_option maxRecDepth 100000
set_option maxHeartbeats 16000000
open Go Go.RowKit
set_option linter.unusedSimpArgs false
set_option linter.unusedVariables false
attribute [local irreducible] zY zZ Step zV Sub zI zO Fn zN yK
def wJ (l : List Int) : List PV := l.map fun x => .val (.int .i64 x)
theorem numsV_len (l : List Int) : (wJ l).length = l.length := by simp [wJ]
theorem numsV_app (l : List Int) (x : Int) : wJ l ++ [.val (.int .i64 x)] = wJ (l ++ [x]) := by simp [wJ]
theorem Lnk.nth {C : Nat} {m : Int → Int} : ∀ {l : List (Int × Bool)} {p : Int} {k : Bool} {j : Nat} {x : Int} {b : Bool}, Lnk C m p k l → l[j]? = some (x, b) → (1 ≤ x ∧ x ≤ C) ∧ Lnk C m x b (l.drop (j + 1))
  | [], _, _, _, _, _, _, e => by simp at e
  | (y, c) :: l, p, k, 0, x, b, h, e => by
    simp at e
    obtain ⟨rfl, rfl⟩ := e
    exact ⟨h.2.1, h.2.2⟩
  | (y, c) :: l, p, k, j + 1, x, b, h, e => Lnk.nth (l := l) h.2.2 (by simpa using e)
def lkF (C : Nat) (ws : List Int) (l : List (Int × Bool)) (j : Nat) : AS := { t := [(1, .ptr 1 0), (3, .own 42), (4, .p (.val (.int .i64 (hd (l.drop j)))))], s := [(1, .box 26 [.p (.val (.int .i64 1)), .p (.val (.int .i64 (C : Nat))), .p (.sl (wds ws))]), (42, vY 3 1 (wJ (nms (l.take j))))] }
theorem linked_fn {C : Nat} (hC : C ≤ 100000) {m : Int → Int} {l : List (Int × Bool)} (h : Lnk C m 0 false l) (hl : l.length ≤ C) {ws : List Int} (hat : ∀ c : Nat, c < 9 + 8 * C → ws[c]? = some (m c)) : Fn Tryd.prog 11 [.agg [.val (.int .i64 1), .val (.int .i64 (C : Nat)), .sl (wds ws)]] (.p (.sl (wJ (nms l)))) := by
  have hw := h.word
  have hb := h.hd_le
  have e0 : (wds ws)[0]? = some (.val (.int .u64 (m 0))) := wds_at (hat 0 (by omega))
  have e1 := wds_cells ws
  have hw0 : m 0 = 2 * hd l := by have e : m 0 = 2 * hd l + bI false := hw; rw [e]; show 2 * hd l + 0 = _; omega
  have c0 : Fn Tryd.prog 27 [.val (.int .u64 (m 0))] (.p (.val (.int .i64 (hd l)))) := by
    have := refRef_fn (m 0) (by omega) (by omega)
    rw [show xW (m 0) = hd l by unfold xW; omega] at this
    exact this
  refine yN Tryd.func11 rfl Tryd.ntmps11 (Nat.le_of_ble_eq_true rfl) ?_
  repeat' (first | (refine zY.is ?_; first | refine zY.nil ?_ | (refine zY.at_ 4 rfl ?_; refine zY.rc (.v zM .e) ?_) | (refine zY.in_ [9] rfl ?_; refine zY.v rfl rfl (zP (c0) rfl rfl rfl (by decide)) ?_)) | (refine zZ.is ?_; first | refine zZ.seq ?_ | (refine zZ.isR (id := 0) ?_; refine zZ.rc [0] [1, 2, 3, 27] (r := (.m m18_0 (.v zM .e))) (h := ?_)) | (refine zZ.isR (id := 1) ?_; refine zZ.rc [1, 2] [1, 2, 3, 27] (r := (.v zM .e)) (h := ?_)) | (refine zZ.isR (id := 2) ?_; refine zZ.rc [1, 2, 3] [1, 2, 3, 27] (r := (.v yH (.v yL (.v v7_18 (.v v2_1 .e))))) (h := ?_)) | refine zZ.block ?_) | refine zN.n ?_)
  refine zZ.loop (lkF C ws l) (fun j => j ≤ l.length) (fun j => l.length - j) 0 ?h0 (Nat.zero_le _) ?rd
  case h0 =>
    unfold lkF
    refine (sub_adopt (d := 3) (id := 42) (ty := 3) (sz := 1) (by decide) rfl).trans ?_
    refine (wN (id := 42) (b := .row 3 1 0 []) (b' := vY 3 1 []) (by rfl) (wU 3 1 [])).sub.trans ?_
    exact yP K_20 K_21
  case rd =>
    intro j hj
    unfold lkF
    by_cases hlt : j < l.length
    case pos =>
      obtain ⟨⟨x, b⟩, hx⟩ : ∃ p, l[j]? = some p := ⟨_, List.getElem?_eq_getElem hlt⟩
      obtain ⟨hx1, hx2⟩ := h.nth hx
      have hdx : hd (l.drop j) = x := by
        rw [List.drop_eq_getElem_cons hlt]
        rw [List.getElem?_eq_getElem hlt] at hx
        rw [Option.some.inj hx]
        rfl
      have htk : nms (l.take j) ++ [x] = nms (l.take (j + 1)) := by rw [List.take_add_one, hx]; simp [nms]
      have hwx := hx2.word
      have hbx := hx2.hd_le
      rw [nx_pos hx1.1] at hwx
      rw [hdx]
      obtain ⟨pn, hpn⟩ : ∃ pn : Nat, zG 1 x 0 = (pn : Int) := ⟨(zG 1 x 0).toNat, by rw [yI]; omega⟩
      have hpl : pn < 9 + 8 * C := by have := hpn; rw [yI] at this; omega
      have c1 := wG 1 x 0 (by unfold Small; omega) (by omega) (by unfold Small; omega)
      rw [hpn] at c1 hwx
      have e2 : (wds ws)[pn]? = some (.val (.int .u64 (m pn))) := wds_at (hat pn hpl)
      have hbi := bI_lt b
      have c2 : Fn Tryd.prog 27 [.val (.int .u64 (m pn))] (.p (.val (.int .i64 (hd (l.drop (j + 1)))))) := by
        have := refRef_fn (m pn) (by omega) (by omega)
        rw [show xW (m pn) = hd (l.drop (j + 1)) by unfold xW; omega] at this
        exact this
      have g1 : decide (0 < x) = true := decide_eq_true (by omega)
      have g2 : decide (x ≤ (C : Nat)) = true := decide_eq_true (by omega)
      have g3 : decide (((wJ (nms (l.take j))).length : Int) ≤ (C : Nat)) = true := decide_eq_true (by rw [numsV_len, nms, List.length_map, List.length_take]; omega)
      have r6 : ∀ z ∈ ([.val (.int .i64 x)] : List PV), z.cells.length = 1 := fun z hz => by rw [List.mem_singleton.1 hz]; rfl
      have r7 : ([.val (.int .i64 x)] : List PV).length * 8 ≤ 140737488355328 ∧ ([.val (.int .i64 x)] : List PV).length ≤ maxLen := by simp [maxLen]
      have r8 : ((wJ (nms (l.take j))).length + ([.val (.int .i64 x)] : List PV).length) * 8 ≤ 140737488355328 ∧ (wJ (nms (l.take j))).length + ([.val (.int .i64 x)] : List PV).length ≤ maxLen := by
        have e : (wJ (nms (l.take j))).length = j := by rw [numsV_len, nms, List.length_map, List.length_take]; omega
        rw [e]
        simp [maxLen]
        omega
      have ps_ := trivial
      repeat' (first | (refine zY.nil ?_) | (refine zZ.is ?_; first | refine zZ.seq ?_ | (refine zZ.isR (id := 3) ?_; refine zZ.rc [1, 2, 3, 4, 24] [1, 2, 3, 27, 42] (r := (.v zA (.v v45_0 (.v zA (.gY zA (.gY yH (.gY yL (.gY v44_0 (.v vN (.v zA (.gY v0_1 (.gY v57_5 (.gY yH (.gY yL (.gY v44_0 (.v vN .e)))))))))))))))) (h := ?_)) | (refine zZ.isR (id := 4) ?_; refine zZ.rc [1, 2, 3, 4, 24] [1, 2, 3, 27, 42] (r := (.v v0_1 (.v zA (.v v20_0 (.w w55_2 (.v v1_1 .e)))))) (h := ?_)) | (refine zZ.isR (id := 5) ?_; refine zZ.rk [1, 2, 3, 4, 24] [1, 2, 3, 27, 42] ?_; refine zZ.draws ?_) | refine zZ.yS rfl bA ?_ | refine zZ.skip ?_ | refine zZ.block ?_) | refine zN.n ?_ | refine yK.n ?_ | (refine Draws.is ?_; first | refine Draws.rc (.v zM .e) ?_ | refine Draws.rc (.v yH (.v yL (.v yH (.v yL (.v zA .e))))) ?_ | refine Draws.rc (.v v7_18 (.v v2_1 .e)) ?_ | (refine Draws.in_ [34] rfl ?_; refine Draws.v rfl rfl (zP (c1) rfl rfl rfl (by decide)) ?_) | (refine Draws.in_ [37] rfl ?_; refine Draws.v rfl rfl (zP (c2) rfl rfl rfl (by decide)) ?_) | refine Draws.done (by kernel_rfl) (by kernel_rfl) (by kernel_rfl) ?_) | (refine zI.nil ?_))
      all_goals
        refine ⟨j + 1, ?_, hlt, by omega⟩
        rw [← htk, ← numsV_app]
        refine yE (is := [1, 3, 4]) (js := [1, 42]) ?_ ?_
        case refine_1 =>
          repeat' first | exact zX.nil | apply zX.p rfl | apply zX.ptr rfl | apply zX.own rfl | apply zX.clo rfl | apply zX.ifp rfl | apply zX.pt rfl | apply zX.tup rfl | apply zX.skip
        case refine_2 =>
          repeat' first | exact zW.nil | apply zW.boxP rfl rfl | apply zW.xX rfl | apply zW.some rfl | apply zW.skip
    case neg =>
      have hd0 : hd (l.drop j) = 0 := by rw [List.drop_of_length_le (by omega)]; rfl
      have htk : l.take j = l := List.take_of_length_le (by omega)
      rw [hd0, htk]
      repeat' (first | (refine zY.nil ?_) | (refine zZ.is ?_; first | refine zZ.seq ?_ | (refine zZ.isR (id := 3) ?_; refine zZ.rc [1, 2, 3, 4, 24] [1, 2, 3, 27, 42] (r := (.v zA (.v v45_5 (.v zA (.gT (.gT (.gT (.gT (.v v5_1 (.v zA (.gT (.gT (.gT (.gT (.gT (.v v5_1 .e)))))))))))))))) (h := ?_)) | (refine zZ.isR (id := 6) ?_; refine zZ.rc [2, 3] [1, 2, 3, 27, 42] (r := (.v v0_1 (.v v1_1 .e))) (h := ?_)) | refine zZ.yT rfl bA ?_ | refine zZ.exit ?_ | refine zZ.ret ?_) | refine zN.n ?_ | refine yK.eY ?_ | refine zN.e ?_)
      all_goals exact ⟨by first | exact .inl rfl | exact .inr rfl, _, sub_frzE 42 3 1 _ rfl, GivesV.p rfl (.tmp rfl)⟩
end Go.Proofs.YteadaggehndacaaDoor
/- The list's example: contract. -/
namespace Go.Proofs.YteadaggehndacaaDoor
set_option maxRecDepth 100000
set_option maxHeartbeats 16000000
open Go Go.RowKit
set_option linter.unusedSimpArgs false
set_option linter.unusedVariables false
attribute [local irreducible] zY zZ Step zV Sub zI zO Fn zN yK
theorem shown15_fn : Fn Tryd.prog 7 [] (.p (.val (.bool true))) := by
  have c0 := new10A_fn 1 2 (by decide) (by decide) (by decide) (by decide)
  have c6 : Fn Tryd.prog 10 [.val (.int .i64 1), .val (.int .i64 1), .val (.int .i64 1)] (.p (.val (.int .i64 10))) := wG 1 1 1 (by unfold Small; omega) (by omega) (by unfold Small; omega)
  obtain ⟨a1, a2, a3, a4, a5⟩ := al_sl
  have c1 := a1.fn
  have c2 := a2.fn
  have c3 := a3.fn
  have c4 := a4.fn
  have c5 := a5.fn
  clear a1 a2 a3 a4 a5
  obtain ⟨z1, ⟨z2, z3, z4⟩, ⟨z5, z6⟩, ⟨z7, z8, z9⟩, z10, z11⟩ := sl6
  generalize slV = q1 at *
  generalize slB = q2 at *
  generalize slD = q3 at *
  generalize slE = q4 at *
  generalize slF = q5 at *
  obtain ⟨⟨e1, s1, n1, w1⟩, ⟨t1, u1, ws1, root1, r01, r11⟩, m1⟩ := q1
  obtain ⟨⟨e2, s2, n2, w2⟩, ⟨t2, u2, ws2, root2, r02, r12⟩, m2⟩ := q2
  obtain ⟨⟨e3, s3, n3, w3⟩, ⟨t3, u3, ws3, root3, r03, r13⟩, m3⟩ := q3
  obtain ⟨⟨e4, s4, n4, w4⟩, ⟨t4, u4, ws4, root4, r04, r14⟩, m4⟩ := q4
  obtain ⟨⟨e5, s5, n5, w5⟩, ⟨t5, u5, ws5, root5, r05, r15⟩, m5⟩ := q5
  dsimp only at z1 z2 z3 z4 z5 z6 z7 z8 z9 z10 z11
  subst z1 z2 z3 z4 z5 z6 z7 z8 z9 z10 z11
  have hl := newW_len 1 2
  have g0 : slW = ⟨1, 2, (newW 1 2).set 10 5, 0, [([], 0)], [([], 0)]⟩ := rfl
  rw [g0] at c1
  have e0 : (wds (newW 1 2)).set (10 : Int).toNat (.val (.int .u64 5)) = wds ((newW 1 2).set 10 5) := wds_set _ _ _
  unfold Wd.pv wB at c1
  dsimp only at c1
  rw [← e0] at c1
  have g1 := wds_cells (newW 1 2)
  have g2 : (0 : Int) ≤ 10 ∧ (10 : Int) < (wds (newW 1 2)).length := by rw [qN, hl]; omega
  have g3 : (10 : Int).toNat < (wds (newW 1 2)).length := by rw [qN, hl]; decide
  generalize newW 1 2 = nw at *
  clear e0 g0
  dsimp only [Wd.pv, wB] at c2 c3 c4 c5
  refine yN Tryd.func7 rfl Tryd.ntmps7 (Nat.le_of_ble_eq_true rfl) ?_
  repeat' (first | (refine zY.is ?_; first | refine zY.nil ?_ | (refine zY.at_ 1 rfl ?_; refine zY.rc (.m y7 (.w yF .e)) ?_) | (refine zY.at_ 23 rfl ?_; refine zY.rc (.v v0_4 (.v xP (.v xP (.v xP (.m y7 (.m y7 (.w yF (.w yF (.v zM .e))))))))) ?_) | (refine zY.at_ 30 rfl ?_; refine zY.rc (.v v0_4 (.v xP (.v xP (.v xP (.m y7 (.m y7 (.w yF (.w yF (.v zM .e))))))))) ?_) | (refine zY.at_ 37 rfl ?_; refine zY.rc (.v v0_4 (.v xP (.v xP (.v xP (.m y7 (.m y7 (.w yF (.w yF (.v zM .e))))))))) ?_) | (refine zY.at_ 44 rfl ?_; refine zY.rc (.v v0_4 (.v xP (.v xP (.v xP (.m y7 (.m y7 (.w yF (.w yF (.v zM .e))))))))) ?_) | (refine zY.at_ 51 rfl ?_; refine zY.rc (.v v0_4 (.v xP (.v xP (.v xP (.m y7 (.m y7 (.w yF (.w yF (.v zM .e))))))))) ?_) | (refine zY.in_ [26] rfl ?_; refine zY.v rfl rfl (xA (c1) rfl rfl rfl (by decide)) ?_) | (refine zY.in_ [33] rfl ?_; refine zY.v rfl rfl (xA (c2) rfl rfl rfl (by decide)) ?_) | (refine zY.in_ [40] rfl ?_; refine zY.v rfl rfl (xA (c3) rfl rfl rfl (by decide)) ?_) | (refine zY.in_ [47] rfl ?_; refine zY.v rfl rfl (xA (c4) rfl rfl rfl (by decide)) ?_) | (refine zY.in_ [54] rfl ?_; refine zY.v rfl rfl (xA (c5) rfl rfl rfl (by decide)) ?_) | (refine zY.in_ [17] rfl ?_; refine zY.m rfl rfl (w_callAg c0 rfl rfl rfl (by decide)) ?_)) | (refine zZ.is ?_; first | refine zZ.seq ?_ | (refine zZ.isR (id := 0) ?_; refine zZ.rc [] [1, 2, 3, 5, 6, 8, 9, 11, 12, 14, 15, 17, 21, 26, 33, 40, 47, 54] (r := (.v zM .e)) (h := ?_)) | (refine zZ.isR (id := 1) ?_; refine zZ.rc [0] [1, 2, 3, 5, 6, 8, 9, 11, 12, 14, 15, 17, 21, 26, 33, 40, 47, 54] (r := .e) (h := ?_)) | (refine zZ.isR (id := 2) ?_; refine zZ.rk [0, 1] [1, 2, 3, 5, 6, 8, 9, 11, 12, 14, 15, 17, 21, 26, 33, 40, 47, 54] ?_; refine zZ.draws ?_) | (refine zZ.isR (id := 3) ?_; refine zZ.sub ((sub_frzE 17 27 1 ((wds nw).set (Int.toNat 10) (.val (.int .u64 5))) rfl)) ?_; refine zZ.rc [0, 1] [1, 2, 3, 5, 6, 8, 9, 11, 12, 14, 15, 17, 21, 26, 33, 40, 47, 54] (r := (.v v2_6 (.v v10_0 .e))) (h := ?_)) | (refine zZ.isR (id := 4) ?_; refine zZ.rc [0, 2, 3, 4] [1, 2, 3, 5, 6, 8, 9, 11, 12, 14, 15, 17, 21, 26, 33, 40, 47, 54] (r := (.v v2_6 (.v v10_0 .e))) (h := ?_)) | (refine zZ.isR (id := 5) ?_; refine zZ.rc [0, 2, 3, 4, 6, 7] [1, 2, 3, 5, 6, 8, 9, 11, 12, 14, 15, 17, 21, 26, 33, 40, 47, 54] (r := (.v v2_6 (.v v10_0 .e))) (h := ?_)) | (refine zZ.isR (id := 6) ?_; refine zZ.rc [0, 2, 3, 4, 6, 7, 9, 10] [1, 2, 3, 5, 6, 8, 9, 11, 12, 14, 15, 17, 21, 26, 33, 40, 47, 54] (r := (.v v2_6 (.v v10_0 .e))) (h := ?_)) | (refine zZ.isR (id := 7) ?_; refine zZ.rc [0, 2, 3, 4, 6, 7, 9, 10, 12, 13] [1, 2, 3, 5, 6, 8, 9, 11, 12, 14, 15, 17, 21, 26, 33, 40, 47, 54] (r := (.v v2_6 (.v v10_0 .e))) (h := ?_)) | (refine zZ.isR (id := 8) ?_; refine zZ.rc [0, 3, 4, 6, 7, 9, 10, 12, 13, 15, 16] [1, 2, 3, 5, 6, 8, 9, 11, 12, 14, 15, 17, 21, 26, 33, 40, 47, 54] (r := (.v zA (.v zA (.gY zA (.v vN (.v zA (.gY zA (.v vN (.v zA (.gY zA (.v vN (.v zA (.gY zA (.v vN (.v zA (.gY yH (.gY yL (.v vN (.v zA (.gY yH (.gY yL (.gY v41_4 (.v vN (.v zA (.gY yH (.gY yL (.gY v41_4 (.v vN (.v zA (.gY yH (.gY yL (.v vN (.v zA (.gY yH (.gY yL (.gY v41_4 (.v vN (.v zA (.gY yH (.gY yL (.gY v52_4 (.v vN (.v zA (.gY yH (.gY yL (.gY v41_4 (.v vN (.v zA (.gY yH (.gY yL (.gY v41_4 (.v vN (.v zA (.gY yH (.gY yL (.gY v52_4 (.v vN (.v zA (.gY yH (.gY yL (.gY v41_4 (.v vN (.v zA (.gY yH (.gY yL (.v vN (.v zM .e))))))))))))))))))))))))))))))))))))))))))))))))))))))))))))))))))) (h := ?_)) | refine zZ.ret ?_) | refine zN.n ?_ | (refine Draws.is ?_; first | refine Draws.rc (.v yH (.v yH (.v v2_8 .e))) ?_ | refine Draws.rc (.v vE .e) ?_ | (refine Draws.in_ [21] rfl ?_; refine Draws.v rfl rfl (zP (c6) rfl rfl rfl (by decide)) ?_) | refine Draws.done (by kernel_rfl) (by kernel_rfl) (by kernel_rfl) ?_) | (refine zI.is ?_; first | refine zI.nil ?_ | refine zI.rc (.w w24_1 .e) ?_))
  all_goals exact ⟨by first | exact .inl rfl | exact .inr rfl, _, Sub.refl _, .p rfl (.tmp rfl)⟩
end Go.Proofs.YteadaggehndacaaDoor
/- The law ListSwept: its first loop. -/
namespace Go.Proofs.YteadaggehndacaaDoor
set_option maxRecDepth 100000
set_option maxHeartbeats 16000000
open Go Go.RowKit
set_option linter.unusedSimpArgs false
set_option linter.unusedVariables false
attribute [local irreducible] zY zZ Step zV Sub zI zO Fn zN yK
def bools (l : List Bool) : List PV := l.map fun b => .val (.bool b)
theorem bools_len (l : List Bool) : (bools l).length = l.length := by simp [bools]
theorem bools_one (l : List Bool) : ∀ e ∈ bools l, e.cells.length = 1 := fun e he => by
  obtain ⟨x, _, rfl⟩ := List.mem_map.1 he
  rfl
def swF (gs : List Int) (bs : List Bool) (s : Int) (i : Nat) (m : Int → Int) (st : List Int) : AS :=
  { t := [(0, .p (.sl (byts gs))), (1, .p (.sl (bools bs))), (7, .p (.val (.bool true))), (8, .p (.val (.int .i64 (gs.length : Nat)))), (9, .ptr 9 0), (10, .p (.val (.int .u64 s))), (11, .own 34), (12, .p (.val (.int .i64 (i : Nat))))],
    s := [(9, .box 33 ([.p (.val (.int .i64 1)), .p (.val (.int .i64 10)), .own 37] ++ (wO 0 [([], 0)] [([], 0)]).cells.map .p)), (37, vY 27 1 (wds (ofM 89 m))), (34, vY 3 1 (wJ st))] }
def swG (n : Nat) (V : List PV) (st : List Int) (j a : Nat) : AS :=
  { t := [(7, .p (.val (.bool true))), (8, .p (.val (.int .i64 (n : Nat)))), (11, .p (.sl (wJ st))), (17, .ptr 17 0), (20, .p (.sl (wJ st))), (21, .p (.val (.int .i64 (a : Nat)))), (22, .p (.val (.int .i64 ((j : Nat) + 1))))],
    s := [(17, .box 33 (V.map AV.p))] }
theorem hasF_four {r : Int} (hr : 0 ≤ r) (b : Bool) : vO (4 * r + (if b = true then 2 else 0)) 2 = b := by
  unfold vO
  cases b with
  | true => rw [if_pos rfl, decide_eq_true (show (4 * r + 2) / 2 % 2 = 1 by omega)]; simp
  | false => rw [if_neg (by decide), decide_eq_false (show ¬ (4 * r + 0) / 2 % 2 = 1 by omega)]; simp
theorem listSwept_start (gs : List Int) (bs : List Bool) (k : Int) (hn : gs.length ≤ 10) (hb : gs.length ≤ bs.length) (hk : 0 ≤ k ∧ k < 256) (hg : ∀ x ∈ gs, 0 ≤ x ∧ x < 256) : Fn Tryd.prog 4 [.sl (byts gs), .sl (bools bs), .val (.int .u8 k)] (.p (.val (.bool true))) := by
  have c0 := shown15_fn
  have c1 := new10A_fn 1 10 (by decide) (by decide) (by decide) (by decide)
  have f1 : decide ((10 : Int) < (gs.length : Nat)) = false := decide_eq_false (by omega)
  have f2 : decide (((bools bs).length : Int) < (gs.length : Nat)) = false := decide_eq_false (by rw [bools_len]; omega)
  have t1 : k.tmod 4 = k % 4 := Int.tmod_eq_emod_of_nonneg hk.1
  have t2 : IntKind.u64.wrap (k % 4) = k % 4 := wrap_u64 _ (by omega)
  have hs : 0 ≤ k % 4 ∧ k % 4 < 4 := by omega
  refine yN Tryd.func4 rfl Tryd.ntmps4 (Nat.le_of_ble_eq_true rfl) ?_
  repeat' (first | (refine zY.is ?_; first | refine zY.nil ?_ | (refine zY.at_ 7 rfl ?_; refine zY.rc (.v zM .e) ?_) | (refine zY.at_ 9 rfl ?_; refine zY.rc (.m y7 (.w yF .e)) ?_) | (refine zY.in_ [25] rfl ?_; refine zY.v rfl rfl (zP (c0) rfl rfl rfl (by decide)) ?_) | (refine zY.in_ [37] rfl ?_; refine zY.m rfl rfl (w_callAg c1 rfl rfl rfl (by decide)) ?_)) | (refine zZ.is ?_; first | refine zZ.seq ?_ | (refine zZ.isR (id := 0) ?_; refine zZ.rc [0, 1, 2] [9, 11, 17, 18, 25, 27, 32, 37, 70, 80, 89, 98, 105, 112, 117, 133, 155, 156, 161, 174, 176, 178, 189, 194, 216, 224] (r := (.v zM .e)) (h := ?_)) | (refine zZ.isR (id := 1) ?_; refine zZ.rc [0, 1, 2, 6] [9, 11, 17, 18, 25, 27, 32, 37, 70, 80, 89, 98, 105, 112, 117, 133, 155, 156, 161, 174, 176, 178, 189, 194, 216, 224] (r := .e) (h := ?_)) | (refine zZ.isR (id := 2) ?_; refine zZ.rc [0, 1, 2, 6, 7] [9, 11, 17, 18, 25, 27, 32, 37, 70, 80, 89, 98, 105, 112, 117, 133, 155, 156, 161, 174, 176, 178, 189, 194, 216, 224] (r := (.v zA (.v v57_0 (.v zM .e)))) (h := ?_)) | (refine zZ.isR (id := 3) ?_; refine zZ.rc [0, 1, 2, 6, 7, 8] [9, 11, 17, 18, 25, 27, 32, 37, 70, 80, 89, 98, 105, 112, 117, 133, 155, 156, 161, 174, 176, 178, 189, 194, 216, 224] (r := (.v zA (.v v45_0 (.v zA (.gY zA (.gY v57_1 (.gY zA (.gY v43_0 (.v v5_1 .e))))))))) (h := ?_)) | (refine zZ.isR (id := 5) ?_; refine zZ.rc [0, 1, 2, 6, 7, 8] [9, 11, 17, 18, 25, 27, 32, 37, 70, 80, 89, 98, 105, 112, 117, 133, 155, 156, 161, 174, 176, 178, 189, 194, 216, 224] (r := .e) (h := ?_)) | (refine zZ.isR (id := 6) ?_; refine zZ.rc [0, 1, 2, 6, 7, 8, 9] [9, 11, 17, 18, 25, 27, 32, 37, 70, 80, 89, 98, 105, 112, 117, 133, 155, 156, 161, 174, 176, 178, 189, 194, 216, 224] (r := (.v zA (.v v34_0 (.v qH (.v zM .e))))) (h := ?_)) | (refine zZ.isR (id := 7) ?_; refine zZ.rc [0, 1, 6, 7, 8, 9, 10] [9, 11, 17, 18, 25, 27, 32, 37, 70, 80, 89, 98, 105, 112, 117, 133, 155, 156, 161, 174, 176, 178, 189, 194, 216, 224] (r := (.v zM .e)) (h := ?_)) | (refine zZ.isR (id := 8) ?_; refine zZ.rc [0, 1, 6, 7, 8, 9, 10, 11] [9, 11, 17, 18, 25, 27, 32, 37, 70, 80, 89, 98, 105, 112, 117, 133, 155, 156, 161, 174, 176, 178, 189, 194, 216, 224] (r := (.v zM .e)) (h := ?_)) | refine zZ.yT rfl bA ?_ | refine zZ.skip ?_ | refine zZ.block ?_) | refine zN.n ?_)
  generalize k % 4 = s at *
  clear t1 t2
  refine zZ.loop (fun i => swF gs bs s i (swAt gs bs i) (y9 s gs bs i)) (fun i => i ≤ gs.length) (fun i => gs.length - i) 0 ?h0 (Nat.zero_le _) ?rd
  case h0 =>
    have e1 : wds (ofM 89 (memOf (newW 1 10))) = wds (newW 1 10) := congrArg wds (by have := ofM_mem (newW 1 10); rwa [newW_len] at this)
    show Sub _ (swF gs bs s 0 (memOf (newW 1 10)) [])
    unfold swF
    rw [e1]
    refine (sub_adopt (d := 11) (id := 34) (ty := 3) (sz := 1) (by decide) rfl).trans ?_
    refine (wN (id := 34) (b := .row 3 1 0 []) (b' := vY 3 1 []) (by rfl) (wU 3 1 [])).sub.trans ?_
    exact yP K_22 K_23
  case rd =>
    intro i hi
    have hsw := swAt_ok (s := s) hn hb hg i hi
    by_cases hlt : i < gs.length
    case neg =>
      have hin : i = gs.length := by omega
      have f3 : decide ((i : Int) < (gs.length : Nat)) = false := decide_eq_false (by omega)
      obtain ⟨W', m', hW⟩ := sweep_al hsw (by omega) (by omega) ⟨hs.1, by omega⟩
      have hcn := stay_cnt (s := s) (es := gs) (bs := bs) (i := i) (by omega)
      have hcl : (swpL (gN s gs) (skL 0 (bs.take i))).length ≤ 10 := by
        have e : (y9 s gs bs i).length = (swpL (gN s gs) (skL 0 (bs.take i))).length := by unfold y9 nms; rw [List.length_map]
        omega
      have cL : Fn Tryd.prog 11 [.agg [.val (.int .i64 1), .val (.int .i64 10), .sl (wds W'.ws)]] (.p (.sl (wJ (y9 s gs bs i)))) := linked_fn (C := 10) (by decide) hW.l hcl hW.w.at_
      have cA := hW.fn
      have hT : ∀ j : Nat, j < i → m' (zG 1 ((j : Int) + 1) 2) = 4 * ((j : Int) + 1) + (if (bs.getD j false || gnE s (gs.getD j 0)) = true then 2 else 0) := fun j hj => by
        have hmem : ((j : Int) + 1, bs.getD j false) ∈ skL 0 (bs.take i) := skL_mem (by omega) hj
        rw [hW.a.g _ (by omega), hsw.f _ (by omega) (by omega)]
        have e := swpT_has (gN s gs) (skL 0 (bs.take i)) ((j : Int) + 1) (bs.getD j false) (skL_nodup _ 0) hmem
        rw [gN_at] at e
        by_cases c : (bs.getD j false || gnE s (gs.getD j 0)) = true
        · rw [if_pos c, if_pos (e.2 c)]
        · rw [if_neg c, if_neg fun h => c (e.1 h)]
      have hat := hW.w.at_
      have hww := hW.t
      have hwc := hW.c
      clear hW
      obtain ⟨t', c', ws', root', r0', r1'⟩ := W'
      dsimp only at hww hwc
      subst hww hwc
      dsimp only [Wd.pv, wB, skWd] at cA cL hat
      show zZ _ _ _ (swF gs bs s i (swAt gs bs i) (y9 s gs bs i)) _
      have hsta : ∀ j : Nat, j < i → ((y9 s gs bs i)[(y9 s gs bs j).length]? = some ((j : Int) + 1) ↔ (bs.getD j false || gnE s (gs.getD j 0)) = false) := fun j hj => stay_at (by omega) hj
      have hstp : ∀ j : Nat, j < i → (y9 s gs bs (j + 1)).length = (y9 s gs bs j).length + (bif bs.getD j false || gnE s (gs.getD j 0) then 0 else 1) := fun j hj => by
        rw [stay_step (by omega), List.length_append]
        cases bs.getD j false || gnE s (gs.getD j 0) <;> rfl
      have hcj : ∀ j : Nat, j ≤ i → (y9 s gs bs j).length ≤ 10 := fun j hj => by
        have := stay_cnt (s := s) (es := gs) (bs := bs) (i := j) (by omega)
        omega
      generalize hst : y9 s gs bs i = st at *
      generalize swAt gs bs i = m at *
      have hl0 : (y9 s gs bs 0).length = 0 := rfl
      have v3 : (!decide (((wJ st).length : Int) = ((wJ st).length : Int))) = false := by simp
      have x1 : ∀ z ∈ wJ st, z.cells.length = 1 := fun z hz => by obtain ⟨y, _, rfl⟩ := List.mem_map.1 hz; rfl
      have x2 := wds_cells ws'
      generalize hRW : wds (ofM 89 m) = R at *
      unfold swF
      rw [hRW]
      clear hRW hsw c0 c1 f1 f2
      subst hin
      repeat' (first | (refine zY.is ?_; first | refine zY.nil ?_ | (refine zY.at_ 157 rfl ?_; refine zY.rc (.v v0_4 (.v xP (.v xP (.v xP (.m y7 (.m y7 (.w yF (.w yF (.v zM .e))))))))) ?_) | (refine zY.at_ 20 rfl ?_; refine zY.rc (.v zM .e) ?_) | (refine zY.in_ [161] rfl ?_; refine zY.v rfl rfl (xA (cA) rfl rfl rfl (by decide)) ?_) | (refine zY.in_ [174] rfl ?_; refine zY.v rfl rfl (zP (cL) rfl rfl rfl (by decide)) ?_)) | (refine zZ.is ?_; first | refine zZ.seq ?_ | (refine zZ.isR (id := 9) ?_; refine zZ.rc [0, 1, 6, 7, 8, 9, 10, 11, 12, 13, 14, 15, 16, 43, 75, 128, 152] [9, 11, 17, 18, 25, 27, 32, 34, 37, 70, 80, 89, 98, 105, 112, 117, 133, 155, 156, 161, 174, 176, 178, 189, 194, 216, 224] (r := (.v zA (.v zA (.v v43_0 .e)))) (h := ?_)) | (refine zZ.isR (id := 26) ?_; refine zZ.sub ((sub_frzE 37 27 1 R rfl)) ?_; refine zZ.rc [6, 7, 8, 9, 10, 11] [9, 11, 17, 18, 25, 27, 32, 34, 37, 70, 80, 89, 98, 105, 112, 117, 133, 155, 156, 161, 174, 176, 178, 189, 194, 216, 224] (r := (.v v2_6 (.v zA (.v v10_0 .e)))) (h := ?_)) | (refine zZ.isR (id := 27) ?_; refine zZ.rc [6, 7, 8, 11, 17, 18, 19] [9, 11, 17, 18, 25, 27, 32, 34, 37, 70, 80, 89, 98, 105, 112, 117, 133, 155, 156, 161, 174, 176, 178, 189, 194, 216, 224] (r := (.v zA (.v v52_5 (.v zA (.gY yH (.gY yL (.gY v42_5 (.v v5_1 .e)))))))) (h := ?_)) | (refine zZ.isR (id := 29) ?_; refine zZ.rc [6, 7, 8, 11, 17] [9, 11, 17, 18, 25, 27, 32, 34, 37, 70, 80, 89, 98, 105, 112, 117, 133, 155, 156, 161, 174, 176, 178, 189, 194, 216, 224] (r := (.v yH (.v v2_6 .e))) (h := ?_)) | (refine zZ.isR (id := 30) ?_; refine zZ.sub ((sub_frzE 34 3 1 (wJ st) rfl)) ?_; refine zZ.rc [6, 7, 8, 11, 17, 20] [9, 11, 17, 18, 25, 27, 32, 34, 37, 70, 80, 89, 98, 105, 112, 117, 133, 155, 156, 161, 174, 176, 178, 189, 194, 216, 224] (r := (.v zA (.v v57_1 (.v zA (.v v57_1 (.v v42_0 .e)))))) (h := ?_)) | (refine zZ.isR (id := 32) ?_; refine zZ.rc [6, 7, 8, 11, 17, 20] [9, 11, 17, 18, 25, 27, 32, 34, 37, 70, 80, 89, 98, 105, 112, 117, 133, 155, 156, 161, 174, 176, 178, 189, 194, 216, 224] (r := (.v zM .e)) (h := ?_)) | (refine zZ.isR (id := 33) ?_; refine zZ.rc [6, 7, 8, 11, 17, 20, 21] [9, 11, 17, 18, 25, 27, 32, 34, 37, 70, 80, 89, 98, 105, 112, 117, 133, 155, 156, 161, 174, 176, 178, 189, 194, 216, 224] (r := (.v zM .e)) (h := ?_)) | refine zZ.yT rfl bA ?_ | refine zZ.skip ?_ | refine zZ.block ?_ | refine zZ.exit ?_) | refine zN.n ?_ | refine yK.eY ?_ | refine zN.e ?_)
      refine zZ.loop (fun j => swG gs.length [.val (.int .i64 1), .val (.int .i64 10), .sl (wds ws'), .val (.int .u64 root'), .sl (strs r0'), .sl (strs r1')] st j (y9 s gs bs j).length) (fun j => j ≤ gs.length) (fun j => gs.length - j) 0 ?h1 (Nat.zero_le _) ?rd1
      case h1 =>
        rw [hl0]
        unfold swG
        refine yE (is := [7, 8, 11, 17, 20, 21, 22]) (js := [17]) ?_ ?_
        case refine_1 =>
          repeat' first | exact zX.nil | apply zX.p rfl | apply zX.ptr rfl | apply zX.own rfl | apply zX.clo rfl | apply zX.ifp rfl | apply zX.pt rfl | apply zX.tup rfl | apply zX.skip
        case refine_2 =>
          repeat' first | exact zW.nil | apply zW.boxP rfl rfl | apply zW.xX rfl | apply zW.some rfl | apply zW.skip
      case rd1 =>
        intro j hj
        by_cases hjl : j < gs.length
        case neg =>
          have hje : j = gs.length := by omega
          subst hje
          have g1 : decide (((gs.length : Nat) : Int) + 1 ≤ (gs.length : Nat)) = false := decide_eq_false (by omega)
          have g2 : decide (((y9 s gs bs gs.length).length : Int) = ((wJ st).length : Int)) = true := decide_eq_true (by rw [hst, numsV_len])
          unfold swG
          repeat' (first | (refine zY.nil ?_) | (refine zZ.is ?_; first | refine zZ.seq ?_ | (refine zZ.isR (id := 34) ?_; refine zZ.rc [6, 7, 8, 11, 17, 20, 21, 22, 23, 24, 182, 212, 219] [9, 11, 17, 18, 25, 27, 32, 37, 70, 80, 89, 98, 105, 112, 117, 133, 155, 156, 161, 174, 176, 178, 189, 194, 216, 224] (r := (.v zA (.v zA (.v v44_0 .e)))) (h := ?_)) | (refine zZ.isR (id := 42) ?_; refine zZ.rc [6, 7, 20, 21] [9, 11, 17, 18, 25, 27, 32, 37, 70, 80, 89, 98, 105, 112, 117, 133, 155, 156, 161, 174, 176, 178, 189, 194, 216, 224] (r := (.v zA (.v zA (.gY zA (.gY zA (.gY v57_1 (.gY v41_0 (.v vN (.v zM .e))))))))) (h := ?_)) | refine zZ.yT rfl bA ?_ | refine zZ.exit ?_ | refine zZ.ret ?_) | refine zN.n ?_ | refine yK.eY ?_ | refine zN.e ?_)
          all_goals exact ⟨by first | exact .inl rfl | exact .inr rfl, _, Sub.refl _, .p rfl (.tmp rfl)⟩
        case pos =>
          have hmT := hT j hjl
          have hsa := hsta j hjl
          have hsp := hstp j hjl
          have hca := hcj j hj
          have g1 : decide ((j : Int) + 1 ≤ (gs.length : Nat)) = true := decide_eq_true (by omega)
          have w1 : IntKind.i64.wrap ((j : Int) + 1 + 1) = (((j + 1 : Nat) : Int) + 1) := by rw [wrap_i64 _ (by omega)]; omega
          obtain ⟨pn, hpn⟩ : ∃ pn : Nat, zG 1 ((j : Int) + 1) 2 = (pn : Int) := ⟨(zG 1 ((j : Int) + 1) 2).toNat, by rw [yI]; omega⟩
          have hpl : pn < 89 := by have := hpn; rw [yI] at this; omega
          have c2 := wG 1 ((j : Int) + 1) 2 (by unfold Small; omega) (by omega) (by unfold Small; omega)
          rw [hpn] at c2 hmT
          have e2 : (wds ws')[pn]? = some (.val (.int .u64 (m' pn))) := wds_at (hat pn hpl)
          have c8 : Fn Tryd.prog 14 [.val (.int .u64 (m' pn)), .val (.int .i64 2)] (.p (.val (.bool (bs.getD j false || gnE s (gs.getD j 0))))) := by
            have h := hasRef_fn (m' pn) 2 (by rw [hmT]; split <;> omega) (by rw [hmT]; split <;> omega)
            rw [hmT, hasF_four (by omega), ← hmT] at h
            exact h
          generalize hla : (y9 s gs bs j).length = a at *
          generalize (bs.getD j false || gnE s (gs.getD j 0)) = tk at *
          have w2 : IntKind.i64.wrap ((a : Int) + 1) = ((a + 1 : Nat) : Int) := by rw [wrap_i64 _ (by omega)]; omega
          cases tk
          case false =>
            have e3 : st[a]? = some ((j : Int) + 1) := hsa.2 rfl
            have hal := (List.getElem?_eq_some_iff.1 e3).1
            have e4 : (wJ st)[a]? = some (.val (.int .i64 ((j : Int) + 1))) := by unfold wJ; rw [List.getElem?_map, e3]; rfl
            have g2 : decide ((a : Int) < ((wJ st).length : Int)) = true := decide_eq_true (by rw [numsV_len]; omega)
            have g3 : decide ((j : Int) + 1 = (j : Int) + 1) = true := decide_eq_true rfl
            have hsp : (y9 s gs bs (j + 1)).length = a + 1 := hsp
            unfold swG
            repeat' (first | (refine zY.is ?_; first | refine zY.nil ?_ | (refine zY.at_ 217 rfl ?_; refine zY.rc (.v zA (.v v52_5 (.v v42_14 .e))) ?_) | (refine zY.in_ [216] rfl ?_; refine zY.v rfl rfl (zP (c8) rfl rfl rfl (by decide)) ?_)) | (refine zZ.is ?_; first | refine zZ.seq ?_ | (refine zZ.isR (id := 34) ?_; refine zZ.rc [6, 7, 8, 11, 17, 20, 21, 22, 23, 24, 182, 212, 219] [9, 11, 17, 18, 25, 27, 32, 37, 70, 80, 89, 98, 105, 112, 117, 133, 155, 156, 161, 174, 176, 178, 189, 194, 216, 224] (r := (.v zA (.v zA (.v v44_0 .e)))) (h := ?_)) | (refine zZ.isR (id := 36) ?_; refine zZ.rk [6, 7, 8, 11, 17, 20, 21, 22, 23, 24, 182, 212, 219] [9, 11, 17, 18, 25, 27, 32, 37, 70, 80, 89, 98, 105, 112, 117, 133, 155, 156, 161, 174, 176, 178, 189, 194, 216, 224] ?_; refine zZ.draws ?_) | (refine zZ.isR (id := 37) ?_; refine zZ.rc [6, 7, 8, 11, 17, 20, 21, 22, 23, 24, 182, 212, 219] [9, 11, 17, 18, 25, 27, 32, 37, 70, 80, 89, 98, 105, 112, 117, 133, 155, 156, 161, 174, 176, 178, 189, 194, 216, 224] (r := (.v zA (.v zA (.v v57_1 (.v v43_0 (.v zA (.gY zA (.gY zA (.gY v7_18 (.gY v2_1 (.gY zA (.gY v41_0 (.v vN (.v zA (.gY zA (.gY zA (.gY v7_18 (.gY v2_1 (.gY zA (.gY v41_0 (.v vN (.v zM .e)))))))))))))))))))))) (h := ?_)) | (refine zZ.isR (id := 38) ?_; refine zZ.rc [6, 7, 8, 11, 17, 20, 21, 22, 23, 24, 182, 212, 219] [9, 11, 17, 18, 25, 27, 32, 37, 70, 80, 89, 98, 105, 112, 117, 133, 155, 156, 161, 174, 176, 178, 189, 194, 216, 224] (r := (.v zA .e)) (h := ?_)) | (refine zZ.isR (id := 39) ?_; refine zZ.rc [6, 7, 8, 11, 17, 20, 21, 22, 23, 24, 182, 212, 219] [9, 11, 17, 18, 25, 27, 32, 37, 70, 80, 89, 98, 105, 112, 117, 133, 155, 156, 161, 174, 176, 178, 189, 194, 216, 224] (r := (.v zA (.v vQ (.v zM .e)))) (h := ?_)) | (refine zZ.isR (id := 40) ?_; refine zZ.rc [6, 7, 8, 11, 17, 20, 21, 22, 23, 24, 182, 212, 219] [9, 11, 17, 18, 25, 27, 32, 37, 70, 80, 89, 98, 105, 112, 117, 133, 155, 156, 161, 174, 176, 178, 189, 194, 216, 224] (r := (.v zA .e)) (h := ?_)) | (refine zZ.isR (id := 35) ?_; refine zZ.rc [6, 7, 8, 11, 17, 20, 21, 22, 23, 24, 182, 212, 219] [9, 11, 17, 18, 25, 27, 32, 37, 70, 80, 89, 98, 105, 112, 117, 133, 155, 156, 161, 174, 176, 178, 189, 194, 216, 224] (r := (.v zA (.v vQ (.v zM .e)))) (h := ?_)) | refine zZ.yS rfl bA ?_ | refine zZ.yT rfl bA ?_ | refine zZ.skip ?_ | refine zZ.block ?_) | refine zN.n ?_ | refine yK.n ?_ | (refine Draws.is ?_; first | refine Draws.rc (.v yH (.v yH (.v yL (.v zA .e)))) ?_ | refine Draws.rc (.v v7_18 (.v v2_1 (.v zM .e))) ?_ | (refine Draws.in_ [189] rfl ?_; refine Draws.v rfl rfl (zP (c2) rfl rfl rfl (by decide)) ?_) | refine Draws.done (by kernel_rfl) (by kernel_rfl) (by kernel_rfl) ?_) | (refine zI.nil ?_))
            all_goals
              refine ⟨j + 1, ?_, hjl, by omega⟩
              rw [hsp]
              refine yE (is := [7, 8, 11, 17, 20, 21, 22]) (js := [17]) ?_ ?_
              case refine_1 =>
                repeat' first | exact zX.nil | apply zX.p rfl | apply zX.ptr rfl | apply zX.own rfl | apply zX.clo rfl | apply zX.ifp rfl | apply zX.pt rfl | apply zX.tup rfl | apply zX.skip
              case refine_2 =>
                repeat' first | exact zW.nil | apply zW.boxP rfl rfl | apply zW.xX rfl | apply zW.some rfl | apply zW.skip
          case true =>
            have hsp : (y9 s gs bs (j + 1)).length = a := hsp
            have hne : st[a]? ≠ some ((j : Int) + 1) := fun h => by have := hsa.1 h; cases this
            by_cases hal : a < st.length
            case pos =>
              have e3 : st[a]? = some (st[a]'hal) := List.getElem?_eq_getElem hal
              have e4 : (wJ st)[a]? = some (.val (.int .i64 (st[a]'hal))) := by unfold wJ; rw [List.getElem?_map, e3]; rfl
              have hy : st[a]'hal ≠ (j : Int) + 1 := fun h => hne (by rw [e3, h])
              generalize st[a]'hal = y at *
              have g2 : decide ((a : Int) < ((wJ st).length : Int)) = true := decide_eq_true (by rw [numsV_len]; omega)
              have g3 : decide (y = (j : Int) + 1) = false := decide_eq_false hy
              unfold swG
              repeat' (first | (refine zY.is ?_; first | refine zY.nil ?_ | (refine zY.at_ 217 rfl ?_; refine zY.rc (.v zA (.v v52_4 (.v v42_14 .e))) ?_) | (refine zY.in_ [216] rfl ?_; refine zY.v rfl rfl (zP (c8) rfl rfl rfl (by decide)) ?_)) | (refine zZ.is ?_; first | refine zZ.seq ?_ | (refine zZ.isR (id := 34) ?_; refine zZ.rc [6, 7, 8, 11, 17, 20, 21, 22, 23, 24, 182, 212, 219] [9, 11, 17, 18, 25, 27, 32, 37, 70, 80, 89, 98, 105, 112, 117, 133, 155, 156, 161, 174, 176, 178, 189, 194, 216, 224] (r := (.v zA (.v zA (.v v44_0 .e)))) (h := ?_)) | (refine zZ.isR (id := 36) ?_; refine zZ.rk [6, 7, 8, 11, 17, 20, 21, 22, 23, 24, 182, 212, 219] [9, 11, 17, 18, 25, 27, 32, 37, 70, 80, 89, 98, 105, 112, 117, 133, 155, 156, 161, 174, 176, 178, 189, 194, 216, 224] ?_; refine zZ.draws ?_) | (refine zZ.isR (id := 37) ?_; refine zZ.rc [6, 7, 8, 11, 17, 20, 21, 22, 23, 24, 182, 212, 219] [9, 11, 17, 18, 25, 27, 32, 37, 70, 80, 89, 98, 105, 112, 117, 133, 155, 156, 161, 174, 176, 178, 189, 194, 216, 224] (r := (.v zA (.v zA (.v v57_1 (.v v43_0 (.v zA (.gY zA (.gY zA (.gY v7_18 (.gY v2_1 (.gY zA (.gY v41_0 (.v vN (.v zA (.gT (.gT (.gT (.gT (.gT (.gT (.v v5_1 (.v zM .e)))))))))))))))))))))) (h := ?_)) | (refine zZ.isR (id := 38) ?_; refine zZ.rc [6, 7, 8, 11, 17, 20, 21, 22, 23, 24, 182, 212, 219] [9, 11, 17, 18, 25, 27, 32, 37, 70, 80, 89, 98, 105, 112, 117, 133, 155, 156, 161, 174, 176, 178, 189, 194, 216, 224] (r := (.v zA .e)) (h := ?_)) | (refine zZ.isR (id := 40) ?_; refine zZ.rc [6, 7, 8, 11, 17, 20, 21, 22, 23, 24, 182, 212, 219] [9, 11, 17, 18, 25, 27, 32, 37, 70, 80, 89, 98, 105, 112, 117, 133, 155, 156, 161, 174, 176, 178, 189, 194, 216, 224] (r := (.v zA .e)) (h := ?_)) | (refine zZ.isR (id := 35) ?_; refine zZ.rc [6, 7, 8, 11, 17, 20, 21, 22, 23, 24, 182, 212, 219] [9, 11, 17, 18, 25, 27, 32, 37, 70, 80, 89, 98, 105, 112, 117, 133, 155, 156, 161, 174, 176, 178, 189, 194, 216, 224] (r := (.v zA (.v vQ (.v zM .e)))) (h := ?_)) | refine zZ.yS rfl bA ?_ | refine zZ.yT rfl bA ?_ | refine zZ.skip ?_ | refine zZ.block ?_) | refine zN.n ?_ | refine yK.n ?_ | (refine Draws.is ?_; first | refine Draws.rc (.v yH (.v yH (.v yL (.v zA .e)))) ?_ | refine Draws.rc (.v v7_18 (.v v2_1 (.v zM .e))) ?_ | (refine Draws.in_ [189] rfl ?_; refine Draws.v rfl rfl (zP (c2) rfl rfl rfl (by decide)) ?_) | refine Draws.done (by kernel_rfl) (by kernel_rfl) (by kernel_rfl) ?_) | (refine zI.nil ?_))
              all_goals
                refine ⟨j + 1, ?_, hjl, by omega⟩
                rw [hsp]
                refine yE (is := [7, 8, 11, 17, 20, 21, 22]) (js := [17]) ?_ ?_
                case refine_1 =>
                  repeat' first | exact zX.nil | apply zX.p rfl | apply zX.ptr rfl | apply zX.own rfl | apply zX.clo rfl | apply zX.ifp rfl | apply zX.pt rfl | apply zX.tup rfl | apply zX.skip
                case refine_2 =>
                  repeat' first | exact zW.nil | apply zW.boxP rfl rfl | apply zW.xX rfl | apply zW.some rfl | apply zW.skip
            case neg =>
              have g2 : decide ((a : Int) < ((wJ st).length : Int)) = false := decide_eq_false (by rw [numsV_len]; omega)
              unfold swG
              repeat' (first | (refine zY.is ?_; first | refine zY.nil ?_ | (refine zY.at_ 217 rfl ?_; refine zY.rc (.v zA (.v v52_4 (.v v42_14 .e))) ?_) | (refine zY.in_ [216] rfl ?_; refine zY.v rfl rfl (zP (c8) rfl rfl rfl (by decide)) ?_)) | (refine zZ.is ?_; first | refine zZ.seq ?_ | (refine zZ.isR (id := 34) ?_; refine zZ.rc [6, 7, 8, 11, 17, 20, 21, 22, 23, 24, 182, 212, 219] [9, 11, 17, 18, 25, 27, 32, 37, 70, 80, 89, 98, 105, 112, 117, 133, 155, 156, 161, 174, 176, 178, 189, 194, 216, 224] (r := (.v zA (.v zA (.v v44_0 .e)))) (h := ?_)) | (refine zZ.isR (id := 36) ?_; refine zZ.rk [6, 7, 8, 11, 17, 20, 21, 22, 23, 24, 182, 212, 219] [9, 11, 17, 18, 25, 27, 32, 37, 70, 80, 89, 98, 105, 112, 117, 133, 155, 156, 161, 174, 176, 178, 189, 194, 216, 224] ?_; refine zZ.draws ?_) | (refine zZ.isR (id := 37) ?_; refine zZ.rc [6, 7, 8, 11, 17, 20, 21, 22, 23, 24, 182, 212, 219] [9, 11, 17, 18, 25, 27, 32, 37, 70, 80, 89, 98, 105, 112, 117, 133, 155, 156, 161, 174, 176, 178, 189, 194, 216, 224] (r := (.v zA (.v zA (.v v57_1 (.v v43_0 (.v zA (.gT (.gT (.gT (.gT (.gT (.gT (.v v5_1 (.v zA (.gT (.gT (.gT (.gT (.gT (.gT (.v v5_1 (.v zM .e)))))))))))))))))))))) (h := ?_)) | (refine zZ.isR (id := 38) ?_; refine zZ.rc [6, 7, 8, 11, 17, 20, 21, 22, 23, 24, 182, 212, 219] [9, 11, 17, 18, 25, 27, 32, 37, 70, 80, 89, 98, 105, 112, 117, 133, 155, 156, 161, 174, 176, 178, 189, 194, 216, 224] (r := (.v zA .e)) (h := ?_)) | (refine zZ.isR (id := 40) ?_; refine zZ.rc [6, 7, 8, 11, 17, 20, 21, 22, 23, 24, 182, 212, 219] [9, 11, 17, 18, 25, 27, 32, 37, 70, 80, 89, 98, 105, 112, 117, 133, 155, 156, 161, 174, 176, 178, 189, 194, 216, 224] (r := (.v zA .e)) (h := ?_)) | (refine zZ.isR (id := 35) ?_; refine zZ.rc [6, 7, 8, 11, 17, 20, 21, 22, 23, 24, 182, 212, 219] [9, 11, 17, 18, 25, 27, 32, 37, 70, 80, 89, 98, 105, 112, 117, 133, 155, 156, 161, 174, 176, 178, 189, 194, 216, 224] (r := (.v zA (.v vQ (.v zM .e)))) (h := ?_)) | refine zZ.yS rfl bA ?_ | refine zZ.yT rfl bA ?_ | refine zZ.skip ?_ | refine zZ.block ?_) | refine zN.n ?_ | refine yK.n ?_ | (refine Draws.is ?_; first | refine Draws.rc (.v yH (.v yH (.v yL (.v zA .e)))) ?_ | refine Draws.rc (.v v7_18 (.v v2_1 (.v zM .e))) ?_ | (refine Draws.in_ [189] rfl ?_; refine Draws.v rfl rfl (zP (c2) rfl rfl rfl (by decide)) ?_) | refine Draws.done (by kernel_rfl) (by kernel_rfl) (by kernel_rfl) ?_) | (refine zI.nil ?_))
              all_goals
                refine ⟨j + 1, ?_, hjl, by omega⟩
                rw [hsp]
                refine yE (is := [7, 8, 11, 17, 20, 21, 22]) (js := [17]) ?_ ?_
                case refine_1 =>
                  repeat' first | exact zX.nil | apply zX.p rfl | apply zX.ptr rfl | apply zX.own rfl | apply zX.clo rfl | apply zX.ifp rfl | apply zX.pt rfl | apply zX.tup rfl | apply zX.skip
                case refine_2 =>
                  repeat' first | exact zW.nil | apply zW.boxP rfl rfl | apply zW.xX rfl | apply zW.some rfl | apply zW.skip
    case pos =>
      have hgi : gs.getD i 0 = gs[i]'hlt := by simp [List.getD, hlt]
      have hbi : bs.getD i false = bs[i]'(by omega) := by simp [List.getD, show i < bs.length by omega]
      have hg1 := hg _ (List.getElem_mem hlt)
      rw [← hgi] at hg1
      have htl : (bs.take i).length = i := by rw [List.length_take]; omega
      have hnx := Lnk.lastw hsw.l
      have hz : lastN 0 (skL 0 (bs.take i)) = (i : Int) := by have := skL_last (bs.take i) 0; rw [Nat.zero_add, htl] at this; exact this
      rw [hz] at hnx
      have hm1 : swAt gs bs (i + 1) = swW i (gs.getD i 0) (bs.getD i false) (swAt gs bs i) := rfl
      have hgn := stay_step (s := s) (es := gs) (bs := bs) (i := i) (by omega)
      have hsl : (y9 s gs bs i).length ≤ 10 := by
        have := stay_cnt (s := s) (es := gs) (bs := bs) (i := i) (by omega)
        omega
      unfold gnE at hgn
      show zZ _ _ _ (swF gs bs s i (swAt gs bs i) (y9 s gs bs i)) _
      have i5 : (bools bs)[i]? = some (.val (.bool (bs.getD i false))) := by rw [hbi]; simp [bools, show i < bs.length by omega]
      have i6 := bools_one bs
      have i3 : (0 : Int) ≤ (i : Int) ∧ (i : Int) < (byts gs).length := by rw [qE]; omega
      generalize swAt gs bs i = m at *
      generalize y9 s gs bs i = st at *
      generalize hgg : gs.getD i 0 = e at *
      generalize hbb : bs.getD i false = b at *
      have hge : gs.getD ((i : Int)).toNat 0 = e := hgg
      have f3 : decide ((i : Int) < (gs.length : Nat)) = true := decide_eq_true (by omega)
      have w1 : IntKind.i64.wrap ((i : Int) + 1) = (i : Int) + 1 := wrap_i64 _ (by omega)
      have w2 : IntKind.u64.wrap ((i : Int) + 1) = (i : Int) + 1 := wrap_u64 _ (by omega)
      have w3 : IntKind.u64.wrap (((i : Int) + 1) * 2147483648) = ((i : Int) + 1) * 2147483648 := wrap_u64 _ (by omega)
      have w5 : IntKind.i64.wrap (4 * ((i : Int) + 1)) = 4 * ((i : Int) + 1) := wrap_i64 _ (by omega)
      have w6 : IntKind.u64.wrap (4 * ((i : Int) + 1)) = 4 * ((i : Int) + 1) := wrap_u64 _ (by omega)
      have w7 : IntKind.i64.wrap (2 * ((i : Int) + 1)) = 2 * ((i : Int) + 1) := wrap_i64 _ (by omega)
      have w8 : IntKind.u64.wrap (2 * ((i : Int) + 1)) = 2 * ((i : Int) + 1) := wrap_u64 _ (by omega)
      have u1 : e.tmod 4 = e % 4 := Int.tmod_eq_emod_of_nonneg hg1.1
      have u2 : IntKind.u8.wrap (e.tdiv 4) = e / 4 := by rw [Int.tdiv_eq_ediv_of_nonneg hg1.1]; exact wrap_in _ (by simp only [IntKind.min, IntKind.max, IntKind.signed, IntKind.bits]; omega)
      have u3 : (e / 4).tmod 4 = e / 4 % 4 := Int.tmod_eq_emod_of_nonneg (by omega)
      have u4 : IntKind.u64.wrap (e % 4) = e % 4 := wrap_u64 _ (by omega)
      have u5 : IntKind.u64.wrap (e / 4 % 4) = e / 4 % 4 := wrap_u64 _ (by omega)
      have hsm : Small 1 := by unfold Small; omega
      have c2 := wG 1 ((i : Int) + 1) 1 hsm (by omega) (by unfold Small; omega)
      have c3 := wG 1 ((i : Int) + 1) 2 hsm (by omega) (by unfold Small; omega)
      have c4 := wG 1 ((i : Int) + 1) 4 hsm (by omega) (by unfold Small; omega)
      have c5 := wG 1 ((i : Int) + 1) 5 hsm (by omega) (by unfold Small; omega)
      have c6 := cnextRef_fn 1 (i : Int) hsm (by omega)
      have c7 := cnextRef_fn 1 ((i : Int) + 1) hsm (by omega)
      have a1 : 0 ≤ zG 1 ((i : Int) + 1) 1 ∧ zG 1 ((i : Int) + 1) 1 < (89 : Nat) := by rw [yI]; omega
      have a2 : 0 ≤ zG 1 ((i : Int) + 1) 2 ∧ zG 1 ((i : Int) + 1) 2 < (89 : Nat) := by rw [yI]; omega
      have a4 : 0 ≤ zG 1 ((i : Int) + 1) 4 ∧ zG 1 ((i : Int) + 1) 4 < (89 : Nat) := by rw [yI]; omega
      have a5 : 0 ≤ zG 1 ((i : Int) + 1) 5 ∧ zG 1 ((i : Int) + 1) 5 < (89 : Nat) := by rw [yI]; omega
      have a6 : 0 ≤ yZ 1 (i : Int) ∧ yZ 1 (i : Int) < (89 : Nat) := by rw [wQ]; split <;> omega
      have a7 : 0 ≤ yZ 1 ((i : Int) + 1) ∧ yZ 1 ((i : Int) + 1) < (89 : Nat) := by rw [wQ]; split <;> omega
      have w9 : IntKind.u64.wrap (m (yZ 1 i) + 2 * ((i : Int) + 1)) = m (yZ 1 i) + 2 * ((i : Int) + 1) := wrap_u64 _ (by omega)
      have r6 : ∀ z ∈ ([.val (.int .i64 ((i : Int) + 1))] : List PV), z.cells.length = 1 := fun z hz => by rw [List.mem_singleton.1 hz]; rfl
      have r7 : ([.val (.int .i64 ((i : Int) + 1))] : List PV).length * 8 ≤ 140737488355328 ∧ ([.val (.int .i64 ((i : Int) + 1))] : List PV).length ≤ maxLen := by simp [maxLen]
      have r8 : ((wJ st).length + ([.val (.int .i64 ((i : Int) + 1))] : List PV).length) * 8 ≤ 140737488355328 ∧ (wJ st).length + ([.val (.int .i64 ((i : Int) + 1))] : List PV).length ≤ maxLen := by
        rw [numsV_len]
        simp [maxLen]
        omega
      have x1 : ∀ z ∈ wJ st, z.cells.length = 1 := fun z hz => by obtain ⟨y, _, rfl⟩ := List.mem_map.1 hz; rfl
      have x2 : st.length ≤ 10 := hsl
      generalize hc1 : zG 1 ((i : Int) + 1) 1 = p1 at *
      generalize hc2 : zG 1 ((i : Int) + 1) 2 = p2 at *
      generalize hc4 : zG 1 ((i : Int) + 1) 4 = p4 at *
      generalize hc5 : zG 1 ((i : Int) + 1) 5 = p5 at *
      generalize hc6 : yZ 1 (i : Int) = p6 at *
      generalize hc7 : yZ 1 ((i : Int) + 1) = p7 at *
      clear hsw hgi hbi hbb hnx hz htl
      cases hvx : vtx e <;> cases b
      case false.false =>
        have fv : decide (128 ≤ e) = false := hvx
        have q0 := RowF.of 89 m
        have q1 := q0.set a1 (2 * ((i : Int) + 1))
        have q0k := q0.k
        have q0r := q0.r a1
        have q0i := q0.i a1
        have q2k := q1.k
        have q2r := q1.r a2
        have q2i := q1.i a2
        have q2 := q1.set a2 (4 * ((i : Int) + 1))
        have q4k := q2.k
        have q4r := q2.r a4
        have q4i := q2.i a4
        have q4 := q2.set a4 (e % 4)
        have q5k := q4.k
        have q5r := q4.r a5
        have q5i := q4.i a5
        have q5 := q4.set a5 (e / 4 % 4)
        have hA : yB (yB (yB (yB m p1 (2 * ((i : Int) + 1))) p2 (4 * ((i : Int) + 1))) p4 (e % 4)) p5 (e / 4 % 4) = swA i e m := by
          unfold swA swK
          rw [hvx, hc1, hc2, hc4, hc5]; rfl
        have hm6 : (yB (yB (yB (yB m p1 (2 * ((i : Int) + 1))) p2 (4 * ((i : Int) + 1))) p4 (e % 4)) p5 (e / 4 % 4)) p6 = m p6 := by rw [hA, ← hc6]; exact swA_n i e m (by omega)
        have q6k := q5.k
        have q6r := q5.r a6
        have q6i := q5.i a6
        have q5c := q5.c
        have q5g := q5.g a6 hm6
        have q6 := q5.set a6 (m p6 + 2 * ((i : Int) + 1))
        have hF : yB (yB (yB (yB (yB m p1 (2 * ((i : Int) + 1))) p2 (4 * ((i : Int) + 1))) p4 (e % 4)) p5 (e / 4 % 4)) p6 (m p6 + 2 * ((i : Int) + 1)) = swW i e false m := by
          rw [hA]
          unfold swW skN
          rw [hc6, show swA i e m p6 = m p6 from by rw [← hc6]; exact swA_n i e m (by omega)]; rfl
        have hR := q6.e
        rw [hF] at hR
        clear q0 q1 q2 q4 q5 q6 hA hF
        rw [hvx] at hgn
        clear hvx hgg hc1 hc2 hc4 hc5 hc6 hc7
        subst hge
        unfold swF
        have ps_ := trivial
        repeat' (first | (refine zY.is ?_; first | refine zY.nil ?_ | (refine zY.at_ 147 rfl ?_; refine zY.rc (.gY zA (.gY zA (.gY v42_8 (.gY vN (.gY v5_1 (.v vN .e)))))) ?_) | (refine zY.at_ 147 rfl ?_; refine zY.rc (.gT (.gT (.gT (.gY v5_1 (.gY v5_1 (.v vN .e)))))) ?_) | (fail_if_success refine zY.known rfl rfl rfl (by fail) ?_); refine zY.split rfl rfl rfl (fun h => ?_) (fun h => ?_)) | (refine zZ.is ?_; first | refine zZ.seq ?_ | (refine zZ.isR (id := 9) ?_; refine zZ.rc [0, 1, 6, 7, 8, 9, 10, 11, 12, 13, 14, 15, 16, 43, 75, 128, 152] [9, 11, 17, 18, 25, 27, 32, 34, 37, 70, 80, 89, 98, 105, 112, 117, 133, 155, 156, 161, 174, 176, 178, 189, 194, 216, 224] (r := (.v zA (.v zA (.v v43_0 .e)))) (h := ?_)) | (refine zZ.isR (id := 11) ?_; refine zZ.rc [0, 1, 6, 7, 8, 9, 10, 11, 12, 13, 14, 15, 16, 43, 75, 128, 152] [9, 11, 17, 18, 25, 27, 32, 34, 37, 70, 80, 89, 98, 105, 112, 117, 133, 155, 156, 161, 174, 176, 178, 189, 194, 216, 224] (r := (.v zA (.v vQ (.v zM .e)))) (h := ?_)) | (refine zZ.isR (id := 12) ?_; refine zZ.rc [0, 1, 6, 7, 8, 9, 10, 11, 12, 13, 14, 15, 16, 43, 75, 128, 152] [9, 11, 17, 18, 25, 27, 32, 34, 37, 70, 80, 89, 98, 105, 112, 117, 133, 155, 156, 161, 174, 176, 178, 189, 194, 216, 224] (r := (.v zA (.v zA (.v v7_4 (.v v2_1 (.v v34_0 (.v qH (.v zM .e)))))))) (h := ?_)) | (refine zZ.isR (id := 13) ?_; refine zZ.rc [0, 1, 6, 7, 8, 9, 10, 11, 12, 13, 14, 15, 16, 43, 75, 128, 152] [9, 11, 17, 18, 25, 27, 32, 34, 37, 70, 80, 89, 98, 105, 112, 117, 133, 155, 156, 161, 174, 176, 178, 189, 194, 216, 224] (r := (.v zA (.v zA (.v v7_4 (.v v2_1 (.v v33_0 (.v v34_0 (.v qH (.v zM .e))))))))) (h := ?_)) | (refine zZ.isR (id := 14) ?_; refine zZ.rc [0, 1, 6, 7, 8, 9, 10, 11, 12, 13, 14, 15, 16, 43, 75, 128, 152] [9, 11, 17, 18, 25, 27, 32, 34, 37, 70, 80, 89, 98, 105, 112, 117, 133, 155, 156, 161, 174, 176, 178, 189, 194, 216, 224] (r := (.v zA (.v zA (.v v7_4 (.v v2_1 (.v v46_0 (.v zM .e))))))) (h := ?_)) | (refine zZ.isR (id := 15) ?_; refine zZ.rk [0, 1, 6, 7, 8, 9, 10, 11, 12, 13, 14, 15, 16, 43, 75, 128, 152] [9, 11, 17, 18, 25, 27, 32, 34, 37, 70, 80, 89, 98, 105, 112, 117, 133, 155, 156, 161, 174, 176, 178, 189, 194, 216, 224] ?_; refine zZ.draws ?_) | (refine zZ.isR (id := 16) ?_; refine zZ.rc [0, 1, 6, 7, 8, 9, 10, 11, 12, 13, 14, 15, 16, 43, 75, 128, 152] [9, 11, 17, 18, 25, 27, 32, 34, 37, 70, 80, 89, 98, 105, 112, 117, 133, 155, 156, 161, 174, 176, 178, 189, 194, 216, 224] (r := (.v zA .e)) (h := ?_)) | (refine zZ.isR (id := 18) ?_; refine zZ.rk [0, 1, 6, 7, 8, 9, 10, 11, 12, 13, 14, 15, 16, 43, 75, 128, 152] [9, 11, 17, 18, 25, 27, 32, 34, 37, 70, 80, 89, 98, 105, 112, 117, 133, 155, 156, 161, 174, 176, 178, 189, 194, 216, 224] ?_; refine zZ.draws ?_) | (refine zZ.isR (id := 19) ?_; refine zZ.rk [0, 1, 6, 7, 8, 9, 10, 11, 12, 13, 14, 15, 16, 43, 75, 128, 152] [9, 11, 17, 18, 25, 27, 32, 34, 37, 70, 80, 89, 98, 105, 112, 117, 133, 155, 156, 161, 174, 176, 178, 189, 194, 216, 224] ?_; refine zZ.draws ?_) | (refine zZ.isR (id := 20) ?_; refine zZ.rk [0, 1, 6, 7, 8, 9, 10, 11, 12, 13, 14, 15, 16, 43, 75, 128, 152] [9, 11, 17, 18, 25, 27, 32, 34, 37, 70, 80, 89, 98, 105, 112, 117, 133, 155, 156, 161, 174, 176, 178, 189, 194, 216, 224] ?_; refine zZ.draws ?_) | (refine zZ.isR (id := 21) ?_; refine zZ.rk [0, 1, 6, 7, 8, 9, 10, 11, 12, 13, 14, 15, 16, 43, 75, 128, 152] [9, 11, 17, 18, 25, 27, 32, 34, 37, 70, 80, 89, 98, 105, 112, 117, 133, 155, 156, 161, 174, 176, 178, 189, 194, 216, 224] ?_; refine zZ.draws ?_) | (refine zZ.isR (id := 22) ?_; refine zZ.rc [0, 1, 6, 7, 8, 9, 10, 11, 12, 13, 14, 15, 16, 43, 75, 128, 152] [9, 11, 17, 18, 25, 27, 32, 34, 37, 70, 80, 89, 98, 105, 112, 117, 133, 155, 156, 161, 174, 176, 178, 189, 194, 216, 224] (r := (.v zA (.v zA (.v v7_18 (.v v2_1 .e))))) (h := ?_)) | (refine zZ.isR (id := 24) ?_; refine zZ.rc [0, 1, 6, 7, 8, 9, 10, 11, 12, 13, 14, 15, 16, 43, 75, 128, 152] [9, 11, 17, 18, 25, 27, 32, 34, 37, 70, 80, 89, 98, 105, 112, 117, 133, 155, 156, 161, 174, 176, 178, 189, 194, 216, 224] (r := (.v zA (.v zA (.v v7_18 (.v v2_1 (.v v52_4 (.v zA (.gY zA (.gY zA (.gY zA (.gY zA (.gY v42_8 (.gY zA .e))))))))))))) (h := ?_)) | (refine zZ.isR (id := 25) ?_; refine zZ.rc [0, 1, 6, 7, 8, 9, 10, 11, 12, 13, 14, 15, 16, 43, 75, 128, 152] [9, 11, 17, 18, 25, 27, 32, 34, 37, 70, 80, 89, 98, 105, 112, 117, 133, 155, 156, 161, 174, 176, 178, 189, 194, 216, 224] (r := (.v v0_1 (.v zA (.v v20_0 (.w w55_2 (.v v1_1 .e)))))) (h := ?_)) | (refine zZ.isR (id := 10) ?_; refine zZ.rc [0, 1, 6, 7, 8, 9, 10, 11, 12, 13, 14, 15, 16, 43, 75, 128, 152] [9, 11, 17, 18, 25, 27, 32, 34, 37, 70, 80, 89, 98, 105, 112, 117, 133, 155, 156, 161, 174, 176, 178, 189, 194, 216, 224] (r := (.v zA (.v vQ (.v zM .e)))) (h := ?_)) | refine zZ.yS rfl bA ?_ | refine zZ.yT rfl bA ?_ | refine zZ.cond rfl (fun h => ?_) (fun h => ?_) | refine zZ.skip ?_ | refine zZ.block ?_) | refine zN.n ?_ | refine yK.n ?_ | (refine Draws.is ?_; first | refine Draws.rc (.v zA (.v vE .e)) ?_ | refine Draws.rc (.v zA (.v v32_0 (.v qH (.v vE .e)))) ?_ | refine Draws.rc (.v yH (.v yH (.v v2_8 (.v zA .e)))) ?_ | refine Draws.rc (.v vE (.v v2_15 (.v zA (.v v32_0 (.v qH (.v vQ (.v vE .e))))))) ?_ | (refine Draws.in_ [70] rfl ?_; refine Draws.v rfl rfl (zP (c2) rfl rfl rfl (by decide)) ?_) | (refine Draws.in_ [89] rfl ?_; refine Draws.v rfl rfl (zP (c3) rfl rfl rfl (by decide)) ?_) | (refine Draws.in_ [98] rfl ?_; refine Draws.v rfl rfl (zP (c4) rfl rfl rfl (by decide)) ?_) | (refine Draws.in_ [105] rfl ?_; refine Draws.v rfl rfl (zP (c5) rfl rfl rfl (by decide)) ?_) | (refine Draws.in_ [112, 117] rfl ?_; refine Draws.v rfl rfl (zP (c6) rfl rfl rfl (by decide)) ?_) | refine Draws.done (by kernel_rfl) (by kernel_rfl) (by kernel_rfl) ?_) | (refine zI.is ?_; first | refine zI.nil ?_ | refine zI.rc (.w w24_1 .e) ?_))
        all_goals
          refine ⟨i + 1, ?_, by omega, by omega⟩
          show Sub _ (swF gs bs s (i + 1) (swAt gs bs (i + 1)) (y9 s gs bs (i + 1)))
          rw [hm1, hgn, hR]
          clear hm1 hgn hR
          try simp only [Bool.not_eq_eq_eq_not, Bool.not_true, Bool.not_false] at *
          simp only [*, Bool.not_true, Bool.not_false, Bool.true_and, Bool.false_and, Bool.true_or, Bool.false_or, Bool.or_false, Bool.or_true, cond_true, cond_false, Bool.not_eq_true', Bool.not_eq_false', List.append_nil]
          unfold swF
          try rw [← numsV_app]
          refine yE (is := [0, 1, 7, 8, 9, 10, 11, 12]) (js := [9, 37, 34]) ?_ ?_
          case refine_1 =>
            repeat' first | exact zX.nil | apply zX.p rfl | apply zX.ptr rfl | apply zX.own rfl | apply zX.clo rfl | apply zX.ifp rfl | apply zX.pt rfl | apply zX.tup rfl | apply zX.skip
          case refine_2 =>
            repeat' first | exact zW.nil | apply zW.boxP rfl rfl | apply zW.xX rfl | apply zW.some rfl | apply zW.skip
      case false.true =>
        have fv : decide (128 ≤ e) = false := hvx
        have q0 := RowF.of 89 m
        have q1 := q0.set a1 (2 * ((i : Int) + 1))
        have q0k := q0.k
        have q0r := q0.r a1
        have q0i := q0.i a1
        have q2k := q1.k
        have q2r := q1.r a2
        have q2i := q1.i a2
        have q2 := q1.set a2 (4 * ((i : Int) + 1))
        have q4k := q2.k
        have q4r := q2.r a4
        have q4i := q2.i a4
        have q4 := q2.set a4 (e % 4)
        have q5k := q4.k
        have q5r := q4.r a5
        have q5i := q4.i a5
        have q5 := q4.set a5 (e / 4 % 4)
        have hA : yB (yB (yB (yB m p1 (2 * ((i : Int) + 1))) p2 (4 * ((i : Int) + 1))) p4 (e % 4)) p5 (e / 4 % 4) = swA i e m := by
          unfold swA swK
          rw [hvx, hc1, hc2, hc4, hc5]; rfl
        have hm6 : (yB (yB (yB (yB m p1 (2 * ((i : Int) + 1))) p2 (4 * ((i : Int) + 1))) p4 (e % 4)) p5 (e / 4 % 4)) p6 = m p6 := by rw [hA, ← hc6]; exact swA_n i e m (by omega)
        have q6k := q5.k
        have q6r := q5.r a6
        have q6i := q5.i a6
        have q5c := q5.c
        have q5g := q5.g a6 hm6
        have q6 := q5.set a6 (m p6 + 2 * ((i : Int) + 1))
        have q7k := q6.k
        have q7r := q6.r a7
        have q7i := q6.i a7
        have q7 := q6.set a7 1
        have hF : yB (yB (yB (yB (yB (yB m p1 (2 * ((i : Int) + 1))) p2 (4 * ((i : Int) + 1))) p4 (e % 4)) p5 (e / 4 % 4)) p6 (m p6 + 2 * ((i : Int) + 1))) p7 1 = swW i e true m := by
          rw [hA]
          unfold swW skN
          rw [hc6, show swA i e m p6 = m p6 from by rw [← hc6]; exact swA_n i e m (by omega)]; rw [hc7]; rfl
        have hR := q7.e
        rw [hF] at hR
        clear q0 q1 q2 q4 q5 q6 q7 hA hF
        rw [hvx] at hgn
        clear hvx hgg hc1 hc2 hc4 hc5 hc6 hc7
        subst hge
        unfold swF
        have ps_ := trivial
        repeat' (first | (refine zY.nil ?_) | (refine zZ.is ?_; first | refine zZ.seq ?_ | (refine zZ.isR (id := 9) ?_; refine zZ.rc [0, 1, 6, 7, 8, 9, 10, 11, 12, 13, 14, 15, 16, 43, 75, 128, 152] [9, 11, 17, 18, 25, 27, 32, 34, 37, 70, 80, 89, 98, 105, 112, 117, 133, 155, 156, 161, 174, 176, 178, 189, 194, 216, 224] (r := (.v zA (.v zA (.v v43_0 .e)))) (h := ?_)) | (refine zZ.isR (id := 11) ?_; refine zZ.rc [0, 1, 6, 7, 8, 9, 10, 11, 12, 13, 14, 15, 16, 43, 75, 128, 152] [9, 11, 17, 18, 25, 27, 32, 34, 37, 70, 80, 89, 98, 105, 112, 117, 133, 155, 156, 161, 174, 176, 178, 189, 194, 216, 224] (r := (.v zA (.v vQ (.v zM .e)))) (h := ?_)) | (refine zZ.isR (id := 12) ?_; refine zZ.rc [0, 1, 6, 7, 8, 9, 10, 11, 12, 13, 14, 15, 16, 43, 75, 128, 152] [9, 11, 17, 18, 25, 27, 32, 34, 37, 70, 80, 89, 98, 105, 112, 117, 133, 155, 156, 161, 174, 176, 178, 189, 194, 216, 224] (r := (.v zA (.v zA (.v v7_4 (.v v2_1 (.v v34_0 (.v qH (.v zM .e)))))))) (h := ?_)) | (refine zZ.isR (id := 13) ?_; refine zZ.rc [0, 1, 6, 7, 8, 9, 10, 11, 12, 13, 14, 15, 16, 43, 75, 128, 152] [9, 11, 17, 18, 25, 27, 32, 34, 37, 70, 80, 89, 98, 105, 112, 117, 133, 155, 156, 161, 174, 176, 178, 189, 194, 216, 224] (r := (.v zA (.v zA (.v v7_4 (.v v2_1 (.v v33_0 (.v v34_0 (.v qH (.v zM .e))))))))) (h := ?_)) | (refine zZ.isR (id := 14) ?_; refine zZ.rc [0, 1, 6, 7, 8, 9, 10, 11, 12, 13, 14, 15, 16, 43, 75, 128, 152] [9, 11, 17, 18, 25, 27, 32, 34, 37, 70, 80, 89, 98, 105, 112, 117, 133, 155, 156, 161, 174, 176, 178, 189, 194, 216, 224] (r := (.v zA (.v zA (.v v7_4 (.v v2_1 (.v v46_0 (.v zM .e))))))) (h := ?_)) | (refine zZ.isR (id := 15) ?_; refine zZ.rk [0, 1, 6, 7, 8, 9, 10, 11, 12, 13, 14, 15, 16, 43, 75, 128, 152] [9, 11, 17, 18, 25, 27, 32, 34, 37, 70, 80, 89, 98, 105, 112, 117, 133, 155, 156, 161, 174, 176, 178, 189, 194, 216, 224] ?_; refine zZ.draws ?_) | (refine zZ.isR (id := 16) ?_; refine zZ.rc [0, 1, 6, 7, 8, 9, 10, 11, 12, 13, 14, 15, 16, 43, 75, 128, 152] [9, 11, 17, 18, 25, 27, 32, 34, 37, 70, 80, 89, 98, 105, 112, 117, 133, 155, 156, 161, 174, 176, 178, 189, 194, 216, 224] (r := (.v zA .e)) (h := ?_)) | (refine zZ.isR (id := 18) ?_; refine zZ.rk [0, 1, 6, 7, 8, 9, 10, 11, 12, 13, 14, 15, 16, 43, 75, 128, 152] [9, 11, 17, 18, 25, 27, 32, 34, 37, 70, 80, 89, 98, 105, 112, 117, 133, 155, 156, 161, 174, 176, 178, 189, 194, 216, 224] ?_; refine zZ.draws ?_) | (refine zZ.isR (id := 19) ?_; refine zZ.rk [0, 1, 6, 7, 8, 9, 10, 11, 12, 13, 14, 15, 16, 43, 75, 128, 152] [9, 11, 17, 18, 25, 27, 32, 34, 37, 70, 80, 89, 98, 105, 112, 117, 133, 155, 156, 161, 174, 176, 178, 189, 194, 216, 224] ?_; refine zZ.draws ?_) | (refine zZ.isR (id := 20) ?_; refine zZ.rk [0, 1, 6, 7, 8, 9, 10, 11, 12, 13, 14, 15, 16, 43, 75, 128, 152] [9, 11, 17, 18, 25, 27, 32, 34, 37, 70, 80, 89, 98, 105, 112, 117, 133, 155, 156, 161, 174, 176, 178, 189, 194, 216, 224] ?_; refine zZ.draws ?_) | (refine zZ.isR (id := 21) ?_; refine zZ.rk [0, 1, 6, 7, 8, 9, 10, 11, 12, 13, 14, 15, 16, 43, 75, 128, 152] [9, 11, 17, 18, 25, 27, 32, 34, 37, 70, 80, 89, 98, 105, 112, 117, 133, 155, 156, 161, 174, 176, 178, 189, 194, 216, 224] ?_; refine zZ.draws ?_) | (refine zZ.isR (id := 22) ?_; refine zZ.rc [0, 1, 6, 7, 8, 9, 10, 11, 12, 13, 14, 15, 16, 43, 75, 128, 152] [9, 11, 17, 18, 25, 27, 32, 34, 37, 70, 80, 89, 98, 105, 112, 117, 133, 155, 156, 161, 174, 176, 178, 189, 194, 216, 224] (r := (.v zA (.v zA (.v v7_18 (.v v2_1 .e))))) (h := ?_)) | (refine zZ.isR (id := 23) ?_; refine zZ.rk [0, 1, 6, 7, 8, 9, 10, 11, 12, 13, 14, 15, 16, 43, 75, 128, 152] [9, 11, 17, 18, 25, 27, 32, 34, 37, 70, 80, 89, 98, 105, 112, 117, 133, 155, 156, 161, 174, 176, 178, 189, 194, 216, 224] ?_; refine zZ.draws ?_) | (refine zZ.isR (id := 24) ?_; refine zZ.rc [0, 1, 6, 7, 8, 9, 10, 11, 12, 13, 14, 15, 16, 43, 75, 128, 152] [9, 11, 17, 18, 25, 27, 32, 34, 37, 70, 80, 89, 98, 105, 112, 117, 133, 155, 156, 161, 174, 176, 178, 189, 194, 216, 224] (r := (.v zA (.v zA (.v v7_18 (.v v2_1 (.v v52_5 (.v zA (.gT (.gT (.gU (.gU (.gU (.gU (.gU (.gU (.gU (.gU (.gT (.v v5_1 .e))))))))))))))))))) (h := ?_)) | (refine zZ.isR (id := 10) ?_; refine zZ.rc [0, 1, 6, 7, 8, 9, 10, 11, 12, 13, 14, 15, 16, 43, 75, 128, 152] [9, 11, 17, 18, 25, 27, 32, 34, 37, 70, 80, 89, 98, 105, 112, 117, 133, 155, 156, 161, 174, 176, 178, 189, 194, 216, 224] (r := (.v zA (.v vQ (.v zM .e)))) (h := ?_)) | refine zZ.yS rfl bA ?_ | refine zZ.yT rfl bA ?_ | refine zZ.skip ?_ | refine zZ.block ?_) | refine zN.n ?_ | refine yK.n ?_ | (refine Draws.is ?_; first | refine Draws.rc (.v zA (.v vE .e)) ?_ | refine Draws.rc (.v zA (.v v32_0 (.v qH (.v vE .e)))) ?_ | refine Draws.rc (.v yH (.v yH (.v v2_8 (.v zA .e)))) ?_ | refine Draws.rc (.v vE (.v v2_15 (.v zA (.v v32_0 (.v qH (.v vQ (.v vE .e))))))) ?_ | refine Draws.rc (.v vE .e) ?_ | (refine Draws.in_ [70] rfl ?_; refine Draws.v rfl rfl (zP (c2) rfl rfl rfl (by decide)) ?_) | (refine Draws.in_ [89] rfl ?_; refine Draws.v rfl rfl (zP (c3) rfl rfl rfl (by decide)) ?_) | (refine Draws.in_ [98] rfl ?_; refine Draws.v rfl rfl (zP (c4) rfl rfl rfl (by decide)) ?_) | (refine Draws.in_ [105] rfl ?_; refine Draws.v rfl rfl (zP (c5) rfl rfl rfl (by decide)) ?_) | (refine Draws.in_ [112, 117] rfl ?_; refine Draws.v rfl rfl (zP (c6) rfl rfl rfl (by decide)) ?_) | (refine Draws.in_ [133] rfl ?_; refine Draws.v rfl rfl (zP (c7) rfl rfl rfl (by decide)) ?_) | refine Draws.done (by kernel_rfl) (by kernel_rfl) (by kernel_rfl) ?_) | (refine zI.is ?_; first | refine zI.nil ?_ | refine zI.rc (.w w24_1 .e) ?_))
        all_goals
          refine ⟨i + 1, ?_, by omega, by omega⟩
          show Sub _ (swF gs bs s (i + 1) (swAt gs bs (i + 1)) (y9 s gs bs (i + 1)))
          rw [hm1, hgn, hR]
          clear hm1 hgn hR
          try simp only [Bool.not_eq_eq_eq_not, Bool.not_true, Bool.not_false] at *
          simp only [*, Bool.not_true, Bool.not_false, Bool.true_and, Bool.false_and, Bool.true_or, Bool.false_or, Bool.or_false, Bool.or_true, cond_true, cond_false, Bool.not_eq_true', Bool.not_eq_false', List.append_nil]
          unfold swF
          try rw [← numsV_app]
          refine yE (is := [0, 1, 7, 8, 9, 10, 11, 12]) (js := [9, 37, 34]) ?_ ?_
          case refine_1 =>
            repeat' first | exact zX.nil | apply zX.p rfl | apply zX.ptr rfl | apply zX.own rfl | apply zX.clo rfl | apply zX.ifp rfl | apply zX.pt rfl | apply zX.tup rfl | apply zX.skip
          case refine_2 =>
            repeat' first | exact zW.nil | apply zW.boxP rfl rfl | apply zW.xX rfl | apply zW.some rfl | apply zW.skip
      case true.false =>
        have fv : decide (128 ≤ e) = true := hvx
        have q0 := RowF.of 89 m
        have q1 := q0.set a1 (2 * ((i : Int) + 1))
        have q0k := q0.k
        have q0r := q0.r a1
        have q0i := q0.i a1
        have qv := q1.set a1 (((i : Int) + 1) * 2147483648)
        have q1k := q1.k
        have q1r := q1.r a1
        have q1i := q1.i a1
        have q2k := qv.k
        have q2r := qv.r a2
        have q2i := qv.i a2
        have q2 := qv.set a2 (4 * ((i : Int) + 1))
        have q4k := q2.k
        have q4r := q2.r a4
        have q4i := q2.i a4
        have q4 := q2.set a4 (e % 4)
        have q5k := q4.k
        have q5r := q4.r a5
        have q5i := q4.i a5
        have q5 := q4.set a5 (e / 4 % 4)
        have hA : yB (yB (yB (yB (yB m p1 (2 * ((i : Int) + 1))) p1 (((i : Int) + 1) * 2147483648)) p2 (4 * ((i : Int) + 1))) p4 (e % 4)) p5 (e / 4 % 4) = swA i e m := by
          unfold swA swK
          rw [hvx, hc1, hc2, hc4, hc5]; rw [updW_twice]; rfl
        have hm6 : (yB (yB (yB (yB (yB m p1 (2 * ((i : Int) + 1))) p1 (((i : Int) + 1) * 2147483648)) p2 (4 * ((i : Int) + 1))) p4 (e % 4)) p5 (e / 4 % 4)) p6 = m p6 := by rw [hA, ← hc6]; exact swA_n i e m (by omega)
        have q6k := q5.k
        have q6r := q5.r a6
        have q6i := q5.i a6
        have q5c := q5.c
        have q5g := q5.g a6 hm6
        have q6 := q5.set a6 (m p6 + 2 * ((i : Int) + 1))
        have hF : yB (yB (yB (yB (yB (yB m p1 (2 * ((i : Int) + 1))) p1 (((i : Int) + 1) * 2147483648)) p2 (4 * ((i : Int) + 1))) p4 (e % 4)) p5 (e / 4 % 4)) p6 (m p6 + 2 * ((i : Int) + 1)) = swW i e false m := by
          rw [hA]
          unfold swW skN
          rw [hc6, show swA i e m p6 = m p6 from by rw [← hc6]; exact swA_n i e m (by omega)]; rfl
        have hR := q6.e
        rw [hF] at hR
        clear q0 q1 qv q2 q4 q5 q6 hA hF
        rw [hvx] at hgn
        clear hvx hgg hc1 hc2 hc4 hc5 hc6 hc7
        subst hge
        unfold swF
        have ps_ := trivial
        repeat' (first | (refine zY.nil ?_) | (refine zZ.is ?_; first | refine zZ.seq ?_ | (refine zZ.isR (id := 9) ?_; refine zZ.rc [0, 1, 6, 7, 8, 9, 10, 11, 12, 13, 14, 15, 16, 43, 75, 128, 152] [9, 11, 17, 18, 25, 27, 32, 34, 37, 70, 80, 89, 98, 105, 112, 117, 133, 155, 156, 161, 174, 176, 178, 189, 194, 216, 224] (r := (.v zA (.v zA (.v v43_0 .e)))) (h := ?_)) | (refine zZ.isR (id := 11) ?_; refine zZ.rc [0, 1, 6, 7, 8, 9, 10, 11, 12, 13, 14, 15, 16, 43, 75, 128, 152] [9, 11, 17, 18, 25, 27, 32, 34, 37, 70, 80, 89, 98, 105, 112, 117, 133, 155, 156, 161, 174, 176, 178, 189, 194, 216, 224] (r := (.v zA (.v vQ (.v zM .e)))) (h := ?_)) | (refine zZ.isR (id := 12) ?_; refine zZ.rc [0, 1, 6, 7, 8, 9, 10, 11, 12, 13, 14, 15, 16, 43, 75, 128, 152] [9, 11, 17, 18, 25, 27, 32, 34, 37, 70, 80, 89, 98, 105, 112, 117, 133, 155, 156, 161, 174, 176, 178, 189, 194, 216, 224] (r := (.v zA (.v zA (.v v7_4 (.v v2_1 (.v v34_0 (.v qH (.v zM .e)))))))) (h := ?_)) | (refine zZ.isR (id := 13) ?_; refine zZ.rc [0, 1, 6, 7, 8, 9, 10, 11, 12, 13, 14, 15, 16, 43, 75, 128, 152] [9, 11, 17, 18, 25, 27, 32, 34, 37, 70, 80, 89, 98, 105, 112, 117, 133, 155, 156, 161, 174, 176, 178, 189, 194, 216, 224] (r := (.v zA (.v zA (.v v7_4 (.v v2_1 (.v v33_0 (.v v34_0 (.v qH (.v zM .e))))))))) (h := ?_)) | (refine zZ.isR (id := 14) ?_; refine zZ.rc [0, 1, 6, 7, 8, 9, 10, 11, 12, 13, 14, 15, 16, 43, 75, 128, 152] [9, 11, 17, 18, 25, 27, 32, 34, 37, 70, 80, 89, 98, 105, 112, 117, 133, 155, 156, 161, 174, 176, 178, 189, 194, 216, 224] (r := (.v zA (.v zA (.v v7_4 (.v v2_1 (.v v46_0 (.v zM .e))))))) (h := ?_)) | (refine zZ.isR (id := 15) ?_; refine zZ.rk [0, 1, 6, 7, 8, 9, 10, 11, 12, 13, 14, 15, 16, 43, 75, 128, 152] [9, 11, 17, 18, 25, 27, 32, 34, 37, 70, 80, 89, 98, 105, 112, 117, 133, 155, 156, 161, 174, 176, 178, 189, 194, 216, 224] ?_; refine zZ.draws ?_) | (refine zZ.isR (id := 16) ?_; refine zZ.rc [0, 1, 6, 7, 8, 9, 10, 11, 12, 13, 14, 15, 16, 43, 75, 128, 152] [9, 11, 17, 18, 25, 27, 32, 34, 37, 70, 80, 89, 98, 105, 112, 117, 133, 155, 156, 161, 174, 176, 178, 189, 194, 216, 224] (r := (.v zA .e)) (h := ?_)) | (refine zZ.isR (id := 17) ?_; refine zZ.rk [0, 1, 6, 7, 8, 9, 10, 11, 12, 13, 14, 15, 16, 43, 75, 128, 152] [9, 11, 17, 18, 25, 27, 32, 34, 37, 70, 80, 89, 98, 105, 112, 117, 133, 155, 156, 161, 174, 176, 178, 189, 194, 216, 224] ?_; refine zZ.draws ?_) | (refine zZ.isR (id := 18) ?_; refine zZ.rk [0, 1, 6, 7, 8, 9, 10, 11, 12, 13, 14, 15, 16, 43, 75, 128, 152] [9, 11, 17, 18, 25, 27, 32, 34, 37, 70, 80, 89, 98, 105, 112, 117, 133, 155, 156, 161, 174, 176, 178, 189, 194, 216, 224] ?_; refine zZ.draws ?_) | (refine zZ.isR (id := 19) ?_; refine zZ.rk [0, 1, 6, 7, 8, 9, 10, 11, 12, 13, 14, 15, 16, 43, 75, 128, 152] [9, 11, 17, 18, 25, 27, 32, 34, 37, 70, 80, 89, 98, 105, 112, 117, 133, 155, 156, 161, 174, 176, 178, 189, 194, 216, 224] ?_; refine zZ.draws ?_) | (refine zZ.isR (id := 20) ?_; refine zZ.rk [0, 1, 6, 7, 8, 9, 10, 11, 12, 13, 14, 15, 16, 43, 75, 128, 152] [9, 11, 17, 18, 25, 27, 32, 34, 37, 70, 80, 89, 98, 105, 112, 117, 133, 155, 156, 161, 174, 176, 178, 189, 194, 216, 224] ?_; refine zZ.draws ?_) | (refine zZ.isR (id := 21) ?_; refine zZ.rk [0, 1, 6, 7, 8, 9, 10, 11, 12, 13, 14, 15, 16, 43, 75, 128, 152] [9, 11, 17, 18, 25, 27, 32, 34, 37, 70, 80, 89, 98, 105, 112, 117, 133, 155, 156, 161, 174, 176, 178, 189, 194, 216, 224] ?_; refine zZ.draws ?_) | (refine zZ.isR (id := 22) ?_; refine zZ.rc [0, 1, 6, 7, 8, 9, 10, 11, 12, 13, 14, 15, 16, 43, 75, 128, 152] [9, 11, 17, 18, 25, 27, 32, 34, 37, 70, 80, 89, 98, 105, 112, 117, 133, 155, 156, 161, 174, 176, 178, 189, 194, 216, 224] (r := (.v zA (.v zA (.v v7_18 (.v v2_1 .e))))) (h := ?_)) | (refine zZ.isR (id := 24) ?_; refine zZ.rc [0, 1, 6, 7, 8, 9, 10, 11, 12, 13, 14, 15, 16, 43, 75, 128, 152] [9, 11, 17, 18, 25, 27, 32, 34, 37, 70, 80, 89, 98, 105, 112, 117, 133, 155, 156, 161, 174, 176, 178, 189, 194, 216, 224] (r := (.v zA (.v zA (.v v7_18 (.v v2_1 (.v v52_4 (.v zA (.gY zA (.gY zA (.gF (.gF (.gF (.gF (.gU (.gU (.gU (.gF (.gY vN (.v vN .e))))))))))))))))))) (h := ?_)) | (refine zZ.isR (id := 25) ?_; refine zZ.rc [0, 1, 6, 7, 8, 9, 10, 11, 12, 13, 14, 15, 16, 43, 75, 128, 152] [9, 11, 17, 18, 25, 27, 32, 34, 37, 70, 80, 89, 98, 105, 112, 117, 133, 155, 156, 161, 174, 176, 178, 189, 194, 216, 224] (r := (.v v0_1 (.v zA (.v v20_0 (.w w55_2 (.v v1_1 .e)))))) (h := ?_)) | (refine zZ.isR (id := 10) ?_; refine zZ.rc [0, 1, 6, 7, 8, 9, 10, 11, 12, 13, 14, 15, 16, 43, 75, 128, 152] [9, 11, 17, 18, 25, 27, 32, 34, 37, 70, 80, 89, 98, 105, 112, 117, 133, 155, 156, 161, 174, 176, 178, 189, 194, 216, 224] (r := (.v zA (.v vQ (.v zM .e)))) (h := ?_)) | refine zZ.yS rfl bA ?_ | refine zZ.yT rfl bA ?_ | refine zZ.skip ?_ | refine zZ.block ?_) | refine zN.n ?_ | refine yK.n ?_ | (refine Draws.is ?_; first | refine Draws.rc (.v zA (.v qH (.v v32_0 (.v vE .e)))) ?_ | refine Draws.rc (.v zA (.v vE .e)) ?_ | refine Draws.rc (.v zA (.v v32_0 (.v qH (.v vE .e)))) ?_ | refine Draws.rc (.v yH (.v yH (.v v2_8 (.v zA .e)))) ?_ | refine Draws.rc (.v vE (.v v2_15 (.v zA (.v v32_0 (.v qH (.v vQ (.v vE .e))))))) ?_ | (refine Draws.in_ [70, 80] rfl ?_; refine Draws.v rfl rfl (zP (c2) rfl rfl rfl (by decide)) ?_) | (refine Draws.in_ [89] rfl ?_; refine Draws.v rfl rfl (zP (c3) rfl rfl rfl (by decide)) ?_) | (refine Draws.in_ [98] rfl ?_; refine Draws.v rfl rfl (zP (c4) rfl rfl rfl (by decide)) ?_) | (refine Draws.in_ [105] rfl ?_; refine Draws.v rfl rfl (zP (c5) rfl rfl rfl (by decide)) ?_) | (refine Draws.in_ [112, 117] rfl ?_; refine Draws.v rfl rfl (zP (c6) rfl rfl rfl (by decide)) ?_) | refine Draws.done (by kernel_rfl) (by kernel_rfl) (by kernel_rfl) ?_) | (refine zI.is ?_; first | refine zI.nil ?_ | refine zI.rc (.w w24_1 .e) ?_))
        all_goals
          refine ⟨i + 1, ?_, by omega, by omega⟩
          show Sub _ (swF gs bs s (i + 1) (swAt gs bs (i + 1)) (y9 s gs bs (i + 1)))
          rw [hm1, hgn, hR]
          clear hm1 hgn hR
          try simp only [Bool.not_eq_eq_eq_not, Bool.not_true, Bool.not_false] at *
          simp only [*, Bool.not_true, Bool.not_false, Bool.true_and, Bool.false_and, Bool.true_or, Bool.false_or, Bool.or_false, Bool.or_true, cond_true, cond_false, Bool.not_eq_true', Bool.not_eq_false', List.append_nil]
          unfold swF
          try rw [← numsV_app]
          refine yE (is := [0, 1, 7, 8, 9, 10, 11, 12]) (js := [9, 37, 34]) ?_ ?_
          case refine_1 =>
            repeat' first | exact zX.nil | apply zX.p rfl | apply zX.ptr rfl | apply zX.own rfl | apply zX.clo rfl | apply zX.ifp rfl | apply zX.pt rfl | apply zX.tup rfl | apply zX.skip
          case refine_2 =>
            repeat' first | exact zW.nil | apply zW.boxP rfl rfl | apply zW.xX rfl | apply zW.some rfl | apply zW.skip
      case true.true =>
        have fv : decide (128 ≤ e) = true := hvx
        have q0 := RowF.of 89 m
        have q1 := q0.set a1 (2 * ((i : Int) + 1))
        have q0k := q0.k
        have q0r := q0.r a1
        have q0i := q0.i a1
        have qv := q1.set a1 (((i : Int) + 1) * 2147483648)
        have q1k := q1.k
        have q1r := q1.r a1
        have q1i := q1.i a1
        have q2k := qv.k
        have q2r := qv.r a2
        have q2i := qv.i a2
        have q2 := qv.set a2 (4 * ((i : Int) + 1))
        have q4k := q2.k
        have q4r := q2.r a4
        have q4i := q2.i a4
        have q4 := q2.set a4 (e % 4)
        have q5k := q4.k
        have q5r := q4.r a5
        have q5i := q4.i a5
        have q5 := q4.set a5 (e / 4 % 4)
        have hA : yB (yB (yB (yB (yB m p1 (2 * ((i : Int) + 1))) p1 (((i : Int) + 1) * 2147483648)) p2 (4 * ((i : Int) + 1))) p4 (e % 4)) p5 (e / 4 % 4) = swA i e m := by
          unfold swA swK
          rw [hvx, hc1, hc2, hc4, hc5]; rw [updW_twice]; rfl
        have hm6 : (yB (yB (yB (yB (yB m p1 (2 * ((i : Int) + 1))) p1 (((i : Int) + 1) * 2147483648)) p2 (4 * ((i : Int) + 1))) p4 (e % 4)) p5 (e / 4 % 4)) p6 = m p6 := by rw [hA, ← hc6]; exact swA_n i e m (by omega)
        have q6k := q5.k
        have q6r := q5.r a6
        have q6i := q5.i a6
        have q5c := q5.c
        have q5g := q5.g a6 hm6
        have q6 := q5.set a6 (m p6 + 2 * ((i : Int) + 1))
        have q7k := q6.k
        have q7r := q6.r a7
        have q7i := q6.i a7
        have q7 := q6.set a7 1
        have hF : yB (yB (yB (yB (yB (yB (yB m p1 (2 * ((i : Int) + 1))) p1 (((i : Int) + 1) * 2147483648)) p2 (4 * ((i : Int) + 1))) p4 (e % 4)) p5 (e / 4 % 4)) p6 (m p6 + 2 * ((i : Int) + 1))) p7 1 = swW i e true m := by
          rw [hA]
          unfold swW skN
          rw [hc6, show swA i e m p6 = m p6 from by rw [← hc6]; exact swA_n i e m (by omega)]; rw [hc7]; rfl
        have hR := q7.e
        rw [hF] at hR
        clear q0 q1 qv q2 q4 q5 q6 q7 hA hF
        rw [hvx] at hgn
        clear hvx hgg hc1 hc2 hc4 hc5 hc6 hc7
        subst hge
        unfold swF
        have ps_ := trivial
        repeat' (first | (refine zY.nil ?_) | (refine zZ.is ?_; first | refine zZ.seq ?_ | (refine zZ.isR (id := 9) ?_; refine zZ.rc [0, 1, 6, 7, 8, 9, 10, 11, 12, 13, 14, 15, 16, 43, 75, 128, 152] [9, 11, 17, 18, 25, 27, 32, 34, 37, 70, 80, 89, 98, 105, 112, 117, 133, 155, 156, 161, 174, 176, 178, 189, 194, 216, 224] (r := (.v zA (.v zA (.v v43_0 .e)))) (h := ?_)) | (refine zZ.isR (id := 11) ?_; refine zZ.rc [0, 1, 6, 7, 8, 9, 10, 11, 12, 13, 14, 15, 16, 43, 75, 128, 152] [9, 11, 17, 18, 25, 27, 32, 34, 37, 70, 80, 89, 98, 105, 112, 117, 133, 155, 156, 161, 174, 176, 178, 189, 194, 216, 224] (r := (.v zA (.v vQ (.v zM .e)))) (h := ?_)) | (refine zZ.isR (id := 12) ?_; refine zZ.rc [0, 1, 6, 7, 8, 9, 10, 11, 12, 13, 14, 15, 16, 43, 75, 128, 152] [9, 11, 17, 18, 25, 27, 32, 34, 37, 70, 80, 89, 98, 105, 112, 117, 133, 155, 156, 161, 174, 176, 178, 189, 194, 216, 224] (r := (.v zA (.v zA (.v v7_4 (.v v2_1 (.v v34_0 (.v qH (.v zM .e)))))))) (h := ?_)) | (refine zZ.isR (id := 13) ?_; refine zZ.rc [0, 1, 6, 7, 8, 9, 10, 11, 12, 13, 14, 15, 16, 43, 75, 128, 152] [9, 11, 17, 18, 25, 27, 32, 34, 37, 70, 80, 89, 98, 105, 112, 117, 133, 155, 156, 161, 174, 176, 178, 189, 194, 216, 224] (r := (.v zA (.v zA (.v v7_4 (.v v2_1 (.v v33_0 (.v v34_0 (.v qH (.v zM .e))))))))) (h := ?_)) | (refine zZ.isR (id := 14) ?_; refine zZ.rc [0, 1, 6, 7, 8, 9, 10, 11, 12, 13, 14, 15, 16, 43, 75, 128, 152] [9, 11, 17, 18, 25, 27, 32, 34, 37, 70, 80, 89, 98, 105, 112, 117, 133, 155, 156, 161, 174, 176, 178, 189, 194, 216, 224] (r := (.v zA (.v zA (.v v7_4 (.v v2_1 (.v v46_0 (.v zM .e))))))) (h := ?_)) | (refine zZ.isR (id := 15) ?_; refine zZ.rk [0, 1, 6, 7, 8, 9, 10, 11, 12, 13, 14, 15, 16, 43, 75, 128, 152] [9, 11, 17, 18, 25, 27, 32, 34, 37, 70, 80, 89, 98, 105, 112, 117, 133, 155, 156, 161, 174, 176, 178, 189, 194, 216, 224] ?_; refine zZ.draws ?_) | (refine zZ.isR (id := 16) ?_; refine zZ.rc [0, 1, 6, 7, 8, 9, 10, 11, 12, 13, 14, 15, 16, 43, 75, 128, 152] [9, 11, 17, 18, 25, 27, 32, 34, 37, 70, 80, 89, 98, 105, 112, 117, 133, 155, 156, 161, 174, 176, 178, 189, 194, 216, 224] (r := (.v zA .e)) (h := ?_)) | (refine zZ.isR (id := 17) ?_; refine zZ.rk [0, 1, 6, 7, 8, 9, 10, 11, 12, 13, 14, 15, 16, 43, 75, 128, 152] [9, 11, 17, 18, 25, 27, 32, 34, 37, 70, 80, 89, 98, 105, 112, 117, 133, 155, 156, 161, 174, 176, 178, 189, 194, 216, 224] ?_; refine zZ.draws ?_) | (refine zZ.isR (id := 18) ?_; refine zZ.rk [0, 1, 6, 7, 8, 9, 10, 11, 12, 13, 14, 15, 16, 43, 75, 128, 152] [9, 11, 17, 18, 25, 27, 32, 34, 37, 70, 80, 89, 98, 105, 112, 117, 133, 155, 156, 161, 174, 176, 178, 189, 194, 216, 224] ?_; refine zZ.draws ?_) | (refine zZ.isR (id := 19) ?_; refine zZ.rk [0, 1, 6, 7, 8, 9, 10, 11, 12, 13, 14, 15, 16, 43, 75, 128, 152] [9, 11, 17, 18, 25, 27, 32, 34, 37, 70, 80, 89, 98, 105, 112, 117, 133, 155, 156, 161, 174, 176, 178, 189, 194, 216, 224] ?_; refine zZ.draws ?_) | (refine zZ.isR (id := 20) ?_; refine zZ.rk [0, 1, 6, 7, 8, 9, 10, 11, 12, 13, 14, 15, 16, 43, 75, 128, 152] [9, 11, 17, 18, 25, 27, 32, 34, 37, 70, 80, 89, 98, 105, 112, 117, 133, 155, 156, 161, 174, 176, 178, 189, 194, 216, 224] ?_; refine zZ.draws ?_) | (refine zZ.isR (id := 21) ?_; refine zZ.rk [0, 1, 6, 7, 8, 9, 10, 11, 12, 13, 14, 15, 16, 43, 75, 128, 152] [9, 11, 17, 18, 25, 27, 32, 34, 37, 70, 80, 89, 98, 105, 112, 117, 133, 155, 156, 161, 174, 176, 178, 189, 194, 216, 224] ?_; refine zZ.draws ?_) | (refine zZ.isR (id := 22) ?_; refine zZ.rc [0, 1, 6, 7, 8, 9, 10, 11, 12, 13, 14, 15, 16, 43, 75, 128, 152] [9, 11, 17, 18, 25, 27, 32, 34, 37, 70, 80, 89, 98, 105, 112, 117, 133, 155, 156, 161, 174, 176, 178, 189, 194, 216, 224] (r := (.v zA (.v zA (.v v7_18 (.v v2_1 .e))))) (h := ?_)) | (refine zZ.isR (id := 23) ?_; refine zZ.rk [0, 1, 6, 7, 8, 9, 10, 11, 12, 13, 14, 15, 16, 43, 75, 128, 152] [9, 11, 17, 18, 25, 27, 32, 34, 37, 70, 80, 89, 98, 105, 112, 117, 133, 155, 156, 161, 174, 176, 178, 189, 194, 216, 224] ?_; refine zZ.draws ?_) | (refine zZ.isR (id := 24) ?_; refine zZ.rc [0, 1, 6, 7, 8, 9, 10, 11, 12, 13, 14, 15, 16, 43, 75, 128, 152] [9, 11, 17, 18, 25, 27, 32, 34, 37, 70, 80, 89, 98, 105, 112, 117, 133, 155, 156, 161, 174, 176, 178, 189, 194, 216, 224] (r := (.v zA (.v zA (.v v7_18 (.v v2_1 (.v v52_5 (.v zA (.gT (.gT (.gU (.gU (.gU (.gU (.gU (.gU (.gU (.gU (.gT (.v v5_1 .e))))))))))))))))))) (h := ?_)) | (refine zZ.isR (id := 10) ?_; refine zZ.rc [0, 1, 6, 7, 8, 9, 10, 11, 12, 13, 14, 15, 16, 43, 75, 128, 152] [9, 11, 17, 18, 25, 27, 32, 34, 37, 70, 80, 89, 98, 105, 112, 117, 133, 155, 156, 161, 174, 176, 178, 189, 194, 216, 224] (r := (.v zA (.v vQ (.v zM .e)))) (h := ?_)) | refine zZ.yS rfl bA ?_ | refine zZ.yT rfl bA ?_ | refine zZ.skip ?_ | refine zZ.block ?_) | refine zN.n ?_ | refine yK.n ?_ | (refine Draws.is ?_; first | refine Draws.rc (.v zA (.v qH (.v v32_0 (.v vE .e)))) ?_ | refine Draws.rc (.v zA (.v vE .e)) ?_ | refine Draws.rc (.v zA (.v v32_0 (.v qH (.v vE .e)))) ?_ | refine Draws.rc (.v yH (.v yH (.v v2_8 (.v zA .e)))) ?_ | refine Draws.rc (.v vE (.v v2_15 (.v zA (.v v32_0 (.v qH (.v vQ (.v vE .e))))))) ?_ | refine Draws.rc (.v vE .e) ?_ | (refine Draws.in_ [70, 80] rfl ?_; refine Draws.v rfl rfl (zP (c2) rfl rfl rfl (by decide)) ?_) | (refine Draws.in_ [89] rfl ?_; refine Draws.v rfl rfl (zP (c3) rfl rfl rfl (by decide)) ?_) | (refine Draws.in_ [98] rfl ?_; refine Draws.v rfl rfl (zP (c4) rfl rfl rfl (by decide)) ?_) | (refine Draws.in_ [105] rfl ?_; refine Draws.v rfl rfl (zP (c5) rfl rfl rfl (by decide)) ?_) | (refine Draws.in_ [112, 117] rfl ?_; refine Draws.v rfl rfl (zP (c6) rfl rfl rfl (by decide)) ?_) | (refine Draws.in_ [133] rfl ?_; refine Draws.v rfl rfl (zP (c7) rfl rfl rfl (by decide)) ?_) | refine Draws.done (by kernel_rfl) (by kernel_rfl) (by kernel_rfl) ?_) | (refine zI.is ?_; first | refine zI.nil ?_ | refine zI.rc (.w w24_1 .e) ?_))
        all_goals
          refine ⟨i + 1, ?_, by omega, by omega⟩
          show Sub _ (swF gs bs s (i + 1) (swAt gs bs (i + 1)) (y9 s gs bs (i + 1)))
          rw [hm1, hgn, hR]
          clear hm1 hgn hR
          try simp only [Bool.not_eq_eq_eq_not, Bool.not_true, Bool.not_false] at *
          simp only [*, Bool.not_true, Bool.not_false, Bool.true_and, Bool.false_and, Bool.true_or, Bool.false_or, Bool.or_false, Bool.or_true, cond_true, cond_false, Bool.not_eq_true', Bool.not_eq_false', List.append_nil]
          unfold swF
          try rw [← numsV_app]
          refine yE (is := [0, 1, 7, 8, 9, 10, 11, 12]) (js := [9, 37, 34]) ?_ ?_
          case refine_1 =>
            repeat' first | exact zX.nil | apply zX.p rfl | apply zX.ptr rfl | apply zX.own rfl | apply zX.clo rfl | apply zX.ifp rfl | apply zX.pt rfl | apply zX.tup rfl | apply zX.skip
          case refine_2 =>
            repeat' first | exact zW.nil | apply zW.boxP rfl rfl | apply zW.xX rfl | apply zW.some rfl | apply zW.skip
end Go.Proofs.YteadaggehndacaaDoor
/- The law ListSwept: its contract. -/
namespace Go.Proofs.YteadaggehndacaaDoor
set_option maxRecDepth 100000
set_option maxHeartbeats 16000000
open Go Go.RowKit
set_option linter.unusedSimpArgs false
set_option linter.unusedVariables false
attribute [local irreducible] zY zZ Step zV Sub zI zO Fn zN yK
theorem listSwept_fn (gs : List Int) (bs : List Bool) (k : Int) (hg : ∀ x ∈ gs, 0 ≤ x ∧ x < 256) (hl : gs.length ≤ maxLen) (hk : 0 ≤ k ∧ k < 256) : Fn Tryd.prog 4 [.sl (byts gs), .sl (bools bs), .val (.int .u8 k)] (.p (.val (.bool true))) := by
  by_cases h1 : gs.length ≤ 10 ∧ gs.length ≤ bs.length
  · exact listSwept_start gs bs k h1.1 h1.2 hk hg
  · have c0 := shown15_fn
    have fb : (bools bs).length = bs.length := bools_len bs
    by_cases h10 : gs.length ≤ 10
    case pos =>
      have f1 : decide ((10 : Int) < (gs.length : Nat)) = false := decide_eq_false (by omega)
      have f2 : decide (((bools bs).length : Int) < (gs.length : Nat)) = true := decide_eq_true (by rw [fb]; omega)
      refine yN Tryd.func4 rfl Tryd.ntmps4 (Nat.le_of_ble_eq_true rfl) ?_
      repeat' (first | (refine zY.is ?_; first | refine zY.nil ?_ | (refine zY.at_ 7 rfl ?_; refine zY.rc (.v zM .e) ?_) | (refine zY.in_ [25] rfl ?_; refine zY.v rfl rfl (zP (c0) rfl rfl rfl (by decide)) ?_)) | (refine zZ.is ?_; first | refine zZ.seq ?_ | (refine zZ.isR (id := 0) ?_; refine zZ.rc [0, 1, 2] [9, 11, 17, 18, 155] (r := (.v zM .e)) (h := ?_)) | (refine zZ.isR (id := 1) ?_; refine zZ.rc [0, 1, 2, 6] [9, 11, 17, 18, 155] (r := .e) (h := ?_)) | (refine zZ.isR (id := 2) ?_; refine zZ.rc [0, 1, 2, 6, 7] [9, 11, 17, 18, 155] (r := (.v zA (.v v57_0 (.v zM .e)))) (h := ?_)) | (refine zZ.isR (id := 3) ?_; refine zZ.rc [0, 1, 2, 6, 7, 8] [9, 11, 17, 18, 155] (r := (.v zA (.v v45_0 (.v zA (.gY zA (.gY v57_1 (.gY zA (.gY v43_0 (.v v5_1 .e))))))))) (h := ?_)) | (refine zZ.isR (id := 4) ?_; refine zZ.rc [0, 1, 2, 6, 7, 8] [9, 11, 17, 18, 155] (r := (.v zA (.v zM .e))) (h := ?_)) | refine zZ.yS rfl bA ?_ | refine zZ.ret ?_) | refine zN.n ?_ | refine zN.r ?_)
      all_goals exact ⟨by first | exact .inl rfl | exact .inr rfl, _, Sub.refl _, .p rfl (.tmp rfl)⟩
    case neg =>
      have f1 : decide ((10 : Int) < (gs.length : Nat)) = true := decide_eq_true (by omega)
      refine yN Tryd.func4 rfl Tryd.ntmps4 (Nat.le_of_ble_eq_true rfl) ?_
      repeat' (first | (refine zY.is ?_; first | refine zY.nil ?_ | (refine zY.at_ 7 rfl ?_; refine zY.rc (.v zM .e) ?_) | (refine zY.in_ [25] rfl ?_; refine zY.v rfl rfl (zP (c0) rfl rfl rfl (by decide)) ?_)) | (refine zZ.is ?_; first | refine zZ.seq ?_ | (refine zZ.isR (id := 0) ?_; refine zZ.rc [0, 1, 2] [9, 11, 17, 18, 155] (r := (.v zM .e)) (h := ?_)) | (refine zZ.isR (id := 1) ?_; refine zZ.rc [0, 1, 2, 6] [9, 11, 17, 18, 155] (r := .e) (h := ?_)) | (refine zZ.isR (id := 2) ?_; refine zZ.rc [0, 1, 2, 6, 7] [9, 11, 17, 18, 155] (r := (.v zA (.v v57_0 (.v zM .e)))) (h := ?_)) | (refine zZ.isR (id := 3) ?_; refine zZ.rc [0, 1, 2, 6, 7, 8] [9, 11, 17, 18, 155] (r := (.v zA (.v v45_0 (.v zA (.gF (.gF (.gF (.gF (.v vN .e))))))))) (h := ?_)) | (refine zZ.isR (id := 4) ?_; refine zZ.rc [0, 1, 2, 6, 7, 8] [9, 11, 17, 18, 155] (r := (.v zA (.v zM .e))) (h := ?_)) | refine zZ.yS rfl bA ?_ | refine zZ.ret ?_) | refine zN.n ?_ | refine zN.r ?_)
      all_goals exact ⟨by first | exact .inl rfl | exact .inr rfl, _, Sub.refl _, .p rfl (.tmp rfl)⟩
end Go.Proofs.YteadaggehndacaaDoor
/- A law's arguments, as they come in, by their shapes. Generic over the program. -/
namespace Go.Proofs.YteadaggehndacaaDoor
set_option maxRecDepth 100000
set_option maxHeartbeats 16000000
open Go Go.RowKit Go.ChangeShapes Go.WideShapes Go.ChangeAt
def NoM : Nat → Nat → Prop := fun _ _ => False
/-- what a cell may hold -/
inductive Leaf where
  | int (k : IntKind)
  | bool
  | any
deriving DecidableEq
def leafOK : Leaf → Value → Prop
  | .int k, v => ∃ n, v = .int k n ∧ (Lit.int k n).wf = true
  | .bool, v => ∃ b, v = .bool b
  | .any, v => v.oneCell' = true
/-- type t's cells, one behind the other, are of these kinds (any: a slice) -/
def flatB (P : Program) : Nat → TypeId → List Leaf → Bool
  | 0, _, _ => false
  | d + 1, t, ls => match P.underlying t with
    | some (.int k) => decide (ls = [.int k])
    | some .bool => decide (ls = [.bool])
    | some (.slice _) => decide (ls = [.any])
    | some (.struct fs) => (ls.length == P.cellsOf t) && (fs.toList.all fun f => flatB P d f.type ((ls.drop f.offset).take (P.cellsOf f.type)) && (((ls.drop f.offset).take (P.cellsOf f.type)).length == P.cellsOf f.type)) &&
      (List.range ls.length).all fun c => fs.toList.any fun f => decide (f.offset ≤ c) && decide (c < f.offset + P.cellsOf f.type)
    | _ => false
section
variable {H : Type} {enc : TypeId × Value → H} {P : Program} {W : World} {base : Nat} {spare : Nat → Bool} {held : Bool}
theorem flat_trod : ∀ (d : Nat) {t : TypeId} {ls : List Leaf}, flatB P d t ls = true → ∀ {fuel : Nat} {cs : List Value} {x : DataW H × List MemPlace}, DataW.trod enc P W base spare held fuel t cs = some x →
    cs.length = ls.length ∧ ∀ (i : Nat) l v, ls[i]? = some l → cs[i]? = some v → leafOK l v
  | 0, _, _, h, _, _, _, _ => by cases h
  | d + 1, t, ls, h, fuel, cs, x, hx => by
    unfold flatB at h
    cases hu : P.underlying t with
    | none => rw [hu] at h; cases h
    | some ds =>
      rw [hu] at h
      cases ds with
      | int k =>
        obtain rfl : ls = [.int k] := of_decide_eq_true h
        obtain ⟨n, rfl, _, hw⟩ := DataW.trod_int hu hx
        refine ⟨rfl, fun i l v hl hv => ?_⟩
        match i with
        | 0 => simp at hl hv; subst hl hv; exact ⟨n, rfl, hw⟩
        | i + 1 => simp at hl
      | bool =>
        obtain rfl : ls = [.bool] := of_decide_eq_true h
        obtain ⟨b, rfl, _⟩ := DataW.trod_bool hu hx
        refine ⟨rfl, fun i l v hl hv => ?_⟩
        match i with
        | 0 => simp at hl hv; subst hl hv; exact ⟨b, rfl⟩
        | i + 1 => simp at hl
      | slice e =>
        obtain rfl : ls = [.any] := of_decide_eq_true h
        have key : ∀ w : Value, w.oneCell' = true → cs = [w] → cs.length = [Leaf.any].length ∧ ∀ (i : Nat) l v, [Leaf.any][i]? = some l → cs[i]? = some v → leafOK l v := fun w hw e => by
          subst e
          refine ⟨rfl, fun i l v hl hv => ?_⟩
          match i with
          | 0 => simp at hl hv; subst hl hv; exact hw
          | i + 1 => simp at hl
        rcases DataW.trod_slice hu hx with ⟨e, _⟩ | ⟨a, len, cap, _, _, _, _, e, _⟩
        · exact key _ rfl e
        · exact key _ rfl e
      | struct fs =>
        simp only [Bool.and_eq_true, beq_iff_eq, List.all_eq_true, List.mem_range, List.any_eq_true, decide_eq_true_eq] at h
        obtain ⟨⟨hlen, hfs⟩, hcov⟩ := h
        obtain ⟨xs, n, _, _, hcl, hxl, hg⟩ := DataW.trod_struct hu hx
        refine ⟨by omega, fun i l v hl hv => ?_⟩
        have hil : i < ls.length := (List.getElem?_eq_some_iff.1 hl).1
        obtain ⟨f, hf, hf1, hf2⟩ := hcov i hil
        obtain ⟨hfl, hfn⟩ := hfs f hf
        obtain ⟨j, hj, hfj⟩ := List.getElem_of_mem hf
        have hfj2 : fs[j]? = some f := by
          rw [← hfj, Array.getElem_toList]
          exact Array.getElem?_eq_getElem _
        have h2 := hg j f hfj2
        have hjx : j < xs.length := by rw [hxl]; simpa using hj
        rw [List.getElem?_eq_getElem hjx] at h2
        obtain ⟨_, h3⟩ := flat_trod d hfl h2
        refine h3 (i - f.offset) l v ?_ ?_
        · rw [List.getElem?_take_of_lt (by omega), List.getElem?_drop, show f.offset + (i - f.offset) = i by omega]
          exact hl
        · rw [List.getElem?_take_of_lt (by omega), List.getElem?_drop, show f.offset + (i - f.offset) = i by omega]
          exact hv
      | _ => cases h
theorem has_block {r : Reach} {a : Addr} {e : TypeId} {n : Nat} (h : W.has P r base a e n) : a.spot = none ∧ a.block < W.heap.size := by
  obtain ⟨_, h1, row, cells, h2, _⟩ := h
  refine ⟨h1, ?_⟩
  unfold World.shape? at h2
  cases hb : W.heap[a.block]? with
  | none => rw [hb] at h2; cases h2
  | some o => exact (Array.getElem?_eq_some_iff.1 hb).1
theorem cell_slice {t e : TypeId} {a : Addr} {len cap : Nat} (ht : P.underlying t = some (.slice e)) (h : Cell.okWide P W .any base t (.slice (some a) len cap)) : a.spot = none ∧ a.block < W.heap.size ∧ len ≤ cap := by
  simp only [Cell.okWide, ht, Cell.ok] at h
  exact ⟨(has_block h.2.2).1, (has_block h.2.2).2, h.1⟩
theorem wide_slice {t e : TypeId} {a : Addr} {len cap : Nat} (ht : P.underlying t = some (.slice e)) (h : Value.okWide P W .any base t (.slice (some a) len cap)) : a.spot = none ∧ a.block < W.heap.size ∧ len ≤ cap :=
  cell_slice ht (by simpa only [Value.okWide, ht] using h)
theorem leaf_one {l : Leaf} {v : Value} (h : leafOK l v) : v.oneCell' = true := by
  cases l with
  | int k => obtain ⟨n, rfl, _⟩ := h; rfl
  | bool => obtain ⟨b, rfl⟩ := h; rfl
  | any => exact h
theorem flatten_len {n : Nat} : ∀ {rs : List (List Value)}, (∀ r ∈ rs, r.length = n) → rs.flatten.length = rs.length * n
  | [], _ => by simp
  | r :: rs, h => by
    rw [List.flatten_cons, List.length_append, h r (by simp), flatten_len fun x hx => h x (by simp [hx]), List.length_cons, Nat.add_mul]
    omega
theorem flatten_get {n : Nat} : ∀ {rs : List (List Value)}, (∀ r ∈ rs, r.length = n) → ∀ (i c : Nat), c < n → rs.flatten[i * n + c]? = (rs[i]?).bind (·[c]?)
  | [], _, i, c, _ => by simp
  | r :: rs, h, 0, c, hc => by
    rw [List.flatten_cons, Nat.zero_mul, Nat.zero_add, List.getElem?_append_left (by rw [h r (by simp)]; exact hc)]
    rfl
  | r :: rs, h, i + 1, c, hc => by
    have hr := h r (by simp)
    rw [List.flatten_cons, List.getElem?_append_right (by rw [hr, Nat.add_mul]; omega), hr]
    have e : (i + 1) * n + c - n = i * n + c := by rw [Nat.add_mul]; omega
    rw [e, flatten_get (fun x hx => h x (by simp [hx])) i c hc]
    rfl
/-- a slice of plain structs (of slices, as they are) that came in -/
theorem arg_rows {t e : TypeId} {ls : List Leaf} {dep : Nat} {v : Value} {fuel : Nat} {x : DataW H × List MemPlace} (ht : P.underlying t = some (.slice e)) (hfl : flatB P dep e ls = true) (hn : P.cellsOf e = ls.length)
    (hok : ∀ a len cap, v = .slice (some a) len cap → a.spot = none ∧ a.block < W.heap.size) (h : DataW.trod enc P W base (fun _ => true) held fuel t [v] = some x) :
    ∃ rows : List (List Value), (∀ r ∈ rows, r.length = ls.length ∧ ∀ (i : Nat) l u, ls[i]? = some l → r[i]? = some u → leafOK l u) ∧ rows.length ≤ maxLen ∧
      ∀ es : List PV, es.map PV.cells = rows.map (fun r => r.map PV.val) → Rep NoM W (.sl es) v := by
  rcases DataW.trod_slice ht h with ⟨hv, _⟩ | ⟨a, len, cap, elems, rest, n, _, hv, _, hb, hlc, hm, hlen, hel, _⟩
  · simp only [List.cons.injEq, and_true] at hv
    subst hv
    refine ⟨[], fun r hr => by simp at hr, Nat.zero_le _, fun es he => ?_⟩
    have : es = [] := by simpa using he
    subst this
    exact .nil
  · simp only [List.cons.injEq, and_true] at hv
    subst hv
    obtain ⟨hs, hbk⟩ := hok a len cap rfl
    obtain ⟨g, off, spot⟩ := a
    simp only at hs hbk
    subst hs
    have row : ∀ i, i < len → ∃ r : List Value, W.cells? base (Addr.add ⟨g, off, none⟩ (i * P.cellsOf e)) (P.cellsOf e) = some r ∧ r.length = ls.length ∧ ∀ (j : Nat) l u, ls[j]? = some l → r[j]? = some u → leafOK l u := by
      intro i hi
      have h1 := hel i hi
      rw [List.getElem?_eq_getElem (by omega : i < elems.length)] at h1
      obtain ⟨r, hr, h2⟩ := Option.bind_eq_some_iff.1 h1
      obtain ⟨h3, h4⟩ := flat_trod dep hfl h2
      exact ⟨r, hr, h3, h4⟩
    have rows : ∀ m, m ≤ len → ∃ rs : List (List Value), rs.length = m ∧ ∀ (i : Nat) r, rs[i]? = some r → W.cells? base (Addr.add ⟨g, off, none⟩ (i * P.cellsOf e)) (P.cellsOf e) = some r ∧ r.length = ls.length ∧ ∀ (j : Nat) l u, ls[j]? = some l → r[j]? = some u → leafOK l u := by
      intro m
      induction m with
      | zero => exact fun _ => ⟨[], rfl, fun i r h => by simp at h⟩
      | succ m ih =>
        intro hm2
        obtain ⟨rs, h1, h2⟩ := ih (by omega)
        obtain ⟨r, hr⟩ := row m (by omega)
        refine ⟨rs ++ [r], by simp [h1], fun i r' hi => ?_⟩
        rcases Nat.lt_or_ge i rs.length with h3 | h3
        · rw [List.getElem?_append_left h3] at hi
          exact h2 i r' hi
        · rw [List.getElem?_append_right h3] at hi
          have e0 : i - rs.length = 0 := by
            rcases Nat.eq_zero_or_pos (i - rs.length) with h | h
            · exact h
            · rw [List.getElem?_eq_none (by simp; omega)] at hi; cases hi
          rw [e0] at hi
          simp at hi
          subst hi
          rw [show i = m by omega]
          exact hr
    obtain ⟨rs, hrl, hrs⟩ := rows len (Nat.le_refl _)
    refine ⟨rs, fun r hr => ?_, by omega, fun es he => ?_⟩
    · obtain ⟨i, hi, rfl⟩ := List.getElem_of_mem hr
      exact (hrs i _ (List.getElem?_eq_getElem hi)).2
    · have hn0 : P.cellsOf e = ls.length := hn
      have hesl : es.length = rs.length := by simpa using congrArg List.length he
      have hflat : flat es = rs.flatten.map PV.val := by
        show es.flatMap PV.cells = _
        rw [List.flatMap_def, he, List.map_flatten]
      have hrn : ∀ r ∈ rs, r.length = ls.length := fun r hr => by
        obtain ⟨i, hi, rfl⟩ := List.getElem_of_mem hr
        exact (hrs i _ (List.getElem?_eq_getElem hi)).2.1
      have hyl : rs.flatten.length = rs.length * ls.length := flatten_len hrn
      have at_ : ∀ (j : Nat) y, rs.flatten[j]? = some y → ∃ i c r, j = i * ls.length + c ∧ rs[i]? = some r ∧ r[c]? = some y := fun j y hy => by
        have hj : j < rs.length * ls.length := by rw [← hyl]; exact (List.getElem?_eq_some_iff.1 hy).1
        have hpos : 0 < ls.length := by
          rcases Nat.eq_zero_or_pos ls.length with h | h
          · rw [h] at hj; omega
          · exact h
        have e1 : j = (j / ls.length) * ls.length + j % ls.length := by
          have := Nat.div_add_mod j ls.length
          rw [Nat.mul_comm] at this
          omega
        have hi : j / ls.length < rs.length := (Nat.div_lt_iff_lt_mul hpos).2 hj
        have hc : j % ls.length < ls.length := Nat.mod_lt _ hpos
        have h1 := flatten_get hrn (j / ls.length) (j % ls.length) hc
        rw [← e1, hy, List.getElem?_eq_getElem hi] at h1
        exact ⟨_, _, _, e1, List.getElem?_eq_getElem hi, h1.symm⟩
      refine .sl es g off len cap rs.flatten (by omega) (by rw [hflat, List.length_map]) (fun j y hy => ?_) (fun j c y hc hy => ?_) (fun y hy => ?_) (fun _ _ h => h) hbk hlc hm
      · obtain ⟨i, c, r, rfl, hr, hc⟩ := at_ j y hy
        have h1 := World.cells?_some (hrs i r hr).1
        have hcl : c < P.cellsOf e := by
          rw [hn0, ← (hrs i r hr).2.1]
          exact (List.getElem?_eq_some_iff.1 hc).1
        have h2 := h1.2.2 c hcl
        rw [hc, add_lit, add_lit, hn0, Nat.add_assoc] at h2
        exact h2
      · rw [hflat, List.getElem?_map, hy] at hc
        simp only [Option.map_some, Option.some.injEq] at hc
        subst hc
        exact .val _
      · obtain ⟨j, hj, rfl⟩ := List.getElem_of_mem hy
        obtain ⟨i, c, r, _, hr, hc⟩ := at_ j _ (List.getElem?_eq_getElem hj)
        have hcl : c < ls.length := by
          rw [← (hrs i r hr).2.1]
          exact (List.getElem?_eq_some_iff.1 hc).1
        exact leaf_one ((hrs i r hr).2.2 c _ _ (List.getElem?_eq_getElem hcl) hc)
end
end Go.Proofs.YteadaggehndacaaDoor
/- A law's call, by its contract; the table that the row lists; a world that fits. -/
namespace Go.Proofs.YteadaggehndacaaDoor
set_option maxRecDepth 100000
set_option maxHeartbeats 16000000
open Go Go.RowKit Go.ChangeShapes Go.WideShapes Go.ChangeAt
set_option linter.unusedVariables false
theorem ownT : ownKnob Tryd.prog.godebug = none := by kernel_rfl
theorem laidOutT : laidOutB Tryd.prog = true := by kernel_rfl
section
variable {P : Program} {W : World}
/-- A law's call, by its contract. -/
theorem Fn.law {f : FuncId} {args : List PV} (h : Fn P f args (.p (.val (.bool true)))) (hlay : Lays W) {vs : List Value} (hl : vs.length = args.length) (hr : ∀ (i : Nat) x v, args[i]? = some x → vs[i]? = some v → Rep NoM W x v) :
    Calls P f vs.toArray W fun e W' => e = .returned (.bool true) ∧ Below W.heap.size W W' :=
  (h NoM W vs ⟨hlay, fun _ _ _ h => h⟩ (fun _ _ h => h.elim) hl hr).mono fun e W' ⟨v, he, hv, hb⟩ => by
    cases hv
    exact ⟨he, hb⟩
theorem reps1 {M : Nat → Nat → Prop} {x0 : PV} {v0 : Value} (h0 : Rep M W x0 v0) : ∀ (i : Nat) x v, [x0][i]? = some x → [v0][i]? = some v → Rep M W x v := by
  intro i x v hx hv
  match i with
  | 0 => simp at hx hv; subst hx; subst hv; exact h0
  | i + 1 => simp at hx
theorem repsC {M : Nat → Nat → Prop} {x0 : PV} {v0 : Value} {xs : List PV} {vs : List Value} (h0 : Rep M W x0 v0) (h : ∀ (i : Nat) x v, xs[i]? = some x → vs[i]? = some v → Rep M W x v) : ∀ (i : Nat) x v, (x0 :: xs)[i]? = some x → (v0 :: vs)[i]? = some v → Rep M W x v := by
  intro i x v hx hv
  match i with
  | 0 => simp at hx hv; subst hx; subst hv; exact h0
  | i + 1 => exact h i x v (by simpa using hx) (by simpa using hv)
end
/-! ### The listed table -/
theorem gTbl : Tryd.prog.globalNamed "weald/crc.halves" = some 0 := by kernel_rfl
theorem tTbl : (Tryd.prog.globals[0]?).map (·.type) = some 161 := by kernel_rfl
def laidL : List (String × DataW Unit) := [("weald/crc.halves", Rows.laid_weald_crc_halves)]
theorem lays_of_laid {W : World} (h : laidMetH Tryd.prog laidL W) : Lays W := by
  rw [MakeChecks.laidMetH_plain _ _ _ (by kernel_rfl)] at h
  obtain ⟨ps, ⟨g0, t0, cs0, f0, p0, q0, hg0, ht0, hv0, hd0, _, _⟩, _⟩ := h
  obtain rfl := Option.some.inj (gTbl.symm.trans hg0)
  obtain rfl := Option.some.inj (tTbl.symm.trans ht0)
  have hcell := World.var?_cell hg0 hv0
  obtain ⟨xs, m1, _, hx1, hlen, hn, hel⟩ := DataW.trod_array Tryd.underlying161 hd0
  have c1 : Tryd.prog.cellsOf 155 = 1 := by kernel_rfl
  have c16 : Tryd.prog.cellsOf 161 = 16 := by kernel_rfl
  rw [c16] at hlen
  have hdat : Rows.laid_weald_crc_halves (H := Unit) = .agg (tbl0.map fun p => .lit (.int p.1 p.2)) := by kernel_rfl
  simp only [Prod.mk.injEq] at hx1
  have hxs : xs.map (·.1) = tbl0.map fun p => .lit (.int p.1 p.2) := by
    have := hx1.1
    rw [hdat] at this
    simpa using this.symm
  have hk : ∀ p ∈ tbl0, p.1 = .u32 := by decide +kernel
  intro g ys hg
  have hgy : g = 0 ∧ ys = tbl0 := by
    unfold seatTbl at hg
    split at hg
    · next h => exact ⟨h, (Option.some.inj hg).symm⟩
    · cases hg
  obtain ⟨rfl, rfl⟩ := hgy
  have at_ : ∀ (j : Nat) p, tbl0[j]? = some p → W.cell? ⟨0, j, none⟩ = some (.int p.1 p.2) := by
    intro j p hp
    have hj : j < 16 := (List.getElem?_eq_some_iff.1 hp).1
    have h1 := hel j hj
    have hxj : xs[j]? = some xs[j] := List.getElem?_eq_getElem (by omega)
    rw [hxj, c1, Nat.mul_one] at h1
    obtain ⟨k, e1, e2, _⟩ := DataW.trod_int Tryd.underlying155 h1
    have h3 : (xs.map (·.1))[j]? = some (.lit (.int .u32 k)) := by rw [List.getElem?_map, hxj, e2]; rfl
    rw [hxs, List.getElem?_map, hp] at h3
    simp only [Option.map_some, Option.some.injEq, DataW.lit.injEq, Lit.int.injEq] at h3
    obtain ⟨h4, h5⟩ := h3
    have h6 : cs0[j]? = some (.int .u32 k) := by
      have : (cs0.toList.drop j).take 1 = [cs0.toList[j]'(by rw [hlen]; exact hj)] := by
        rw [List.drop_eq_getElem_cons (by rw [hlen]; exact hj)]
        rfl
      rw [this] at e1
      simp only [List.cons.injEq, and_true] at e1
      rw [← e1]
      simp [Array.getElem?_eq_getElem (show j < cs0.size by simpa using (by rw [hlen]; exact hj : j < cs0.toList.length))]
    rw [hcell j, h6, h4, h5]
  refine ⟨?_, at_⟩
  have h0 := at_ 0 _ rfl
  unfold World.cell? at h0
  cases hh : W.heap[0]? with
  | none => rw [hh] at h0; cases h0
  | some o => exact (Array.getElem?_eq_some_iff.1 hh).1
/-- The door's own heap fits. -/
theorem door_met (os : Os) (args : Array Value) : laidMetH Tryd.prog laidL ((World.doorLaid Tryd.prog 400 os).forCall (fun _ _ => 0) ⟨#[], args, []⟩).memory :=
  laidMetH_of_parts3 (fuel := 8) (laidMet_of_run' 8 (by kernel_rfl) (by kernel_rfl)) (by kernel_rfl) (by kernel_rfl)
end Go.Proofs.YteadaggehndacaaDoor
/- Arguments: rows of truth values, and of bytes. Generic over the program. -/
namespace Go.Proofs.YteadaggehndacaaDoor
set_option maxRecDepth 100000
set_option maxHeartbeats 16000000
open Go Go.RowKit Go.ChangeShapes Go.WideShapes Go.ChangeAt
set_option linter.unusedVariables false
section
variable {P : Program} {W : World} {H : Type} {enc : TypeId × Value → H}
theorem arg_one {t e : TypeId} {l : Leaf} {v : Value} {d : DataW H} {p : List MemPlace} {base : Nat} (ht : P.underlying t = some (.slice e)) (hfl : flatB P 3 e [l] = true) (hn : P.cellsOf e = 1) (hv : Value.okWide P W .any base t v)
    (h : DataW.Trod enc P W 0 (fun _ => true) true t v d p) : ∃ xs : List Value, (∀ x ∈ xs, leafOK l x) ∧ xs.length ≤ maxLen ∧ Rep NoM W (.sl (xs.map PV.val)) v := by
  obtain ⟨a, len, cap, rfl⟩ := okWide_slice ht hv
  obtain ⟨fuel, hf⟩ := h
  have hf' : DataW.trod enc P W 0 (fun _ => true) true fuel t [Value.slice a len cap] = some (d, p) := hf
  obtain ⟨rows, h1, h2, h3⟩ := arg_rows (ls := [l]) ht hfl hn (fun a' len' cap' e' => by
    injection e' with e1 e2 e3
    subst e1 e2 e3
    have := wide_slice ht hv
    exact ⟨this.1, this.2.1⟩) hf'
  have hr : ∀ r ∈ rows, ∃ x, r = [x] ∧ leafOK l x := fun r hr => by
    obtain ⟨hl, hx⟩ := h1 r hr
    match r, hl with
    | [x], _ => exact ⟨x, rfl, hx 0 l x rfl rfl⟩
  refine ⟨rows.flatten, fun x hx => ?_, ?_, h3 _ ?_⟩
  · obtain ⟨r, h4, h5⟩ := List.mem_flatten.1 hx
    obtain ⟨y, rfl, h6⟩ := hr r h4
    simp at h5; subst h5; exact h6
  · have : rows.flatten.length = rows.length * 1 := flatten_len fun r h => (h1 r h).1
    omega
  · clear h3 h2 h1 hf hf'
    induction rows with
    | nil => rfl
    | cons r rs ih =>
      obtain ⟨y, rfl, _⟩ := hr r (by simp)
      have := ih fun r h => hr r (by simp [h])
      show (PV.val y).cells :: (rs.flatten.map PV.val).map PV.cells = [PV.val y] :: rs.map fun r => r.map PV.val
      rw [this]
      rfl
theorem arg_bools {t e : TypeId} {v : Value} {d : DataW H} {p : List MemPlace} {base : Nat} (ht : P.underlying t = some (.slice e)) (hfl : flatB P 3 e [.bool] = true) (hn : P.cellsOf e = 1) (hv : Value.okWide P W .any base t v)
    (h : DataW.Trod enc P W 0 (fun _ => true) true t v d p) : ∃ l : List Bool, Rep NoM W (.sl (l.map fun b => .val (.bool b))) v := by
  obtain ⟨xs, h1, h2, h3⟩ := arg_one ht hfl hn hv h
  suffices ∃ l : List Bool, xs = l.map Value.bool by
    obtain ⟨l, rfl⟩ := this
    exact ⟨l, by rw [List.map_map] at h3; exact h3⟩
  clear h3 h2
  induction xs with
  | nil => exact ⟨[], rfl⟩
  | cons x r ih =>
    obtain ⟨b, rfl⟩ := h1 x (by simp)
    obtain ⟨l, rfl⟩ := ih fun y hy => h1 y (by simp [hy])
    exact ⟨b :: l, rfl⟩
theorem arg_u8s {t e : TypeId} {v : Value} {d : DataW H} {p : List MemPlace} {base : Nat} (ht : P.underlying t = some (.slice e)) (hfl : flatB P 3 e [.int .u8] = true) (hn : P.cellsOf e = 1) (hv : Value.okWide P W .any base t v)
    (h : DataW.Trod enc P W 0 (fun _ => true) true t v d p) : ∃ l : List Int, Rep NoM W (.sl (byts l)) v ∧ (∀ x ∈ l, 0 ≤ x ∧ x < 256) ∧ l.length ≤ maxLen := by
  obtain ⟨xs, h1, h2, h3⟩ := arg_one ht hfl hn hv h
  suffices ∃ l : List Int, xs = l.map (Value.int .u8) ∧ ∀ x ∈ l, 0 ≤ x ∧ x < 256 by
    obtain ⟨l, rfl, h4⟩ := this
    exact ⟨l, by rw [List.map_map] at h3; exact h3, h4, by simpa using h2⟩
  clear h3 h2
  induction xs with
  | nil => exact ⟨[], rfl, fun x hx => by simp at hx⟩
  | cons x r ih =>
    obtain ⟨b, rfl, hb⟩ := h1 x (by simp)
    obtain ⟨l, rfl, hl⟩ := ih fun y hy => h1 y (by simp [hy])
    refine ⟨b :: l, rfl, fun y hy => ?_⟩
    rcases List.mem_cons.1 hy with rfl | hy
    · have := bounds_u8 hb
      omega
    · exact hl y hy
end
end Go.Proofs.YteadaggehndacaaDoor
/- For every input ListSwept returns true, and leaves its arguments as they were; tied: Rows.ListSweptCardSaid. Conditions: none beyond the given statement's own. -/
namespace Go.Proofs.YteadaggehndacaaDoor
set_option maxRecDepth 100000
set_option maxHeartbeats 16000000
open Go Go.RowKit Go.ChangeShapes Go.WideShapes Go.ChangeAt
set_option linter.unusedVariables false
theorem listSwept_lifted (os : Os) (started : os.Started) (H : Type) (enc : TypeId × Value → H) :
    ReturnsInHanded {} Tryd.checked os 4 .any (fun w args => (Rows.listSweptSpec.pre enc Tryd.prog Tryd.f4 [] false w args ∧ laidMetH Tryd.prog laidL w) ∧ sizedMet enc Tryd.prog Tryd.f4 (OpenSpec.ofChange Rows.listSweptSpec) false w args)
      (Rows.listSweptSpec.post enc Tryd.prog Tryd.f4 false true false false) := by
  refine returnsInHanded_of_change_and (C := Tryd.checked) (X := fun w _ => laidMetH Tryd.prog laidL w) (fun _ _ _ hh h => h.of_heap hh) ownT started (by kernel_rfl) Tryd.func4
    (ChangeSpec.witness_shaped (enc := enc) (C := Tryd.checked) (os := os) (X := fun w _ => laidMetH Tryd.prog laidL w) false (World.doorLaid Tryd.prog 400 os) #[.slice none 0 0, .slice none 0 0, .int .u8 0] 8 rfl (World.shaped_of_RefB (by kernel_rfl) (by kernel_rfl)) (by kernel_rfl) (by kernel_rfl) (by kernel_rfl) (door_met os _)) ?_
  intro W base args ds gs before hval0 hW hcnd hwt hL _
  have hval : ∀ (j : Nat) t v, Tryd.f4.params[j]? = some t → args[j]? = some v → Value.okWide Tryd.prog W .any base t v := hval0
  have hW' := hW
  obtain ⟨p, q, hA0, hV, rfl, hfz, hnd⟩ := hW
  have hA : DataW.TrodAll enc Tryd.prog W 0 (fun _ => true) true Tryd.f4.params.toList args.toList ds p := hA0
  rw [Tryd.params4] at hA hval
  obtain ⟨v0, vs0, d0, ds0, p0, q0, hargs, rfl, rfl, h0, r0⟩ := trodAll_cons hA
  obtain ⟨v1, vs1, d1, ds1, p1, q1, rfl, rfl, rfl, h1, r1⟩ := trodAll_cons r0
  obtain ⟨v2, vs2, d2, ds2, p2, q2, rfl, rfl, rfl, h2, r2⟩ := trodAll_cons r1
  obtain ⟨rfl, rfl, rfl⟩ := trodAll_nil r2
  obtain rfl : args = #[v0, v1, v2] := by cases args; simp_all
  obtain ⟨rfl, rfl⟩ := trodVars_none hV
  have lt0 : ∀ x ∈ p0, x.block < W.heap.size := by obtain ⟨m, hm⟩ := h0; exact DataW.trod_lt m _ _ _ hm
  have lt1 : ∀ x ∈ p1, x.block < W.heap.size := by obtain ⟨m, hm⟩ := h1; exact DataW.trod_lt m _ _ _ hm
  have lt2 : ∀ x ∈ p2, x.block < W.heap.size := by obtain ⟨m, hm⟩ := h2; exact DataW.trod_lt m _ _ _ hm
  have o0 := hval 0 22 v0 rfl rfl
  obtain ⟨a0, rp0, g0, l0⟩ := arg_u8s Tryd.underlying22 (by kernel_rfl) (by kernel_rfl) o0 h0
  have o1 := hval 1 47 v1 rfl rfl
  obtain ⟨a1, rp1⟩ := arg_bools Tryd.underlying47 (by kernel_rfl) (by kernel_rfl) o1 h1
  have o2 := hval 2 5 v2 rfl rfl
  obtain ⟨a2, e2, _, _, wf2⟩ := open_int Tryd.underlying5 o2 h2
  have rp2 : Rep NoM W (.val (.int .u8 a2)) v2 := e2 ▸ .val _
  have g2 := bounds_u8 wf2
  clear hA0 hval0
  refine ((listSwept_fn a0 a1 a2 g0 l0 (by omega)).law (lays_of_laid hL) (vs := [v0, v1, v2]) rfl (repsC rp0 (repsC rp1 (reps1 rp2)))).mono fun e W' ⟨he, bel⟩ => ?_
  subst he
  exact ⟨_, rfl, _, _, _, [], _, [], hW', trodAll_mk1 (shut_bool Tryd.underlying4 _), (trodAll_cons_mk (Below.trod laidOutT (by kernel_rfl) (of_decide_eq_true (by kernel_rfl)) h0 bel lt0) (trodAll_cons_mk (Below.trod laidOutT (by kernel_rfl) (of_decide_eq_true (by kernel_rfl)) h1 bel lt1) (trodAll_cons_mk (Below.trod laidOutT (by kernel_rfl) (of_decide_eq_true (by kernel_rfl)) h2 bel lt2) trodAll_mk0))), rfl, bel.frame _, fun h => by cases h⟩
theorem listSwept_holds : Rows.ListSweptSaid :=
  OpenClaim.holds_of_wide 4 Tryd.f4 rfl rfl rfl rfl rfl rfl rfl ⟨rfl, rfl, rfl, rfl, rfl⟩ rfl rfl rfl rfl rfl (by kernel_rfl) Tryd.func4 (by kernel_rfl)
    (of_decide_eq_true (by kernel_rfl)) (by unfold Func.isWrapper; first | (rw [if_pos (by decide +kernel)]; kernel_rfl) | (rw [if_neg (by decide +kernel)]; exact ⟨rfl, rfl⟩))
    (fun os started H enc _ => listSwept_lifted os started H enc)
theorem listSweptCard_holds : Rows.ListSweptCardSaid :=
  Claim7.holds_tied_plain_at .later [] [.data] true _ true
    listSwept_holds (fun _ h => by cases h) (by kernel_rfl) (fun _ h => by cases h) listSwept_row_tie rfl ⟨rfl, rfl⟩ (by kernel_rfl) rfl
    (fun f fn hf hfn => by
      obtain rfl : f = 4 := Option.some.inj ((show Tryd.prog.funcNamed "weald/wealdlaw15.ListSwept" = some 4 by kernel_rfl).symm.trans hf) |>.symm
      obtain rfl : fn = Tryd.f4 := (Option.some.inj (Tryd.func4.symm.trans hfn)).symm
      exact ⟨by kernel_rfl, fun j t ht => by
        rw [Tryd.params4] at ht
        have hm : t ∈ [22, 47, 5] := by simpa using Array.mem_of_getElem? ht
        have hall : ([22, 47, 5].all fun u => !Tryd.prog.wantsStandIn u) = true := by kernel_rfl
        exact (show Tryd.prog.wantsStandIn t = false by simpa using List.all_eq_true.1 hall t hm)⟩)
    (by kernel_rfl)
#print axioms listSweptCard_holds
end Go.Proofs.YteadaggehndacaaDoor
