/- For every input ListDirect returns true, and leaves its arguments as they were; tied: Rows.ListDirectCardSaid. Conditions: none beyond the given statement's own. (Part 7 of 8.) -/
import Derived.Test.YteadaggehndacaaDoorLd6
/- New worlds (reference), that their callers may write into: contracts. -/
namespace Go.Proofs.YteadaggehndacaaDoor
set_option maxRecDepth 100000
set_option maxHeartbeats 16000000
open Go Go.RowKit
set_option linter.unusedSimpArgs false
attribute [local irreducible] zY zZ Step zQ Sub zM zP Fn
/-- the free list's words -/
def freeW (t : Nat) : Nat → List Int → List Int
  | 0, l => l
  | k + 1, l => (freeW t k l).set (8 + t + 8 * k + 7) ((k : Int) + 2)
theorem freeW_len (t : Nat) (l : List Int) : ∀ k, (freeW t k l).length = l.length
  | 0 => rfl
  | k + 1 => by rw [freeW, List.length_set, freeW_len t l k]
def newW (t c : Nat) : List Int := freeW t (c - 1) ((List.replicate (8 + t + 8 * c) 0).set 1 1)
def newS (t c : Nat) (k : Nat) : AS :=
  { t := [(0, .p (.val (.int .i64 (t : Nat)))), (1, .p (.val (.int .i64 (c : Nat)))), (4, .ptr 4 0), (5, .p (.val (.int .i64 0))), (6, .ptr 6 0), (7, .p (.val (.int .i64 ((k + 1 : Nat) : Int))))],
    s := [(4, .box 26 ([.val (.int .i64 0), .val (.int .i64 0), .val (.slice none 0 0)].map AV.p)), (6, .box 26 [.p (.val (.int .i64 (t : Nat))), .p (.val (.int .i64 (c : Nat))), .own 30]), (30, yS 27 1 (wds (freeW t k ((List.replicate (8 + t + 8 * c) 0).set 1 1))))] }
theorem new9A_fn (t c : Nat) (h1 : 1 ≤ t) (h64 : t ≤ 64) (hc1 : 1 ≤ c) (hc : c ≤ 65536) : FnAg Tryd.prog 23 [.val (.int .i64 t), .val (.int .i64 c)] [.p (.val (.int .i64 t)), .p (.val (.int .i64 c)), .o 0] 27 1 (wds (newW t c)) (some (.int .i64 0)) := by
  have g1 : decide ((t : Int) < 1) = false := decide_eq_false (by omega)
  have g2 : decide ((64 : Int) < t) = false := decide_eq_false (by omega)
  have f1 : decide ((c : Int) < 0) = false := decide_eq_false (by omega)
  have f2 : decide ((65536 : Int) < c) = false := decide_eq_false (by omega)
  have g3 : (8 + t + 8 * c) * 1 ≤ 16777216 ∧ 8 * (8 + t + 8 * c) ≤ 281474976710656 ∧ 8 + t + 8 * c ≤ maxLen := by simp only [maxLen]; omega
  have g4 : IntKind.i64.wrap (8 + (t : Int)) = 8 + (t : Int) := wrap_i64 _ (by omega)
  have g4b : IntKind.i64.wrap (8 * (c : Int)) = 8 * (c : Int) := wrap_i64 _ (by omega)
  have g5 : IntKind.i64.wrap (8 + (t : Int) + 8 * (c : Int)) = ((8 + t + 8 * c : Nat) : Int) := by rw [wrap_i64 _ (by omega)]; omega
  have g6 : ∀ e ∈ List.replicate (8 + t + 8 * c) (PV.val (.int .u64 0)), e.cells.length = 1 := fun e he => by rw [List.eq_of_mem_replicate he]; rfl
  have g7 : (0 : Int) ≤ 1 ∧ (1 : Int) < (List.replicate (8 + t + 8 * c) (PV.val (.int .u64 0))).length := by simp; omega
  have g8 : (1 : Int).toNat < (List.replicate (8 + t + 8 * c) (PV.val (.int .u64 0))).length := by simp; omega
  have g9 : decide ((0 : Int) < c) = true := decide_eq_true (by omega)
  refine fn_ofAg Tryd.func23 rfl Tryd.ntmps23 (Nat.le_of_ble_eq_true rfl) ?_
  repeat' (first | (refine zY.at_ 31 rfl ?_; refine zY.v rfl rfl (w_buildAg 30 rfl (by rfl) (by rfl) rfl rfl (by rfl) (by rfl) rfl (by decide)) ?_) | (refine zY.is ?_; first | refine zY.nil ?_ | (refine zY.at_ 6 rfl ?_; refine zY.rc (.m yD (.w yZ .e)) ?_)) | (refine zZ.is ?_; first | refine zZ.seq ?_ | (refine zZ.isR (id := 0) ?_; refine zZ.rc [0, 1] [4, 6, 30] (r := (.m yD (.v zO .e))) (h := ?_)) | (refine zZ.isR (id := 1) ?_; refine zZ.rc [0, 1, 4, 5] [4, 6, 30] (r := (.v zB (.v v43_0 (.v zB (.gY zB (.gY v45_0 (.v xL (.v zB (.gY zB (.gY v43_0 (.v xL (.v zB (.gY zB (.gY v45_0 (.v xL .e))))))))))))))) (h := ?_)) | (refine zZ.isR (id := 3) ?_; refine zZ.rc [0, 1, 4, 5] [4, 6, 30] (r := (.v zB (.v zB (.v zB (.v vL (.v zB (.v v32_0 (.v vL (.m m21_0 .e))))))))) (h := ?_)) | (refine zZ.isR (id := 4) ?_; refine zZ.rc [0, 1, 4, 5, 6] [4, 6, 30] (r := (.v zB (.v v45_0 .e))) (h := ?_)) | (refine zZ.isR (id := 5) ?_; refine zZ.rc [0, 1, 4, 5, 6] [4, 6, 30] (r := (.v yI (.v v2_8 (.v v7_38 (.w w24_1 .e))))) (h := ?_)) | (refine zZ.isR (id := 6) ?_; refine zZ.rc [0, 1, 4, 5, 6] [4, 6, 30] (r := (.v zO .e)) (h := ?_)) | refine zZ.xV rfl bA ?_ | refine zZ.y9 rfl bA ?_ | refine zZ.skip ?_ | refine zZ.block ?_))
  refine zZ.loop (newS t c) (fun k => k + 1 ≤ c) (fun k => c - k) 0 ?h0 (by omega) ?rd
  case h0 =>
    have e0 : wds (freeW t 0 ((List.replicate (8 + t + 8 * c) 0).set 1 1)) = (List.replicate (8 + t + 8 * c) (PV.val (.int .u64 0))).set (1 : Int).toNat (.val (.int .u64 1)) := by simp [wds, freeW, List.map_set]
    unfold newS
    rw [e0]
    exact y8 K_1m K_1n
  case rd =>
    rintro k hk
    have hfl : (freeW t k ((List.replicate (8 + t + 8 * c) 0).set 1 1)).length = 8 + t + 8 * c := by rw [freeW_len]; simp
    unfold newS
    by_cases hkc : k + 1 < c
    case pos =>
      have f3 : decide (((k + 1 : Nat) : Int) < c) = true := decide_eq_true (by omega)
      have c3 : Fn Tryd.prog 10 [.val (.int .i64 (t : Nat)), .val (.int .i64 ((k + 1 : Nat) : Int)), .val (.int .i64 7)] (.p (.val (.int .i64 ((8 + t + 8 * k + 7 : Nat) : Int)))) := by
        have h := qR t ((k + 1 : Nat) : Int) 7 (by unfold Small; omega) (by omega) (by unfold Small; omega)
        have e : zG t ((k + 1 : Nat) : Int) 7 = ((8 + t + 8 * k + 7 : Nat) : Int) := by unfold zG; omega
        rw [← e]; exact h
      have g10 : IntKind.i64.wrap (((k + 1 : Nat) : Int) + 1) = ((k + 2 : Nat) : Int) := by rw [wrap_i64 _ (by omega)]; omega
      have g11 : IntKind.u64.wrap ((k + 2 : Nat) : Int) = (k : Int) + 2 := by rw [wrap_u64 _ (by omega)]; omega
      have g12 := q8 (freeW t k ((List.replicate (8 + t + 8 * c) 0).set 1 1))
      have g13 : (0 : Int) ≤ ((8 + t + 8 * k + 7 : Nat) : Int) ∧ ((8 + t + 8 * k + 7 : Nat) : Int) < (wds (freeW t k ((List.replicate (8 + t + 8 * c) 0).set 1 1))).length := by rw [vF, hfl]; omega
      have g14 : ((8 + t + 8 * k + 7 : Nat) : Int).toNat < (wds (freeW t k ((List.replicate (8 + t + 8 * c) 0).set 1 1))).length := by rw [vF, hfl]; omega
      repeat' (first | (refine zY.nil ?_) | (refine zZ.is ?_; first | refine zZ.seq ?_ | (refine zZ.isR (id := 7) ?_; refine zZ.rc [0, 1, 4, 5, 6, 7, 39] [4, 6, 30] (r := (.v zB (.v zB (.v v43_0 .e)))) (h := ?_)) | (refine zZ.isR (id := 9) ?_; refine zZ.rk [0, 1, 4, 5, 6, 7, 39] [4, 6, 30] ?_; refine zZ.draws ?_) | (refine zZ.isR (id := 8) ?_; refine zZ.rc [0, 1, 4, 5, 6, 7, 39] [4, 6, 30] (r := (.v zB (.v vL (.v zO .e)))) (h := ?_)) | refine zZ.xV rfl bA ?_ | refine zZ.skip ?_ | refine zZ.block ?_) | refine zS.n ?_ | (refine Draws.is ?_; first | refine Draws.rc (.v zB (.v vL (.v kQ (.v v7_38 .e)))) ?_ | refine Draws.rc (.v yI (.v v2_8 (.v zB (.v zB .e)))) ?_ | (refine Draws.in_ [46] rfl ?_; refine Draws.v rfl rfl (yY (c3) rfl rfl rfl (by decide)) ?_) | refine Draws.done (by kernel_rfl) (by kernel_rfl) (by kernel_rfl) ?_) | (refine zM.is ?_; first | refine zM.nil ?_ | refine zM.rc (.w w24_1 .e) ?_))
      refine ⟨k + 1, ?_, by omega, by omega⟩
      have e1 : wds (freeW t (k + 1) ((List.replicate (8 + t + 8 * c) 0).set 1 1)) = (wds (freeW t k ((List.replicate (8 + t + 8 * c) 0).set 1 1))).set ((8 + t + 8 * k + 7 : Nat) : Int).toNat (.val (.int .u64 ((k : Int) + 2))) := by rw [wds_set, Int.toNat_natCast]; rfl
      show Sub _ (newS t c (k + 1))
      unfold newS
      rw [e1]
      exact y8 K_1m K_1n
    case neg =>
      obtain rfl : k = c - 1 := by omega
      have f3 : decide (((c - 1 + 1 : Nat) : Int) < c) = false := decide_eq_false (by omega)
      repeat' (first | (refine zY.nil ?_) | (refine zZ.is ?_; first | refine zZ.seq ?_ | (refine zZ.isR (id := 7) ?_; refine zZ.rc [0, 1, 4, 5, 6, 7, 39] [4, 6, 30] (r := (.v zB (.v zB (.v v43_0 .e)))) (h := ?_)) | (refine zZ.isR (id := 10) ?_; refine zZ.rc [4, 5, 6] [4, 6, 30] (r := (.v v2_19 (.w yZ (.v zO .e)))) (h := ?_)) | refine zZ.y9 rfl bA ?_ | refine zZ.exit ?_ | refine zZ.ret ?_))
      all_goals exact ⟨by first | exact .inl rfl | exact .inr rfl, .two (k := 30) rfl rfl rfl (by rfl) (by rfl) rfl rfl⟩
theorem new10A_fn (t c : Nat) (h1 : 1 ≤ t) (h64 : t ≤ 64) (hc1 : 1 ≤ c) (hc : c ≤ 65536) : FnAg Tryd.prog 8 [.val (.int .i64 t), .val (.int .i64 c)] ([.p (.val (.int .i64 t)), .p (.val (.int .i64 c)), .o 0] ++ (w9 0 (List.replicate t ([], 0)) (List.replicate t ([], 0))).cells.map .p) 27 1 (wds (newW t c)) none := by
  have c1 := new9A_fn t c h1 h64 hc1 hc
  have c2 := new7_fn t h1 h64
  refine fn_ofAg Tryd.func8 rfl Tryd.ntmps8 (Nat.le_of_ble_eq_true rfl) ?_
  repeat' (first | (refine zY.is ?_; first | refine zY.nil ?_ | (refine zY.at_ 15 rfl ?_; refine zY.rc (.v vX (.v yF (.v yF (.m yD (.w yZ (.v zO .e)))))) ?_) | (refine zY.at_ 9 rfl ?_; refine zY.rc (.v vX (.v v9_2 (.v yF (.m yD (.w yZ (.v zO .e)))))) ?_) | (refine zY.in_ [17] rfl ?_; refine zY.v rfl rfl (yP (c2) rfl rfl rfl (by decide)) ?_) | (refine zY.in_ [12] rfl ?_; refine zY.m rfl rfl (w_callAg c1 rfl rfl rfl (by decide)) ?_)) | (refine zZ.is ?_; first | refine zZ.seq ?_ | (refine zZ.isR (id := 0) ?_; refine zZ.rc [0, 1] [4, 5, 7, 12, 17] (r := (.m yD .e)) (h := ?_)) | (refine zZ.isR (id := 1) ?_; refine zZ.rc [0, 1, 4] [4, 5, 7, 12, 17] (r := (.v zB (.v zB .e))) (h := ?_)) | (refine zZ.isR (id := 2) ?_; refine zZ.rc [0, 4, 5] [4, 5, 7, 12, 17] (r := (.v zB .e)) (h := ?_)) | (refine zZ.isR (id := 3) ?_; refine zZ.rc [4, 5, 7] [4, 5, 7, 12, 17] (r := (.v v2_19 (.v xI (.v v10_2 (.w yZ .e))))) (h := ?_)) | refine zZ.ret ?_))
  all_goals exact ⟨by first | exact .inl rfl | exact .inr rfl, .one (k := 12) rfl rfl rfl (by rfl) (by rfl) rfl⟩
end Go.Proofs.YteadaggehndacaaDoor
/- The list's example: by evaluation, and its contracts. -/
namespace Go.Proofs.YteadaggehndacaaDoor
set_option maxRecDepth 100000
set_option maxHeartbeats 16000000
open Go Go.RowKit
set_option linter.unusedSimpArgs false
theorem run_keeps {α : Type} {good : α → Prop} {me : Nat} {f : Nat → Bool} : ∀ {p : Pr α} {n b i j : Nat} {W W' : Wd} {x : α}, p.xP good n → WdOK b W → p.run (wSt me f) (W, i) = .done x (W', j) →
    i ≤ j ∧ WdOK (b + 1000 * (j - i)) W' ∧ W'.t = W.t ∧ W'.c = W.c ∧ W'.r0.length = W.r0.length ∧ W'.ws.length = W.ws.length ∧ good x
  | .ret _, n, b, i, j, W, W', x, hf, h, hr => by
    rw [zL] at hr
    injection hr with e1 e2
    injection e2 with e2 e3
    subst e1 e2 e3
    exact ⟨Nat.le_refl _, h.le (by omega), rfl, rfl, rfl, rfl, hf⟩
  | .stuck, _, _, _, _, _, _, _, _, _, hr => by cases hr
  | .ask q k, n, b, i, j, W, W', x, hf, h, hr => by
    rw [wT] at hr
    have hr2 : (k (doX W me q (f i)).2).run (wSt me f) ((doX W me q (f i)).1, i + 1) = .done x (W', j) := hr
    obtain ⟨h1, h2⟩ := doX_ok h hf.1 me (f i)
    obtain ⟨k1, k2, k3, k4, _⟩ := doX_keeps W me q (f i)
    obtain ⟨a1, a2, a3, a4, a5, a6, a7⟩ := run_keeps (hf.2 _ h2) h1 hr2
    exact ⟨by omega, a2.le (by omega), a3.trans k1, a4.trans k2, a5.trans k3, a6.trans k4, a7⟩
def wd0 : Wd := ⟨0, 0, [], 0, [], []⟩
structure ResN where
  o : OutN
  W : Wd
  m : Nat
/-- what an operation answers, that steps alone -/
def rsN (p : Pr OutN) (me : Nat) (W : Wd) : ResN := match p.run (wSt me qB) (W, 0) with
  | .done o s => ⟨o, s.1, s.2⟩
  | _ => ⟨⟨0, false, 0, 0⟩, wd0, 1000⟩
theorem freeW_U (t : Nat) {l : List Int} (hl : ∀ x ∈ l, U x) : ∀ k, k ≤ 65536 → ∀ x ∈ freeW t k l, U x
  | 0, _, x, hx => hl x hx
  | k + 1, hk, x, hx => by
    rw [freeW] at hx
    rcases List.mem_or_eq_of_mem_set hx with hx | rfl
    · exact freeW_U t hl k (by omega) x hx
    · unfold U; omega
theorem newW_U {t c : Nat} (h2 : c ≤ 65536) : ∀ x ∈ newW t c, U x := freeW_U t (fun x hx => by
    rcases List.mem_or_eq_of_mem_set hx with hx | rfl
    · rw [List.eq_of_mem_replicate hx]; exact U.zero
    · unfold U; decide) _ (by omega)
theorem newW_len (t c : Nat) : (newW t c).length = 8 + t + 8 * c := by rw [newW, freeW_len]; simp
/-- an operation that steps alone, in a world: its contract, and what is kept -/
structure AlN (B : Nat) (me : Nat) (k u v w : Int) (most : Nat) (W : Wd) (R : ResN) : Prop where
  fn : Fn Tryd.prog 9 [W.pv, .val (.int .i64 me), opV k u v w, .val (.int .i64 most)] (.tup [R.W.pv, outV R.o.e R.o.is R.o.n R.o.w, .val (.bool true)])
  ok : WdOK (B + 20000) R.W
  t : R.W.t = W.t
  c : R.W.c = W.c
  r0 : R.W.r0.length = W.r0.length
  ws : R.W.ws.length = W.ws.length
theorem alN_of {B me : Nat} {k u v w : Int} {most : Nat} {W : Wd} {R : ResN} (hr : (opL W.t k u v w).run (wSt me qB) (W, 0) = .done R.o (R.W, R.m)) (ht : Small W.t) (hop : OpL k u v w) (hW : WdOK B W) (hme : me < W.r0.length) (hm : R.m ≤ most) (h20 : most ≤ 20) (hB : B ≤ 500000) : AlN B me k u v w most W R := by
  have hk := run_keeps (fine_opL (t := W.t) hop) hW hr
  exact ⟨alone_fn B W R.W me k u v w most R.m R.o hW ht hme hop hr hm (by omega) (by omega) (by omega), hk.2.1.le (by omega), hk.2.2.1, hk.2.2.2.1, hk.2.2.2.2.1, hk.2.2.2.2.2.1⟩
/-! ### The document's example -/
def slW : Wd := ⟨1, 2, (newW 1 2).set 10 5, 0, [([], 0)], [([], 0)]⟩
def slV : ResN := rsN (opL 1 24 0 0 1) 0 slW
def slB : ResN := rsN (opL 1 8 0 0 5) 0 slV.W
def slD : ResN := rsN (opL 1 8 0 0 4) 0 slV.W
def slE : ResN := rsN (opL 1 8 0 0 6) 0 slV.W
def slF : ResN := rsN (opL 1 25 0 0 5) 0 slV.W
theorem sl1 : (opL 1 24 0 0 1).run (wSt 0 qB) (slW, 0) = .done slV.o (slV.W, slV.m) := by kernel_rfl
theorem sl2 : (opL 1 8 0 0 5).run (wSt 0 qB) (slV.W, 0) = .done slB.o (slB.W, slB.m) := by kernel_rfl
theorem sl3 : (opL 1 8 0 0 4).run (wSt 0 qB) (slV.W, 0) = .done slD.o (slD.W, slD.m) := by kernel_rfl
theorem sl4 : (opL 1 8 0 0 6).run (wSt 0 qB) (slV.W, 0) = .done slE.o (slE.W, slE.m) := by kernel_rfl
theorem sl5 : (opL 1 25 0 0 5).run (wSt 0 qB) (slV.W, 0) = .done slF.o (slF.W, slF.m) := by kernel_rfl
theorem sl6 : slV.o.is = true ∧ (slB.o.n = 1 ∧ slB.o.w = 0 ∧ slB.o.is = true) ∧ (slD.o.n = 1 ∧ slD.o.is = false) ∧ (slE.o.n = 0 ∧ slE.o.w = 1 ∧ slE.o.is = false) ∧ slF.o.n = 1 ∧ slF.o.is = true := by refine ⟨?_, ⟨?_, ?_, ?_⟩, ⟨?_, ?_⟩, ⟨?_, ?_, ?_⟩, ?_, ?_⟩ <;> kernel_rfl
theorem sl7 : slV.m ≤ 9 ∧ slB.m ≤ 9 ∧ slD.m ≤ 9 ∧ slE.m ≤ 9 ∧ slF.m ≤ 9 := by refine ⟨?_, ?_, ?_, ?_, ?_⟩ <;> exact Nat.le_of_ble_eq_true (by kernel_rfl)
theorem slW_ok : WdOK 0 slW := ⟨fun x hx => by
    rcases List.mem_or_eq_of_mem_set hx with hx | rfl
    · exact newW_U (by decide) x hx
    · unfold U; decide, by show ((newW 1 2).set 10 5).length ≤ _; rw [List.length_set, newW_len]; decide, rfl, by decide, fun p hp => by
    have hp : p ∈ [(([] : List Int), (0 : Int))] := hp
    rw [List.mem_singleton] at hp
    subst hp
    exact Nat.le_refl _⟩
theorem al_sl : AlN 0 0 24 0 0 1 9 slW slV ∧ AlN 20000 0 8 0 0 5 9 slV.W slB ∧ AlN 20000 0 8 0 0 4 9 slV.W slD ∧ AlN 20000 0 8 0 0 6 9 slV.W slE ∧ AlN 20000 0 25 0 0 5 9 slV.W slF := by
  obtain ⟨m1, m2, m3, m4, m5⟩ := sl7
  have z : Rf 0 := ⟨by decide, by decide⟩
  have z1 : Rf 1 := ⟨by decide, by decide⟩
  have hu : ∀ n : Int, 0 ≤ n → n ≤ 9 → U n := fun n h1 h2 => by unfold U; omega
  have hs : Small 1 := by unfold Small; omega
  have a1 : AlN 0 0 24 0 0 1 9 slW slV := alN_of sl1 hs ⟨fun _ => z, fun _ => ⟨z, z1⟩, hu _ (by decide) (by decide)⟩ slW_ok (by decide) m1 (by decide) (by decide)
  have ht : slV.W.t = 1 := a1.t
  have hr : 0 < slV.W.r0.length := by rw [a1.r0]; decide
  exact ⟨a1, alN_of (by rw [ht]; exact sl2) (by rw [ht]; exact hs) ⟨fun _ => z, fun h => absurd h (by decide), hu _ (by decide) (by decide)⟩ a1.ok hr m2 (by decide) (by decide),
    alN_of (by rw [ht]; exact sl3) (by rw [ht]; exact hs) ⟨fun _ => z, fun h => absurd h (by decide), hu _ (by decide) (by decide)⟩ a1.ok hr m3 (by decide) (by decide),
    alN_of (by rw [ht]; exact sl4) (by rw [ht]; exact hs) ⟨fun _ => z, fun h => absurd h (by decide), hu _ (by decide) (by decide)⟩ a1.ok hr m4 (by decide) (by decide),
    alN_of (by rw [ht]; exact sl5) (by rw [ht]; exact hs) ⟨fun _ => z, fun h => absurd h (by decide), hu _ (by decide) (by decide)⟩ a1.ok hr m5 (by decide) (by decide)⟩
end Go.Proofs.YteadaggehndacaaDoor
/- A region that draws its order, of which some operations may come late. Generic over the program. -/
namespace Go.Proofs.YteadaggehndacaaDoor
set_option maxRecDepth 100000
set_option maxHeartbeats 16000000
open Go Go.RowKit
attribute [local semireducible] wG qD Draws
/-- as schedB; some of the first m may come behind others -/
def schedL (l : List Oper) (m : Nat) (bss : List (List Nat)) (late : List Nat) : Bool :=
  decide (m ≤ l.length) && ((List.range l.length).all fun i => match l[i]? with
    | some o => o.after.toList.all fun e => !Region.binds .any e || decide (e.on < i)
    | none => true) &&
  ((List.range m).all fun i => (List.range m).all fun j =>
    (i == j || xY l i != xY l j) && (xY l i).isSome && (decide (i < j) || !(ord l i j)) &&
    (match xY l j with
     | some t => (!(readsOf l i).contains t || i == j || (decide (j < i) && ord l j i) || (decide (i < j) && ord l i j)) && (!(bss.getD i []).contains t || (decide (j < i) && ord l j i))
     | none => true)) &&
  ((List.range l.length).all fun t => decide (t < m) || (List.range m).all fun j => ord l j t || late.contains j)
structure SchedL (l : List Oper) (xs : List AI) (late : List Nat) : Prop where
  len : xs.length ≤ l.length
  back : ∀ (i : Nat) (o : Oper), l[i]? = some o → ∀ e ∈ o.after.toList, Region.binds .any e = true → e.on < i
  one : ∀ i j, i < xs.length → j < xs.length → xY l i = xY l j → i = j
  has : ∀ i, i < xs.length → (xY l i).isSome = true
  fwd : ∀ i j, i < xs.length → j < xs.length → ord l i j = true → i < j
  reads : ∀ i j t, i < xs.length → j < xs.length → xY l j = some t → t ∈ readsOf l i → i = j ∨ (j < i ∧ ord l j i = true) ∨ (i < j ∧ ord l i j = true)
  blks : ∀ i j t x, i < xs.length → j < xs.length → xY l j = some t → xs[i]? = some x → t ∈ x.bs → j < i ∧ ord l j i = true
  tail : ∀ t, xs.length ≤ t → t < l.length → ∀ j, j < xs.length → ord l j t = true ∨ late.contains j = true
theorem SchedL.of {l : List Oper} {xs : List AI} {late : List Nat} (h : schedL l xs.length (xs.map (·.bs)) late = true) : SchedL l xs late := by
  unfold schedL at h
  simp only [Bool.and_eq_true, List.all_eq_true, List.mem_range, decide_eq_true_eq, Bool.or_eq_true] at h
  obtain ⟨⟨⟨h1, h2⟩, h3⟩, h4⟩ := h
  refine ⟨h1, fun i o ho e he hb => ?_, fun i j hi hj he => ?_, fun i hi => ?_, fun i j hi hj ho => ?_, fun i j t hi hj hd ht => ?_, fun i j t x hi hj hd hx ht => ?_, fun t ht htl j hj => ?_⟩
  · have hi : i < l.length := (List.getElem?_eq_some_iff.1 ho).1
    have := h2 i hi
    rw [ho] at this
    simp only [List.all_eq_true, Bool.or_eq_true, decide_eq_true_eq, Bool.not_eq_true'] at this
    rcases this e he with h5 | h5
    · rw [hb] at h5; cases h5
    · exact h5
  · have := (h3 i hi j hj).1.1.1
    rcases this with h5 | h5
    · simpa using h5
    · simp [he] at h5
  · exact (h3 i hi i hi).1.1.2
  · rcases (h3 i hi j hj).1.2 with h5 | h5
    · exact h5
    · simp [ho] at h5
  · have := (h3 i hi j hj).2
    rw [hd] at this
    simp only [Bool.and_eq_true, Bool.or_eq_true, decide_eq_true_eq, beq_iff_eq] at this
    rcases this.1 with ((h5 | h5) | h5) | h5
    · simp [ht] at h5
    · exact .inl h5
    · exact .inr (.inl h5)
    · exact .inr (.inr h5)
  · have := (h3 i hi j hj).2
    rw [hd] at this
    simp only [Bool.and_eq_true, Bool.or_eq_true, decide_eq_true_eq, beq_iff_eq] at this
    rcases this.2 with h5 | h5
    · exfalso
      have e : (List.map (fun x : AI => x.bs) xs).getD i [] = x.bs := by simp [List.getD_eq_getElem?_getD, hx]
      rw [e] at h5
      simp [ht] at h5
    · exact h5
  · rcases h4 t htl with h5 | h5
    · omega
    · exact h5 j hj
theorem Apart.ofL {l : List Oper} {xs : List AI} {late : List Nat} {S0 : AS} (hs : SchedL l xs late) (h : madeB l xs S0 = true) : Apart l xs S0 := by
  have hd' : ∀ {i : Nat} {o : Oper}, l[i]? = some o → xY l i = o.dst := fun {i o} ho => by simp [xY, ho]
  have hlt : ∀ {i : Nat} {x : AI}, xs[i]? = some x → i < xs.length := fun {i x} hx => (List.getElem?_eq_some_iff.1 hx).1
  have main : ∀ (i : Nat) (o : Oper) (x : AI) (d : Nat), l[i]? = some o → xs[i]? = some x → o.dst = some d → x.nb ≠ none → noRef d S0 = true ∧ ∀ (k : Nat) (x' : AI), xs[k]? = some x' →
      (ord l i k = true ∧ i ≠ k) ∨ ((i = k ∨ freeOf d x'.av = true) ∧ ∀ b, x'.nb = some b → freeOfB d b = true) := by
    intro i o x d ho hx hd hnb
    unfold madeB at h
    rw [List.all_eq_true] at h
    have h1 := h i (List.mem_range.2 (hlt hx))
    rw [hx, hd' ho, hd] at h1
    obtain ⟨b, hb⟩ := Option.ne_none_iff_exists'.1 hnb
    obtain ⟨bs, av, nb⟩ := x
    simp only at hb
    subst hb
    simp only [Bool.and_eq_true, List.all_eq_true, List.mem_range, Bool.or_eq_true] at h1
    refine ⟨h1.1, fun k x' hx' => ?_⟩
    have h2 := h1.2 k (hlt hx')
    rw [hx'] at h2
    rcases h2 with h2 | h2
    · exact .inl ⟨h2.1, by simpa using h2.2⟩
    · right
      simp only [Bool.and_eq_true, Bool.or_eq_true, beq_iff_eq] at h2
      refine ⟨h2.1, fun b' hb' => ?_⟩
      have h3 := h2.2
      rw [hb'] at h3
      exact h3
  refine ⟨fun i j o o' x x' d ho ho' hx hx' hd hd2 => hs.one i j (hlt hx) (hlt hx') (by rw [hd' ho, hd' ho', hd, hd2]), fun i k o x x' d ho hx hx' hd hnb => (main i o x d ho hx hd hnb).2 k x' hx', fun i o x d ho hx hd hnb => (main i o x d ho hx hd hnb).1, fun i o x ho hx => ?_⟩
  have := hs.has i (hlt hx)
  rw [hd' ho] at this
  exact Option.isSome_iff_exists.1 this
/-- What an operation that may come up reads is as it is where the text comes to it. -/
theorem Agr.readsL {l : List Oper} {xs : List AI} {late : List Nat} {S0 S2 Si : AS} {listed : Array Bool} (hs : SchedL l xs late) (hc : Closed l listed) {i : Nat} {x : AI} (hr : i ∈ Region.ready .any l.toArray listed)
    (hx : xs[i]? = some x) (h : Agr l xs S0 (Done listed) S2) (h' : Agr l xs S0 (fun k => k < i) Si) :
    (∀ t ∈ readsOf l i, S2.tmp t = Si.tmp t) ∧ ∀ id ∈ x.bs, S2.blk id = Si.blk id := by
  have hix : i < xs.length := (List.getElem?_eq_some_iff.1 hx).1
  have hnd := (yR hr).2.1
  have hil := (yR hr).1
  have hd' : ∀ {k : Nat} {ok : Oper}, l[k]? = some ok → xY l k = ok.dst := fun {k ok} hk => by simp [xY, hk]
  refine ⟨fun t ht => ?_, fun id hid => ?_⟩
  · have iff : ∀ (k : Nat) (ok : Oper) (xk : AI), l[k]? = some ok → xs[k]? = some xk → ok.dst = some t → (Done listed k ↔ k < i) := by
      intro k ok xk h1 h2 h3
      have hkx : k < xs.length := (List.getElem?_eq_some_iff.1 h2).1
      rcases hs.reads i k t hix hkx (by rw [hd' h1, h3]) ht with h4 | ⟨h4, h5⟩ | ⟨h4, h5⟩
      · subst h4; exact ⟨fun h => (hnd h).elim, fun h => by omega⟩
      · exact ⟨fun _ => h4, fun _ => hc.ready_ord hr h5⟩
      · refine ⟨fun h => (hnd ?_).elim, fun h => by omega⟩
        exact hc.ord (k + 1) k i (by omega) (Nat.lt_of_lt_of_le hkx hs.len) h h5
    by_cases hex : ∃ (k : Nat) (ok : Oper) (xk : AI), l[k]? = some ok ∧ xs[k]? = some xk ∧ Done listed k ∧ ok.dst = some t
    · obtain ⟨k, ok, xk, h1, h2, h3, h4⟩ := hex
      rw [h.t1 k ok xk t h1 h2 h3 h4, h'.t1 k ok xk t h1 h2 ((iff k ok xk h1 h2 h4).1 h3) h4]
    · rw [h.t2 t fun k ok xk h1 h2 h3 h4 => hex ⟨k, ok, xk, h1, h2, h3, h4⟩, h'.t2 t fun k ok xk h1 h2 h3 h4 => hex ⟨k, ok, xk, h1, h2, (iff k ok xk h1 h2 h4).2 h3, h4⟩]
  · have iff : ∀ (k : Nat) (ok : Oper) (xk : AI), l[k]? = some ok → xs[k]? = some xk → ok.dst = some id → (Done listed k ∧ k < i) := by
      intro k ok xk h1 h2 h3
      have hkx : k < xs.length := (List.getElem?_eq_some_iff.1 h2).1
      obtain ⟨h4, h5⟩ := hs.blks i k id x hix hkx (by rw [hd' h1, h3]) hx hid
      exact ⟨hc.ready_ord hr h5, h4⟩
    by_cases hex : ∃ (k : Nat) (ok : Oper) (xk : AI), l[k]? = some ok ∧ xs[k]? = some xk ∧ xk.nb ≠ none ∧ ok.dst = some id
    · obtain ⟨k, ok, xk, h1, h2, h4, h5⟩ := hex
      obtain ⟨b, hb⟩ := Option.ne_none_iff_exists'.1 h4
      obtain ⟨h6, h7⟩ := iff k ok xk h1 h2 h5
      rw [h.b1 k ok xk id b h1 h2 h6 h5 hb, h'.b1 k ok xk id b h1 h2 h7 h5 hb]
    · rw [h.b2 id fun k ok xk h1 h2 _ h4 h5 => hex ⟨k, ok, xk, h1, h2, h4, h5⟩, h'.b2 id fun k ok xk h1 h2 _ h4 h5 => hex ⟨k, ok, xk, h1, h2, h4, h5⟩]
theorem ready_or_allL {l : List Oper} {xs : List AI} {late : List Nat} {listed : Array Bool} (hs : SchedL l xs late) (hc : Closed l listed) : Region.ready .any l.toArray listed ≠ [] ∨ ∀ i, i < l.length → Done listed i := by
  by_cases hall : ∀ i, i < l.length → Done listed i
  · exact .inr hall
  · left
    have hex : ∃ i, i < l.length ∧ ¬ Done listed i := by
      apply Classical.byContradiction
      intro h
      exact hall fun i hi => Classical.byContradiction fun hn => h ⟨i, hi, hn⟩
    -- the least that is not done may come up
    have least : ∃ i, i < l.length ∧ ¬ Done listed i ∧ ∀ j, j < i → Done listed j := by
      obtain ⟨i, hi, hn⟩ := hex
      induction i using Nat.strongRecOn with
      | _ i ih =>
        by_cases h : ∀ j, j < i → Done listed j
        · exact ⟨i, hi, hn, h⟩
        · obtain ⟨j, hj, hnj⟩ : ∃ j, j < i ∧ ¬ Done listed j := by
            apply Classical.byContradiction
            intro h2
            exact h fun j hj => Classical.byContradiction fun hn => h2 ⟨j, hj, hn⟩
          exact ih j hj (by omega) hnj
    obtain ⟨i, hi, hn, hlow⟩ := least
    intro hnil
    have : i ∈ Region.ready .any l.toArray listed := by
      unfold Region.ready
      simp only [List.size_toArray, List.mem_filter, List.mem_range, Bool.and_eq_true, Bool.not_eq_true']
      refine ⟨hi, ?_, ?_⟩
      · unfold Done at hn
        have hil : i < listed.size := by rw [hc.size]; exact hi
        simp [hil] at hn ⊢
        exact hn
      · simp only [List.getElem?_toArray, List.getElem?_eq_getElem hi, Option.map_some, Option.getD_some]
        rw [Array.all_eq_true']
        intro e he
        by_cases hb : Region.binds .any e = true
        · have := hlow e.on (hs.back i l[i] (List.getElem?_eq_getElem hi) e (by simpa using he) hb)
          unfold Done at this
          simp [hb, this]
        · simp [Bool.not_eq_true] at hb; simp [hb]
    rw [hnil] at this
    cases this
theorem runA_agrL {P : Program} {n : Nat} {l : List Oper} {xs : List AI} {late : List Nat} {S0 : AS} (hs : SchedL l xs late) (hA : Apart l xs S0) :
    ∀ (m : Nat) (S : AS), m ≤ xs.length → Agr l xs S0 (fun k => k < m) S → AChain P n l S (l.drop m) (xs.drop m) →
      (∀ (i : Nat) (o : Oper) (x : AI), m ≤ i → l[i]? = some o → xs[i]? = some x → ∃ Si, Agr l xs S0 (fun k => k < i) Si ∧ GStep P n l Si o x) ∧ Agr l xs S0 (fun k => k < xs.length) (runA S (l.drop m) (xs.drop m)) := by
  intro m
  generalize hd : xs.length - m = d
  induction d generalizing m with
  | zero =>
    intro S hm hagr _
    have e : xs.length = m := by omega
    refine ⟨fun i o x hi ho hx => ?_, ?_⟩
    · have := (List.getElem?_eq_some_iff.1 hx).1; omega
    · rw [List.drop_eq_nil_of_le (by omega : xs.length ≤ m)]
      have : runA S (l.drop m) [] = S := by cases l.drop m <;> rfl
      rw [this, e]
      exact hagr
  | succ d ih =>
    intro S hm hagr hc
    have hmx : m < xs.length := by omega
    have hml : m < l.length := Nat.lt_of_lt_of_le hmx hs.len
    rw [List.drop_eq_getElem_cons hmx, List.drop_eq_getElem_cons hml] at hc
    obtain ⟨hg, hc⟩ := hc
    have ho : l[m]? = some l[m] := List.getElem?_eq_getElem hml
    have hx : xs[m]? = some xs[m] := List.getElem?_eq_getElem hmx
    have hst := hagr.step hA ho hx (by omega) (fun k hk hok => by
      have := hs.fwd m k hmx (by omega) hok
      omega)
    have e : (fun k => k = m ∨ k < m) = (fun k => k < m + 1) := by funext k; apply propext; omega
    rw [e] at hst
    obtain ⟨r1, r2⟩ := ih (m + 1) (by omega) (S.out l[m].dst xs[m].av xs[m].nb) (by omega) hst hc
    refine ⟨fun i o x hi ho' hx' => ?_, ?_⟩
    · by_cases him : i = m
      · subst him
        rw [ho] at ho'; rw [hx] at hx'
        obtain rfl := Option.some.inj ho'
        obtain rfl := Option.some.inj hx'
        exact ⟨S, hagr, hg⟩
      · exact r1 i o x (by omega) ho' hx'
    · rw [List.drop_eq_getElem_cons hmx, List.drop_eq_getElem_cons hml]
      exact r2
section
variable {P : Program} {n : Nat} {S : AS}
theorem wG.any {l : List Oper} {K : Exit → AS → Prop} {M : Nat → Nat → Prop} {w0 : Home} {Q : Exit → Act → World → Prop} (hK : ∀ e S' ρ' a' w', K (bare e) S' → Sat M n w0 S' ρ' a' w' → ExOK M S' ρ' w' e → Q e a' w') :
    ∀ (m : Nat) (listed : Array Bool) (done : List Nat) (S : AS) (ρ : Nat → Value) (a : Act) (w : World), listed.size = l.length → (∀ i, listed.getD i false = done.contains i) → wG P n l K m done S → Sat M n w0 S ρ a w → wpAny P .any l.toArray Q m listed a w := by
  intro m
  induction m with
  | zero =>
    intro listed done S ρ a w hz hl hd hs
    refine ⟨List.eq_nil_iff_forall_not_mem.2 fun i hi => ?_, hK .normal S ρ a w hd.2 hs trivial⟩
    have := (vY hz hl i).1 hi
    rw [hd.1] at this
    simp at this
  | succ m ih =>
    intro listed done S ρ a w hz hl hd hs
    refine ⟨fun hnil => ?_, fun i hi => ?_⟩
    · obtain ⟨j, hj⟩ := List.exists_mem_of_ne_nil _ hd.1
      have := (vY hz hl j).2 hj
      rw [hnil] at this
      simp at this
    · obtain ⟨hil, _, _⟩ := yR hi
      obtain ⟨o, ho, hg, ht⟩ := hd.2 i ((vY hz hl i).1 hi)
      unfold wpOp
      simp only [List.getElem?_toArray, ho]
      rw [if_pos (by simp [Region.wanted, hg])]
      refine .inl (ht M w0 ρ a w _ Q hs (fun S1 ρ' a' w' hd1 hs' => ?_) hK)
      refine ih _ _ S1 ρ' a' w' (by simp [hz]) (fun k => ?_) hd1 hs'
      simp only [Array.getD_eq_getD_getElem?, Array.getElem?_setIfInBounds, List.contains_cons]
      by_cases hik : i = k
      · subst hik
        simp [hz, hil]
      · have : (k == i) = false := by simpa using fun e => hik e.symm
        rw [if_neg hik, this, Bool.false_or, ← hl k, Array.getD_eq_getD_getElem?]
def subs1 : List Nat → List (List Nat)
  | [] => []
  | a :: r => subs1 r ++ ([a] :: (subs1 r).map (a :: ·))
theorem filter_subs1 (p : Nat → Bool) : ∀ l : List Nat, l.filter p = [] ∨ l.filter p ∈ subs1 l
  | [] => .inl rfl
  | a :: r => by
    rw [List.filter_cons]
    by_cases h : p a = true
    · rw [if_pos h]
      right
      unfold subs1
      rcases filter_subs1 p r with h1 | h1
      · rw [h1]; exact List.mem_append.2 (.inr (List.mem_cons_self ..))
      · exact List.mem_append.2 (.inr (List.mem_cons_of_mem _ (List.mem_map.2 ⟨_, h1, rfl⟩)))
    · rw [if_neg h]
      rcases filter_subs1 p r with h1 | h1
      · exact .inl h1
      · right
        unfold subs1
        exact List.mem_append.2 (.inl h1)
/-- the frame behind the first operations, without some -/
def runX : Nat → List Nat → AS → List Oper → List AI → AS
  | i, X, S, o :: os, x :: xs => runX (i + 1) X (bif X.contains i then S else S.out o.dst x.av x.nb) os xs
  | _, _, S, _, _ => S
def qK (m : Nat) (X : List Nat) : List Nat := (List.range m).filter fun i => !X.contains i
def restX (l : List Oper) (done : List Nat) : List Nat := (List.range l.length).filter fun i => !done.contains i
theorem doneX_iff {m : Nat} {X : List Nat} {i : Nat} : i ∈ qK m X ↔ i < m ∧ X.contains i = false := by
  unfold qK
  rw [List.mem_filter, List.mem_range, Bool.not_eq_true']
theorem left_done {l : List Oper} {listed : Array Bool} {done : List Nat} (hz : listed.size = l.length) (h : ∀ i, listed.getD i false = done.contains i) : left listed = (restX l done).length := by
  unfold left restX
  rw [List.countP_eq_length_filter, hz]
  congr 1
  exact List.filter_congr fun i _ => by rw [h i]
theorem runX_agr {l : List Oper} {xs : List AI} {late : List Nat} {S0 : AS} (hs : SchedL l xs late) (hA : Apart l xs S0) (X : List Nat) :
    ∀ (m : Nat) (S : AS), m ≤ xs.length → Agr l xs S0 (fun k => k < m ∧ X.contains k = false) S → Agr l xs S0 (fun k => k < xs.length ∧ X.contains k = false) (runX m X S (l.drop m) (xs.drop m)) := by
  intro m
  generalize hd : xs.length - m = d
  induction d generalizing m with
  | zero =>
    intro S hm hagr
    have e : xs.length = m := by omega
    rw [List.drop_eq_nil_of_le (by omega : xs.length ≤ m)]
    have : runX m X S (l.drop m) [] = S := by cases l.drop m <;> rfl
    rw [this, e]
    exact hagr
  | succ d ih =>
    intro S hm hagr
    have hmx : m < xs.length := by omega
    have hml : m < l.length := Nat.lt_of_lt_of_le hmx hs.len
    rw [List.drop_eq_getElem_cons hmx, List.drop_eq_getElem_cons hml]
    have ho : l[m]? = some l[m] := List.getElem?_eq_getElem hml
    have hx : xs[m]? = some xs[m] := List.getElem?_eq_getElem hmx
    unfold runX
    refine ih (m + 1) (by omega) _ (by omega) ?_
    cases hX : X.contains m with
    | true =>
      have e : (fun k => k < m ∧ X.contains k = false) = (fun k => k < m + 1 ∧ X.contains k = false) := by
        funext k; apply propext
        constructor
        · rintro ⟨h1, h2⟩; exact ⟨by omega, h2⟩
        · rintro ⟨h1, h2⟩
          refine ⟨?_, h2⟩
          rcases Nat.lt_or_ge k m with h | h
          · exact h
          · have : k = m := by omega
            subst this
            rw [hX] at h2; cases h2
      rw [← e]
      exact hagr
    | false =>
      have hst := hagr.step hA ho hx (by omega) (fun k hk hok => by
        have := hs.fwd m k hmx (by omega) hok
        omega)
      have e : (fun k => k = m ∨ (k < m ∧ X.contains k = false)) = (fun k => k < m + 1 ∧ X.contains k = false) := by
        funext k; apply propext
        constructor
        · rintro (h | ⟨h1, h2⟩)
          · subst h; exact ⟨by omega, hX⟩
          · exact ⟨by omega, h2⟩
        · rintro ⟨h1, h2⟩
          rcases Nat.lt_or_ge k m with h | h
          · exact .inr ⟨h, h2⟩
          · exact .inl (by omega)
      rw [e] at hst
      exact hst
/-- A region that draws its order, of which some operations may come late. -/
theorem zZ.drawL {id : Nat} {l : List Oper} {K : Exit → AS → Prop} (xs : List AI) (late : List Nat) (hm : P.follows .mixedOrders = true) (hsch : schedL l xs.length (xs.map (·.bs)) late = true) (hmade : madeB l xs S = true)
    (hch : AChain P n l S l xs) (h0 : wG P n l K (restX l (qK xs.length [])).length (qK xs.length []) (runA S l xs))
    (h1 : ∀ X ∈ subs1 late, wG P n l K (restX l (qK xs.length X)).length (qK xs.length X) (runX 0 X S l xs)) : zZ P n (.region id l.toArray true) S K := by
  have hS := SchedL.of hsch
  have hA := Apart.ofL hS hmade
  intro M w0 ρ a w Q hs hK
  have start : Agr l xs S (fun k => k < 0) S := ⟨fun i o x d _ _ h => by omega, fun _ _ => rfl, fun i o x d b _ _ h => by omega, fun _ _ => rfl⟩
  have startX : ∀ X : List Nat, Agr l xs S (fun k => k < 0 ∧ X.contains k = false) S := fun X => ⟨fun i o x d _ _ h => by omega, fun _ _ => rfl, fun i o x d b _ _ h => by omega, fun _ _ => rfl⟩
  obtain ⟨hgs, hfin⟩ := runA_agrL hS hA 0 S (by omega) start hch
  have tailD : ∀ (fuel : Nat) (listed : Array Bool) (S2 : AS) (ρ : Nat → Value) (a : Act) (w : World), Closed l listed → (∀ i, xs.length ≤ i → i < l.length → ¬ Done listed i) → (∀ i, i < xs.length → Done listed i ∨ late.contains i = true) → Agr l xs S (Done listed) S2 → left listed = fuel →
      Sat M n w0 S2 ρ a w → wpAny P .any l.toArray Q fuel listed a w := by
    intro fuel listed S2 ρ a w hc htl hnl hagr hl hsat
    let X := late.filter fun i => !(listed.getD i false)
    have hX : ∀ i, i < xs.length → (Done listed i ↔ X.contains i = false) := by
      intro i hi
      have e : X.contains i = true ↔ late.contains i = true ∧ ¬ Done listed i := by
        simp only [X, List.contains_iff_mem, List.mem_filter, Bool.not_eq_true', Done]
        simp
      constructor
      · intro h
        apply Bool.eq_false_iff.2
        intro h2
        exact (e.1 h2).2 h
      · intro h
        rcases hnl i hi with h2 | h2
        · exact h2
        · apply Classical.byContradiction
          intro h3
          rw [e.2 ⟨h2, h3⟩] at h
          cases h
    have hlt : ∀ k, Done listed k → k < xs.length := by
      intro k hk
      apply Classical.byContradiction
      intro h
      rcases Nat.lt_or_ge k l.length with h2 | h2
      · exact htl k (by omega) h2 hk
      · unfold Done at hk
        simp [Array.getD_eq_getD_getElem?, Array.getElem?_eq_none (by rw [hc.size]; omega : listed.size ≤ k)] at hk
    have hdone : ∀ i, listed.getD i false = (qK xs.length X).contains i := by
      intro i
      have h2 : Done listed i ↔ i ∈ qK xs.length X := by
        rw [doneX_iff]
        exact ⟨fun h => ⟨hlt i h, (hX i (hlt i h)).1 h⟩, fun h => (hX i h.1).2 h.2⟩
      unfold Done at h2
      rw [Bool.eq_iff_iff, h2, List.contains_iff_mem]
    have eD : Done listed = fun k => k < xs.length ∧ X.contains k = false := by
      funext k; apply propext
      exact ⟨fun h => ⟨hlt k h, (hX k (hlt k h)).1 h⟩, fun h => (hX k h.1).2 h.2⟩
    have hfuel := left_done hc.size hdone
    rw [hl] at hfuel
    rw [hfuel]
    rcases filter_subs1 (fun i => !(listed.getD i false)) late with h | h
    · have eX : X = [] := h
      rw [eX] at eD hdone ⊢
      refine wG.any hK _ listed _ (runA S l xs) ρ a w hc.size hdone h0 (hsat.same (hagr.same ?_))
      rw [eD]
      have e : (fun k => k < xs.length) = (fun k => k < xs.length ∧ ([] : List Nat).contains k = false) := by
        funext k; apply propext; simp
      rw [← e]
      exact hfin
    · refine wG.any hK _ listed _ (runX 0 X S l xs) ρ a w hc.size hdone (h1 X h) (hsat.same (hagr.same ?_))
      rw [eD]
      exact runX_agr hS hA X 0 S (by omega) (startX X)
  have main1 : ∀ (fuel : Nat) (listed : Array Bool) (S2 : AS) (ρ : Nat → Value) (a : Act) (w : World), Closed l listed → (∀ i, xs.length ≤ i → i < l.length → ¬ Done listed i) → Agr l xs S (Done listed) S2 → left listed = fuel →
      Sat M n w0 S2 ρ a w → wpAny P .any l.toArray Q fuel listed a w := by
    intro fuel
    induction fuel with
    | zero =>
      intro listed S2 ρ a w hc htl hagr hl hsat
      refine tailD 0 listed S2 ρ a w hc htl (fun i hi => .inl ?_) hagr hl hsat
      apply Classical.byContradiction
      intro hn
      have := left_set (listed := listed) (by rw [hc.size]; exact Nat.lt_of_lt_of_le hi hS.len) hn
      omega
    | succ fuel ih =>
      intro listed S2 ρ a w hc htl hagr hl hsat
      by_cases hallA : ∀ i, i < xs.length → Done listed i ∨ late.contains i = true
      · exact tailD (fuel + 1) listed S2 ρ a w hc htl hallA hagr hl hsat
      · refine ⟨fun hnil => ?_, fun i hi => ?_⟩
        · rcases ready_or_allL hS hc with h | h
          · exact (h hnil).elim
          · exact (hallA fun i hi => .inl (h i (Nat.lt_of_lt_of_le hi hS.len))).elim
        · obtain ⟨hil, hnd, o, hoi, _⟩ := yR hi
          have hix : i < xs.length := by
            apply Classical.byContradiction
            intro h
            exact hallA fun j hj => (hS.tail i (by omega) hil j hj).imp (fun h2 => hc.ready_ord hi h2) (fun h2 => h2)
          have hx : xs[i]? = some xs[i] := List.getElem?_eq_getElem hix
          obtain ⟨Si, hagi, hgst⟩ := hgs i o xs[i] (by omega) hoi hx
          obtain ⟨hrt, hrb⟩ := Agr.readsL hS hc hi hx hagr hagi
          have hget : ∀ y ∈ o.op.operands.toList, S2.get y = Si.get y := by
            intro y hy
            cases y with
            | tmp t => exact hrt t (readsOf_operand hoi hy)
            | _ => rfl
          have hnext := hagr.step hA hoi hx hnd (fun k hk hok => hnd (hc.ord (k + 1) k i (by omega) (by
            apply Classical.byContradiction
            intro h
            unfold Done at hk
            simp [Array.getD_eq_getD_getElem?, Array.getElem?_eq_none (by rw [hc.size]; omega : listed.size ≤ k)] at hk) hk hok))
          have cont : ∀ ρ' a' w', Sat M n w0 (S2.out o.dst xs[i].av xs[i].nb) ρ' a' w' → wpAny P .any l.toArray Q fuel (listed.setIfInBounds i true) a' w' := by
            intro ρ' a' w' hs'
            refine ih _ _ ρ' a' w' (hc.set hi) (fun k hk hkl hdk => ?_) ?_ ?_ hs'
            · rw [done_set (by rw [hc.size]; exact hil)] at hdk
              rcases hdk with h | h
              · omega
              · exact htl k hk hkl h
            · have e : (fun k => k = i ∨ Done listed k) = Done (listed.setIfInBounds i true) := by
                funext k
                apply propext
                rw [done_set (by rw [hc.size]; exact hil)]
                constructor
                · rintro (h | h)
                  · exact .inl h.symm
                  · exact .inr h
                · rintro (h | h)
                  · exact .inl h.symm
                  · exact .inr h
              rw [← e]
              exact hnext
            · have := left_set (listed := listed) (by rw [hc.size]; exact hil) hnd
              omega
          unfold wpOp
          simp only [List.getElem?_toArray, hoi]
          rcases hgst with ⟨hg, hast⟩ | ⟨j, want, t, b, hg, hdj, htn, hb, hcase⟩
          · rw [if_pos (by simp [Region.wanted, hg])]
            exact .inl (hast S2 hget hrb M w0 ρ a w _ Q hsat cont)
          · have hb2 : S2.tmp t = .p (.val b) := by rw [hrt t (readsOf_guard hoi hg hdj)]; exact hb
            have hw := hsat.wanted (ops := l.toArray) hg (by simpa [xY] using hdj) htn hb2
            rcases hcase with ⟨hbw, hast⟩ | ⟨hbw, hav, hnb, d, hd, hdn⟩
            · rw [if_pos (by rw [hw, hbw])]
              exact .inl (hast S2 hget hrb M w0 ρ a w _ Q hsat cont)
            · rw [if_neg (by rw [hw, hbw]; simp)]
              rw [hd]
              refine cont ρ _ w ?_
              rw [hd, hav, hnb]
              exact hsat.put_undef hdn
  refine wp_region_any hm ?_
  refine main1 _ _ S ρ a _ ⟨by simp, fun i o hi hd => ?_⟩ (fun i _ _ hd => ?_) ⟨fun i o x d _ _ h => ?_, fun _ _ => rfl, fun i o x d b _ _ h => ?_, fun _ _ => rfl⟩ ?_ (hs.ext ((Below.refl _ _).drew))
  · unfold Done at hd; rw [getD_replicate_false] at hd; cases hd
  · unfold Done at hd; rw [getD_replicate_false] at hd; cases hd
  · unfold Done at h; rw [getD_replicate_false] at h; cases h
  · unfold Done at h; rw [getD_replicate_false] at h; cases h
  · unfold left
    simp only [Array.size_replicate, List.size_toArray]
    have : ∀ k ∈ List.range l.length, (!((Array.replicate l.length false).getD k false)) = true := fun k _ => by rw [getD_replicate_false]; rfl
    rw [List.countP_eq_length.2 this, List.length_range]
def LEach (p : List Nat → Prop) : List (List Nat) → Prop
  | [] => True
  | X :: r => p X ∧ LEach p r
theorem LEach.all {p : List Nat → Prop} : ∀ {rs : List (List Nat)}, LEach p rs → ∀ X ∈ rs, p X
  | [], _, i, hi => by simp at hi
  | j :: r, h, i, hi => by
    rcases List.mem_cons.1 hi with rfl | hi
    · exact h.1
    · exact LEach.all h.2 i hi
theorem LEach.nil {p : List Nat → Prop} : LEach p [] := trivial
theorem LEach.cons {p : List Nat → Prop} {X : List Nat} {r : List (List Nat)} (h : p X) (hr : LEach p r) : LEach p (X :: r) := ⟨h, hr⟩
theorem Draws.late {id : Nat} {l os : List Oper} {S0 S : AS} {K : Exit → AS → Prop} {rev : List AI} (late : List Nat) (hm : P.follows .mixedOrders = true) (hsch : schedL l rev.reverse.length (rev.reverse.map (·.bs)) late = true) (hmade : madeB l rev.reverse S0 = true)
    (h0 : wG P n l K (restX l (qK rev.reverse.length [])).length (qK rev.reverse.length []) S) (h1 : LEach (fun X => wG P n l K (restX l (qK rev.reverse.length X)).length (qK rev.reverse.length X) (runX 0 X S0 l rev.reverse)) (subs1 late)) : Draws P n id l S0 K rev S os := by
  unfold Draws
  intro hc
  obtain ⟨c1, c2, c3⟩ := hc.chain
  exact zZ.drawL _ late hm hsch hmade c1 (by rw [c2]; exact h0) h1.all
theorem Draws.late2 {id : Nat} {l os : List Oper} {S0 S : AS} {K : Exit → AS → Prop} {rev : List AI} (late : List Nat) (fu : Nat) (done : List Nat) (hm : P.follows .mixedOrders = true) (hsch : schedL l rev.reverse.length (rev.reverse.map (·.bs)) late = true) (hmade : madeB l rev.reverse S0 = true)
    (e1 : (restX l (qK rev.reverse.length [])).length = fu) (e2 : qK rev.reverse.length [] = done)
    (h0 : wG P n l K fu done S) (h1 : LEach (fun X => wG P n l K (restX l (qK rev.reverse.length X)).length (qK rev.reverse.length X) (runX 0 X S0 l rev.reverse)) (subs1 late)) : Draws P n id l S0 K rev S os :=
  Draws.late late hm hsch hmade (by rw [e1, e2]; exact h0) h1
theorem LEach.consD {l : List Oper} {S0 : AS} {K : Exit → AS → Prop} {xs : List AI} {X : List Nat} {r : List (List Nat)} {m : Nat} (fu : Nat) (done : List Nat) (e1 : (restX l (qK m X)).length = fu) (e2 : qK m X = done) (h : wG P n l K fu done (runX 0 X S0 l xs))
    (hr : LEach (fun X => wG P n l K (restX l (qK m X)).length (qK m X) (runX 0 X S0 l xs)) r) : LEach (fun X => wG P n l K (restX l (qK m X)).length (qK m X) (runX 0 X S0 l xs)) (X :: r) :=
  .cons (by rw [e1, e2]; exact h) hr
theorem wG.as {l : List Oper} {K : Exit → AS → Prop} {fu : Nat} {done : List Nat} {S : AS} (fu' : Nat) (done' : List Nat) (h1 : fu = fu') (h2 : done = done') (h : wG P n l K fu' done' S) : wG P n l K fu done S := by
  subst h1 h2
  exact h
end
end Go.Proofs.YteadaggehndacaaDoor
/- A world, and what makes accesses of it at once: what operations on a list do, at once and stepping alone. -/
namespace Go.Proofs.YteadaggehndacaaDoor
set_option maxRecDepth 100000
set_option maxHeartbeats 16000000
open Go Go.RowKit
set_option linter.unusedSimpArgs false
set_option linter.unusedVariables false
attribute [local irreducible] zY zZ Step zQ Sub zM zP Fn
def dpB (k : Nat) : Blk := .box 57 [.ptr k 0]
def dmB : Blk := .box 3 [.p (.val (.int .i64 0))]
def dwB (W : Wd) : Blk := .box 33 (W.pv.cells.map AV.p)
theorem doX_fnQ {b : Nat} {W : Wd} {q : Ned} (h : WdOK b W) (hb : b ≤ 90000000) (hq : qW q) {me : Nat} (hme : me < W.r0.length) (f : Bool) :
    Fn Tryd.prog 26 [W.pv, .val (.int .i64 me), accQ q, .val (.bool f)] (.tup [(doX W me q f).1.pv, resV (doX W me q f).2]) := by
  refine (doX_fn h hb hq hme f).weakA (.cons (.refl _) (.cons (.refl _) (.cons (.agg (.cons (.refl _) (.cons (.refl _) (.cons (.refl _) (.cons (.refl _) (.cons ?_ (.cons (.refl _) .nil))))))) (.cons (.refl _) .nil))))
  rcases hq.d with ⟨_, e⟩ | ⟨_, bs, _, _, e⟩
  · rw [e]; exact .nil
  · rw [e, bytsOf_byts]; exact .refl _
theorem direct1_fn {b : Nat} {W : Wd} {q : Ned} (h : WdOK b W) (hb : b ≤ 90000000) (hq : qW q) (hme : 0 < W.r0.length) :
    FnE Tryd.prog 30 [.p (accQ q), .ptr 1000 0, .ptr 1001 0] [dpB 1002, dmB, dwB W] (.ret (.p (resV (doX W 0 q false).2))) [dpB 1002, dmB, dwB (doX W 0 q false).1] := by
  have c1 : Fn Tryd.prog 26 [W.pv, .val (.int .i64 0), accQ q, .val (.bool false)] (.tup [(doX W 0 q false).1.pv, resV (doX W 0 q false).2]) := doX_fnQ h hb hq (me := 0) hme false
  generalize doX W 0 q false = dd at *
  obtain ⟨⟨t2, u2, ws2, root2, r02, r12⟩, rr⟩ := dd
  obtain ⟨t1, u1, ws1, root1, r01, r11⟩ := W
  dsimp only at c1 ⊢
  clear h hq hme
  refine fn_ofE Tryd.func30 rfl Tryd.ntmps30 (Nat.le_of_ble_eq_true rfl) (by decide) ?_
  repeat' ((refine zZ.is ?_; first | refine zZ.seq ?_ | (refine zZ.iq 0 ?_; refine zZ.rqj _ K_d K_20 ?_; (refine zY.m rfl rfl (yN rfl rfl rfl (by decide)) ?_); (refine zY.m rfl rfl (yQ rfl (by decide) rfl (by decide)) ?_); refine zY.nil ?_) | (refine zZ.isR (id := 1) ?_; refine zZ.qI [1, 2, 3, 4] [3, 4, 5, 6, 1000, 1001, 1002] (by repeat' first | exact zW.nil | apply zW.ptr rfl) (by repeat' first | exact zX.nil | apply zX.boxP rfl rfl | apply zX.some rfl | apply zX.skip) (zZ.draws ?_); all_goals (refine Draws.v rfl rfl (w_loadP rfl rfl rfl rfl rfl (by decide)) ?_); all_goals (refine Draws.v rfl rfl (a_nilR rfl rfl rfl (by decide)) ?_); all_goals (refine Draws.v rfl rfl (zR rfl rfl rfl (by rfl) (by rfl) rfl (by decide)) ?_); all_goals (refine Draws.v rfl rfl (zD rfl rfl rfl rfl rfl (by decide)) ?_); all_goals (refine Draws.v rfl rfl (zR rfl rfl rfl (by rfl) (by rfl) rfl (by decide)) ?_); all_goals (refine Draws.v rfl rfl (by exact yP (c1) rfl rfl rfl (by decide)) ?_); all_goals (refine Draws.v rfl rfl (wD rfl rfl rfl (by decide)) ?_); all_goals (refine Draws.v rfl rfl (yJ rfl rfl rfl rfl (by decide)) ?_); all_goals (refine Draws.v rfl rfl (yJ rfl rfl rfl rfl (by decide)) ?_); all_goals (refine Draws.m rfl rfl (yQ rfl (by decide) rfl (by decide)) ?_); all_goals (refine Draws.m rfl rfl (yQ rfl (by decide) rfl (by decide)) ?_); all_goals (((refine Draws.late2 [8] 2 [0, 1, 2, 3, 4, 5, 6, 7, 8, 9, 10] (by kernel_rfl) (by kernel_rfl) (by kernel_rfl) (by kernel_rfl) (by kernel_rfl) ?_ (LEach.consD 3 [0, 1, 2, 3, 4, 5, 6, 7, 9, 10] (by kernel_rfl) (by kernel_rfl) ?_ LEach.nil)) <;> (repeat' (first | refine wG.many (by rfl) ?_ | refine yV.cons ?_ ?_ | exact yV.nil | refine qD.v rfl rfl rfl (yJ rfl rfl rfl rfl (by decide)) ?_ | refine qD.w rfl rfl (by exact zT rfl rfl rfl rfl rfl (by rfl) (by exact Nat.le_of_ble_eq_true rfl) rfl rfl) ?_ | refine wG.fin (by rfl) ?_))))) | (refine zZ.isR (id := 2) ?_; refine zZ.zU [1, 4, 5, 6] [3, 4, 5, 6, 1000, 1001, 1002] (by repeat' first | exact zW.nil | apply zW.ptr rfl) (by repeat' first | exact zX.nil | apply zX.boxP rfl rfl | apply zX.some rfl) ?_; (refine zY.v rfl rfl (w_loadP rfl rfl rfl rfl rfl (by decide)) ?_); (refine zY.v rfl rfl (zR rfl rfl rfl (by rfl) (by rfl) rfl (by decide)) ?_); (refine zY.v rfl rfl (a_nilR rfl rfl rfl (by decide)) ?_); (refine zY.w rfl (by exact zT rfl rfl rfl rfl rfl (by rfl) (by exact Nat.le_of_ble_eq_true rfl) rfl rfl) ?_); refine zY.nil ?_) | (refine zZ.isR (id := 3) ?_; refine zZ.zU [4, 6] [3, 4, 5, 6, 1000, 1001, 1002] (by repeat' first | exact zW.nil | apply zW.ptr rfl) (by repeat' first | exact zX.nil | apply zX.boxP rfl rfl | apply zX.some rfl) ?_; (refine zY.v rfl rfl (zR rfl rfl rfl (by rfl) (by rfl) rfl (by decide)) ?_); (refine zY.w rfl (by exact zT rfl rfl rfl rfl rfl (by rfl) (by exact Nat.le_of_ble_eq_true rfl) rfl rfl) ?_); refine zY.nil ?_) | refine zZ.ret ?_))
  all_goals exact ⟨.inl rfl, _, Sub.refl _, .p (r := .cell 4 77) rfl (.cellN rfl rfl (by rfl) (by rfl)), vE (by repeat' first | exact trivial | rfl | constructor)⟩
def dSt (s : Wd × Nat) (q : Ned) : Ans (Wd × Nat) := bif decide (s.2 < 20000) then .ret (doX s.1 0 q false).2 ((doX s.1 0 q false).1, s.2 + 1) else .out
def hDir : Hnd where
  σ := Wd × Nat
  fn := 30
  b0 := fun _ => dpB 1002
  b1 := fun _ => dmB
  b2 := fun s => dwB s.1
  ok := fun s => s.2 ≤ 20000 ∧ WdOK (1000 * s.2) s.1 ∧ s.1.r0.length = 1
  st := dSt
  stOK := ⟨fun s q r s' hok hq hm => by
    unfold dSt at hm
    cases hd : decide (s.2 < 20000) <;> rw [hd] at hm
    · cases hm
    · rw [cond_true] at hm
      injection hm with e1 e2
      subst e1 e2
      obtain ⟨h1, h2, h3⟩ := hok
      have h4 := of_decide_eq_true hd
      obtain ⟨g1, g2⟩ := doX_ok h2 hq 0 false
      obtain ⟨_, _, k3, _, _⟩ := doX_keeps s.1 0 q false
      exact ⟨g2, by show s.2 + 1 ≤ 20000; omega, g1.le (by show _ ≤ 1000 * (s.2 + 1); omega), k3.trans h3⟩, fun s q q' s' hok hq hm => by
    unfold dSt at hm
    cases hd : decide (s.2 < 20000) <;> rw [hd] at hm <;> cases hm⟩
  has := inferInstance
  okE := fun _ m hm => ⟨by
    show (decide (1000 ≤ 1002 ∧ 1002 < 1000 + m) && true) = true
    simp; omega, rfl, rfl⟩
  ren := fun _ _ => ⟨rfl, rfl, rfl⟩
  nk := fun _ => ⟨fun i hi => by
    show Blk.box _ [if 1002 = i then AV.any else AV.ptr 1002 0] = _
    rw [if_neg (by omega)]
    rfl, fun _ _ => rfl, fun _ _ => rfl⟩
  doOK := fun s q hok hq => by
    unfold dSt
    cases hd : decide (s.2 < 20000)
    · exact trivial
    · exact direct1_fn hok.2.1 (by have := hok.1; omega) hq (by have := hok.2.2; omega)
theorem direct_fn (W : Wd) : FnX Tryd.prog 16 [.ptr 1000 0, .p (.val (.int .i64 0))] [dwB W] (.clo 30 [1001, 1002]) [dwB W] [dpB 1000, dmB] := by
  obtain ⟨t1, u1, ws1, root1, r01, r11⟩ := W
  refine fn_ofX [1000, 2, 3] Tryd.func16 rfl Tryd.ntmps16 (Nat.le_of_ble_eq_true rfl) (by decide) rfl rfl ?_
  repeat' ((refine zZ.is ?_; first | refine zZ.seq ?_ | (refine zZ.iq 0 ?_; refine zZ.rqc _ K_5 K_11 ?_; (refine zY.m rfl rfl (w_boxPtr rfl rfl rfl (by decide)) ?_); (refine zY.m rfl rfl (w_boxV rfl rfl rfl rfl (by decide)) ?_); (refine zY.v rfl rfl (zV rfl rfl rfl (by decide)) ?_); refine zY.nil ?_) | (refine zZ.isR (id := 1) ?_; refine zZ.zU [2, 3, 4] [2, 3, 1000] (by repeat' first | exact zW.nil | apply zW.p rfl | apply zW.ptr rfl) (by repeat' first | exact zX.nil | apply zX.boxP rfl rfl | apply zX.some rfl) ?_; (refine zY.v rfl rfl (w_mkFunc rfl (by rfl) rfl (by decide)) ?_); (refine zY.v rfl rfl (a_assignC rfl rfl rfl (by decide)) ?_); refine zY.nil ?_) | refine zZ.ret ?_))
  all_goals exact ⟨.inl rfl, _, Sub.refl _, .one rfl rfl, wM (by decide) rfl (by repeat' first | exact trivial | rfl | constructor)⟩
/-- stepping alone, and at once -/
theorem run_dir {α : Type} : ∀ {p : Pr α} {W W' : Wd} {i j : Nat} {x : α}, p.run (wSt 0 qB) (W, i) = .done x (W', j) → i ≤ j ∧ W'.r1 = W.r1 ∧ W'.c = W.c ∧ ∀ i', i' + (j - i) ≤ 20000 → p.run dSt (W, i') = .done x (W', i' + (j - i))
  | .ret _, W, W', i, j, x, hr => by
    rw [zL] at hr
    injection hr with e1 e2
    injection e2 with e2 e3
    subst e1 e2 e3
    exact ⟨Nat.le_refl _, rfl, rfl, fun i' _ => by rw [zL, Nat.sub_self]; rfl⟩
  | .stuck, _, _, _, _, _, hr => by cases hr
  | .ask q k, W, W', i, j, x, hr => by
    rw [wT] at hr
    have hr2 : (k (doX W 0 q false).2).run (wSt 0 qB) ((doX W 0 q false).1, i + 1) = .done x (W', j) := hr
    obtain ⟨h1, h2, h3, h4⟩ := run_dir hr2
    obtain ⟨_, k2, _, _, k5⟩ := doX_keeps W 0 q false
    refine ⟨by omega, h2.trans k5, h3.trans k2, fun i' hi => ?_⟩
    rw [wT]
    have e : dSt (W, i') q = .ret (doX W 0 q false).2 ((doX W 0 q false).1, i' + 1) := by
      show (bif decide (i' < 20000) then _ else _) = _
      rw [decide_eq_true (show i' < 20000 by omega), cond_true]
    rw [e]
    show (k _).run dSt (_, i' + 1) = _
    rw [h4 (i' + 1) (by omega)]
    congr 2
    omega
theorem dir_two {α : Type} {p : Pr α} {C : Nat} {m m' : Int → Int} {x : α} {n : Nat} (hp : Rns C p m x m' n) (hn : n ≤ 400) {f : FuncId} {args : List AV} {res : α → AV} {good : α → Prop} {W : Wd} {i : Nat} (hf : FnH hDir f args [] res (fun _ => []) good (W, i) p) (hm : MemW C W m) (hok : WdOK (1000 * i) W) (hs : W.r0.length = 1) (hi : i + n ≤ 20000)
    {k u v w : Int} (hop : OpL k u v w) (F : α → Pr OutN) (o : OutN) (hF : F x = .ret o) (hq : opL 1 k u v w = p.bind F) :
    ∃ W', MemW C W' m' ∧ WdOK (1000 * (i + n)) W' ∧ W'.r0.length = 1 ∧ W'.r1 = W.r1 ∧ W'.c = W.c ∧ FnE Tryd.prog f args [dpB 1002, dmB, dwB W] (.ret (res x)) [dpB 1002, dmB, dwB W'] ∧
      Fn Tryd.prog 9 [W.pv, .val (.int .i64 (0 : Nat)), opV k u v w, .val (.int .i64 (400 : Nat))] (.tup [W'.pv, outV o.e o.is o.n o.w, .val (.bool true)]) := by
  obtain ⟨W', j, hr, hm', hj⟩ := hp W 0 hm
  obtain ⟨h1, h2, h3, h4⟩ := run_dir hr
  have hd := h4 i (by omega)
  have hok2 : hDir.ok ((W, i) : Wd × Nat) := ⟨by show i ≤ 20000; omega, hok, hs⟩
  obtain ⟨g1, ⟨g2, g3, g4⟩, g5⟩ := hf.done hok2 hd
  have ht : W.t = 1 := hm.t
  have hr2 : (opL W.t k u v w).run (wSt 0 qB) (W, 0) = .done o (W', j) := by
    rw [ht, hq, run_bind]
    show Held.bind (p.run (wSt 0 qB) (W, 0)) _ = _
    rw [show p.run (wSt 0 qB) (W, 0) = .done x (W', j) from hr, Held.zC, hF]
    rfl
  exact ⟨W', hm', g3.le (by show 1000 * (i + (j - 0)) ≤ _; omega), g4, h2, h3, g5, alone_fn (1000 * i) W W' 0 k u v w 400 j o hok (by rw [ht]; unfold Small; omega) (by rw [hs]; decide) hop hr2 (by omega) (by decide) (by omega) (by omega)⟩
end Go.Proofs.YteadaggehndacaaDoor
/- The law ListSeeks: what a search and a seek alone answer of the records that are laid. -/
namespace Go.Proofs.YteadaggehndacaaDoor
set_option maxRecDepth 100000
set_option maxHeartbeats 16000000
open Go Go.RowKit
set_option linter.unusedSimpArgs false
set_option linter.unusedVariables false
def skWd (m : Int → Int) : Wd := ⟨1, 10, ofM 89 m, 0, [([], 0)], [([], 0)]⟩
theorem memOf_out {ws : List Int} {c : Int} (h : (ws.length : Int) ≤ c) : memOf ws c = 0 := by
  unfold memOf
  rw [List.getElem?_eq_none (by omega)]
  rfl
section
variable {k : Int} {bs : List Bool} {s : SkS}
theorem SkOK.keys (_ : SkOK k bs s) : ∀ r : Int, 1 ≤ r → s.m (zG 1 r 1) = (fun r => s.m (zG 1 r 1)) r := fun _ _ => rfl
theorem SkOK.fl (h : SkOK k bs s) : ∀ x ∈ nms (skL 0 bs), qY (s.m (zG 1 x 2)) 2 = false := fun x hx => by
  have hb := (skL_nms bs 0 x).1 hx
  rw [h.f x (by omega) (by omega)]
  unfold qY
  rw [decide_eq_false (show ¬ 4 * x / 2 % 2 = 1 by omega)]
  simp
end
end Go.Proofs.YteadaggehndacaaDoor
/- The law ListDirect, in plain terms: the records that are laid; a list's operations at once and stepping alone. -/
namespace Go.Proofs.YteadaggehndacaaDoor
set_option maxRecDepth 100000
set_option maxHeartbeats 16000000
open Go Go.RowKit
set_option linter.unusedSimpArgs false
set_option linter.unusedVariables false
/-! ### The records that are laid -/
def ldM (i : Nat) (e : Int) (m : Int → Int) : Int → Int := wN (wN (wN m (zG 1 ((i : Int) + 1) 1) ((i : Int) + 1 + 8 * (e % 4))) (zG 1 ((i : Int) + 1) 2) (4 * ((i : Int) + 1))) (zG 1 ((i : Int) + 1) 4) (e / 64)
structure LdF (i : Nat) (m : Int → Int) : Prop where
  n : ∀ r : Int, 0 ≤ r → m (yC 1 r) = 0
  f : ∀ r : Int, 1 ≤ r → r ≤ i → m (zG 1 r 2) = 4 * r
  e : m 3 = 0
  u : ∀ c : Int, 0 ≤ c → U (m c)
theorem ldF0 : LdF 0 (memOf (newW 1 8)) := by
  have hn : ∀ r : Fin 9, memOf (newW 1 8) (yC 1 (r.val : Int)) = 0 := by decide
  refine ⟨fun r hr => ?_, fun r h1 h2 => by omega, by decide, fun c hc => ?_⟩
  · by_cases h : r ≤ 8
    · have := hn ⟨r.toNat, by omega⟩
      rwa [show (((⟨r.toNat, by omega⟩ : Fin 9).val : Nat) : Int) = r from by show ((r.toNat : Nat) : Int) = r; omega] at this
    · refine memOf_out ?_
      rw [newW_len, wQ, if_neg (by omega)]
      omega
  · show U (memOf (newW 1 8) c)
    unfold memOf
    cases h : (newW 1 8)[c.toNat]? with
    | none => exact U.zero
    | some x => exact newW_U (by decide) x (List.mem_of_getElem? h)
theorem ldF_step {i : Nat} {m : Int → Int} (h : LdF i m) (hi : i < 8) {e : Int} (he : 0 ≤ e ∧ e < 256) : LdF (i + 1) (ldM i e m) := by
  have hx : (1 : Int) ≤ (i : Int) + 1 := by omega
  refine ⟨fun r hr => ?_, fun r h1 h2 => ?_, ?_, ?_⟩
  · unfold ldM
    rw [yX _ _ (nf_ne _ _ 4 hr hx (by decide)), yX _ _ (nf_ne _ _ 2 hr hx (by decide)), yX _ _ (nf_ne _ _ 1 hr hx (by decide))]
    exact h.n r hr
  · unfold ldM
    rw [yX _ _ (ff_ne _ _ _ _ (.inr (by decide)) (by decide) (by decide))]
    by_cases e1 : r = (i : Int) + 1
    · subst e1; exact kD _ _ _
    · rw [yX _ _ (ff_ne _ _ _ _ (.inl e1) (by decide) (by decide)), yX _ _ (ff_ne _ _ _ _ (.inl e1) (by decide) (by decide))]
      exact h.f r h1 (by omega)
  · unfold ldM
    rw [yX _ _ (by rw [xZ]; omega), yX _ _ (by rw [xZ]; omega), yX _ _ (by rw [xZ]; omega)]
    exact h.e
  · exact updW_U (updW_U (updW_U h.u ⟨by omega, by omega⟩) ⟨by omega, by omega⟩) ⟨by omega, by omega⟩
def ldAt (ks : List Int) : Nat → Int → Int
  | 0 => memOf (newW 1 8)
  | i + 1 => ldM i (ks.getD i 0) (ldAt ks i)
theorem ldAt_ok {ks : List Int} (hk : ∀ x ∈ ks, 0 ≤ x ∧ x < 256) (hl : 8 ≤ ks.length) : ∀ i, i ≤ 8 → LdF i (ldAt ks i)
  | 0, _ => ldF0
  | i + 1, hi => ldF_step (ldAt_ok hk hl i (by omega)) (by omega) (by
      have : ks.getD i 0 = ks[i]'(by omega) := by simp [List.getD, show i < ks.length by omega]
      rw [this]
      exact hk _ (List.getElem_mem _))
/-! ### A world with a list -/
structure LdI (W : Wd) (m : Int → Int) (l : List (Int × Bool)) (S : Int → Prop) (b : Nat) : Prop where
  mem : MemW 8 W m
  ls : LsI 8 m l S
  len : l.length ≤ 20
  ok : WdOK (1000 * b) W
  s : W.r0.length = 1
  r1 : W.r1.length ≤ 1000
  c : W.c = 8
structure Two (f : FuncId) (args : List AV) (W W' : Wd) (op : PV) (rx : AV) (o : PV) : Prop where
  d : FnE Tryd.prog f args [dpB 1002, dmB, dwB W] (.ret rx) [dpB 1002, dmB, dwB W']
  a : Fn Tryd.prog 9 [W.pv, .val (.int .i64 (0 : Nat)), op, .val (.int .i64 (400 : Nat))] (.tup [W'.pv, o, .val (.bool true)])
def ldW (m : Int → Int) : Wd := ⟨1, 8, ofM 73 m, 0, [([], 0)], [([], 0)]⟩
theorem ldI0 {m : Int → Int} (h : LdF 8 m) : LdI (ldW m) m [] (fun r => r ≤ 8) 0 := by
  refine ⟨memW_of (C := 8) (by decide), ⟨?_, by simp [nms], (fun x hx => by cases hx), (by rw [h.e]; decide), fun r h1 h2 => ⟨by simp [nms], by rw [h.f r h1 h2]; exact hasF_quad⟩⟩, by decide, ⟨fun x hx => ?_, by show (ofM 73 m).length ≤ _; rw [ofM_len]; decide, rfl, by show 1 ≤ 1000000; decide, fun p hp => ?_⟩, rfl, by show 1 ≤ 1000; decide, rfl⟩
  · show m (yC 1 0) = 0
    exact h.n 0 (by decide)
  · obtain ⟨c, _, rfl⟩ := List.mem_map.1 hx
    exact h.u _ (by omega)
  · have hp : p ∈ [(([] : List Int), (0 : Int))] := hp
    rw [List.mem_singleton] at hp
    subst hp
    exact Nat.le_refl _
section
variable {W : Wd} {m : Int → Int} {l : List (Int × Bool)} {S : Int → Prop} {b : Nat}
theorem LdI.weak {S' : Int → Prop} (h : LdI W m l S b) (hS : ∀ r, S' r → S r) : LdI W m l S' b := ⟨h.mem, ⟨h.ls.lk, h.ls.nd, h.ls.fl, h.ls.e, fun r h1 h2 => h.ls.off r h1 (hS r h2)⟩, h.len, h.ok, h.s, h.r1, h.c⟩
theorem LdI.le {b' : Nat} (h : LdI W m l S b) (hb : b ≤ b') : LdI W m l S b' := ⟨h.mem, h.ls, h.len, h.ok.le (by omega), h.s, h.r1, h.c⟩
theorem LdI.word (h : LdI W m l S b) {c : Nat} (hc : c < 73) : W.ws[c]? = some (m c) ∧ U (m c) := by
  have e := h.mem.at_ c hc
  exact ⟨e, h.ok.ws _ (List.mem_of_getElem? e)⟩
theorem small1 : Small 1 := by unfold Small; omega
theorem rf_of {x : Int} (h : 0 ≤ x ∧ x ≤ 8) : Rf x := ⟨h.1, by omega⟩
/-- a search -/
theorem LdI.search (h : LdI W m l S b) {k : Int} (hk : U k) (hb : b + 221 ≤ 20000) :
    ∃ (W' : Wd) (m' : Int → Int) (r : wO) (l1 l2 : List (Int × Bool)), LdI W' m' (l1 ++ l2) S (b + 221) ∧ (l1 ++ l2).length ≤ l.length ∧ Cut (l1 ++ l2) 0 r.x l1 l2 ∧ r.p = kE 0 l1 ∧ (r.is = true → ∃ t, l2 = (r.x, false) :: t) ∧ (0 ≤ r.p ∧ r.p ≤ 8) ∧ (0 ≤ r.x ∧ r.x ≤ 8) ∧
      Two 17 [.clo 30 [1000, 1001], .p (.val (.int .i64 1)), .p (.val (.int .u64 k))] W W' (opV 8 0 0 k) (.tup ([.val (.int .i64 r.p), .val (.int .i64 r.x), .val (.bool r.is), .val (.bool true)].map .p)) (outV 0 r.is r.x r.p) := by
  have hlen := h.len
  obtain ⟨m', hr, hls⟩ := h.ls.search (by decide) k (by omega)
  obtain ⟨l1, l2, hc, hp, hi⟩ := srch_cut (fun r => m (zG 1 r 1)) k l 0
  have hok := srch_ok (fun r => m (zG 1 r 1)) k l 0
  have hll : (q9 (fun r => m (zG 1 r 1)) k l).length ≤ l.length := by
    have := (srchL_sub (fun r => m (zG 1 r 1)) k l).length_le
    unfold nms at this
    rwa [List.length_map, List.length_map] at this
  generalize srch (fun r => m (zG 1 r 1)) k 0 l = r at *
  generalize q9 (fun r => m (zG 1 r 1)) k l = l' at *
  obtain ⟨W', h1, h2, h3, h4, h5, h6, h7⟩ := dir_two (hr.le (show _ ≤ 221 by omega)) (by decide) (search_h hDir ((W, b) : Wd × Nat) (k := k) small1) h.mem h.ok h.s hb (k := 8) (u := 0) (v := 0) (w := k) ⟨fun _ => rf_of (by decide), fun h => absurd h (by decide), hk⟩ (fun r => bif r.ok then .ret ⟨0, r.is, r.x, r.p⟩ else .ret ⟨7, false, 0, 0⟩) ⟨0, r.is, r.x, r.p⟩ (by show (bif r.ok then _ else _) = _; rw [hok]; rfl) rfl
  have hbd := hls.lk.bnd
  have hce := hc.e
  subst hce
  rw [hok] at h6
  unfold Hnd.doA at h6
  refine ⟨W', m', r, l1, l2, ⟨h1, hls, by omega, h2, h3, by rw [h4]; exact h.r1, h5.trans h.c⟩, hll, ⟨rfl, hc.u, hc.x⟩, hp, hi, ?_, ?_, ⟨h6, h7⟩⟩
  · rw [hp]
    rcases lastN_in l1 0 with e | e
    · rw [e]; decide
    · have := hbd (kE 0 l1) (by rw [vB]; exact List.mem_append_left _ e); omega
  · rw [hc.x]
    cases l2 with
    | nil => decide
    | cons y t =>
      have := hbd y.1 (by rw [vB]; exact List.mem_append_right _ (List.mem_cons_self ..))
      show 0 ≤ y.1 ∧ y.1 ≤ 8
      omega
/-- a link behind it -/
theorem LdI.link {l1 l2 : List (Int × Bool)} (h : LdI W m (l1 ++ l2) S b) (hlen : (l1 ++ l2).length < 20) {p x r : Int} (hc : Cut (l1 ++ l2) 0 x l1 l2) (hp : p = kE 0 l1) (hpb : 0 ≤ p ∧ p ≤ 8) (hxb : 0 ≤ x ∧ x ≤ 8) (hr : 1 ≤ r ∧ r ≤ 8) (hS : S r) (hb : b + 2 ≤ 20000) :
    ∃ (W' : Wd) (m' : Int → Int), LdI W' m' (l1 ++ (r, false) :: l2) (fun q => S q ∧ q ≠ r) (b + 2) ∧
      Two 18 [.clo 30 [1000, 1001], .p (.val (.int .i64 1)), .p (.val (.int .i64 p)), .p (.val (.int .i64 x)), .p (.val (.int .i64 r))] W W' (opV 24 p x r) (.p (.val (.bool true))) (outV 0 true 0 0) := by
  obtain ⟨g1, g2⟩ := h.ls.link hc hp hr hS
  have hl : (l1 ++ (r, false) :: l2).length = (l1 ++ l2).length + 1 := by simp; omega
  obtain ⟨W', h1, h2, h3, h4, h5, h6, h7⟩ := dir_two g1 (by decide) (link_h hDir ((W, b) : Wd × Nat) small1 (rf_of hpb) (rf_of hxb) (rf_of ⟨by omega, hr.2⟩)) h.mem h.ok h.s hb (k := 24) (u := p) (v := x) (w := r) ⟨fun _ => rf_of hpb, fun _ => ⟨rf_of hxb, rf_of ⟨by omega, hr.2⟩⟩, ⟨by omega, by omega⟩⟩ (fun b => .ret ⟨0, b, 0, 0⟩) ⟨0, true, 0, 0⟩ rfl rfl
  exact ⟨W', _, ⟨h1, g2, by omega, h2, h3, by rw [h4]; exact h.r1, h5.trans h.c⟩, h6, h7⟩
/-- a mark -/
theorem LdI.mark {l1 t : List (Int × Bool)} {x : Int} (h : LdI W m (l1 ++ (x, false) :: t) S b) (hxb : 0 ≤ x ∧ x ≤ 8) (hb : b + 2 ≤ 20000) :
    ∃ (W' : Wd) (m' : Int → Int), LdI W' m' (l1 ++ (x, true) :: t) S (b + 2) ∧
      Two 19 [.clo 30 [1000, 1001], .p (.val (.int .i64 1)), .p (.val (.int .i64 x))] W W' (opV 9 x 0 0) (.p (.val (.bool true))) (outV 0 true 0 0) := by
  obtain ⟨g1, g2⟩ := h.ls.mark rfl
  have hlen := h.len
  have hl : (l1 ++ (x, true) :: t).length = (l1 ++ (x, false) :: t).length := by simp
  obtain ⟨W', h1, h2, h3, h4, h5, h6, h7⟩ := dir_two g1 (by decide) (markOp_h hDir ((W, b) : Wd × Nat) small1 (rf_of hxb)) h.mem h.ok h.s hb (k := 9) (u := x) (v := 0) (w := 0) ⟨fun _ => rf_of hxb, fun h => absurd h (by decide), U.zero⟩ (fun b => .ret ⟨0, b, 0, 0⟩) ⟨0, true, 0, 0⟩ rfl rfl
  exact ⟨W', _, ⟨h1, g2, by omega, h2, h3, by rw [h4]; exact h.r1, h5.trans h.c⟩, h6, h7⟩
/-- a sweep -/
theorem LdI.sweep (h : LdI W m l S b) {s : Int} (hs : U s) (hb : b + 281 ≤ 20000) :
    ∃ (W' : Wd) (m' : Int → Int) (l' : List (Int × Bool)), LdI W' m' l' S (b + 281) ∧ l'.length ≤ l.length ∧
      Two 20 [.clo 30 [1000, 1001], .p (.val (.int .i64 1)), .p (.val (.int .u64 s))] W W' (opV 10 0 0 s) (.p (.val (.bool true))) (outV 0 false 0 0) := by
  have hlen := h.len
  obtain ⟨m', hr, hls⟩ := h.ls.sweep (by decide) s (by omega)
  have hll : (swpL (gone m s) l).length ≤ l.length := by
    have := (swpL_subl (gone m s) l).length_le
    unfold nms at this
    rwa [List.length_map, List.length_map] at this
  obtain ⟨W', h1, h2, h3, h4, h5, h6, h7⟩ := dir_two (hr.le (show _ ≤ 281 by omega)) (by decide) (sweep_h hDir ((W, b) : Wd × Nat) (k := s) small1) h.mem h.ok h.s hb (k := 10) (u := 0) (v := 0) (w := s) ⟨fun _ => rf_of (by decide), fun h => absurd h (by decide), hs⟩ (fun b => bif b then .ret ⟨0, false, 0, 0⟩ else .ret ⟨7, false, 0, 0⟩) ⟨0, false, 0, 0⟩ rfl rfl
  exact ⟨W', m', _, ⟨h1, hls, by omega, h2, h3, by rw [h4]; exact h.r1, h5.trans h.c⟩, hll, h6, h7⟩
/-- a seek -/
theorem LdI.seek (h : LdI W m l S b) {k : Int} (hk : U k) (hb : b + 221 ≤ 20000) :
    ∃ (W' : Wd) (m' : Int → Int) (x : Int) (is : Bool), LdI W' m' l S (b + 221) ∧
      Two 21 [.clo 30 [1000, 1001], .p (.val (.int .i64 1)), .p (.val (.int .i64 0)), .p (.val (.int .u64 k))] W W' (opV 25 0 0 k) (.tup ([.val (.int .i64 x), .val (.bool is)].map .p)) (outV 0 is x 0) := by
  have hlen := h.len
  have hr := (h.ls.seek (by decide) k (by omega)).goes
  obtain ⟨W', h1, h2, h3, h4, h5, h6, h7⟩ := dir_two (hr.le (show _ ≤ 221 by omega)) (by decide) (seek_h hDir ((W, b) : Wd × Nat) (f := 0) (k := k) small1 (rf_of (by decide))) h.mem h.ok h.s hb (k := 25) (u := 0) (v := 0) (w := k) ⟨fun _ => rf_of (by decide), fun h => absurd h (by decide), hk⟩ (fun r => .ret ⟨0, r.2, r.1, 0⟩) ⟨0, _, _, 0⟩ rfl rfl
  exact ⟨W', m, _, _, ⟨h1, h.ls, hlen, h2, h3, by rw [h4]; exact h.r1, h5.trans h.c⟩, h6, h7⟩
end
end Go.Proofs.YteadaggehndacaaDoor
/- A row of words, as it is stored in word by word: what the walk asks of it. Generic over the program. -/
namespace Go.Proofs.YteadaggehndacaaDoor
set_option maxRecDepth 100000
set_option maxHeartbeats 16000000
open Go Go.RowKit
set_option linter.unusedSimpArgs false
set_option linter.unusedVariables false
structure RowF (n : Nat) (R : List PV) (m : Int → Int) : Prop where
  e : R = wds (ofM n m)
section
variable {n : Nat} {R : List PV} {m : Int → Int} {p : Int}
theorem RowF.of (n : Nat) (m : Int → Int) : RowF n (wds (ofM n m)) m := ⟨rfl⟩
theorem RowF.set (h : RowF n R m) (hp : 0 ≤ p ∧ p < n) (v : Int) : RowF n (R.set p.toNat (.val (.int .u64 v))) (wN m p v) := ⟨by rw [h.e, wds_set, ofM_set n m hp.1 hp.2]⟩
theorem RowF.k (h : RowF n R m) : ∀ e ∈ R, e.cells.length = 1 := by rw [h.e]; exact q8 _
theorem RowF.c (h : RowF n R m) : ∀ e ∈ R, e.cells = [e] := by
  rw [h.e]
  intro e he
  obtain ⟨x, _, rfl⟩ := List.mem_map.1 he
  rfl
theorem RowF.len (h : RowF n R m) : R.length = n := by rw [h.e, vF, ofM_len]
theorem RowF.r (h : RowF n R m) (hp : 0 ≤ p ∧ p < n) : (0 : Int) ≤ p ∧ p < (R.length : Nat) := by rw [h.len]; exact hp
theorem RowF.i (h : RowF n R m) (hp : 0 ≤ p ∧ p < n) : p.toNat < R.length := by rw [h.len]; omega
theorem RowF.g (h : RowF n R m) (hp : 0 ≤ p ∧ p < n) {v : Int} (hv : m p = v) : R[p.toNat * 1]? = some (.val (.int .u64 v)) := by
  rw [h.e, Nat.mul_one]
  refine wds_at ?_
  rw [ofM_at _ _ (by omega), show ((p.toNat : Nat) : Int) = p by omega, hv]
end
end Go.Proofs.YteadaggehndacaaDoor
/- Two worlds that are the same: contract. -/
namespace Go.Proofs.YteadaggehndacaaDoor
set_option maxRecDepth 100000
set_option maxHeartbeats 16000000
open Go Go.RowKit
set_option linter.unusedSimpArgs false
set_option linter.unusedVariables false
attribute [local irreducible] zY zZ Step zQ Sub zM zP Fn
def sameMS (v : PV) (i : Nat) : AS := { t := [(2, .ptr 2 0), (3, .ptr 3 0), (5, .p (.val (.int .i64 (i : Nat))))], s := [(2, .box 26 (v.cells.map AV.p)), (3, .box 26 (v.cells.map AV.p))] }
theorem memSame_fn (t c : Int) (ws : List Int) (hl : ws.length ≤ 1000000) : Fn Tryd.prog 28 [memV t c ws, memV t c ws] (.p (.val (.bool true))) := by
  have g1 : ∀ x : Int, (!decide (x = x)) = false := fun x => by simp
  refine yU Tryd.func28 rfl Tryd.ntmps28 (Nat.le_of_ble_eq_true rfl) ?_
  repeat' ((refine zZ.is ?_; first | refine zZ.seq ?_ | (refine zZ.iq 0 ?_; refine zZ.rqb _ K_5 K_3 ?_; (refine zY.m rfl rfl (yN rfl rfl rfl (by decide)) ?_); (refine zY.m rfl rfl (yN rfl rfl rfl (by decide)) ?_); (refine zY.v rfl rfl (zV rfl rfl rfl (by decide)) ?_); refine zY.nil ?_) | (refine zZ.iq 1 ?_; refine zZ.rqa _ K_h K_3 ?_; all_goals (refine zY.v rfl rfl (zA rfl rfl rfl (by decide)) ?_); all_goals (refine zY.v rfl rfl (zD rfl rfl rfl (by rfl) rfl (by decide)) ?_); all_goals (refine zY.v rfl rfl (zA rfl rfl rfl (by decide)) ?_); all_goals (refine zY.v rfl rfl (zD rfl rfl rfl (by rfl) rfl (by decide)) ?_); all_goals (refine zY.v rfl rfl (by exact vG rfl rfl rfl (by exact g1 _) rfl (by decide)) ?_); all_goals (refine zY.v rfl rfl (zJ rfl rfl rfl (by decide)) ?_); all_goals (refine zY.gY rfl rfl (by decide) rfl (by with_reducible rfl) rfl (by decide) (zA rfl rfl rfl (by decide)) ?_); all_goals (refine zY.gY rfl rfl (by decide) rfl (by with_reducible rfl) rfl (by decide) (zD rfl rfl rfl (by rfl) rfl (by decide)) ?_); all_goals (refine zY.gY rfl rfl (by decide) rfl (by with_reducible rfl) rfl (by decide) (zA rfl rfl rfl (by decide)) ?_); all_goals (refine zY.gY rfl rfl (by decide) rfl (by with_reducible rfl) rfl (by decide) (zD rfl rfl rfl (by rfl) rfl (by decide)) ?_); all_goals (refine zY.gY rfl rfl (by decide) rfl (by with_reducible rfl) rfl (by decide) (by exact vG rfl rfl rfl (by exact g1 _) rfl (by decide)) ?_); all_goals (refine zY.v rfl rfl (by exact wK rfl rfl (by with_reducible rfl) rfl rfl (by decide)) ?_); all_goals (refine zY.v rfl rfl (zJ rfl rfl rfl (by decide)) ?_); all_goals (refine zY.gY rfl rfl (by decide) rfl (by with_reducible rfl) rfl (by decide) (zA rfl rfl rfl (by decide)) ?_); all_goals (refine zY.gY rfl rfl (by decide) rfl (by with_reducible rfl) rfl (by decide) (zD rfl rfl rfl (by rfl) rfl (by decide)) ?_); all_goals (refine zY.gY rfl rfl (by decide) rfl (by with_reducible rfl) rfl (by decide) (kX rfl rfl rfl (by decide)) ?_); all_goals (refine zY.gY rfl rfl (by decide) rfl (by with_reducible rfl) rfl (by decide) (zA rfl rfl rfl (by decide)) ?_); all_goals (refine zY.gY rfl rfl (by decide) rfl (by with_reducible rfl) rfl (by decide) (zD rfl rfl rfl (by rfl) rfl (by decide)) ?_); all_goals (refine zY.gY rfl rfl (by decide) rfl (by with_reducible rfl) rfl (by decide) (kX rfl rfl rfl (by decide)) ?_); all_goals (refine zY.gY rfl rfl (by decide) rfl (by with_reducible rfl) rfl (by decide) (by exact vG rfl rfl rfl (by exact g1 _) rfl (by decide)) ?_); all_goals (refine zY.v rfl rfl (by exact wK rfl rfl (by with_reducible rfl) rfl rfl (by decide)) ?_); all_goals (refine zY.nil ?_)) | (refine zZ.iq 3 ?_; refine zZ.rqa _ K_h K_3 ?_; (refine zY.v rfl rfl (zV rfl rfl rfl (by decide)) ?_); refine zY.nil ?_) | refine zZ.y9 rfl (by with_reducible rfl) ?_ | refine zZ.skip ?_ | refine zZ.block ?_))
  all_goals first | (exfalso; simp_all; done) | skip
  refine zZ.loop (sameMS (memV t c ws)) (fun i => i ≤ ws.length) (fun i => ws.length - i) 0 ?h0 (by omega) ?rd
  case h0 =>
    unfold sameMS
    exact y8 K_1o K_3
  case rd =>
    intro i hi
    unfold sameMS
    by_cases hlt : i < ws.length
    case pos =>
      have f1 : decide ((i : Int) < ((wds ws).length : Nat)) = true := decide_eq_true (by rw [vF]; omega)
      have g2 : (0 : Int) ≤ (i : Int) ∧ (i : Int) < (wds ws).length := by rw [vF]; omega
      have g3 : (wds ws)[(i : Int).toNat]? = some (.val (.int .u64 (ws[i]'hlt))) := by rw [Int.toNat_natCast]; exact wds_at (List.getElem?_eq_getElem hlt)
      have g4 := q8 ws
      have g5 : IntKind.i64.wrap ((i : Int) + 1) = ((i + 1 : Nat) : Int) := by rw [wrap_i64 _ (by omega)]; omega
      repeat' (first | (refine zZ.is ?_; first | refine zZ.seq ?_ | (refine zZ.isR (id := 4) ?_; refine zZ.zU [2, 3, 4, 5, 31, 44] [2, 3] (by repeat' first | exact zW.nil | apply zW.p rfl | apply zW.ptr rfl | apply zW.skip) (by repeat' first | exact zX.nil | apply zX.boxP rfl rfl) ?_; (refine zY.v rfl rfl (zJ rfl rfl rfl (by decide)) ?_); (refine zY.v rfl rfl (zA rfl rfl rfl (by decide)) ?_); (refine zY.v rfl rfl (zD rfl rfl rfl (by rfl) rfl (by decide)) ?_); (refine zY.v rfl rfl (kX rfl rfl rfl (by decide)) ?_); (refine zY.v rfl rfl (by exact wB rfl rfl rfl (by exact f1) rfl (by decide)) ?_); refine zY.nil ?_) | (refine zZ.isR (id := 6) ?_; refine zZ.qI [2, 3, 4, 5, 31, 44] [2, 3] (by repeat' first | exact zW.nil | apply zW.p rfl | apply zW.ptr rfl | apply zW.skip) (by repeat' first | exact zX.nil | apply zX.boxP rfl rfl) (zZ.draws ?_); all_goals (refine Draws.v rfl rfl (zA rfl rfl rfl (by decide)) ?_); all_goals (refine Draws.v rfl rfl (zD rfl rfl rfl (by rfl) rfl (by decide)) ?_); all_goals (refine Draws.v rfl rfl (zJ rfl rfl rfl (by decide)) ?_); all_goals (refine Draws.v rfl rfl (by exact wI rfl rfl rfl (by exact g4) (by exact g3) rfl (by decide)) ?_); all_goals (refine Draws.v rfl rfl (w_load1 rfl rfl rfl rfl (by decide)) ?_); all_goals (refine Draws.v rfl rfl (zA rfl rfl rfl (by decide)) ?_); all_goals (refine Draws.v rfl rfl (zD rfl rfl rfl (by rfl) rfl (by decide)) ?_); all_goals (refine Draws.v rfl rfl (zJ rfl rfl rfl (by decide)) ?_); all_goals (refine Draws.v rfl rfl (by exact wI rfl rfl rfl (by exact g4) (by exact g3) rfl (by decide)) ?_); all_goals (refine Draws.v rfl rfl (w_load1 rfl rfl rfl rfl (by decide)) ?_); all_goals (refine Draws.v rfl rfl (by exact vG rfl rfl rfl (by exact g1 _) rfl (by decide)) ?_); all_goals ((refine Draws.done (by kernel_rfl) (by kernel_rfl) (by kernel_rfl) ?_; refine zM.nil ?_))) | (refine zZ.isR (id := 5) ?_; refine zZ.zU [2, 3, 4, 5, 31, 44] [2, 3] (by repeat' first | exact zW.nil | apply zW.p rfl | apply zW.ptr rfl | apply zW.skip) (by repeat' first | exact zX.nil | apply zX.boxP rfl rfl) ?_; (refine zY.v rfl rfl (zJ rfl rfl rfl (by decide)) ?_); (refine zY.v rfl rfl (by exact a_add rfl rfl rfl (by exact g5) rfl (by decide)) ?_); (refine zY.v rfl rfl (zV rfl rfl rfl (by decide)) ?_); refine zY.nil ?_) | refine zZ.xV rfl (by first | assumption | with_reducible rfl) ?_ | refine zZ.y9 rfl (by with_reducible rfl) ?_ | refine zZ.skip ?_ | refine zZ.block ?_) | refine zS.n ?_)
      all_goals first | (exfalso; simp_all; done) | skip
      refine ⟨i + 1, ?_, by omega, by omega⟩
      show Sub _ (sameMS (memV t c ws) (i + 1))
      unfold sameMS
      exact y8 K_1o K_3
    case neg =>
      have f1 : decide ((i : Int) < ((wds ws).length : Nat)) = false := decide_eq_false (by rw [vF]; omega)
      repeat' ((refine zZ.is ?_; first | refine zZ.seq ?_ | (refine zZ.isR (id := 4) ?_; refine zZ.zU [2, 3, 4, 5, 31, 44] [2, 3] (by repeat' first | exact zW.nil | apply zW.p rfl | apply zW.ptr rfl | apply zW.skip) (by repeat' first | exact zX.nil | apply zX.boxP rfl rfl) ?_; (refine zY.v rfl rfl (zJ rfl rfl rfl (by decide)) ?_); (refine zY.v rfl rfl (zA rfl rfl rfl (by decide)) ?_); (refine zY.v rfl rfl (zD rfl rfl rfl (by rfl) rfl (by decide)) ?_); (refine zY.v rfl rfl (kX rfl rfl rfl (by decide)) ?_); (refine zY.v rfl rfl (by exact wB rfl rfl rfl (by exact f1) rfl (by decide)) ?_); refine zY.nil ?_) | (refine zZ.isR (id := 8) ?_; refine zZ.zU [4] [2, 3] (by repeat' first | exact zW.nil | apply zW.skip) (by repeat' first | exact zX.nil | apply zX.boxP rfl rfl) ?_; (refine zY.v rfl rfl (zV rfl rfl rfl (by decide)) ?_); refine zY.nil ?_) | refine zZ.y9 rfl (by first | assumption | with_reducible rfl) ?_ | refine zZ.exit ?_ | refine zZ.ret ?_))
      all_goals exact ⟨by first | exact .inl rfl | exact .inr rfl, _, Sub.refl _, .p rfl (.tmp rfl)⟩
theorem strSame_fn (d : List Int) (z : Int) : Fn Tryd.prog 68 [strV d z, strV d z] (.p (.val (.bool true))) := by
  have g1 : decide (z = z) = true := by simp
  have g2 : ∀ x : ByteArray, (x.toList == x.toList) = true := fun x => by simp
  refine yU Tryd.func68 rfl Tryd.ntmps68 (Nat.le_of_ble_eq_true rfl) ?_
  repeat' ((refine zZ.is ?_; first | refine zZ.seq ?_ | (refine zZ.iq 0 ?_; refine zZ.rqb _ K_5 K_3 ?_; (refine zY.m rfl rfl (yN rfl rfl rfl (by decide)) ?_); (refine zY.m rfl rfl (yN rfl rfl rfl (by decide)) ?_); (refine zY.v rfl rfl (zV rfl rfl rfl (by decide)) ?_); refine zY.nil ?_) | (refine zZ.iq 1 ?_; refine zZ.rqa _ K_h K_3 ?_; all_goals (refine zY.v rfl rfl (zA rfl rfl rfl (by decide)) ?_); all_goals (refine zY.v rfl rfl (zD rfl rfl rfl (by rfl) rfl (by decide)) ?_); all_goals (refine zY.v rfl rfl (w_str rfl rfl rfl (by decide)) ?_); all_goals (refine zY.v rfl rfl (zA rfl rfl rfl (by decide)) ?_); all_goals (refine zY.v rfl rfl (zD rfl rfl rfl (by rfl) rfl (by decide)) ?_); all_goals (refine zY.v rfl rfl (w_str rfl rfl rfl (by decide)) ?_); all_goals (refine zY.v rfl rfl (by exact r_eqlS rfl rfl rfl (by exact g2 _) rfl (by decide)) ?_); all_goals (refine zY.v rfl rfl (zJ rfl rfl rfl (by decide)) ?_); all_goals (refine zY.gY rfl rfl (by decide) rfl (by with_reducible rfl) rfl (by decide) (zA rfl rfl rfl (by decide)) ?_); all_goals (refine zY.gY rfl rfl (by decide) rfl (by with_reducible rfl) rfl (by decide) (zD rfl rfl rfl (by rfl) rfl (by decide)) ?_); all_goals (refine zY.gY rfl rfl (by decide) rfl (by with_reducible rfl) rfl (by decide) (zA rfl rfl rfl (by decide)) ?_); all_goals (refine zY.gY rfl rfl (by decide) rfl (by with_reducible rfl) rfl (by decide) (zD rfl rfl rfl (by rfl) rfl (by decide)) ?_); all_goals (refine zY.gY rfl rfl (by decide) rfl (by with_reducible rfl) rfl (by decide) (by exact r_eql rfl rfl rfl (by exact g1) rfl (by decide)) ?_); all_goals (refine zY.v rfl rfl (by exact xS rfl rfl (by with_reducible rfl) rfl rfl (by decide)) ?_); all_goals (refine zY.v rfl rfl (zV rfl rfl rfl (by decide)) ?_); all_goals (refine zY.nil ?_)) | refine zZ.ret ?_))
  all_goals exact ⟨by first | exact .inl rfl | exact .inr rfl, _, Sub.refl _, .p rfl (.tmp rfl)⟩
def sameRS (v : PV) (i : Nat) : AS := { t := [(0, .p v), (1, .p v), (5, .p (.val (.int .i64 (i : Nat))))], s := [] }
theorem rowSame_fn (l : List (List Int × Int)) (hl : l.length ≤ 1000000) : Fn Tryd.prog 52 [.sl (strs l), .sl (strs l)] (.p (.val (.bool true))) := by
  have g1 : ∀ x : Int, (!decide (x = x)) = false := fun x => by simp
  refine yU Tryd.func52 rfl Tryd.ntmps52 (Nat.le_of_ble_eq_true rfl) ?_
  repeat' ((refine zZ.is ?_; first | refine zZ.seq ?_ | (refine zZ.isR (id := 0) ?_; refine zZ.zU [0, 1] [] (by repeat' first | exact zW.nil | apply zW.p rfl) (by repeat' exact zX.nil) ?_; (refine zY.v rfl rfl (zV rfl rfl rfl (by decide)) ?_); refine zY.nil ?_) | (refine zZ.isR (id := 1) ?_; refine zZ.zU [0, 1, 4] [] (by repeat' first | exact zW.nil | apply zW.p rfl) (by repeat' exact zX.nil) ?_; (refine zY.v rfl rfl (zJ rfl rfl rfl (by decide)) ?_); (refine zY.v rfl rfl (kX rfl rfl rfl (by decide)) ?_); (refine zY.v rfl rfl (zJ rfl rfl rfl (by decide)) ?_); (refine zY.v rfl rfl (kX rfl rfl rfl (by decide)) ?_); (refine zY.v rfl rfl (by exact vG rfl rfl rfl (by exact g1 _) rfl (by decide)) ?_); refine zY.nil ?_) | (refine zZ.isR (id := 3) ?_; refine zZ.zU [0, 1, 4] [] (by repeat' first | exact zW.nil | apply zW.p rfl) (by repeat' exact zX.nil) ?_; (refine zY.v rfl rfl (zV rfl rfl rfl (by decide)) ?_); refine zY.nil ?_) | refine zZ.y9 rfl (by with_reducible rfl) ?_ | refine zZ.skip ?_ | refine zZ.block ?_))
  all_goals first | (exfalso; simp_all; done) | skip
  refine zZ.loop (sameRS (.sl (strs l))) (fun i => i ≤ l.length) (fun i => l.length - i) 0 ?h0 (by omega) ?rd
  case h0 =>
    unfold sameRS
    exact y8 K_1p []
  case rd =>
    intro i hi
    unfold sameRS
    by_cases hlt : i < l.length
    case pos =>
      have f1 : decide ((i : Int) < ((strs l).length : Nat)) = true := decide_eq_true (by rw [qG]; omega)
      have g2 : (0 : Int) ≤ (i : Int) ∧ (i : Int) < (strs l).length := by rw [qG]; omega
      have g3 : (strs l)[(i : Int).toNat]? = some (strV (l[i]'hlt).1 (l[i]'hlt).2) := by rw [Int.toNat_natCast]; exact strs_at (List.getElem?_eq_getElem hlt)
      have g4 := strs_cells l
      have g5 : IntKind.i64.wrap ((i : Int) + 1) = ((i + 1 : Nat) : Int) := by rw [wrap_i64 _ (by omega)]; omega
      have c1 := strSame_fn (l[i]'hlt).1 (l[i]'hlt).2
      repeat' (first | (refine zZ.is ?_; first | refine zZ.seq ?_ | (refine zZ.isR (id := 4) ?_; refine zZ.zU [0, 1, 4, 5, 6, 15, 28] [] (by repeat' first | exact zW.nil | apply zW.p rfl | apply zW.skip) (by repeat' exact zX.nil) ?_; (refine zY.v rfl rfl (zJ rfl rfl rfl (by decide)) ?_); (refine zY.v rfl rfl (zJ rfl rfl rfl (by decide)) ?_); (refine zY.v rfl rfl (kX rfl rfl rfl (by decide)) ?_); (refine zY.v rfl rfl (by exact wB rfl rfl rfl (by exact f1) rfl (by decide)) ?_); refine zY.nil ?_) | (refine zZ.isR (id := 6) ?_; refine zZ.qI [0, 1, 4, 5, 6, 15, 28] [] (by repeat' first | exact zW.nil | apply zW.p rfl | apply zW.skip) (by repeat' exact zX.nil) (zZ.draws ?_); all_goals (refine Draws.v rfl rfl (zJ rfl rfl rfl (by decide)) ?_); all_goals (refine Draws.v rfl rfl (zJ rfl rfl rfl (by decide)) ?_); all_goals (refine Draws.v rfl rfl (by exact wI rfl rfl rfl (by exact g4) (by exact g3) rfl (by decide)) ?_); all_goals (refine Draws.v rfl rfl (by exact qH rfl rfl (by exact Nat.le_of_ble_eq_true rfl) rfl (by decide)) ?_); all_goals (refine Draws.v rfl rfl (zJ rfl rfl rfl (by decide)) ?_); all_goals (refine Draws.v rfl rfl (zJ rfl rfl rfl (by decide)) ?_); all_goals (refine Draws.v rfl rfl (by exact wI rfl rfl rfl (by exact g4) (by exact g3) rfl (by decide)) ?_); all_goals (refine Draws.v rfl rfl (by exact qH rfl rfl (by exact Nat.le_of_ble_eq_true rfl) rfl (by decide)) ?_); all_goals (refine Draws.v rfl rfl (by exact yY (c1) rfl rfl rfl (by decide)) ?_); all_goals (refine Draws.v rfl rfl (zV rfl rfl rfl (by decide)) ?_); all_goals ((refine Draws.done (by kernel_rfl) (by kernel_rfl) (by kernel_rfl) ?_; refine zM.nil ?_))) | (refine zZ.isR (id := 7) ?_; refine zZ.zU [0, 1, 4, 5, 6, 15, 28] [] (by repeat' first | exact zW.nil | apply zW.p rfl | apply zW.skip) (by repeat' exact zX.nil) ?_; (refine zY.v rfl rfl (zJ rfl rfl rfl (by decide)) ?_); (refine zY.v rfl rfl (by exact r_notB rfl rfl (by exact bF (by decide)) rfl (by decide)) ?_); refine zY.nil ?_) | (refine zZ.isR (id := 5) ?_; refine zZ.zU [0, 1, 4, 5, 6, 15, 28] [] (by repeat' first | exact zW.nil | apply zW.p rfl | apply zW.skip) (by repeat' exact zX.nil) ?_; (refine zY.v rfl rfl (zJ rfl rfl rfl (by decide)) ?_); (refine zY.v rfl rfl (by exact a_add rfl rfl rfl (by exact g5) rfl (by decide)) ?_); (refine zY.v rfl rfl (zV rfl rfl rfl (by decide)) ?_); refine zY.nil ?_) | refine zZ.xV rfl (by first | assumption | with_reducible rfl) ?_ | refine zZ.y9 rfl (by with_reducible rfl) ?_ | refine zZ.skip ?_ | refine zZ.block ?_) | refine zS.n ?_)
      all_goals first | (exfalso; simp_all; done) | skip
      refine ⟨i + 1, ?_, by omega, by omega⟩
      show Sub _ (sameRS (.sl (strs l)) (i + 1))
      unfold sameRS
      exact y8 K_1p []
    case neg =>
      have f1 : decide ((i : Int) < ((strs l).length : Nat)) = false := decide_eq_false (by rw [qG]; omega)
      repeat' ((refine zZ.is ?_; first | refine zZ.seq ?_ | (refine zZ.isR (id := 4) ?_; refine zZ.zU [0, 1, 4, 5, 6, 15, 28] [] (by repeat' first | exact zW.nil | apply zW.p rfl | apply zW.skip) (by repeat' exact zX.nil) ?_; (refine zY.v rfl rfl (zJ rfl rfl rfl (by decide)) ?_); (refine zY.v rfl rfl (zJ rfl rfl rfl (by decide)) ?_); (refine zY.v rfl rfl (kX rfl rfl rfl (by decide)) ?_); (refine zY.v rfl rfl (by exact wB rfl rfl rfl (by exact f1) rfl (by decide)) ?_); refine zY.nil ?_) | (refine zZ.isR (id := 9) ?_; refine zZ.zU [4] [] (by repeat' first | exact zW.nil | apply zW.skip) (by repeat' exact zX.nil) ?_; (refine zY.v rfl rfl (zV rfl rfl rfl (by decide)) ?_); refine zY.nil ?_) | refine zZ.y9 rfl (by first | assumption | with_reducible rfl) ?_ | refine zZ.exit ?_ | refine zZ.ret ?_))
      all_goals exact ⟨by first | exact .inl rfl | exact .inr rfl, _, Sub.refl _, .p rfl (.tmp rfl)⟩
theorem diskSame_fn (root : Int) (r0 r1 : List (List Int × Int)) (h0 : r0.length ≤ 1000000) (h1 : r1.length ≤ 1000000) : Fn Tryd.prog 29 [w9 root r0 r1, w9 root r0 r1] (.p (.val (.bool true))) := by
  have g1 : decide (root = root) = true := by simp
  have c1 := rowSame_fn r0 h0
  have c2 := rowSame_fn r1 h1
  refine yU Tryd.func29 rfl Tryd.ntmps29 (Nat.le_of_ble_eq_true rfl) ?_
  repeat' ((refine zZ.is ?_; first | refine zZ.seq ?_ | (refine zZ.iq 0 ?_; refine zZ.rqb _ K_5 K_3 ?_; (refine zY.m rfl rfl (yN rfl rfl rfl (by decide)) ?_); (refine zY.m rfl rfl (yN rfl rfl rfl (by decide)) ?_); (refine zY.v rfl rfl (zV rfl rfl rfl (by decide)) ?_); refine zY.nil ?_) | (refine zZ.iq 1 ?_; refine zZ.rqa _ K_h K_3 ?_; (refine zY.v rfl rfl (zA rfl rfl rfl (by decide)) ?_); (refine zY.v rfl rfl (by exact wP rfl rfl rfl (by omega) rfl (by decide)) ?_); (refine zY.v rfl rfl (zD rfl rfl rfl (by rfl) rfl (by decide)) ?_); (refine zY.v rfl rfl (zA rfl rfl rfl (by decide)) ?_); (refine zY.v rfl rfl (by exact wP rfl rfl rfl (by omega) rfl (by decide)) ?_); (refine zY.v rfl rfl (zD rfl rfl rfl (by rfl) rfl (by decide)) ?_); (refine zY.v rfl rfl (by exact yY (c1) rfl rfl rfl (by decide)) ?_); (refine zY.v rfl rfl (zV rfl rfl rfl (by decide)) ?_); refine zY.nil ?_) | (refine zZ.iq 2 ?_; refine zZ.rqa _ K_8 K_3 ?_; (refine zY.v rfl rfl (zA rfl rfl rfl (by decide)) ?_); (refine zY.v rfl rfl (by exact wP rfl rfl rfl (by omega) rfl (by decide)) ?_); (refine zY.v rfl rfl (zD rfl rfl rfl (by rfl) rfl (by decide)) ?_); (refine zY.v rfl rfl (zA rfl rfl rfl (by decide)) ?_); (refine zY.v rfl rfl (by exact wP rfl rfl rfl (by omega) rfl (by decide)) ?_); (refine zY.v rfl rfl (zD rfl rfl rfl (by rfl) rfl (by decide)) ?_); (refine zY.v rfl rfl (by exact yY (c2) rfl rfl rfl (by decide)) ?_); (refine zY.v rfl rfl (zV rfl rfl rfl (by decide)) ?_); refine zY.nil ?_) | (refine zZ.iq 3 ?_; refine zZ.rqa _ K_19 K_3 ?_; all_goals (refine zY.v rfl rfl (zA rfl rfl rfl (by decide)) ?_); all_goals (refine zY.v rfl rfl (zD rfl rfl rfl (by rfl) rfl (by decide)) ?_); all_goals (refine zY.v rfl rfl (zA rfl rfl rfl (by decide)) ?_); all_goals (refine zY.v rfl rfl (zD rfl rfl rfl (by rfl) rfl (by decide)) ?_); all_goals (refine zY.v rfl rfl (by exact r_eql rfl rfl rfl (by exact g1) rfl (by decide)) ?_); all_goals (refine zY.v rfl rfl (zJ rfl rfl rfl (by decide)) ?_); all_goals (refine zY.gY rfl rfl (by decide) rfl (by with_reducible rfl) rfl (by decide) (zJ rfl rfl rfl (by decide)) ?_); all_goals (refine zY.v rfl rfl (by exact xS rfl rfl (by with_reducible rfl) rfl rfl (by decide)) ?_); all_goals (refine zY.v rfl rfl (zJ rfl rfl rfl (by decide)) ?_); all_goals (refine zY.gY rfl rfl (by decide) rfl (by with_reducible rfl) rfl (by decide) (zJ rfl rfl rfl (by decide)) ?_); all_goals (refine zY.v rfl rfl (by exact xS rfl rfl (by with_reducible rfl) rfl rfl (by decide)) ?_); all_goals (refine zY.v rfl rfl (zV rfl rfl rfl (by decide)) ?_); all_goals (refine zY.nil ?_)) | refine zZ.ret ?_))
  all_goals exact ⟨by first | exact .inl rfl | exact .inr rfl, _, Sub.refl _, .p rfl (.tmp rfl)⟩
theorem worldSame_fn (W : Wd) (hl : W.ws.length ≤ 1000000) (h0 : W.r0.length ≤ 1000000) (h1 : W.r1.length ≤ 1000000) : Fn Tryd.prog 15 [W.pv, W.pv] (.p (.val (.bool true))) := by
  have c1 := memSame_fn W.t W.c W.ws hl
  have c2 := diskSame_fn W.root W.r0 W.r1 h0 h1
  refine yU Tryd.func15 rfl Tryd.ntmps15 (Nat.le_of_ble_eq_true rfl) ?_
  repeat' ((refine zZ.is ?_; first | refine zZ.seq ?_ | (refine zZ.iq 0 ?_; refine zZ.rqb _ K_5 K_3 ?_; (refine zY.m rfl rfl (yN rfl rfl rfl (by decide)) ?_); (refine zY.m rfl rfl (yN rfl rfl rfl (by decide)) ?_); (refine zY.v rfl rfl (zV rfl rfl rfl (by decide)) ?_); refine zY.nil ?_) | (refine zZ.iq 1 ?_; refine zZ.rqa _ K_h K_3 ?_; (refine zY.v rfl rfl (zA rfl rfl rfl (by decide)) ?_); (refine zY.v rfl rfl (zR rfl rfl rfl (by rfl) (by rfl) rfl (by decide)) ?_); (refine zY.v rfl rfl (zA rfl rfl rfl (by decide)) ?_); (refine zY.v rfl rfl (zR rfl rfl rfl (by rfl) (by rfl) rfl (by decide)) ?_); (refine zY.v rfl rfl (by exact yY (c1) rfl rfl rfl (by decide)) ?_); (refine zY.v rfl rfl (zV rfl rfl rfl (by decide)) ?_); refine zY.nil ?_) | (refine zZ.iq 2 ?_; refine zZ.rqa _ K_8 K_3 ?_; (refine zY.v rfl rfl (zA rfl rfl rfl (by decide)) ?_); (refine zY.v rfl rfl (zR rfl rfl rfl (by rfl) (by rfl) rfl (by decide)) ?_); (refine zY.v rfl rfl (zA rfl rfl rfl (by decide)) ?_); (refine zY.v rfl rfl (zR rfl rfl rfl (by rfl) (by rfl) rfl (by decide)) ?_); (refine zY.v rfl rfl (by exact yY (c2) rfl rfl rfl (by decide)) ?_); (refine zY.v rfl rfl (zV rfl rfl rfl (by decide)) ?_); refine zY.nil ?_) | (refine zZ.isR (id := 3) ?_; refine zZ.zU [4, 5, 6] [2, 3] (by repeat' first | exact zW.nil | apply zW.p rfl) (by repeat' first | exact zX.nil | apply zX.boxP rfl rfl) ?_; all_goals (refine zY.v rfl rfl (zJ rfl rfl rfl (by decide)) ?_); all_goals (refine zY.v rfl rfl (zJ rfl rfl rfl (by decide)) ?_); all_goals (refine zY.gY rfl rfl (by decide) rfl (by with_reducible rfl) rfl (by decide) (zJ rfl rfl rfl (by decide)) ?_); all_goals (refine zY.v rfl rfl (by exact xS rfl rfl (by with_reducible rfl) rfl rfl (by decide)) ?_); all_goals (refine zY.v rfl rfl (zV rfl rfl rfl (by decide)) ?_); all_goals (refine zY.nil ?_)) | refine zZ.ret ?_))
  all_goals exact ⟨by first | exact .inl rfl | exact .inr rfl, _, Sub.refl _, .p rfl (.tmp rfl)⟩
end Go.Proofs.YteadaggehndacaaDoor
/- Two answers that are the same: contract. -/
namespace Go.Proofs.YteadaggehndacaaDoor
set_option maxRecDepth 100000
set_option maxHeartbeats 16000000
open Go Go.RowKit
set_option linter.unusedSimpArgs false
set_option linter.unusedVariables false
attribute [local irreducible] zY zZ Step zQ Sub zM zP Fn
theorem zZ.loopOnce {P : Program} {n : Nat} {c : Code} {S : AS} {K : Exit → AS → Prop} (h : zZ P n c S (zS (fun _ => False) K)) : zZ P n (.loop c) S K :=
  zZ.loop (fun _ : Unit => S) (fun _ => True) (fun _ => 0) () (Sub.refl S) trivial fun _ _ => h.mono fun e S' h1 => by
    cases e with
    | normal => exact (h1 : False).elim
    | _ => exact h1
theorem outs_fn (e : Int) (is : Bool) (n w : Int) : Fn Tryd.prog 22 [outV e is n w, outV e is n w] (.p (.val (.bool true))) := by
  have g1 : ∀ x : Int, (!decide (x = x)) = false := fun x => by simp
  have g2 : ∀ x : Bool, (!(x == x)) = false := fun x => by simp
  have g3 : decide ((0 : Int) < 0) = false := rfl
  refine kY Tryd.func22 rfl Tryd.ntmps22 (Nat.le_of_ble_eq_true rfl) ?_
  repeat' (first | refine zZ.loopOnce ?_ | (refine zZ.is ?_; first | refine zZ.seq ?_ | (refine zZ.iq 0 ?_; refine zZ.rqb _ K_5 K_3 ?_; (refine zY.m rfl rfl (yN rfl rfl rfl (by decide)) ?_); (refine zY.m rfl rfl (yN rfl rfl rfl (by decide)) ?_); (refine zY.v rfl rfl (zV rfl rfl rfl (by decide)) ?_); refine zY.nil ?_) | (refine zZ.iq 1 ?_; refine zZ.rqa _ K_h K_3 ?_; all_goals (refine zY.v rfl rfl (zA rfl rfl rfl (by decide)) ?_); all_goals (refine zY.v rfl rfl (zD rfl rfl rfl (by rfl) rfl (by decide)) ?_); all_goals (refine zY.v rfl rfl (zA rfl rfl rfl (by decide)) ?_); all_goals (refine zY.v rfl rfl (zD rfl rfl rfl (by rfl) rfl (by decide)) ?_); all_goals (refine zY.v rfl rfl (by exact vG rfl rfl rfl (by exact g1 _) rfl (by decide)) ?_); all_goals (refine zY.v rfl rfl (zJ rfl rfl rfl (by decide)) ?_); all_goals (refine zY.gY rfl rfl (by decide) rfl (by assumption) rfl (by decide) (zA rfl rfl rfl (by decide)) ?_); all_goals (refine zY.gY rfl rfl (by decide) rfl (by assumption) rfl (by decide) (zD rfl rfl rfl (by rfl) rfl (by decide)) ?_); all_goals (refine zY.gY rfl rfl (by decide) rfl (by assumption) rfl (by decide) (zA rfl rfl rfl (by decide)) ?_); all_goals (refine zY.gY rfl rfl (by decide) rfl (by assumption) rfl (by decide) (zD rfl rfl rfl (by rfl) rfl (by decide)) ?_); all_goals (refine zY.gY rfl rfl (by decide) rfl (by assumption) rfl (by decide) (by exact r_neqB rfl rfl rfl (by exact g2 _) rfl (by decide)) ?_); all_goals (refine zY.v rfl rfl (by exact wK rfl rfl (by assumption) rfl rfl (by decide)) ?_); all_goals (refine zY.v rfl rfl (zJ rfl rfl rfl (by decide)) ?_); all_goals (refine zY.gY rfl rfl (by decide) rfl (by assumption) rfl (by decide) (zA rfl rfl rfl (by decide)) ?_); all_goals (refine zY.gY rfl rfl (by decide) rfl (by assumption) rfl (by decide) (zD rfl rfl rfl (by rfl) rfl (by decide)) ?_); all_goals (refine zY.gY rfl rfl (by decide) rfl (by assumption) rfl (by decide) (zA rfl rfl rfl (by decide)) ?_); all_goals (refine zY.gY rfl rfl (by decide) rfl (by assumption) rfl (by decide) (zD rfl rfl rfl (by rfl) rfl (by decide)) ?_); all_goals (refine zY.gY rfl rfl (by decide) rfl (by assumption) rfl (by decide) (by exact vG rfl rfl rfl (by exact g1 _) rfl (by decide)) ?_); all_goals (refine zY.v rfl rfl (by exact wK rfl rfl (by assumption) rfl rfl (by decide)) ?_); all_goals (refine zY.v rfl rfl (zJ rfl rfl rfl (by decide)) ?_); all_goals (refine zY.gY rfl rfl (by decide) rfl (by assumption) rfl (by decide) (zA rfl rfl rfl (by decide)) ?_); all_goals (refine zY.gY rfl rfl (by decide) rfl (by assumption) rfl (by decide) (zD rfl rfl rfl (by rfl) rfl (by decide)) ?_); all_goals (refine zY.gY rfl rfl (by decide) rfl (by assumption) rfl (by decide) (zA rfl rfl rfl (by decide)) ?_); all_goals (refine zY.gY rfl rfl (by decide) rfl (by assumption) rfl (by decide) (zD rfl rfl rfl (by rfl) rfl (by decide)) ?_); all_goals (refine zY.gY rfl rfl (by decide) rfl (by assumption) rfl (by decide) (by exact vG rfl rfl rfl (by exact g1 _) rfl (by decide)) ?_); all_goals (refine zY.v rfl rfl (by exact wK rfl rfl (by assumption) rfl rfl (by decide)) ?_); all_goals (refine zY.v rfl rfl (zJ rfl rfl rfl (by decide)) ?_); all_goals (refine zY.gY rfl rfl (by decide) rfl (by assumption) rfl (by decide) (zA rfl rfl rfl (by decide)) ?_); all_goals (refine zY.gY rfl rfl (by decide) rfl (by assumption) rfl (by decide) (zD rfl rfl rfl (by rfl) rfl (by decide)) ?_); all_goals (refine zY.gY rfl rfl (by decide) rfl (by assumption) rfl (by decide) (w_lenN rfl rfl rfl (by decide)) ?_); all_goals (refine zY.gY rfl rfl (by decide) rfl (by assumption) rfl (by decide) (zA rfl rfl rfl (by decide)) ?_); all_goals (refine zY.gY rfl rfl (by decide) rfl (by assumption) rfl (by decide) (zD rfl rfl rfl (by rfl) rfl (by decide)) ?_); all_goals (refine zY.gY rfl rfl (by decide) rfl (by assumption) rfl (by decide) (w_lenN rfl rfl rfl (by decide)) ?_); all_goals (refine zY.gY rfl rfl (by decide) rfl (by assumption) rfl (by decide) (by exact vG rfl rfl rfl (by exact g1 _) rfl (by decide)) ?_); all_goals (refine zY.v rfl rfl (by exact wK rfl rfl (by assumption) rfl rfl (by decide)) ?_); all_goals (refine zY.nil ?_)) | (refine zZ.iq 3 ?_; refine zZ.rqa _ K_h K_3 ?_; (refine zY.v rfl rfl (zV rfl rfl rfl (by decide)) ?_); refine zY.nil ?_) | (refine zZ.isR (id := 4) ?_; refine zZ.zU [2, 3, 4, 5, 45, 58] [2, 3] (by repeat' first | exact zW.nil | apply zW.p rfl | apply zW.ptr rfl | apply zW.skip) (by repeat' first | exact zX.nil | apply zX.boxP rfl rfl) ?_; (refine zY.v rfl rfl (zJ rfl rfl rfl (by decide)) ?_); (refine zY.v rfl rfl (zA rfl rfl rfl (by decide)) ?_); (refine zY.v rfl rfl (zD rfl rfl rfl (by rfl) rfl (by decide)) ?_); (refine zY.v rfl rfl (w_lenN rfl rfl rfl (by decide)) ?_); (refine zY.v rfl rfl (by exact wB rfl rfl rfl (by exact g3) rfl (by decide)) ?_); refine zY.nil ?_) | (refine zZ.isR (id := 8) ?_; refine zZ.zU [4] [2, 3] (by repeat' first | exact zW.nil | apply zW.p rfl) (by repeat' first | exact zX.nil | apply zX.boxP rfl rfl) ?_; (refine zY.v rfl rfl (zV rfl rfl rfl (by decide)) ?_); refine zY.nil ?_) | refine zZ.y9 rfl (by assumption) ?_ | refine zZ.skip ?_ | refine zZ.block ?_ | refine zZ.exit ?_ | refine zZ.ret ?_))
  all_goals refine ⟨by first | exact .inl rfl | exact .inr rfl, gives1 rfl rfl (eqB' ?_)⟩
  all_goals rfl
end Go.Proofs.YteadaggehndacaaDoor
/- The list's example: contract. -/
namespace Go.Proofs.YteadaggehndacaaDoor
set_option maxRecDepth 100000
set_option maxHeartbeats 16000000
open Go Go.RowKit
set_option linter.unusedSimpArgs false
set_option linter.unusedVariables false
attribute [local irreducible] zY zZ Step zQ Sub zM zP Fn zS yE
theorem shown15_fn : Fn Tryd.prog 7 [] (.p (.val (.bool true))) := by
  have c0 := new10A_fn 1 2 (by decide) (by decide) (by decide) (by decide)
  have c6 : Fn Tryd.prog 10 [.val (.int .i64 1), .val (.int .i64 1), .val (.int .i64 1)] (.p (.val (.int .i64 10))) := qR 1 1 1 (by unfold Small; omega) (by omega) (by unfold Small; omega)
  obtain ⟨a1, a2, a3, a4, a5⟩ := al_sl
  have c1 := a1.fn
  have c2 := a2.fn
  have c3 := a3.fn
  have c4 := a4.fn
  have c5 := a5.fn
  clear a1 a2 a3 a4 a5
  obtain ⟨z1, ⟨z2, z3, z4⟩, ⟨z5, z6⟩, ⟨z7, z8, z9⟩, z10, z11⟩ := sl6
  generalize slV = q1 at *
  generalize slB = q2 at *
  generalize slD = q3 at *
  generalize slE = q4 at *
  generalize slF = q5 at *
  obtain ⟨⟨e1, s1, n1, w1⟩, ⟨t1, u1, ws1, root1, r01, r11⟩, m1⟩ := q1
  obtain ⟨⟨e2, s2, n2, w2⟩, ⟨t2, u2, ws2, root2, r02, r12⟩, m2⟩ := q2
  obtain ⟨⟨e3, s3, n3, w3⟩, ⟨t3, u3, ws3, root3, r03, r13⟩, m3⟩ := q3
  obtain ⟨⟨e4, s4, n4, w4⟩, ⟨t4, u4, ws4, root4, r04, r14⟩, m4⟩ := q4
  obtain ⟨⟨e5, s5, n5, w5⟩, ⟨t5, u5, ws5, root5, r05, r15⟩, m5⟩ := q5
  dsimp only at z1 z2 z3 z4 z5 z6 z7 z8 z9 z10 z11
  subst z1 z2 z3 z4 z5 z6 z7 z8 z9 z10 z11
  have hl := newW_len 1 2
  have g0 : slW = ⟨1, 2, (newW 1 2).set 10 5, 0, [([], 0)], [([], 0)]⟩ := rfl
  rw [g0] at c1
  have e0 : (wds (newW 1 2)).set (10 : Int).toNat (.val (.int .u64 5)) = wds ((newW 1 2).set 10 5) := wds_set _ _ _
  unfold Wd.pv xB at c1
  dsimp only at c1
  rw [← e0] at c1
  have g1 := q8 (newW 1 2)
  have g2 : (0 : Int) ≤ 10 ∧ (10 : Int) < (wds (newW 1 2)).length := by rw [vF, hl]; omega
  have g3 : (10 : Int).toNat < (wds (newW 1 2)).length := by rw [vF, hl]; decide
  generalize newW 1 2 = nw at *
  clear e0 g0
  dsimp only [Wd.pv, xB] at c2 c3 c4 c5
  refine yU Tryd.func7 rfl Tryd.ntmps7 (Nat.le_of_ble_eq_true rfl) ?_
  repeat' (first | (refine zY.is ?_; first | refine zY.nil ?_ | (refine zY.at_ 1 rfl ?_; refine zY.rc (.m yD (.w yZ .e)) ?_) | (refine zY.at_ 23 rfl ?_; refine zY.rc (.v vX (.v yF (.v yF (.v yF (.m yD (.m yD (.w yZ (.w yZ (.v zO .e))))))))) ?_) | (refine zY.at_ 30 rfl ?_; refine zY.rc (.v vX (.v yF (.v yF (.v yF (.m yD (.m yD (.w yZ (.w yZ (.v zO .e))))))))) ?_) | (refine zY.at_ 37 rfl ?_; refine zY.rc (.v vX (.v yF (.v yF (.v yF (.m yD (.m yD (.w yZ (.w yZ (.v zO .e))))))))) ?_) | (refine zY.at_ 44 rfl ?_; refine zY.rc (.v vX (.v yF (.v yF (.v yF (.m yD (.m yD (.w yZ (.w yZ (.v zO .e))))))))) ?_) | (refine zY.at_ 51 rfl ?_; refine zY.rc (.v vX (.v yF (.v yF (.v yF (.m yD (.m yD (.w yZ (.w yZ (.v zO .e))))))))) ?_) | (refine zY.in_ [26] rfl ?_; refine zY.v rfl rfl (yP (c1) rfl rfl rfl (by decide)) ?_) | (refine zY.in_ [33] rfl ?_; refine zY.v rfl rfl (yP (c2) rfl rfl rfl (by decide)) ?_) | (refine zY.in_ [40] rfl ?_; refine zY.v rfl rfl (yP (c3) rfl rfl rfl (by decide)) ?_) | (refine zY.in_ [47] rfl ?_; refine zY.v rfl rfl (yP (c4) rfl rfl rfl (by decide)) ?_) | (refine zY.in_ [54] rfl ?_; refine zY.v rfl rfl (yP (c5) rfl rfl rfl (by decide)) ?_) | (refine zY.in_ [17] rfl ?_; refine zY.m rfl rfl (w_callAg c0 rfl rfl rfl (by decide)) ?_)) | (refine zZ.is ?_; first | refine zZ.seq ?_ | (refine zZ.isR (id := 0) ?_; refine zZ.rc [] [1, 2, 3, 5, 6, 8, 9, 11, 12, 14, 15, 17, 21, 26, 33, 40, 47, 54] (r := (.v zO .e)) (h := ?_)) | (refine zZ.isR (id := 1) ?_; refine zZ.rc [0] [1, 2, 3, 5, 6, 8, 9, 11, 12, 14, 15, 17, 21, 26, 33, 40, 47, 54] (r := .e) (h := ?_)) | (refine zZ.isR (id := 2) ?_; refine zZ.rk [0, 1] [1, 2, 3, 5, 6, 8, 9, 11, 12, 14, 15, 17, 21, 26, 33, 40, 47, 54] ?_; refine zZ.draws ?_) | (refine zZ.isR (id := 3) ?_; refine zZ.sub ((sub_frzE 17 27 1 ((wds nw).set (Int.toNat 10) (.val (.int .u64 5))) rfl)) ?_; refine zZ.rc [0, 1] [1, 2, 3, 5, 6, 8, 9, 11, 12, 14, 15, 17, 21, 26, 33, 40, 47, 54] (r := (.v xI (.v x9 .e))) (h := ?_)) | (refine zZ.isR (id := 4) ?_; refine zZ.rc [0, 2, 3, 4] [1, 2, 3, 5, 6, 8, 9, 11, 12, 14, 15, 17, 21, 26, 33, 40, 47, 54] (r := (.v xI (.v x9 .e))) (h := ?_)) | (refine zZ.isR (id := 5) ?_; refine zZ.rc [0, 2, 3, 4, 6, 7] [1, 2, 3, 5, 6, 8, 9, 11, 12, 14, 15, 17, 21, 26, 33, 40, 47, 54] (r := (.v xI (.v x9 .e))) (h := ?_)) | (refine zZ.isR (id := 6) ?_; refine zZ.rc [0, 2, 3, 4, 6, 7, 9, 10] [1, 2, 3, 5, 6, 8, 9, 11, 12, 14, 15, 17, 21, 26, 33, 40, 47, 54] (r := (.v xI (.v x9 .e))) (h := ?_)) | (refine zZ.isR (id := 7) ?_; refine zZ.rc [0, 2, 3, 4, 6, 7, 9, 10, 12, 13] [1, 2, 3, 5, 6, 8, 9, 11, 12, 14, 15, 17, 21, 26, 33, 40, 47, 54] (r := (.v xI (.v x9 .e))) (h := ?_)) | (refine zZ.isR (id := 8) ?_; refine zZ.rc [0, 3, 4, 6, 7, 9, 10, 12, 13, 15, 16] [1, 2, 3, 5, 6, 8, 9, 11, 12, 14, 15, 17, 21, 26, 33, 40, 47, 54] (r := (.v zB (.v zB (.gY zB (.v kZ (.v zB (.gY zB (.v kZ (.v zB (.gY zB (.v kZ (.v zB (.gY zB (.v kZ (.v zB (.gY yI (.gY yO (.v kZ (.v zB (.gY yI (.gY yO (.gY v41_4 (.v kZ (.v zB (.gY yI (.gY yO (.gY v41_4 (.v kZ (.v zB (.gY yI (.gY yO (.v kZ (.v zB (.gY yI (.gY yO (.gY v41_4 (.v kZ (.v zB (.gY yI (.gY yO (.gY v52_4 (.v kZ (.v zB (.gY yI (.gY yO (.gY v41_4 (.v kZ (.v zB (.gY yI (.gY yO (.gY v41_4 (.v kZ (.v zB (.gY yI (.gY yO (.gY v52_4 (.v kZ (.v zB (.gY yI (.gY yO (.gY v41_4 (.v kZ (.v zB (.gY yI (.gY yO (.v kZ (.v zO .e))))))))))))))))))))))))))))))))))))))))))))))))))))))))))))))))))) (h := ?_)) | refine zZ.ret ?_) | refine zS.n ?_ | (refine Draws.is ?_; first | refine Draws.rc (.v yI (.v yI (.v v2_8 .e))) ?_ | refine Draws.rc (.v v7_38 .e) ?_ | (refine Draws.in_ [21] rfl ?_; refine Draws.v rfl rfl (yY (c6) rfl rfl rfl (by decide)) ?_) | refine Draws.done (by kernel_rfl) (by kernel_rfl) (by kernel_rfl) ?_) | (refine zM.is ?_; first | refine zM.nil ?_ | refine zM.rc (.w w24_1 .e) ?_))
  all_goals exact ⟨by first | exact .inl rfl | exact .inr rfl, _, Sub.refl _, .p rfl (.tmp rfl)⟩
end Go.Proofs.YteadaggehndacaaDoor
/- Rows of slices that own their rows: a cell read as a slice that nobody turns; a nil in a cell as an own row; code in two parts with a frame between. Generic over the program. -/
namespace Go.Proofs.YteadaggehndacaaDoor
set_option maxRecDepth 100000
set_option maxHeartbeats 16000000
open Go Go.RowKit
set_option linter.unusedSimpArgs false
section
variable {P : Program} {n : Nat} {o : Oper} {S : AS} {d : Nat} {t : TypeId} {x : Operand}
end
/-- Code in two parts: behind the first one of a family of frames. -/
theorem zZ.cut {P : Program} {n : Nat} {S : AS} {c1 c2 : Code} {K : Exit → AS → Prop} {ι : Type} (mid : ι → AS) (ok : ι → Prop) (h1 : zZ P n c1 S (zS (fun S' => ∃ i, ok i ∧ Sub S' (mid i)) K)) (h2 : ∀ i, ok i → zZ P n c2 (mid i) K) : zZ P n (.seq c1 c2) S K :=
  .seq (h1.mono fun e S' h => by
    cases e with
    | normal => obtain ⟨i, hi, hs⟩ := h; exact (h2 i hi).sub hs
    | _ => exact h)
/-- a goal that a walk leaves -/
def Hold (p : Prop) : Prop := p
theorem Hold.go {p : Prop} (h : p) : Hold p := h
theorem Hold.out {p : Prop} (h : Hold p) : p := h
theorem zZ.hold {P : Program} {n id : Nat} {ops : Array Oper} {d : Bool} {S : AS} {c2 : Code} {K : Exit → AS → Prop} (h : Hold (zZ P n (.seq (.region id ops d) c2) S K)) : zZ P n (.seq (.region id ops d) c2) S K := h
/-- A region that may go many ways: behind it one frame, told by the first of them. -/
theorem zZ.cutR {P : Program} {n id : Nat} {ops : Array Oper} {d : Bool} {S M : AS} {c2 : Code} {K : Exit → AS → Prop} (h1 : zZ P n (.region id ops d) S (zS (fun S' => Sub S' M) K)) (h2 : zZ P n c2 M K) : zZ P n (.seq (.region id ops d) c2) S K :=
  .seq (h1.mono fun e S' h => by
    cases e with
    | normal => exact h2.sub h
    | _ => exact h)
attribute [irreducible] Hold
end Go.Proofs.YteadaggehndacaaDoor
/- A drawn region's orders, joined where the same is done. Generic over the program. -/
namespace Go.Proofs.YteadaggehndacaaDoor
set_option maxRecDepth 100000
set_option maxHeartbeats 16000000
open Go Go.RowKit
def sameB (a b : List Nat) : Bool := a.all b.contains && b.all a.contains
theorem sameB_iff {a b : List Nat} (h : sameB a b = true) (i : Nat) : a.contains i = b.contains i := by
  unfold sameB at h
  rw [Bool.and_eq_true, List.all_eq_true, List.all_eq_true] at h
  cases ha : a.contains i with
  | true => exact (h.1 i (by simpa using ha)).symm
  | false =>
    cases hb : b.contains i with
    | false => rfl
    | true => exact ha.symm.trans (h.2 i (by simpa using hb))
section
variable {P : Program} {n fu : Nat} {l : List Oper} {K : Exit → AS → Prop} {done done' : List Nat} {S S' : AS}
theorem DGo.subp (hp : sameB done done' = true) (hs : Sub S S') (h : DGo P n l K fu done' S') : DGo P n l K fu done S := by
  unfold DGo at h ⊢
  intro M w0 ρ a w listed hz hl h1
  obtain ⟨ρ', h2⟩ := hs M n w0 ρ a w h1
  exact h M w0 ρ' a w listed hz (fun i => (hl i).trans (sameB_iff hp i)) h2
theorem DGo.share {fu' : Nat} {D' : List Nat} {F' : AS} (k : DGo P n l K fu' D' F') (h : DGo P n l K fu' D' F' → DGo P n l K fu done S) : DGo P n l K fu done S := h k
end
end Go.Proofs.YteadaggehndacaaDoor
