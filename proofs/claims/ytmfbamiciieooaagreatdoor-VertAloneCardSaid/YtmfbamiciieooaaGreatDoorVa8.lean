/- Operations on vertices that step alone, one behind the other, by any threads, answer as a set of vertices does. (Part 8 of 10.) -/
import Derived.Test.YtmfbamiciieooaaGreatDoorVa7
import Derived.Recover
/- Searches, seeks, links and marks: the program's, whatever makes its accesses: contracts. -/
namespace Go.Proofs.YtmfbamiciieooaaGreatDoor
set_option maxRecDepth 100000
set_option maxHeartbeats 16000000
open Go Go.RowKit
set_option linter.unusedSimpArgs false
set_option linter.unusedVariables false
attribute [local irreducible] zY zZ Step zX Sub zD zG Fn zF zR xA
theorem notT {b : Bool} (h : (!b) = true) : b = false := by cases b <;> simp_all
theorem or1 (w : Int) (hw : U w) (he : decide (w % 2 = 1) = false) : bits .or .u64 w 1 = w + 1 := by
  refine (orBit w 1 hw.lo hw.hi (.inl rfl) ?_).1
  unfold qJ
  simpa using he
theorem mark_h (H : Hnd) (s0 : H.σ) {t x w : Int} (ht : Small t) (hx : Rf x) (hw : U w) (he : decide (w % 2 = 1) = false) : FnH H 92 [H.doA, .p (.val (.int .i64 t)), .p (.val (.int .i64 x)), .p (.val (.int .u64 w))] [] (fun x => .p (.val (.bool x))) (fun _ => []) yes s0 (setMark t x w) := by
  have cn := cnext_fn t x ht hx.le
  have g1 := or1 w hw he
  have u1 := hw.succ he
  unfold Hnd.doA
  refine yH Tryz.func92 rfl Tryz.ntmps92 (Nat.le_of_ble_eq_true rfl) (by decide) (vD _ hw u1) fun hok hns => ?_
  repeat' (first | (refine zY.is ?_; first | refine zY.nil ?_ | (refine zY.at_ 13 rfl ?_; refine zY.rc (.v zV (.v zV (.v v36_0 .e))) ?_) | (refine zY.at_ 8 rfl ?_; refine zY.rc (.v zB .e) ?_) | (refine zY.in_ [12] rfl ?_; refine zY.v rfl rfl (zP (cn) rfl rfl rfl (by decide)) ?_) | (refine zY.in_ [16] rfl ?_; refine zY.ofT rfl (zG.hd (i := []) (f := cas_h H _ _ _ _ hw u1) (r := fun x s e g hk => ?_) (p := fun q s e => ?_) (t := ?_)))) | (refine zZ.is ?_; first | refine zZ.seq ?_ | (refine zZ.isR (id := 0) ?_; refine zZ.rc [0, 1, 2, 3] [1000, 1001, 1002] (r := (.v zB .e)) (h := ?_)) | (refine zZ.isR (id := 1) ?_; refine zZ.rc [0, 1, 2, 3, 8] [1000, 1001, 1002] (r := (.v xJ (.v zV (.v zV .e)))) (h := ?_)) | refine zZ.ret ?_) | refine zF.n ?_ | refine zF.p ?_)
  all_goals (first | exact fun e => hns (by clear hns; simp only [setMark, run_bind, zC, zJ, Held.zW, Held.zA, Held.zK, cond_true, cond_false, *]) | exact .pan (q := q) rfl (by repeat' first | exact trivial | rfl | constructor) (by repeat' exact trivial) (by simp only [setMark, run_bind, zC, zJ, Held.zW, Held.zA, Held.zK, cond_true, cond_false, *]) | exact .ret (by exact .inl rfl) (by exact .one rfl rfl) (by repeat' first | exact trivial | rfl | constructor) (by simp only [setMark, run_bind, zC, zJ, Held.zW, Held.zA, Held.zK, cond_true, cond_false, *] <;> rfl))
theorem markOp_h (H : Hnd) (s0 : H.σ) {t x : Int} (ht : Small t) (hx : Rf x) : FnH H 54 [H.doA, .p (.val (.int .i64 t)), .p (.val (.int .i64 x))] [] (fun x => .p (.val (.bool x))) (fun _ => []) yes s0 (markP t x) := by
  have cn := cnext_fn t x ht hx.le
  unfold Hnd.doA
  refine yH Tryz.func54 rfl Tryz.ntmps54 (Nat.le_of_ble_eq_true rfl) (by decide) (fine_mark t x) fun hok hns => ?_
  repeat' (first | (refine zY.is ?_; first | refine zY.nil ?_ | (refine zY.at_ 15 rfl ?_; refine zY.rc (.v v52_8 (.v zV .e)) ?_) | (refine zY.at_ 17 rfl ?_; refine zY.rc (.gY xJ (.gY zV (.gY zV (.gY zV .e)))) ?_) | (refine zY.at_ 17 rfl ?_; refine zY.rc (.gT (.gT (.gT (.gT (.gT (.v wW (.v zB .e))))))) ?_) | (refine zY.at_ 22 rfl ?_; refine zY.rc (.v xR (.v zB .e)) ?_) | (refine zY.at_ 7 rfl ?_; refine zY.rc (.v zB .e) ?_) | (refine zY.in_ [11] rfl ?_; refine zY.v rfl rfl (zP (cn) rfl rfl rfl (by decide)) ?_) | (refine zY.in_ [14] rfl ?_; refine zY.v rfl rfl (zP (mark_fn _ (U.lo (by assumption)) (U.hi (by assumption))) rfl rfl rfl (by decide)) ?_) | (refine zY.in_ [12] rfl ?_; refine zY.ofT rfl (zG.hd (i := []) (f := qZ H _ _) (r := fun x s e g hk => ?_) (p := fun q s e => ?_) (t := ?_))) | (refine zY.in_ [21] rfl ?_; refine zY.ofTg rfl rfl (by decide) rfl bA (zG.hd (i := []) (f := mark_h H _ ht hx (by assumption) (notT (by assumption))) (r := fun x s e g hk => ?_) (p := fun q s e => ?_) (t := ?_))) | (fail_if_success refine zY.known rfl rfl rfl (by fail) ?_); refine zY.split rfl rfl rfl (fun h => ?_) (fun h => ?_)) | (refine zZ.is ?_; first | refine zZ.seq ?_ | (refine zZ.isR (id := 0) ?_; refine zZ.rc [0, 1, 2] [1000, 1001, 1002] (r := (.v zB .e)) (h := ?_)) | (refine zZ.isR (id := 1) ?_; refine zZ.rc [0, 1, 2, 6] [1000, 1001, 1002] (r := (.v xJ (.v zV (.v zV .e)))) (h := ?_)) | (refine zZ.isR (id := 2) ?_; refine zZ.rc [0, 1, 2, 6, 7] [1000, 1001, 1002] (r := (.v zV .e)) (h := ?_)) | refine zZ.ret ?_) | refine zF.n ?_ | refine zF.p ?_)
  all_goals try simp only [Bool.not_eq_true', Bool.not_eq_false'] at *
  all_goals (first | exact fun e => hns (by clear hns; simp only [markP, run_bind, zC, zJ, Held.zW, Held.zA, Held.zK, cond_true, cond_false, *]) | exact .pan (q := q) rfl (by repeat' first | exact trivial | rfl | constructor) (by repeat' exact trivial) (by simp only [markP, run_bind, zC, zJ, Held.zW, Held.zA, Held.zK, cond_true, cond_false, *]) | exact .ret (by exact .inl rfl) (by exact .one rfl rfl) (by repeat' first | exact trivial | rfl | constructor) (by simp only [markP, run_bind, zC, zJ, Held.zW, Held.zA, Held.zK, cond_true, cond_false, *] <;> rfl))
theorem link_h (H : Hnd) (s0 : H.σ) {t p x r : Int} (ht : Small t) (hp : Rf p) (hx : Rf x) (hr : Rf r) : FnH H 53 [H.doA, .p (.val (.int .i64 t)), .p (.val (.int .i64 p)), .p (.val (.int .i64 x)), .p (.val (.int .i64 r))] [] (fun x => .p (.val (.bool x))) (fun _ => []) yes s0 (linkP t p x r) := by
  have cn := cnext_fn t p ht hp.le
  have cm := cnext_fn t r ht hr.le
  have cx := link_fn x hx.le
  have cr := link_fn r hr.le
  have ux := hx.u2
  have ur := hr.u2
  unfold Hnd.doA
  refine yH Tryz.func53 rfl Tryz.ntmps53 (Nat.le_of_ble_eq_true rfl) (by decide) (fine_link t p hx hr) fun hok hns => ?_
  repeat' (first | (refine zY.is ?_; first | refine zY.nil ?_ | (refine zY.at_ 10 rfl ?_; refine zY.rc (.v zB .e) ?_) | (refine zY.at_ 11 rfl ?_; refine zY.rc (.v zB .e) ?_) | (refine zY.at_ 18 rfl ?_; refine zY.rc (.v zV .e) ?_) | (refine zY.at_ 24 rfl ?_; refine zY.rc (.v zV (.v zV .e)) ?_) | (refine zY.in_ [23] rfl ?_; refine zY.v rfl rfl (zP (cn) rfl rfl rfl (by decide)) ?_) | (refine zY.in_ [17] rfl ?_; refine zY.v rfl rfl (zP (cm) rfl rfl rfl (by decide)) ?_) | (refine zY.in_ [13] rfl ?_; refine zY.v rfl rfl (zP (cx) rfl rfl rfl (by decide)) ?_) | (refine zY.in_ [26] rfl ?_; refine zY.v rfl rfl (zP (cr) rfl rfl rfl (by decide)) ?_) | (refine zY.in_ [19] rfl ?_; refine zY.ofT rfl (zG.hd (i := []) (f := qR H _ _ _ ux) (r := fun x s e g hk => ?_) (p := fun q s e => ?_) (t := ?_))) | (refine zY.in_ [27] rfl ?_; refine zY.ofT rfl (zG.hd (i := []) (f := cas_h H _ _ _ _ ux ur) (r := fun x s e g hk => ?_) (p := fun q s e => ?_) (t := ?_)))) | (refine zZ.is ?_; first | refine zZ.seq ?_ | (refine zZ.isR (id := 0) ?_; refine zZ.rc [0, 1, 2, 3, 4] [1000, 1001, 1002] (r := (.v zB .e)) (h := ?_)) | (refine zZ.isR (id := 1) ?_; refine zZ.rc [0, 1, 2, 3, 4, 10] [1000, 1001, 1002] (r := (.v zV .e)) (h := ?_)) | (refine zZ.isR (id := 2) ?_; refine zZ.rc [0, 1, 2, 4, 10, 11] [1000, 1001, 1002] (r := (.v xJ (.v zV (.v zV .e)))) (h := ?_)) | (refine zZ.isR (id := 3) ?_; refine zZ.rc [0, 1, 2, 4, 10, 11] [1000, 1001, 1002] (r := (.v xJ (.v zV (.v zV .e)))) (h := ?_)) | refine zZ.ret ?_) | refine zF.n ?_ | refine zF.p ?_)
  all_goals (first | exact fun e => hns (by clear hns; simp only [linkP, run_bind, zC, zJ, Held.zW, Held.zA, Held.zK, cond_true, cond_false, *]) | exact .pan (q := q) rfl (by repeat' first | exact trivial | rfl | constructor) (by repeat' exact trivial) (by simp only [linkP, run_bind, zC, zJ, Held.zW, Held.zA, Held.zK, cond_true, cond_false, *]) | exact .ret (by exact .inl rfl) (by exact .one rfl rfl) (by repeat' first | exact trivial | rfl | constructor) (by simp only [linkP, run_bind, zC, zJ, Held.zW, Held.zA, Held.zK, cond_true, cond_false, *] <;> rfl))
/-! ### Seeks -/
def seekS (H : Hnd) (t k p x : Int) (s : H.σ) : AS :=
  { t := [(3, .p (.val (.int .u64 k))), (8, .p (.val (.int .i64 0))), (9, .p (.val (.bool false))), (10, .ptr 21 0)], s := [(1000, H.b0 s), (1001, H.b1 s), (1002, H.b2 s), (21, vF H t p x)] }
theorem seek_h (H : Hnd) (s0 : H.σ) {t f k : Int} (ht : Small t) (hf : Rf f) : FnH H 59 [H.doA, .p (.val (.int .i64 t)), .p (.val (.int .i64 f)), .p (.val (.int .u64 k))] [] (fun r => .tup ([.val (.int .i64 r.1), .val (.bool r.2)].map .p)) (fun _ => []) SFound s0 (seekP t f k) := by
  have cn := cnext_fn t f ht hf.le
  unfold Hnd.doA
  refine yH Tryz.func59 rfl Tryz.ntmps59 (Nat.le_of_ble_eq_true rfl) (by decide) (fine_seek t f k) fun hok hns => ?_
  repeat' (first | (refine zY.is ?_; first | refine zY.nil ?_ | (refine zY.at_ 10 rfl ?_; refine zY.rc (.v v1_2 .e) ?_) | (refine zY.in_ [17] rfl ?_; refine zY.v rfl rfl (zP (cn) rfl rfl rfl (by decide)) ?_) | (refine zY.in_ [19] rfl ?_; refine zY.v rfl rfl (zP (ref_fn _ (U.lo (by assumption)) (U.hi (by assumption))) rfl rfl rfl (by decide)) ?_) | (refine zY.in_ [18] rfl ?_; refine zY.ofT rfl (zG.hd (i := []) (f := qZ H _ _) (r := fun x s e g hk => ?_) (p := fun q s e => ?_) (t := ?_))) | refine zY.buildBx rfl rfl rfl rfl rfl rfl (by decide) (by decide) rfl rfl rfl rfl ?_) | (refine zZ.is ?_; first | refine zZ.seq ?_ | (refine zZ.isR (id := 0) ?_; refine zZ.rc [0, 1, 2, 3] [21, 1000, 1001, 1002] (r := (.v zB (.v zB .e))) (h := ?_)) | (refine zZ.isR (id := 1) ?_; refine zZ.rc [0, 1, 2, 3, 8, 9] [21, 1000, 1001, 1002] (r := (.v xJ (.v zV (.v xJ (.v zV (.v zV .e)))))) (h := ?_)) | refine zZ.block ?_) | refine zF.n ?_ | refine zF.p ?_)
  all_goals (first | exact fun e => hns (by clear hns; simp only [seekP, run_bind, zC, zJ, Held.zW, Held.zA, Held.zK, cond_true, cond_false, *]) | exact .pan (q := q) rfl (by repeat' first | exact trivial | rfl | constructor) (by repeat' exact trivial) (by simp only [seekP, run_bind, zC, zJ, Held.zW, Held.zA, Held.zK, cond_true, cond_false, *]) | skip)
  have ho0 : (seekP t f k).run H.st s0 = (contS t k many (xQ x)).run H.st s := by
    simp only [seekP, run_bind, zC, Held.zW, *]
    rfl
  rw [ho0] at hns ⊢
  refine zZ.loop (fun q : Nat × (Int × Int) × H.σ => seekS H t k q.2.1.1 q.2.1.2 q.2.2) (fun q => H.ok q.2.2 ∧ Rf q.2.1.2 ∧ (contS t k q.1 q.2.1.2).run H.st q.2.2 = (contS t k many (xQ x)).run H.st s) (fun q => q.1) (many, (0, xQ x), s) ?h0 ⟨by assumption, kK _, rfl⟩ ?rd
  case h0 =>
    exact z8 K_14 K_15
  case rd =>
    clear e
    generalize xQ x = y0 at *
    rintro ⟨n, ⟨p, x1⟩, s1⟩ ⟨hok1, hx, ho⟩
    dsimp only at hok1 hx ho ⊢
    rw [← ho] at hns ⊢
    unfold seekS
    unfold contS at *
    cases hz : decide (x1 = 0)
    case true =>
      rw [hz] at ho hns
      have hz' : (!decide (x1 = 0)) = false := by rw [hz]; rfl
      unfold vF Hnd.doA
      repeat' (first | (refine zY.nil ?_) | (refine zZ.is ?_; first | refine zZ.seq ?_ | (refine zZ.isR (id := 2) ?_; refine zZ.rc [3, 8, 9, 10, 11, 26, 31] [21, 1000, 1001, 1002] (r := (.v v0_2 (.v v4_0 (.v zM (.v zO (.v v42_0 .e)))))) (h := ?_)) | (refine zZ.isR (id := 7) ?_; refine zZ.rc [8, 9] [21, 1000, 1001, 1002] (r := (.v zB (.v zB .e))) (h := ?_)) | refine zZ.yG rfl bA ?_ | refine zZ.exit ?_ | refine zZ.ret ?_) | refine zF.n ?_ | refine zR.eY ?_ | refine zF.e ?_)
      all_goals (exact .ret (x := (_, _)) (by exact .inl rfl) (by exact .tup rfl (by decide) (.cons (.tmp rfl) (.cons (.tmp rfl) .nil))) (by repeat' first | exact trivial | rfl | constructor) (by simp only [run_bind, zC, zJ, Held.zW, Held.zA, Held.zK, cond_true, cond_false, *] <;> rfl))
    case false =>
      rw [hz] at ho hns
      have hz' : (!decide (x1 = 0)) = true := by rw [hz]; rfl
      have hxr := hx.rc ht
      rw [cond_false] at ho hns ⊢
      cases n with
      | zero => exact absurd rfl hns
      | succ n =>
        rw [vY] at ho hns ⊢
        repeat' (first | (refine zY.is ?_; first | refine zY.nil ?_ | (refine zY.at_ 11 rfl ?_; refine zY.rc (.v zB .e) ?_) | (refine zY.in_ [28, 41] rfl ?_; refine zY.ofT rfl (zG.hd (i := [21]) (f := field_h H _ hxr (by decide)) (r := fun x s e g hk => ?_) (p := fun q s e => ?_) (t := ?_))) | (refine zY.in_ [42] rfl ?_; refine zY.ofT rfl (zG.h0 (i := [21]) (f := on_h H _ (by assumption)) (r := fun g => ?_)))) | (refine zZ.is ?_; first | refine zZ.seq ?_ | (refine zZ.isR (id := 2) ?_; refine zZ.rc [3, 8, 9, 10, 11, 26, 31] [21, 1000, 1001, 1002] (r := (.v v0_2 (.v v4_0 (.v zM (.v zO (.v v42_0 .e)))))) (h := ?_)) | (refine zZ.isR (id := 3) ?_; refine zZ.rc [3, 8, 9, 10, 11, 26, 31] [21, 1000, 1001, 1002] (r := (.v v0_2 .e)) (h := ?_)) | (refine zZ.isR (id := 4) ?_; refine zZ.rc [3, 8, 9, 10, 11, 26, 31] [21, 1000, 1001, 1002] (r := (.v zV (.v zV (.v v46_8 .e)))) (h := ?_)) | (refine zZ.isR (id := 5) ?_; refine zZ.rc [3, 8, 9, 10, 11, 26, 31] [21, 1000, 1001, 1002] (r := (.v v0_2 (.v v4_0 (.v zM (.v zO (.v zV (.v zV (.v v41_8 (.v zB (.v zB .e)))))))))) (h := ?_)) | (refine zZ.isR (id := 6) ?_; refine zZ.rc [3, 8, 9, 10, 11, 26, 31] [21, 1000, 1001, 1002] (r := (.v v0_2 (.v v0_2 .e))) (h := ?_)) | refine zZ.yN rfl bA ?_ | refine zZ.cond rfl (fun h => ?_) (fun h => ?_) | refine zZ.skip ?_ | refine zZ.block ?_ | refine zZ.ret ?_) | refine zF.n ?_ | refine zF.r ?_ | refine zF.p ?_ | refine zR.n ?_ | refine zR.r ?_ | refine zR.p ?_)
        all_goals (first | exact fun e => hns (by clear hns; simp only [wG, run_bind, zC, zJ, Held.zW, Held.zA, Held.zK, cond_true, cond_false, *]) | exact .pan (q := q) rfl (by repeat' first | exact trivial | rfl | constructor) (by repeat' exact trivial) (by simp only [wG, run_bind, zC, zJ, Held.zW, Held.zA, Held.zK, cond_true, cond_false, *]) | exact .ret (x := (_, _)) (by exact .inl rfl) (by exact .tup rfl (by decide) (.cons (.tmp rfl) (.cons (.tmp rfl) .nil))) (by repeat' first | exact trivial | rfl | constructor) (by simp only [wG, run_bind, zC, zJ, Held.zW, Held.zA, Held.zK, cond_true, cond_false, *] <;> rfl) | skip)
        refine ⟨(n, (x1, xQ x), s), ?_, ⟨hk, kK _, ?_⟩, Nat.lt_succ_self n⟩
        · exact z8 K_14 K_15
        · have e1 : (wG t k x1).run H.st s1 = .done (endS (xQ x)) s := by
            clear ho hns ho0
            simp only [wG, run_bind, zC, zJ, Held.zW, cond_false, *]
          rw [run_bind, e1, Held.zW]
          exact congrArg (fun p => Pr.run H.st p s) (contS_eq t k n (xQ x)).symm
/-! ### A walk that is told where to stop -/
def ptrB (i : Nat) : Blk := .box 152 [.ptr i 0]
def keyB (k : Int) : Blk := .box 27 [.p (.val (.int .u64 k))]
theorem search1_h (H : Hnd) (s0 : H.σ) {t p x k w : Int} (f : Bool) (hx : Rc t x) : FnH H 80 [.p (.val (.int .u64 w)), .ptr 1004 0, .ptr 1005 0, .ptr 1006 0] [vF H t p x, ptrB 1003, keyB k, isB f] (fun n => .tup ([.val (.bool (decide (k ≤ n))), .val (.bool false)].map .p)) (fun n => [vF H t p x, ptrB 1003, keyB k, isB (decide (n = k))]) U s0 (xD (zQ t x 1)) := by
  unfold ptrB keyB
  refine yH Tryz.func80 rfl Tryz.ntmps80 (Nat.le_of_ble_eq_true rfl) (by decide) (yQ _) fun hok hns => ?_
  repeat' (first | (refine zY.is ?_; first | refine zY.nil ?_ | (refine zY.at_ 7 rfl ?_; refine zY.rc (.v zB .e) ?_) | (refine zY.in_ [9] rfl ?_; refine zY.ofT rfl (zG.hd (i := [1003]) (f := field_h H _ hx (by decide)) (r := fun x s e g hk => ?_) (p := fun q s e => ?_) (t := ?_)))) | (refine zZ.is ?_; first | refine zZ.seq ?_ | (refine zZ.isR (id := 0) ?_; refine zZ.rc [1, 2, 3] [1000, 1001, 1002, 1003, 1004, 1005, 1006] (r := (.v zB (.v zB .e))) (h := ?_)) | (refine zZ.isR (id := 1) ?_; refine zZ.rc [1, 2, 3, 5, 6] [1000, 1001, 1002, 1003, 1004, 1005, 1006] (r := (.v v2_12 .e)) (h := ?_)) | (refine zZ.isR (id := 2) ?_; refine zZ.rc [2, 3, 5, 6, 7] [1000, 1001, 1002, 1003, 1004, 1005, 1006] (r := (.v zV (.v zO (.v v41_8 (.w zS .e))))) (h := ?_)) | (refine zZ.isR (id := 3) ?_; refine zZ.rc [2, 5, 6, 7] [1000, 1001, 1002, 1003, 1004, 1005, 1006] (r := (.v zV (.v zO (.v v46_8 (.v zB (.v zB .e)))))) (h := ?_)) | refine zZ.ret ?_) | refine zF.n ?_ | refine zF.p ?_)
  all_goals (first | exact fun e => hns (by clear hns; simp only [run_bind, zC, zJ, Held.zW, Held.zA, Held.zK, cond_true, cond_false, *]) | exact .pan (q := q) rfl (by repeat' first | exact trivial | rfl | constructor) (by repeat' first | exact trivial | exact ⟨_, rfl, rfl⟩ | constructor) (by simp only [run_bind, zC, zJ, Held.zW, Held.zA, Held.zK, cond_true, cond_false, *]) | exact .ret (x := x) (by exact .inl rfl) (by exact .tup rfl (by decide) (.cons (.tmp rfl) (.cons (.tmp rfl) .nil))) (by repeat' first | exact trivial | rfl | constructor) (by simp only [run_bind, zC, zJ, Held.zW, Held.zA, Held.zK, cond_true, cond_false, *] <;> rfl))
def alongF (H : Hnd) (t k p x : Int) (s : H.σ) : AS :=
  { t := [(0, .ptr 1003 0), (1, .clo 80 [1004, 1005, 1006]), (4, .p (.val (.bool false)))], s := [(1000, H.b0 s), (1001, H.b1 s), (1002, H.b2 s), (1003, vF H t p x), (1004, ptrB 1003), (1005, keyB k), (1006, isB false)] }
theorem along_h (H : Hnd) (s0 : H.σ) {t k : Int} (ht : Small t) : FnH H 79 [.ptr 1003 0, .clo 80 [1004, 1005, 1006]] [vF H t 0 0, ptrB 1003, keyB k, isB false] (fun r => .p (.val (.bool r.ok))) (fun r => [vF H t r.p r.x, ptrB 1003, keyB k, isB r.is]) FOK s0 (alongP t k) := by
  refine yH Tryz.func79 rfl Tryz.ntmps79 (Nat.le_of_ble_eq_true rfl) (by decide) (fine_along t k) fun hok hns => ?_
  repeat' (first | (refine zY.nil ?_) | (refine zZ.is ?_; first | refine zZ.seq ?_ | (refine zZ.isR (id := 0) ?_; refine zZ.rc [0, 1] [1000, 1001, 1002, 1003, 1004, 1005, 1006] (r := (.v zB .e)) (h := ?_))) | refine zF.n ?_)
  refine zZ.scopeL 0 (fun q : Nat × (Int × Int) × H.σ => alongF H t k q.2.1.1 q.2.1.2 q.2.2) (fun q => H.ok q.2.2 ∧ (Pr.loop (yX t (xX t k)) q.1 none).run H.st q.2.2 = (alongP t k).run H.st s0) (fun q => q.1) (many, (0, 0), s0) ?h0 ⟨hok, rfl⟩ ?rd
  case h0 =>
    exact z8 K_2 K_e
  case rd =>
    rintro ⟨n, ⟨p, x⟩, s1⟩ ⟨hok1, ho⟩
    dsimp only at hok1 ho ⊢
    rw [← ho] at hns ⊢
    unfold alongF
    cases n with
    | zero => exact absurd rfl hns
    | succ n =>
      rw [vY] at ho hns ⊢
      repeat' (first | (refine zY.is ?_; first | refine zY.nil ?_ | (refine zY.in_ [11] rfl ?_; refine zY.ofT rfl (zG.hd (i := [1003]) (f := start_h H _ ht) (r := fun x s e g hk => ?_) (p := fun q s e => ?_) (t := ?_)))) | (refine zZ.is ?_; first | refine zZ.seq ?_ | (refine zZ.isR (id := 1) ?_; refine zZ.rc [0, 1, 4] [1000, 1001, 1002, 1003, 1004, 1005, 1006] (r := (.v v0_2 .e)) (h := ?_)) | refine zZ.block ?_) | refine zF.n ?_ | refine zF.p ?_ | refine xA.p ?_)
      all_goals (first | exact fun e => hns (by clear hns; simp only [yX, run_bind, zC, zJ, Held.zW, Held.zA, Held.zK, cond_true, cond_false, *]) | exact .pan (q := q) rfl (by repeat' first | exact trivial | rfl | constructor) (by repeat' first | exact trivial | exact ⟨_, rfl, rfl⟩ | constructor) (by simp only [yX, run_bind, zC, zJ, Held.zW, Held.zA, Held.zK, cond_true, cond_false, *]) | skip)
      have e1 : (yX t (xX t k) none).run H.st s1 = .done (endW 0 (xQ x)) s := by
        clear ho hns
        simp only [yX, run_bind, zC, Held.zW, *]
      rw [run_bind, e1, Held.zW, qY] at ho hns ⊢
      refine zZ.loop (fun q : Nat × (Int × Int) × H.σ => alongF H t k q.2.1.1 q.2.1.2 q.2.2) (fun q => q.1 ≤ n ∧ H.ok q.2.2 ∧ Rf q.2.1.1 ∧ Rf q.2.1.2 ∧ (contL t (xX t k) q.1 q.2.1.1 q.2.1.2).run H.st q.2.2 = (contL t (xX t k) n 0 (xQ x)).run H.st s) (fun q => q.1) (n, (0, xQ x), s) ?h0 ⟨Nat.le_refl _, hk, rf_0, kK _, rfl⟩ ?rd
      case h0 =>
        exact z8 K_2 K_e
      case rd =>
        rintro ⟨m, ⟨p1, x1⟩, s2⟩ ⟨hmn, hok2, hp1, hx1, ho2⟩
        dsimp only at hmn hok2 hp1 hx1 ho2 ⊢
        clear e1 e hk
        rw [← ho2] at ho hns ⊢
        unfold alongF
        unfold contL at ho hns ⊢
        cases hz : decide (x1 = 0)
        case true =>
          rw [hz] at ho hns
          obtain rfl : x1 = 0 := of_decide_eq_true hz
          have hz' : (!decide ((0 : Int) = 0)) = false := rfl
          repeat' (first | (refine zY.nil ?_) | (refine zZ.is ?_; first | refine zZ.seq ?_ | (refine zZ.isR (id := 2) ?_; refine zZ.rc [0, 1, 4, 5, 6, 7, 8, 9, 16, 20, 28, 30, 37, 39] [1000, 1001, 1002, 1003, 1004, 1005, 1006] (r := (.v v0_2 (.v v4_0 (.v zM (.v zO (.v v42_0 .e)))))) (h := ?_)) | (refine zZ.isR (id := 14) ?_; refine zZ.rc [4] [1000, 1001, 1002, 1003, 1004, 1005, 1006] (r := (.v zB .e)) (h := ?_)) | refine zZ.yG rfl bA ?_ | refine zZ.exit ?_ | refine zZ.ret ?_) | refine zF.n ?_ | refine zR.eY ?_ | refine zF.e ?_ | refine xA.r ?_)
          all_goals (exact .ret (x := ⟨_, _, _, _⟩) (by exact .inl rfl) (by exact .one rfl rfl) (by repeat' first | exact trivial | rfl | constructor) (by simp only [run_bind, zC, zJ, Held.zW, Held.zA, Held.zK, cond_true, cond_false, *] <;> rfl))
        case false =>
          rw [hz] at ho hns
          have hz' : (!decide (x1 = 0)) = true := by rw [hz]; rfl
          have hxr := hx1.rc ht
          have hw : WOK p1 x1 := ⟨hp1, hx1, hz⟩
          have hnk : ∀ n : Int, decide (k ≤ n) = false → decide (n = k) = false := fun n h => by
            have := of_decide_eq_false h
            exact decide_eq_false (by omega)
          rw [cond_false] at ho hns ⊢
          cases m with
          | zero => exact absurd rfl hns
          | succ m =>
            rw [vY] at ho hns ⊢
            repeat' (first | (refine zY.is ?_; first | refine zY.nil ?_ | (refine zY.at_ 21 rfl ?_; refine zY.rc (.v vZ (.v yJ (.v yJ (.v zB (.v zB .e))))) ?_) | (refine zY.at_ 31 rfl ?_; refine zY.rc (.v vZ (.v yJ (.v yJ (.v zB (.v zB .e))))) ?_) | (refine zY.at_ 5 rfl ?_; refine zY.rc (.v zB .e) ?_) | (refine zY.in_ [20] rfl ?_; refine zY.v rfl rfl (zP (mark_fn _ (U.lo (by assumption)) (U.hi (by assumption))) rfl rfl rfl (by decide)) ?_) | (refine zY.in_ [18] rfl ?_; refine zY.ofT rfl (zG.hd (i := [1003]) (f := field_h H _ hxr (by decide)) (r := fun x s e g hk => ?_) (p := fun q s e => ?_) (t := ?_))) | (refine zY.in_ [34] rfl ?_; refine zY.ofT rfl (zG.hd (i := [1003, 1004, 1005, 1006]) (f := search1_h H _ _ hxr) (r := fun x s e g hk => ?_) (p := fun q s e => ?_) (t := ?_))) | (refine zY.in_ [24] rfl ?_; refine zY.ofT rfl (zG.hdT (i := [1003]) (f := out_h H _ ht hw (by assumption)) (r0 := fun s e g hk => ?_) (r1 := fun s e g hk => ?_) (r2 := fun s e g hk => ?_) (p := fun q s e => ?_) (t := ?_))) | (refine zY.in_ [42] rfl ?_; refine zY.ofT rfl (zG.h0 (i := [1003]) (f := on_h H _ (by assumption)) (r := fun g => ?_)))) | (refine zZ.is ?_; first | refine zZ.seq ?_ | (refine zZ.isR (id := 2) ?_; refine zZ.rc [0, 1, 4, 5, 6, 7, 8, 9, 16, 20, 28, 30, 37, 39] [1000, 1001, 1002, 1003, 1004, 1005, 1006] (r := (.v v0_2 (.v v4_0 (.v zM (.v zO (.v v42_0 .e)))))) (h := ?_)) | (refine zZ.isR (id := 3) ?_; refine zZ.rc [0, 1, 4, 5, 6, 7, 8, 9, 16, 20, 28, 30, 37, 39] [1000, 1001, 1002, 1003, 1004, 1005, 1006] (r := (.v v0_2 .e)) (h := ?_)) | (refine zZ.isR (id := 4) ?_; refine zZ.rc [0, 1, 4, 5, 6, 7, 8, 9, 16, 20, 28, 30, 37, 39] [1000, 1001, 1002, 1003, 1004, 1005, 1006] (r := (.v zV .e)) (h := ?_)) | (refine zZ.isR (id := 5) ?_; refine zZ.rc [0, 1, 4, 5, 6, 7, 8, 9, 16, 20, 28, 30, 37, 39] [1000, 1001, 1002, 1003, 1004, 1005, 1006] (r := (.v v0_2 (.v zV .e))) (h := ?_)) | (refine zZ.isR (id := 6) ?_; refine zZ.rc [0, 1, 4, 5, 6, 7, 8, 9, 16, 20, 28, 30, 37, 39] [1000, 1001, 1002, 1003, 1004, 1005, 1006] (r := (.v zV (.v v52_4 .e))) (h := ?_)) | (refine zZ.isR (id := 6) ?_; refine zZ.rc [0, 1, 4, 5, 6, 7, 8, 9, 16, 20, 28, 30, 37, 39] [1000, 1001, 1002, 1003, 1004, 1005, 1006] (r := (.v zV (.v kQ .e))) (h := ?_)) | (refine zZ.isR (id := 7) ?_; refine zZ.rc [0, 1, 4, 5, 6, 7, 8, 9, 16, 20, 28, 30, 37, 39] [1000, 1001, 1002, 1003, 1004, 1005, 1006] (r := (.v zB .e)) (h := ?_)) | (refine zZ.isR (id := 8) ?_; refine zZ.rc [0, 1, 4, 5, 6, 7, 8, 9, 16, 20, 28, 30, 37, 39] [1000, 1001, 1002, 1003, 1004, 1005, 1006] (r := (.v zV (.v v52_4 .e))) (h := ?_)) | (refine zZ.isR (id := 8) ?_; refine zZ.rc [0, 1, 4, 5, 6, 7, 8, 9, 16, 20, 28, 30, 37, 39] [1000, 1001, 1002, 1003, 1004, 1005, 1006] (r := (.v zV (.v kQ .e))) (h := ?_)) | (refine zZ.isR (id := 9) ?_; refine zZ.rc [0, 1, 4, 5, 6, 7, 8, 9, 16, 20, 28, 30, 37, 39] [1000, 1001, 1002, 1003, 1004, 1005, 1006] (r := (.v xJ (.v zV .e))) (h := ?_)) | (refine zZ.isR (id := 10) ?_; refine zZ.rc [0, 1, 4, 5, 6, 7, 8, 9, 16, 20, 28, 30, 37, 39] [1000, 1001, 1002, 1003, 1004, 1005, 1006] (r := (.v zV .e)) (h := ?_)) | (refine zZ.isR (id := 11) ?_; refine zZ.rc [0, 1, 4, 5, 6, 7, 8, 9, 16, 20, 28, 30, 37, 39] [1000, 1001, 1002, 1003, 1004, 1005, 1006] (r := (.v zB .e)) (h := ?_)) | (refine zZ.isR (id := 12) ?_; refine zZ.rc [0, 1, 4, 5, 6, 7, 8, 9, 16, 20, 28, 30, 37, 39] [1000, 1001, 1002, 1003, 1004, 1005, 1006] (r := (.v zV (.v v52_4 .e))) (h := ?_)) | (refine zZ.isR (id := 13) ?_; refine zZ.rc [0, 1, 4, 5, 6, 7, 8, 9, 16, 20, 28, 30, 37, 39] [1000, 1001, 1002, 1003, 1004, 1005, 1006] (r := (.v v0_2 (.v zV .e))) (h := ?_)) | refine zZ.yN rfl bA ?_ | refine zZ.yG rfl bA ?_ | refine zZ.cond rfl (fun h => ?_) (fun h => ?_) | refine zZ.skip ?_ | refine zZ.block ?_ | refine zZ.exit ?_ | refine zZ.ret ?_ | refine zZ.goto ?_) | refine zF.n ?_ | refine zF.r ?_ | refine zF.p ?_ | refine zR.n ?_ | refine zR.r ?_ | refine zR.eY ?_ | refine zF.e ?_ | refine zR.p ?_ | refine zF.g ?_ | refine xA.r ?_ | refine xA.g ?_ | refine zR.g ?_ | refine xA.p ?_)
            all_goals (first | exact fun e => hns (by clear hns; simp only [yX, tookP, tookR, xX, run_bind, zC, zJ, Held.zW, Held.zA, Held.zK, cond_true, cond_false, *]) | exact .pan (q := q) rfl (by repeat' first | exact trivial | rfl | constructor) (by repeat' first | exact trivial | exact ⟨_, rfl, rfl⟩ | constructor) (by simp only [yX, tookP, tookR, xX, run_bind, zC, zJ, Held.zW, Held.zA, Held.zK, cond_true, cond_false, *]) | exact .ret (x := ⟨_, _, _, _⟩) (by exact .inl rfl) (by exact .one rfl rfl) (by repeat' first | exact trivial | rfl | constructor) (by simp only [yX, tookP, tookR, xX, run_bind, zC, zJ, Held.zW, Held.zA, Held.zK, cond_true, cond_false, *] <;> rfl) | skip)
            · have e1 : (yX t (xX t k) (some (p1, x1))).run H.st s2 = .done (.inl none) s := by
                clear ho hns ho2
                simp only [yX, tookP, tookR, run_bind, zC, zJ, Held.zW, cond_true, cond_false, *]
              refine ⟨(m, (p1, x1), s), ?_, ⟨hk, (by rw [run_bind, e1, Held.zW]; rfl)⟩, by dsimp only; omega⟩
              exact z8 K_2 K_e
            · have e1 : (yX t (xX t k) (some (p1, x1))).run H.st s2 = .done (endW p1 (xQ x)) s := by
                clear ho hns ho2
                simp only [yX, tookP, tookR, run_bind, zC, zJ, Held.zW, cond_true, cond_false, *]
              refine ⟨(m, (p1, xQ x), s), ?_, ⟨by dsimp only; omega, hk, hp1, kK _, ?_⟩, Nat.lt_succ_self m⟩
              · exact z8 K_2 K_e
              · rw [run_bind, e1, Held.zW]
                exact congrArg (fun p => Pr.run H.st p s) (qY t (xX t k) m p1 (xQ x)).symm
            · rename_i w s4 e4 g4 hk4 hm4 g5
              have e1 : (yX t (xX t k) (some (p1, x1))).run H.st s2 = .done (endW x1 (xQ w)) s := by
                clear ho hns ho2
                simp only [yX, xX, run_bind, zC, zJ, Held.zW, cond_true, cond_false, *]
              have hdk := hnk x h
              refine ⟨(m, (x1, xQ w), s), ?_, ⟨by dsimp only; omega, hk, hx1, kK _, ?_⟩, Nat.lt_succ_self m⟩
              · rw [hdk]
                exact z8 K_2 K_e
              · rw [run_bind, e1, Held.zW]
                exact congrArg (fun p => Pr.run H.st p s) (qY t (xX t k) m x1 (xQ w)).symm
theorem search_h (H : Hnd) (s0 : H.σ) {t k : Int} (ht : Small t) : FnH H 48 [H.doA, .p (.val (.int .i64 t)), .p (.val (.int .u64 k))] [] (fun r => .tup ([.val (.int .i64 r.p), .val (.int .i64 r.x), .val (.bool r.is), .val (.bool r.ok)].map .p)) (fun _ => []) FOK s0 (vI t k) := by
  unfold Hnd.doA
  refine yH Tryz.func48 rfl Tryz.ntmps48 (Nat.le_of_ble_eq_true rfl) (by decide) (fine_search t k) fun hok hns => ?_
  repeat' (first | (refine zY.is ?_; first | refine zY.nil ?_ | (refine zY.at_ 10 rfl ?_; refine zY.rc (.m zT (.w zS .e)) ?_) | (refine zY.at_ 9 rfl ?_; refine zY.rc (.v zB .e) ?_) | (refine zY.in_ [17] rfl ?_; refine zY.ofT rfl (zG.hdB (c := wZ.is) (i := [14, 10, 5, 8]) (f := along_h H _ ht) (r0 := fun x s e g hk h => ?_) (r1 := fun x s e g hk h => ?_) (p := fun q s e => ?_) (t := ?_))) | refine zY.buildBx rfl rfl rfl rfl rfl rfl (by decide) (by decide) rfl rfl rfl rfl ?_) | (refine zZ.is ?_; first | refine zZ.seq ?_ | (refine zZ.isR (id := 0) ?_; refine zZ.rc [0, 1, 2] [5, 8, 10, 14, 1000, 1001, 1002] (r := (.m m18_1 (.v zB (.v zB (.m zT (.v zB .e)))))) (h := ?_)) | (refine zZ.isR (id := 1) ?_; refine zZ.rc [0, 1, 5, 6, 7, 8, 9] [5, 8, 10, 14, 1000, 1001, 1002] (r := (.v xJ (.v zV .e))) (h := ?_)) | (refine zZ.isR (id := 2) ?_; refine zZ.rc [5, 6, 7, 8, 9, 10] [5, 8, 10, 14, 1000, 1001, 1002] (r := (.v v2_12 (.v v14_0 .e))) (h := ?_)) | (refine zZ.isR (id := 3) ?_; refine zZ.rc [6, 7, 8, 9, 10] [5, 8, 10, 14, 1000, 1001, 1002] (r := (.v zV (.v v52_8 .e))) (h := ?_)) | (refine zZ.isR (id := 4) ?_; refine zZ.rc [6, 7, 8, 9, 10] [5, 8, 10, 14, 1000, 1001, 1002] (r := (.v zB (.v zB (.w zS (.v zB .e))))) (h := ?_)) | (refine zZ.isR (id := 5) ?_; refine zZ.dc [6, 7, 8, 9, 10] [5, 8, 10, 14, 1000, 1001, 1002] (r := (.v v2_12 (.v v4_0 (.v zM (.v zO (.v v2_12 (.v v4_0 (.v zM (.v zO (.v zO (.v zV (.gY v2_12 (.gY v4_0 (.gY zM (.gY zO (.gY v42_8 (.v xR (.v zB (.v zB .e))))))))))))))))))) (q := (.w zS (.v zB .e))) (h := ?_)) | (refine zZ.isR (id := 5) ?_; refine zZ.dc [6, 7, 8, 9, 10] [5, 8, 10, 14, 1000, 1001, 1002] (r := (.v v2_12 (.v v4_0 (.v zM (.v zO (.v v2_12 (.v v4_0 (.v zM (.v zO (.v zO (.v zV (.gT (.gT (.gT (.gT (.gT (.v wW (.v zB (.v zB .e))))))))))))))))))) (q := (.w zS (.v zB .e))) (h := ?_)) | refine zZ.cond rfl (fun h => ?_) (fun h => ?_) | refine zZ.skip ?_ | refine zZ.ret ?_) | refine zF.n ?_ | refine zF.r ?_ | refine zF.p ?_ | (refine zD.nil ?_))
  all_goals try
    rename_i his
    obtain ⟨p, y, is, ok⟩ := x
    obtain rfl : is = _ := his
  all_goals try
    have hok2 : ok = false := by simpa using h
    subst hok2
    exact .ret (x := ⟨0, 0, false, false⟩) (.inl rfl) (.tup rfl (by decide) (.cons (.tmp rfl) (.cons (.tmp rfl) (.cons (.cell1 rfl rfl rfl) (.cons (.tmp rfl) .nil))))) (by repeat' first | exact trivial | rfl | constructor) (by simp only [vI, run_bind, e, Held.zW, cond_false, zC])
  all_goals try
    have hok2 : ok = true := by simpa using h
    subst hok2
    first
      | exact .ret (x := ⟨p, y, false, true⟩) (.inl rfl) (.tup rfl (by decide) (.cons (.tmp rfl) (.cons (.tmp rfl) (.cons (.cell1 rfl rfl rfl) (.cons (.tmp rfl) .nil))))) (by repeat' first | exact trivial | rfl | constructor) (by simp only [vI, run_bind, e, Held.zW, cond_true, zC])
      | (have hy : (!decide (y = 0)) = true := by
           have : 1 ≤ y := g.n rfl
           rw [decide_eq_false (by omega)]
           rfl
         refine .ret (x := ⟨p, y, true, true⟩) (.inl rfl) (.tup rfl (by decide) (.cons (.tmp rfl) (.cons (.tmp rfl) (.cons (.cell1 rfl rfl (by rw [← hy]; rfl)) (.cons (.tmp rfl) .nil))))) (by repeat' first | exact trivial | rfl | constructor) (by simp only [vI, run_bind, e, Held.zW, cond_true, zC]))
  all_goals (first | exact fun e => hns (by clear hns; simp only [vI, run_bind, zC, zJ, Held.zW, Held.zA, Held.zK, cond_true, cond_false, *]) | exact .pan (q := q) rfl (by repeat' first | exact trivial | rfl | constructor) (by repeat' exact trivial) (by simp only [vI, run_bind, zC, zJ, Held.zW, Held.zA, Held.zK, cond_true, cond_false, *]))
end Go.Proofs.YtmfbamiciieooaaGreatDoor
/- Sweeps: the program's, whatever makes its accesses: contracts. -/
namespace Go.Proofs.YtmfbamiciieooaaGreatDoor
set_option maxRecDepth 100000
set_option maxHeartbeats 16000000
open Go Go.RowKit
set_option linter.unusedSimpArgs false
set_option linter.unusedVariables false
attribute [local irreducible] zY zZ Step zX Sub zD zG Fn zF zR xA
theorem ksplit_fn (k : Int) (h0 : 0 ≤ k) (h1 : k < 18446744073709551616) : Fn Tryz.prog 95 [.val (.int .u64 k)] (.tup [.val (.int .i64 (k / 2147483648)), .val (.int .i64 (k % 2147483648 - 1))]) := by
  have g1 : bits .and .u64 k 2147483647 = k % 2147483648 := andLow k 31 (by decide) h0 h1
  have g2 : IntKind.i64.wrap (k / 2147483648) = k / 2147483648 := wrap_i64 _ (by omega)
  have g3 : IntKind.i64.wrap (k % 2147483648) = k % 2147483648 := wrap_i64 _ (by omega)
  have g4 : IntKind.i64.wrap (k % 2147483648 - 1) = k % 2147483648 - 1 := wrap_i64 _ (by omega)
  refine vW Tryz.func95 rfl Tryz.ntmps95 (Nat.le_of_ble_eq_true rfl) ?_
  repeat' (first | (refine zY.nil ?_) | (refine zZ.is ?_; first | refine zZ.seq ?_ | (refine zZ.isR (id := 0) ?_; refine zZ.rc [0] [] (r := (.v zB (.v zB .e))) (h := ?_)) | (refine zZ.isR (id := 1) ?_; refine zZ.rc [0, 2, 3] [] (r := (.v zV (.v v39_1 (.v v6_0 (.v zV (.v v35_0 (.v v6_0 (.v v31_0 (.v zB (.v zB .e)))))))))) (h := ?_)) | refine zZ.ret ?_) | refine zF.n ?_)
  all_goals exact ⟨.inl rfl, givesT (ts := [2, 3]) rfl (by decide) rfl⟩
theorem sweep1_h (H : Hnd) (s0 : H.σ) {t p x k w : Int} (ht : Small t) (hW : WOK p x) (hw : U w) (he : decide (w % 2 = 1) = false) : FnH H 94 [.p (.val (.int .u64 w)), .ptr 1004 0, .ptr 1005 0, .ptr 1006 0, .ptr 1007 0] [vF H t p x, ptrB 1003, keyB k, doB H, yE t] (fun b => .tup ([.val (.bool false), .val (.bool b)].map .p)) (fun _ => [vF H t p x, ptrB 1003, keyB k, doB H, yE t]) yes s0 (sweepIn t k x w) := by
  have hxr := hW.x.rc ht
  have hxx := hW.x
  have F1 := fun y : Int => (decide_eq_decide.2 (by omega) : decide (y % 2147483648 - 1 < 0) = decide (y % 2147483648 = 0))
  unfold ptrB keyB doB yE vF Hnd.doA
  refine yH Tryz.func94 rfl Tryz.ntmps94 (Nat.le_of_ble_eq_true rfl) (by decide) (fine_sweepIn t k x w hw he) fun hok hns => ?_
  repeat' (first | (refine zY.is ?_; first | refine zY.nil ?_ | (refine zY.at_ 10 rfl ?_; refine zY.rc (.v zB .e) ?_) | (refine zY.at_ 11 rfl ?_; refine zY.rc (.v zB .e) ?_) | (refine zY.at_ 12 rfl ?_; refine zY.rc (.v vZ (.v yJ (.v yJ (.v zB (.v zB .e))))) ?_) | (refine zY.at_ 28 rfl ?_; refine zY.rc (.gY zV (.gY zO (.gY v42_8 (.v xR .e)))) ?_) | (refine zY.at_ 28 rfl ?_; refine zY.rc (.gT (.gT (.gT (.v wW .e)))) ?_) | (refine zY.in_ [15] rfl ?_; refine zY.v rfl rfl (xY (ksplit_fn _ (U.lo (by assumption)) (U.hi (by assumption))) rfl rfl rfl (by decide)) ?_) | (refine zY.in_ [14, 21, 23] rfl ?_; refine zY.ofT rfl (zG.hd (i := [1003]) (f := field_h H _ hxr (by decide)) (r := fun x s e g hk => ?_) (p := fun q s e => ?_) (t := ?_))) | (fail_if_success refine zY.known rfl rfl rfl (by fail) ?_); refine zY.split rfl rfl rfl (fun h => ?_) (fun h => ?_)) | (refine zZ.is ?_; first | refine zZ.seq ?_ | (refine zZ.isR (id := 0) ?_; refine zZ.rc [0, 1, 2, 3, 4] [1000, 1001, 1002, 1003, 1004, 1005, 1006, 1007] (r := (.v zB (.v zB .e))) (h := ?_)) | (refine zZ.isR (id := 1) ?_; refine zZ.rc [0, 1, 2, 3, 4, 6, 7] [1000, 1001, 1002, 1003, 1004, 1005, 1006, 1007] (r := (.v v2_12 .e)) (h := ?_)) | (refine zZ.isR (id := 2) ?_; refine zZ.rc [0, 1, 2, 3, 4, 6, 7, 9] [1000, 1001, 1002, 1003, 1004, 1005, 1006, 1007] (r := (.v zV (.v v43_1 .e))) (h := ?_)) | (refine zZ.isR (id := 3) ?_; refine zZ.rc [0, 1, 2, 3, 4, 6, 7] [1000, 1001, 1002, 1003, 1004, 1005, 1006, 1007] (r := (.v zB (.v zB .e))) (h := ?_)) | (refine zZ.isR (id := 4) ?_; refine zZ.rc [0, 1, 2, 3, 4, 6, 7] [1000, 1001, 1002, 1003, 1004, 1005, 1006, 1007] (r := (.v v2_12 .e)) (h := ?_)) | (refine zZ.isR (id := 5) ?_; refine zZ.rc [0, 1, 2, 3, 4, 6, 7, 10] [1000, 1001, 1002, 1003, 1004, 1005, 1006, 1007] (r := (.v v2_12 .e)) (h := ?_)) | (refine zZ.isR (id := 6) ?_; refine zZ.rc [0, 1, 2, 3, 4, 6, 7, 10, 11] [1000, 1001, 1002, 1003, 1004, 1005, 1006, 1007] (r := (.v zV (.v zO (.v v42_8 (.v zV .e))))) (h := ?_)) | (refine zZ.isR (id := 7) ?_; refine zZ.rc [0, 1, 3, 4, 6, 7] [1000, 1001, 1002, 1003, 1004, 1005, 1006, 1007] (r := (.v zB (.v zB .e))) (h := ?_)) | (refine zZ.isR (id := 8) ?_; refine zZ.rk [0, 1, 3, 4, 6, 7] [1000, 1001, 1002, 1003, 1004, 1005, 1006, 1007] ?_; refine zZ.draws ?_) | (refine zZ.isR (id := 9) ?_; refine zZ.rk [1, 3, 4, 6, 7] [1000, 1001, 1002, 1003, 1004, 1005, 1006, 1007] ?_; refine zZ.draws ?_) | (refine zZ.isR (id := 10) ?_; refine zZ.rc [6, 7] [1000, 1001, 1002, 1003, 1004, 1005, 1006, 1007] (r := (.v zB (.v zB .e))) (h := ?_)) | refine zZ.yG rfl bA ?_ | refine zZ.cond rfl (fun h => ?_) (fun h => ?_) | refine zZ.skip ?_ | refine zZ.ret ?_) | refine zF.n ?_ | refine zF.r ?_ | refine zF.p ?_ | (refine Draws.is ?_; first | refine Draws.rc (.v wL (.v zO (.v v2_12 (.v v4_0 (.v zM (.v zO (.v zV .e))))))) ?_ | refine Draws.rc (.v wL (.v zO (.v v2_12 (.v v4_0 (.v zM (.v zO .e)))))) ?_ | refine Draws.done (by kernel_rfl) (by kernel_rfl) (by kernel_rfl) ?_) | (refine zD.is ?_; first | refine zD.nil ?_ | (refine zD.in_ [39] rfl ?_; refine zD.ofT rfl (zG.hd (i := []) (f := mark_h H _ ht hxx hw he) (r := fun x s e g hk => ?_) (p := fun q s e => ?_) (t := ?_))) | (refine zD.in_ [46] rfl ?_; refine zD.ofT rfl (zG.hd (i := []) (f := setOp_h H _ hxr (.inr rfl)) (r := fun x s e g hk => ?_) (p := fun q s e => ?_) (t := ?_)))))
  all_goals (first | exact fun e => hns (by clear hns; simp only [sweepIn, Bool.true_and, Bool.false_and, run_bind, zC, zJ, Held.zW, Held.zA, Held.zK, cond_true, cond_false, *]) | exact .pan (q := q) rfl (by repeat' first | exact trivial | rfl | constructor) (by repeat' first | exact trivial | exact ⟨_, rfl, rfl⟩ | constructor) (by simp only [sweepIn, Bool.true_and, Bool.false_and, run_bind, zC, zJ, Held.zW, Held.zA, Held.zK, cond_true, cond_false, *]) | exact .ret (x := _) (by exact .inl rfl) (by exact .tup rfl (by decide) (.cons (.tmp rfl) (.cons (.tmp rfl) .nil))) (by repeat' first | exact trivial | rfl | constructor) (by simp only [sweepIn, Bool.true_and, Bool.false_and, run_bind, zC, zJ, Held.zW, Held.zA, Held.zK, cond_true, cond_false, *] <;> rfl))
def alongG (H : Hnd) (t k p x : Int) (s : H.σ) : AS :=
  { t := [(0, .ptr 1003 0), (1, .clo 94 [1004, 1005, 1006, 1007]), (4, .p (.val (.bool false)))], s := [(1000, H.b0 s), (1001, H.b1 s), (1002, H.b2 s), (1003, vF H t p x), (1004, ptrB 1003), (1005, keyB k), (1006, doB H), (1007, yE t)] }
theorem alongS_h (H : Hnd) (s0 : H.σ) {t k : Int} (ht : Small t) : FnH H 79 [.ptr 1003 0, .clo 94 [1004, 1005, 1006, 1007]] [vF H t 0 0, ptrB 1003, keyB k, doB H, yE t] (fun r => .p (.val (.bool r.ok))) (fun r => [vF H t r.p r.x, ptrB 1003, keyB k, doB H, yE t]) FOK s0 (sweepL t k) := by
  refine yH Tryz.func79 rfl Tryz.ntmps79 (Nat.le_of_ble_eq_true rfl) (by decide) (fine_sweepL t k) fun hok hns => ?_
  repeat' (first | (refine zY.nil ?_) | (refine zZ.is ?_; first | refine zZ.seq ?_ | (refine zZ.isR (id := 0) ?_; refine zZ.rc [0, 1] [1000, 1001, 1002, 1003, 1004, 1005, 1006, 1007] (r := (.v zB .e)) (h := ?_))) | refine zF.n ?_)
  refine zZ.scopeL 0 (fun q : Nat × (Int × Int) × H.σ => alongG H t k q.2.1.1 q.2.1.2 q.2.2) (fun q => H.ok q.2.2 ∧ (Pr.loop (yX t (xH t k)) q.1 none).run H.st q.2.2 = (sweepL t k).run H.st s0) (fun q => q.1) (many, (0, 0), s0) ?h0 ⟨hok, rfl⟩ ?rd
  case h0 =>
    exact z8 K_2 K_b
  case rd =>
    rintro ⟨n, ⟨p, x⟩, s1⟩ ⟨hok1, ho⟩
    dsimp only at hok1 ho ⊢
    rw [← ho] at hns ⊢
    unfold alongG
    cases n with
    | zero => exact absurd rfl hns
    | succ n =>
      rw [vY] at ho hns ⊢
      repeat' (first | (refine zY.is ?_; first | refine zY.nil ?_ | (refine zY.in_ [11] rfl ?_; refine zY.ofT rfl (zG.hd (i := [1003]) (f := start_h H _ ht) (r := fun x s e g hk => ?_) (p := fun q s e => ?_) (t := ?_)))) | (refine zZ.is ?_; first | refine zZ.seq ?_ | (refine zZ.isR (id := 1) ?_; refine zZ.rc [0, 1, 4] [1000, 1001, 1002, 1003, 1004, 1005, 1006, 1007] (r := (.v v0_2 .e)) (h := ?_)) | refine zZ.block ?_) | refine zF.n ?_ | refine zF.p ?_ | refine xA.p ?_)
      all_goals (first | exact fun e => hns (by clear hns; simp only [yX, run_bind, zC, zJ, Held.zW, Held.zA, Held.zK, cond_true, cond_false, *]) | exact .pan (q := q) rfl (by repeat' first | exact trivial | rfl | constructor) (by repeat' first | exact trivial | exact ⟨_, rfl, rfl⟩ | constructor) (by simp only [yX, run_bind, zC, zJ, Held.zW, Held.zA, Held.zK, cond_true, cond_false, *]) | skip)
      have e1 : (yX t (xH t k) none).run H.st s1 = .done (endW 0 (xQ x)) s := by
        clear ho hns
        simp only [yX, run_bind, zC, Held.zW, *]
      rw [run_bind, e1, Held.zW, qY] at ho hns ⊢
      refine zZ.loop (fun q : Nat × (Int × Int) × H.σ => alongG H t k q.2.1.1 q.2.1.2 q.2.2) (fun q => q.1 ≤ n ∧ H.ok q.2.2 ∧ Rf q.2.1.1 ∧ Rf q.2.1.2 ∧ (contL t (xH t k) q.1 q.2.1.1 q.2.1.2).run H.st q.2.2 = (contL t (xH t k) n 0 (xQ x)).run H.st s) (fun q => q.1) (n, (0, xQ x), s) ?h0 ⟨Nat.le_refl _, hk, rf_0, kK _, rfl⟩ ?rd
      case h0 =>
        exact z8 K_2 K_b
      case rd =>
        rintro ⟨m, ⟨p1, x1⟩, s2⟩ ⟨hmn, hok2, hp1, hx1, ho2⟩
        dsimp only at hmn hok2 hp1 hx1 ho2 ⊢
        clear e1 e hk
        rw [← ho2] at ho hns ⊢
        unfold alongG
        unfold contL at ho hns ⊢
        cases hz : decide (x1 = 0)
        case true =>
          rw [hz] at ho hns
          obtain rfl : x1 = 0 := of_decide_eq_true hz
          have hz' : (!decide ((0 : Int) = 0)) = false := rfl
          repeat' (first | (refine zY.nil ?_) | (refine zZ.is ?_; first | refine zZ.seq ?_ | (refine zZ.isR (id := 2) ?_; refine zZ.rc [0, 1, 4, 5, 6, 7, 8, 9, 16, 20, 28, 30, 37, 39] [1000, 1001, 1002, 1003, 1004, 1005, 1006, 1007] (r := (.v v0_2 (.v v4_0 (.v zM (.v zO (.v v42_0 .e)))))) (h := ?_)) | (refine zZ.isR (id := 14) ?_; refine zZ.rc [4] [1000, 1001, 1002, 1003, 1004, 1005, 1006, 1007] (r := (.v zB .e)) (h := ?_)) | refine zZ.yG rfl bA ?_ | refine zZ.exit ?_ | refine zZ.ret ?_) | refine zF.n ?_ | refine zR.eY ?_ | refine zF.e ?_ | refine xA.r ?_)
          all_goals (exact .ret (x := ⟨_, _, _, _⟩) (by exact .inl rfl) (by exact .one rfl rfl) (by repeat' first | exact trivial | rfl | constructor) (by simp only [run_bind, zC, zJ, Held.zW, Held.zA, Held.zK, cond_true, cond_false, *] <;> rfl))
        case false =>
          rw [hz] at ho hns
          have hz' : (!decide (x1 = 0)) = true := by rw [hz]; rfl
          have hxr := hx1.rc ht
          have hw : WOK p1 x1 := ⟨hp1, hx1, hz⟩
          rw [cond_false] at ho hns ⊢
          cases m with
          | zero => exact absurd rfl hns
          | succ m =>
            rw [vY] at ho hns ⊢
            repeat' (first | (refine zY.is ?_; first | refine zY.nil ?_ | (refine zY.at_ 21 rfl ?_; refine zY.rc (.v vZ (.v yJ (.v yJ (.v zB (.v zB .e))))) ?_) | (refine zY.at_ 31 rfl ?_; refine zY.rc (.v vZ (.v yJ (.v yJ (.v zB (.v zB .e))))) ?_) | (refine zY.at_ 5 rfl ?_; refine zY.rc (.v zB .e) ?_) | (refine zY.in_ [20] rfl ?_; refine zY.v rfl rfl (zP (mark_fn _ (U.lo (by assumption)) (U.hi (by assumption))) rfl rfl rfl (by decide)) ?_) | (refine zY.in_ [18] rfl ?_; refine zY.ofT rfl (zG.hd (i := [1003]) (f := field_h H _ hxr (by decide)) (r := fun x s e g hk => ?_) (p := fun q s e => ?_) (t := ?_))) | (refine zY.in_ [34] rfl ?_; refine zY.ofT rfl (zG.hd (i := [1003, 1004, 1005, 1006, 1007]) (f := sweep1_h H _ ht hw (by assumption) (by assumption)) (r := fun x s e g hk => ?_) (p := fun q s e => ?_) (t := ?_))) | (refine zY.in_ [24] rfl ?_; refine zY.ofT rfl (zG.hdT (i := [1003]) (f := out_h H _ ht hw (by assumption)) (r0 := fun s e g hk => ?_) (r1 := fun s e g hk => ?_) (r2 := fun s e g hk => ?_) (p := fun q s e => ?_) (t := ?_))) | (refine zY.in_ [42] rfl ?_; refine zY.ofT rfl (zG.h0 (i := [1003]) (f := on_h H _ (by assumption)) (r := fun g => ?_)))) | (refine zZ.is ?_; first | refine zZ.seq ?_ | (refine zZ.isR (id := 2) ?_; refine zZ.rc [0, 1, 4, 5, 6, 7, 8, 9, 16, 20, 28, 30, 37, 39] [1000, 1001, 1002, 1003, 1004, 1005, 1006, 1007] (r := (.v v0_2 (.v v4_0 (.v zM (.v zO (.v v42_0 .e)))))) (h := ?_)) | (refine zZ.isR (id := 3) ?_; refine zZ.rc [0, 1, 4, 5, 6, 7, 8, 9, 16, 20, 28, 30, 37, 39] [1000, 1001, 1002, 1003, 1004, 1005, 1006, 1007] (r := (.v v0_2 .e)) (h := ?_)) | (refine zZ.isR (id := 4) ?_; refine zZ.rc [0, 1, 4, 5, 6, 7, 8, 9, 16, 20, 28, 30, 37, 39] [1000, 1001, 1002, 1003, 1004, 1005, 1006, 1007] (r := (.v zV .e)) (h := ?_)) | (refine zZ.isR (id := 5) ?_; refine zZ.rc [0, 1, 4, 5, 6, 7, 8, 9, 16, 20, 28, 30, 37, 39] [1000, 1001, 1002, 1003, 1004, 1005, 1006, 1007] (r := (.v v0_2 (.v zV .e))) (h := ?_)) | (refine zZ.isR (id := 6) ?_; refine zZ.rc [0, 1, 4, 5, 6, 7, 8, 9, 16, 20, 28, 30, 37, 39] [1000, 1001, 1002, 1003, 1004, 1005, 1006, 1007] (r := (.v zV (.v v52_4 .e))) (h := ?_)) | (refine zZ.isR (id := 6) ?_; refine zZ.rc [0, 1, 4, 5, 6, 7, 8, 9, 16, 20, 28, 30, 37, 39] [1000, 1001, 1002, 1003, 1004, 1005, 1006, 1007] (r := (.v zV (.v kQ .e))) (h := ?_)) | (refine zZ.isR (id := 7) ?_; refine zZ.rc [0, 1, 4, 5, 6, 7, 8, 9, 16, 20, 28, 30, 37, 39] [1000, 1001, 1002, 1003, 1004, 1005, 1006, 1007] (r := (.v zB .e)) (h := ?_)) | (refine zZ.isR (id := 8) ?_; refine zZ.rc [0, 1, 4, 5, 6, 7, 8, 9, 16, 20, 28, 30, 37, 39] [1000, 1001, 1002, 1003, 1004, 1005, 1006, 1007] (r := (.v zV (.v v52_4 .e))) (h := ?_)) | (refine zZ.isR (id := 8) ?_; refine zZ.rc [0, 1, 4, 5, 6, 7, 8, 9, 16, 20, 28, 30, 37, 39] [1000, 1001, 1002, 1003, 1004, 1005, 1006, 1007] (r := (.v zV (.v kQ .e))) (h := ?_)) | (refine zZ.isR (id := 9) ?_; refine zZ.rc [0, 1, 4, 5, 6, 7, 8, 9, 16, 20, 28, 30, 37, 39] [1000, 1001, 1002, 1003, 1004, 1005, 1006, 1007] (r := (.v xJ (.v zV .e))) (h := ?_)) | (refine zZ.isR (id := 10) ?_; refine zZ.rc [0, 1, 4, 5, 6, 7, 8, 9, 16, 20, 28, 30, 37, 39] [1000, 1001, 1002, 1003, 1004, 1005, 1006, 1007] (r := (.v zV .e)) (h := ?_)) | (refine zZ.isR (id := 12) ?_; refine zZ.rc [0, 1, 4, 5, 6, 7, 8, 9, 16, 20, 28, 30, 37, 39] [1000, 1001, 1002, 1003, 1004, 1005, 1006, 1007] (r := (.v zV (.v v52_8 .e))) (h := ?_)) | (refine zZ.isR (id := 13) ?_; refine zZ.rc [0, 1, 4, 5, 6, 7, 8, 9, 16, 20, 28, 30, 37, 39] [1000, 1001, 1002, 1003, 1004, 1005, 1006, 1007] (r := (.v v0_2 (.v zV .e))) (h := ?_)) | refine zZ.yN rfl bA ?_ | refine zZ.yG rfl bA ?_ | refine zZ.cond rfl (fun h => ?_) (fun h => ?_) | refine zZ.skip ?_ | refine zZ.block ?_ | refine zZ.exit ?_ | refine zZ.ret ?_ | refine zZ.goto ?_) | refine zF.n ?_ | refine zF.r ?_ | refine zF.p ?_ | refine zR.n ?_ | refine zR.r ?_ | refine zR.eY ?_ | refine zF.e ?_ | refine zR.p ?_ | refine zF.g ?_ | refine xA.r ?_ | refine xA.g ?_ | refine zR.g ?_ | refine xA.p ?_)
            all_goals (first | exact fun e => hns (by clear hns; simp only [yX, tookP, tookR, xH, run_bind, zC, zJ, Held.zW, Held.zA, Held.zK, cond_true, cond_false, *]) | exact .pan (q := q) rfl (by repeat' first | exact trivial | rfl | constructor) (by repeat' first | exact trivial | exact ⟨_, rfl, rfl⟩ | constructor) (by simp only [yX, tookP, tookR, xH, run_bind, zC, zJ, Held.zW, Held.zA, Held.zK, cond_true, cond_false, *]) | exact .ret (x := ⟨_, _, _, _⟩) (by exact .inl rfl) (by exact .one rfl rfl) (by repeat' first | exact trivial | rfl | constructor) (by simp only [yX, tookP, tookR, xH, run_bind, zC, zJ, Held.zW, Held.zA, Held.zK, cond_true, cond_false, *] <;> rfl) | skip)
            · have e1 : (yX t (xH t k) (some (p1, x1))).run H.st s2 = .done (.inl none) s := by
                clear ho hns ho2
                simp only [yX, tookP, tookR, run_bind, zC, zJ, Held.zW, cond_true, cond_false, *]
              refine ⟨(m, (p1, x1), s), ?_, ⟨hk, (by rw [run_bind, e1, Held.zW]; rfl)⟩, by dsimp only; omega⟩
              exact z8 K_2 K_b
            · have e1 : (yX t (xH t k) (some (p1, x1))).run H.st s2 = .done (endW p1 (xQ x)) s := by
                clear ho hns ho2
                simp only [yX, tookP, tookR, run_bind, zC, zJ, Held.zW, cond_true, cond_false, *]
              refine ⟨(m, (p1, xQ x), s), ?_, ⟨by dsimp only; omega, hk, hp1, kK _, ?_⟩, Nat.lt_succ_self m⟩
              · exact z8 K_2 K_b
              · rw [run_bind, e1, Held.zW]
                exact congrArg (fun p => Pr.run H.st p s) (qY t (xH t k) m p1 (xQ x)).symm
            · rename_i w s4 e4 g4 hk4 hm4 g5
              have hx : x = false := by simpa using h
              have e1 : (yX t (xH t k) (some (p1, x1))).run H.st s2 = .done (endW x1 (xQ w)) s := by
                clear ho hns ho2
                simp only [yX, xH, run_bind, zC, zJ, Held.zW, cond_true, cond_false, *]
              refine ⟨(m, (x1, xQ w), s), ?_, ⟨by dsimp only; omega, hk, hx1, kK _, ?_⟩, Nat.lt_succ_self m⟩
              · exact z8 K_2 K_b
              · rw [run_bind, e1, Held.zW]
                exact congrArg (fun p => Pr.run H.st p s) (qY t (xH t k) m x1 (xQ w)).symm
            · have hx : x = true := by simpa using h
              have e1 : (yX t (xH t k) (some (p1, x1))).run H.st s2 = .done (.inl (some (p1, x1))) s := by
                clear ho hns ho2
                simp only [yX, xH, run_bind, zC, zJ, Held.zW, cond_true, cond_false, *]
              refine ⟨(m, (p1, x1), s), ?_, ⟨by dsimp only; omega, hk, hp1, hx1, ?_⟩, Nat.lt_succ_self m⟩
              · exact z8 K_2 K_b
              · rw [run_bind, e1, Held.zW]
                dsimp only
                rw [hz]
                rfl
theorem sweep_h (H : Hnd) (s0 : H.σ) {t k : Int} (ht : Small t) : FnH H 58 [H.doA, .p (.val (.int .i64 t)), .p (.val (.int .u64 k))] [] (fun r => .p (.val (.bool r))) (fun _ => []) yes s0 (kJ t k) := by
  unfold Hnd.doA
  refine yH Tryz.func58 rfl Tryz.ntmps58 (Nat.le_of_ble_eq_true rfl) (by decide) (fine_sweep t k) fun hok hns => ?_
  repeat' (first | (refine zY.is ?_; first | refine zY.nil ?_ | (refine zY.at_ 6 rfl ?_; refine zY.rc (.v zB .e) ?_) | (refine zY.at_ 7 rfl ?_; refine zY.rc (.m zT (.w zS .e)) ?_) | (refine zY.in_ [14] rfl ?_; refine zY.ofT rfl (zG.hd (i := [11, 7, 5, 3, 4]) (f := alongS_h H _ ht) (r := fun x s e g hk => ?_) (p := fun q s e => ?_) (t := ?_))) | refine zY.buildBx rfl rfl rfl rfl rfl rfl (by decide) (by decide) rfl rfl rfl rfl ?_) | (refine zZ.is ?_; first | refine zZ.seq ?_ | (refine zZ.isR (id := 0) ?_; refine zZ.rc [0, 1, 2] [3, 4, 5, 7, 11, 1000, 1001, 1002] (r := (.m m18_3 (.m m18_1 (.m m18_1 (.v zB .e))))) (h := ?_)) | (refine zZ.isR (id := 1) ?_; refine zZ.rc [3, 4, 5, 6] [3, 4, 5, 7, 11, 1000, 1001, 1002] (r := (.v wL (.v zO .e))) (h := ?_)) | (refine zZ.isR (id := 2) ?_; refine zZ.rc [3, 4, 5, 6, 7] [3, 4, 5, 7, 11, 1000, 1001, 1002] (r := (.v v2_12 (.v v14_0 .e))) (h := ?_)) | refine zZ.ret ?_) | refine zF.n ?_ | refine zF.p ?_)
  all_goals (first | exact fun e => hns (by clear hns; simp only [kJ, run_bind, zC, zJ, Held.zW, Held.zA, Held.zK, cond_true, cond_false, *]) | exact .pan (q := q) rfl (by repeat' first | exact trivial | rfl | constructor) (by repeat' exact trivial) (by simp only [kJ, run_bind, zC, zJ, Held.zW, Held.zA, Held.zK, cond_true, cond_false, *]) | exact .ret (by exact .inl rfl) (by exact .one rfl rfl) (by repeat' first | exact trivial | rfl | constructor) (by simp only [kJ, run_bind, zC, zJ, Held.zW, Held.zA, Held.zK, cond_true, cond_false, *] <;> rfl))
end Go.Proofs.YtmfbamiciieooaaGreatDoor
/- Functions that turn own rows, too: contracts. Generic over the program. -/
namespace Go.Proofs.YtmfbamiciieooaaGreatDoor
set_option maxRecDepth 100000
set_option maxHeartbeats 16000000
open Go Go.RowKit
set_option linter.unusedSimpArgs false
set_option linter.unusedVariables false
def Blk.okZ (m : Nat) : Blk → Bool
  | .box _ xs => xs.all (AV.okE m)
  | .obj _ _ => true
  | .row _ _ _ xs => xs.all (AV.okE m)
  | .prow _ _ _ _ => true
  | .lent _ _ _ _ => false
/-- what keeps its place -/
def Blk.pinned : Blk → Bool
  | .box _ _ => true
  | .obj _ _ => true
  | _ => false
structure HandedZ (h : Home) (p : Nat) (L : List Blk) (ρ : Nat → Value) : Prop where
  r : ∀ i, i < p → h.r (1000 + i) = some (ρ (1000 + i))
  no : ∀ k, 1000 + p ≤ k → h.r k = none
  t : ∀ k, h.t k → ∃ i, i < L.length ∧ zU (ρ (1000 + i)) = some k
structure HandsZ (S : AS) (ids : List Nat) (L : List Blk) : Prop where
  len : ids.length = L.length
  nodup : ids.Nodup
  ok : L.all (Blk.okZ L.length) = true
  at_ : ∀ (i : Nat) id b, ids[i]? = some id → L[i]? = some b → S.blk id = some (b.ren (sig ids))
/-! ### names that are dropped -/
def AV.kills (l : List Nat) (x : AV) : AV := l.foldl (fun x id => x.kill id) x
def Blk.kills (l : List Nat) (b : Blk) : Blk := l.foldl (fun b id => b.kill id) b
section
variable {P : Program} {n : Nat} {o : Oper} {S : AS} {d : Nat}
end
end Go.Proofs.YtmfbamiciieooaaGreatDoor
/- Functions that turn own rows and hand back several things, own rows among them: contracts. Generic over the program. (Written by gen_fnz2.py.) -/
namespace Go.Proofs.YtmfbamiciieooaaGreatDoor
set_option maxRecDepth 100000
set_option maxHeartbeats 16000000
open Go Go.RowKit
set_option linter.unusedSimpArgs false
set_option linter.unusedVariables false
/-! ### what a function hands back -/
inductive ResA (P : Program) (S : AS) : ResultVar → AV → Prop
  | v {r : ResultVar} {x : PV} (h : ResV P S r x) : ResA P S r (.p x)
  | tmp {t : Nat} {x : AV} (h : S.tmp t = x) : ResA P S (.tmp t) x
  | ag {a t id off m : Nat} {b : Blk} {cs : List Cl} [ht : TyA P t true m] (h : S.tmp a = .ptr id off) (hb : S.blk id = some b) (hc : cls ((b.xs.drop off).take m) = some cs) (hl : cs.length = m) : ResA P S (.cell a t) (.ag cs)
inductive ResAs (P : Program) (S : AS) : List ResultVar → List AV → Prop
  | nil : ResAs P S [] []
  | cons {r : ResultVar} {x : AV} {rs : List ResultVar} {xs : List AV} (h : ResA P S r x) (t : ResAs P S rs xs) : ResAs P S (r :: rs) (x :: xs)
section
variable {P : Program} {n : Nat} {o : Oper} {S : AS} {d : Nat}
end
end Go.Proofs.YtmfbamiciieooaaGreatDoor
/- Functions with one deferred call; the deferred function, that may recover. Generic over the program. -/
namespace Go.Proofs.YtmfbamiciieooaaGreatDoor
set_option maxRecDepth 100000
set_option maxHeartbeats 16000000
open Go Go.RowKit
section
variable {P : Program} {M : Nat → Nat → Prop} {n : Nat} {h : Home} {w : World} {S : AS} {ρ : Nat → Value} {a : Act}
theorem x9.defer (hb : x9 h w) (D : List Deferred) : x9 { h with d := D } w := ⟨hb.os, hb.tape, hb.output, hb.size, hb.block⟩
theorem x9.undefer {D : List Deferred} (hb : x9 { h with d := D } w) : x9 h w := ⟨hb.os, hb.tape, hb.output, hb.size, hb.block⟩
theorem Sat.frame {B : List Blk} (hs : Sat M 0 h (Proofs.YtmfbamiciieooaaGreatDoor.asB B) ρ wY w) {T : List (Nat × AV)} (hn : a.tmps.size = n) (h1000 : n ≤ 1000) (ht : ∀ i x, look T i = some x → yV (Mut M (Proofs.YtmfbamiciieooaaGreatDoor.asB B) ρ) ρ w x (a.tmps.getD i undef)) : Sat M n { h with d := a.defers } { t := T, s := numB 1000 B } ρ a w := by
  refine ⟨hs.below.defer _, hs.out, hs.tab, hn, rfl, fun i => ?_, hs.blks, hs.mine, hs.fix, fun k hk => h.lo k (by omega), hs.dist⟩
  show yV _ _ _ ((look T i).getD .any) _
  cases e : look T i with
  | none => exact .any _
  | some x => exact ht i x e
theorem Sat.unframe {B : List Blk} {D : List Deferred} (hs : Sat M n { h with d := D } S ρ a w) (hd : h.d = []) (hb : HasB S B) : Sat M 0 h (Proofs.YtmfbamiciieooaaGreatDoor.asB B) ρ wY w ∧ ∀ k c, Mut M (Proofs.YtmfbamiciieooaaGreatDoor.asB B) ρ k c → Mut M S ρ k c := by
  have hm : ∀ k c, Mut M (Proofs.YtmfbamiciieooaaGreatDoor.asB B) ρ k c → Mut M S ρ k c := by
    rintro k c (hk | ⟨id, b, hb1, hk⟩)
    · exact .inl hk
    · obtain ⟨i, rfl, h1⟩ := yF hb1
      exact .inr ⟨_, b, hb i b h1, hk⟩
  refine ⟨⟨hs.below.undefer, hs.out, hs.tab, rfl, hd.symm, fun i => .any _, fun id b hb1 => ?_, fun id b k hb1 hk => ?_, hs.fix, fun k hk => by omega, fun i j bi bj k hi hj h1 h2 => ?_⟩, hm⟩
  · obtain ⟨i, rfl, h1⟩ := yF hb1
    exact (hs.blks _ b (hb i b h1)).mono hm
  · obtain ⟨i, rfl, h1⟩ := yF hb1
    exact hs.mine _ b k (hb i b h1) hk
  · obtain ⟨i', rfl, h3⟩ := yF hi
    obtain ⟨j', rfl, h4⟩ := yF hj
    exact hs.dist _ _ bi bj k (hb i' bi h3) (hb j' bj h4) h1 h2
theorem gives_res {fn : Func} {x : AV} {B : List Blk} {D : List Deferred} (hs' : Sat M n { h with d := D } S ρ a w) (hd : h.d = []) (hg : GivesA P fn S x) (hB : HasB S B) :
    ∃ v, (results fn a.tmps).run P w = .ok v w ∧ ∃ ρ', Sat M 0 h (asB B) ρ' wY w ∧ EvOK (Mut M (asB B) ρ') ρ' w (.ret x) (.returned v) := by
  obtain ⟨h1, h2⟩ := hs'.unframe hd hB
  cases hg with
  | none hr => exact ⟨_, results_none hr _ _ _, ρ, h1, _, rfl, .any _⟩
  | one hr ht =>
    subst ht
    exact ⟨_, results_tmp hr _ _ _, ρ, h1, _, rfl, (hs'.tmps _).mono fun k c _ hk => h2 k c hk⟩
  | p hr hx =>
    obtain ⟨v, g1, g2⟩ := res_oneM hs' hx
    have g3 := xW (P := P) (w := w) fn a.tmps (rs := [_]) (vs := [v]) hr (by simp only [List.mapM_cons, List.mapM_nil, Sem.run_bind, Sem.run_pure, g1, Result.andThen_ok])
    exact ⟨v, g3, ρ, h1, _, rfl, .p (g2.mono fun k c _ hk => h2 k c hk)⟩
  | tup hr hl hx =>
    obtain ⟨us, g1, g2, g4, g3⟩ := res_allM hs' hx
    have g5 := xW (P := P) (w := w) fn a.tmps hr g1
    rw [dif_neg (by simp only [List.size_toArray]; omega)] at g5
    refine ⟨_, g5, ρ, h1, _, rfl, .tup _ us (by simpa using g2) fun i c v hc hv => ?_⟩
    rw [List.getElem?_map, Option.map_eq_some_iff] at hc
    obtain ⟨y, hy, rfl⟩ := hc
    exact .p ((g3 i y v hy hv).mono fun k c _ hk => h2 k c hk)
end
/-- what is pending at a deferred call: nothing, or a panic -/
def Pending (M : Nat → Nat → Prop) (w : World) : Option PV → FrameMode → Prop
  | none, u => u = .returning
  | some x, u => ∃ v, u = .panicking [{ v := v, recovered := false }] ∧ Rep M w x v
/-- Function f, called deferred, of its callers' variables B: behind it nothing is pending. -/
def FnD (P : Program) (f : FuncId) (B : List Blk) (px : Option PV) (B' : List Blk) : Prop :=
  ∀ (M : Nat → Nat → Prop) (h : Home) (ρ : Nat → Value) (vs : List Value) (u : FrameMode), Handed h B ρ → Sat M 0 h (asB B) ρ wY h.w → vs.length = B.length →
    (∀ (i : Nat) v, vs[i]? = some v → yV (Mut M (asB B) ρ) ρ h.w (.ptr (1000 + i) 0) v) → Pending (Mut M (asB B) ρ) h.w px u →
    CallsD P f vs.toArray u h.w fun e u' w' => settle u' = .returning ∧ (∃ v, e = .returned v) ∧ ∃ ρ', Sat M 0 h (asB B') ρ' wY w'
section
variable {P : Program} {n : Nat}
theorem wpS_recover {id : Nat} {o0 : Oper} {l : List Oper} {ts : Array TypeId} {Q : Exit → Act → List Frame → World → Prop} {a : Act} {cs cs' : List Frame} {w : World} {v : Value} (ho : o0.op = .call { callee := .builtin .recover, args := #[], argTypes := ts }) (hg : o0.guard = none)
    (hrec : recoverD cs = some (v, cs') ∨ (recoverD cs = none ∧ v = .nilIface ∧ cs' = cs)) (h : wpList P (o0 :: l).toArray (fun e a' w' => Q e a' cs' w') l (a.put o0.dst v) w) : (Code.region id (o0 :: l).toArray false).wpS P Q a cs w := by
  intro b k hb hro
  have hr : (execOp a.eval o0).run P w = .ok .recover w := by unfold execOp; rw [ho]; rfl
  have hw : Region.wanted o0 (yielded (o0 :: l).toArray a.tmps) = true := by simp [Region.wanted, hg]
  have h0 : (o0 :: l).toArray[0]? = some o0 := rfl
  have e : List.range (o0 :: l).toArray.size = 0 :: List.range' 1 l.length := by
    rw [List.size_toArray, List.length_cons, List.range_eq_range', List.range'_succ]
  have h1 : step P (lone (b.at a (.code (.region id (o0 :: l).toArray false) :: k)) cs w) = .next (lone (b.at a (.inRegion (o0 :: l).toArray (0 :: List.range' 1 l.length) :: k)) cs w) := by rw [← e]; exact step_region
  have h2 : step P (lone (b.at a (.inRegion (o0 :: l).toArray (0 :: List.range' 1 l.length) :: k)) cs w) = .next (lone (b.at (a.put o0.dst v) (.inRegion (o0 :: l).toArray (List.range' 1 l.length) :: k)) cs' w) := by
    have hs := stepG_op (P := P) (b := b) (k := k) (cs := cs) (w := w) (rest := List.range' 1 l.length) h0 hw
    have hfin : ∀ v, (b.at a (.inRegion (o0 :: l).toArray (0 :: List.range' 1 l.length) :: k)).finish v = b.at (a.put o0.dst v) (.inRegion (o0 :: l).toArray (List.range' 1 l.length) :: k) := by
      intro v; rw [Frame.finish_at, h0]; rfl
    have hk : (b.at a (.inRegion (o0 :: l).toArray (0 :: List.range' 1 l.length) :: k)).kind = .deferred := hb
    have htr := tryRecover_deferred hk cs
    refine step_lone_go ?_
    rw [hs, ← hfin]
    simp only [Frame.at] at htr ⊢
    rcases hrec with hrec | ⟨hrec, rfl, rfl⟩
    · simp [stepG.apply, hr, htr, hrec]
    · simp [stepG.apply, hr, htr, hrec]
  have h3 : wpOps P (o0 :: l).toArray (fun e a' w' => Q e a' cs' w') (List.range' 1 l.length) (a.put o0.dst v) w := by
    rw [wpOps_eq_wpList l 1 (fun j => by simp [Nat.add_comm 1 j])]
    exact h
  obtain ⟨ex, a', w', hq, harr⟩ := wp_ops _ _ _ h3 b k cs'
  exact ⟨ex, a', cs', w', hq, .of_steps (.head h1 (.one h2)) harr⟩
def ptrsA (m : Nat) : List AV := (List.range m).map fun i => .ptr (1000 + i) 0
def pendV : Option PV → PV
  | none => .val .nilIface
  | some x => x
def EndR (B' : List Blk) (e : Exit) (S : AS) : Prop := (e = .ret ∨ e = .normal) ∧ HasB S B'
theorem fn_ofDef {f : FuncId} {fn : Func} {id d0 : Nat} {o0 : Oper} {l : List Oper} {rest : Code} {ts : Array TypeId} {B B' : List Blk} {px : Option PV} (hf : P.funcs[f]? = some fn) (hb : fn.body = some (.seq (.region id (o0 :: l).toArray false) rest)) (hn : fn.ntmps = n) (hle : B.length ≤ n) (h1000 : n ≤ 1000)
    (ho : o0.op = .call { callee := .builtin .recover, args := #[], argTypes := ts }) (hg : o0.guard = none) (hd : o0.dst = some d0) (hdn : d0 < n) (hr : fn.results = #[])
    (h : zY P n (o0 :: l).toArray l { t := (d0, .p (pendV px)) :: zipA 0 (ptrsA B.length), s := numB 1000 B } (zF (fun S => zZ P n rest S (EndR B')) (EndR B'))) : FnD P f B px B' := by
  intro M hh ρ vs u hand hs0 hvl hvs hpend
  refine callsD_of_wpS hf hb fun c₀ cs hu => ?_
  have hm : ({ c₀ with mode := u } : Frame) = c₀ := by subst hu; rfl
  obtain ⟨v, u', hrec, hset, hv⟩ : ∃ v u', ((recoverD (c₀ :: cs) = some (v, { c₀ with mode := u' } :: cs)) ∨ (recoverD (c₀ :: cs) = none ∧ v = .nilIface ∧ { c₀ with mode := u' } :: cs = c₀ :: cs)) ∧ settle u' = .returning ∧ Rep (Mut M (asB B) ρ) hh.w (pendV px) v := by
    cases px with
    | none =>
      obtain rfl : u = .returning := hpend
      exact ⟨.nilIface, .returning, .inr ⟨by simp [recoverD, hu], rfl, by rw [hm]⟩, rfl, .val _⟩
    | some x =>
      obtain ⟨v, rfl, hv⟩ := hpend
      exact ⟨v, .panicking [{ v := v, recovered := true }], .inl (by simp [recoverD, hu]), by simp [settle], hv⟩
  have hsat : Sat M n hh { t := zipA 0 (ptrsA B.length), s := numB 1000 B } ρ { tmps := vs.toArray ++ Array.replicate (fn.ntmps - vs.toArray.size) undef, defers := [] } hh.w := by
    refine ⟨hs0.below, hs0.out, hs0.tab, by simp; omega, hs0.defers, fun i => ?_, hs0.blks, hs0.mine, hs0.fix, fun k hk => hh.lo k (by omega), hs0.dist⟩
    show yV _ _ _ ((look (zipA 0 (ptrsA B.length)) i).getD .any) _
    rw [look_zipA]
    simp only [Nat.zero_le, if_true, Nat.sub_zero]
    cases hx : (ptrsA B.length)[i]? with
    | none => exact .any _
    | some x =>
      have hi : i < vs.length := by
        have := (List.getElem?_eq_some_iff.1 hx).1
        simp [ptrsA] at this
        omega
      have e : ({ tmps := vs.toArray ++ Array.replicate (fn.ntmps - vs.toArray.size) undef, defers := [] } : Act).tmps.getD i undef = vs[i] := by
        simp [Array.getD_eq_getD_getElem?, Array.getElem?_append, hi]
      rw [e]
      have hx2 : x = .ptr (1000 + i) 0 := by
        unfold ptrsA at hx
        rw [List.getElem?_map, List.getElem?_range (by omega)] at hx
        exact (Option.some.inj hx).symm
      subst hx2
      exact hvs i vs[i] (List.getElem?_eq_getElem hi)
  have hsat2 := hsat.put hdn (.p hv)
  have fin : ∀ e S1 ρ1 a1 w1, EndR B' (bare e) S1 → Sat M n hh S1 ρ1 a1 w1 → bodyPostS P fn c₀ cs (fun e u' w' => settle u' = .returning ∧ (∃ v, e = .returned v) ∧ ∃ ρ', Sat M 0 hh (asB B') ρ' wY w') e a1 ({ c₀ with mode := u' } :: cs) w1 := by
    rintro e S1 ρ1 a1 w1 ⟨he, hB⟩ hs1
    have main : a1.defers = [] ∧ ∃ u'', ({ c₀ with mode := u' } :: cs : List Frame) = { c₀ with mode := u'' } :: cs ∧ ∃ v, (results fn a1.tmps).run P w1 = .ok v w1 ∧ (settle u'' = .returning ∧ (∃ v', Ending.returned v = .returned v') ∧ ∃ ρ', Sat M 0 hh (asB B') ρ' wY w1) :=
      ⟨hs1.defers.trans hs0.defers.symm, u', rfl, _, results_none hr _ _ _, hset, ⟨_, rfl⟩, ρ1, (hs1.asB hs0.defers.symm hB).1⟩
    cases e with
    | ret => exact main
    | normal => exact main
    | exit id => rcases he with h | h <;> cases h
    | goto l => rcases he with h | h <;> cases h
    | panic c => rcases he with h | h <;> cases h
    | outgrown => rcases he with h | h <;> cases h
  refine wpS_seq (wpS_recover ho hg hrec ?_)
  rw [hd]
  refine h M hh ρ _ hh.w _ hsat2 fun e S1 ρ1 a1 w1 hk hs1 _ => ?_
  cases e with
  | normal => exact wpS_of_wp (hk M hh ρ1 a1 w1 _ hs1 fun e S2 ρ2 a2 w2 hk2 hs2 _ => fin e S2 ρ2 a2 w2 hk2 hs2)
  | ret => exact fin .ret S1 ρ1 a1 w1 hk hs1
  | exit id => exact fin (.exit id) S1 ρ1 a1 w1 hk hs1
  | goto l => exact fin (.goto l) S1 ρ1 a1 w1 hk hs1
  | panic c => exact fin (.panic c) S1 ρ1 a1 w1 hk hs1
  | outgrown => exact fin .outgrown S1 ρ1 a1 w1 hk hs1
end
end Go.Proofs.YtmfbamiciieooaaGreatDoor
/- Functions with one deferred call. Generic over the program. -/
namespace Go.Proofs.YtmfbamiciieooaaGreatDoor
set_option maxRecDepth 100000
set_option maxHeartbeats 16000000
open Go Go.RowKit
/-- how the body ends that has deferred function fd over its variables dj -/
def EndD (P : Program) (fn : Func) (fd : FuncId) (dj : List Nat) (x : AV) (B' : List Blk) (e : Exit) (S : AS) : Prop :=
  ∃ (px : Option PV) (Bd Bd' : List Blk), FnD P fd Bd px Bd' ∧ ((px = none ∧ (e = .ret ∨ e = .normal)) ∨ (∃ y, px = some y ∧ e = .panic [] ∧ S.x = .p y)) ∧ Hands S dj Bd ∧ Bd'.length = Bd.length ∧ Bd'.all (Blk.okE Bd.length) = true ∧
    GivesA P fn (S.after dj Bd') x ∧ HasB (S.after dj Bd') B'
theorem look_mem2 {α : Type} : ∀ {l : List (Nat × α)} {i : Nat} {x : α}, look l i = some x → (i, x) ∈ l
  | [], _, _, h => by simp [look] at h
  | (k, y) :: r, i, x, h => by
    unfold look at h
    split at h
    · rename_i hk
      obtain rfl := Option.some.inj h
      subst hk
      simp
    · exact List.mem_cons_of_mem _ (look_mem2 h)
section
variable {P : Program} {n : Nat}
def PendA (M : Nat → Nat → Prop) (w : World) : Option PV → FrameMode → List Value → Prop
  | none, u, pv => u = .returning ∧ pv = []
  | some x, u, pv => ∃ v, pv = [v] ∧ u = .panicking [{ v := v, recovered := false }] ∧ Rep M w x v
/-- the deferred call, out of the frame -/
theorem def_call {fd : FuncId} {dj : List Nat} {px : Option PV} {Bd Bd' : List Blk} {M : Nat → Nat → Prop} {w0 : Home} {S : AS} {ρ : Nat → Value} {a : Act} {w : World} {cvs pv : List Value} {u : FrameMode} (hfd : FnD P fd Bd px Bd') (hh : Hands S dj Bd) (hl : Bd'.length = Bd.length) (hok : Bd'.all (Blk.okE Bd.length) = true)
    (hs : Sat M n w0 S ρ a w) (hcv : cvs.length = dj.length) (hcw : ∀ (i : Nat) k v, dj[i]? = some k → cvs[i]? = some v → ∃ g, zU (ρ k) = some g ∧ v = .pointer (some ⟨g, 0, none⟩)) (hp : PendA (Mut M S ρ) w px u pv) :
    CallsD P fd cvs.toArray u w fun e u' w' => settle u' = .returning ∧ (∃ v, e = .returned v) ∧ Sat M n w0 (S.after dj Bd') ρ a w' := by
  have hdl : dj.length = Bd.length := hh.len
  have hptr : (ptrsA Bd.length).length = Bd.length := by simp [ptrsA]
  have hat : ∀ i, i < Bd.length → (ptrsA Bd.length)[i]? = some (.ptr (1000 + i) 0) := fun i hi => by
    unfold ptrsA
    rw [List.getElem?_map, List.getElem?_range hi]
    rfl
  have c := call_effC (C := fun R0 => CallsD P fd cvs.toArray u w fun e u' w' => settle u' = .returning ∧ (∃ v, e = .returned v) ∧ R0 e w') (fun R1 R2 h12 hc => hc.mono fun e u' w' ⟨q1, q2, q3⟩ => ⟨q1, q2, h12 e w' q3⟩)
    (xs := ptrsA Bd.length ++ px.toList.map AV.p) (ids := dj) (B := Bd) (B' := Bd') (ev := .ret .any) hh hl hok (by
      rw [List.all_append, Bool.and_eq_true]
      refine ⟨List.all_eq_true.2 fun y hy => ?_, List.all_eq_true.2 fun y hy => ?_⟩
      · obtain ⟨i, hi, rfl⟩ := List.mem_map.1 hy
        have := List.mem_range.1 hi
        simp [AV.okE, this]
      · obtain ⟨z, _, rfl⟩ := List.mem_map.1 hy
        rfl) hs (vs := cvs ++ pv) (fun i y v h1 h2 => ?_) (fun M' h' ρ' hw _ hand hsat hreps _ => ?_)
  · exact c.mono fun e u' w' ⟨q1, q2, q3, _⟩ => ⟨q1, q2, q3⟩
  · by_cases hi : i < Bd.length
    · rw [List.getElem?_append_left (by omega)] at h1 h2
      rw [hat i hi] at h1
      obtain rfl := Option.some.inj h1
      have hk : dj[i]? = some (dj[i]'(by omega)) := List.getElem?_eq_getElem _
      obtain ⟨g, hg1, rfl⟩ := hcw i _ v hk h2
      show yV _ ρ w (.ptr (sig dj (1000 + i)) 0) _
      rw [sig_at hk]
      exact .ptr _ 0 g hg1
    · rw [List.getElem?_append_right (by omega), hptr] at h1
      rw [List.getElem?_append_right (by omega), hcv, hdl] at h2
      cases px with
      | none => simp at h1
      | some x =>
        obtain ⟨v', rfl, _, hr⟩ := hp
        obtain ⟨j, hj⟩ : ∃ j, i - Bd.length = j := ⟨_, rfl⟩
        rw [hj] at h1 h2
        cases j with
        | zero =>
          simp at h1 h2
          subst h1
          subst h2
          exact .p hr
        | succ j => simp at h1
  · subst hw
    have hpend : Pending (Mut M' (asB Bd) ρ') h'.w px u := by
      cases px with
      | none => exact hp.1
      | some x =>
        obtain ⟨v', rfl, hu, _⟩ := hp
        refine ⟨v', hu, ?_⟩
        have h3 := hreps Bd.length (.p x) v' (by rw [List.getElem?_append_right (by omega), hptr]; simp) (by rw [List.getElem?_append_right (by omega), hcv, hdl]; simp)
        cases h3 with
        | p h4 => exact h4
    refine (hfd M' h' ρ' cvs u hand hsat (by omega) (fun i v hv => hreps i _ v ?_ ?_) hpend).mono fun e u' w' ⟨q1, ⟨v, q2⟩, ρ2, q3⟩ => ⟨q1, ⟨v, q2⟩, ρ2, q3, v, q2, .any _⟩
    · have hi := (List.getElem?_eq_some_iff.1 hv).1
      rw [List.getElem?_append_left (by omega)]
      exact hat i (by omega)
    · rw [List.getElem?_append_left (List.getElem?_eq_some_iff.1 hv).1]
      exact hv
/-- What is behind the body, once the deferred call has been made. -/
theorem leave_one {fn : Func} {fd : FuncId} {dj : List Nat} {x : AV} {B' : List Blk} {M : Nat → Nat → Prop} {h : Home} {D : List Deferred} {S : AS} {ρ : Nat → Value} {a : Act} {w : World} {e : Exit} {cvs : List Value} {R : Ending → World → Prop} [hcf : HasFn P fd]
    (hs : Sat M n { h with d := D } S ρ a w) (hd : h.d = []) (hD : D = [{ target := .fn (.func fd) cvs.toArray, args := #[] }]) (he : EndD P fn fd dj x B' (bare e) S) (hex : ExOK M S ρ w e) (hcv : cvs.length = dj.length)
    (hcw : ∀ (i : Nat) k v, dj[i]? = some k → cvs[i]? = some v → ∃ g, zU (ρ k) = some g ∧ v = .pointer (some ⟨g, 0, none⟩))
    (hR : ∀ e w', (∃ ρ', Sat M 0 h (asB B') ρ' wY w' ∧ EvOK (Mut M (asB B') ρ') ρ' w' (.ret x) e) → R e w') : bodyPostD P fn R e a w := by
  obtain ⟨px, Bd, Bd', hfd, hpx, hh, hl, hok, hg, hB⟩ := he
  have hinv : (invoke (.fn (.func fd) cvs.toArray) #[]).run P w = .ok (.enter fd cvs.toArray) w := by simp [invoke, hcf.h]
  have hdf : a.defers = [{ target := .fn (.func fd) cvs.toArray, args := #[] }] := hs.defers.trans hD
  have fin : ∀ (u : FrameMode) (pv : List Value), u ≠ .run → PendA (Mut M S ρ) w px u pv → Leaves P fn a.tmps R a.defers u w := by
    intro u pv hu hp
    rw [hdf]
    refine leaves_cons hu hinv ((def_call hfd hh hl hok hs hcv hcw hp).mono fun e u' w' ⟨q1, ⟨v, q2⟩, q3⟩ => ?_)
    subst q2
    show Leaves P fn a.tmps R [] (settle u') w'
    rw [q1]
    obtain ⟨v', r1, r2⟩ := gives_res q3 hd hg hB
    exact ⟨v', r1, hR _ _ r2⟩
  rcases hpx with ⟨rfl, he⟩ | ⟨y, rfl, he, hy⟩
  · cases e with
    | ret => exact fin .returning [] (by simp) ⟨rfl, rfl⟩
    | normal => exact fin .returning [] (by simp) ⟨rfl, rfl⟩
    | exit id => rcases he with h | h <;> cases h
    | goto l => rcases he with h | h <;> cases h
    | panic c => rcases he with h | h <;> cases h
    | outgrown => rcases he with h | h <;> cases h
  · cases e with
    | panic c =>
      obtain ⟨v, rfl, hv⟩ := hex
      rw [hy] at hv
      cases hv with
      | p hv => exact fin (.panicking [{ v := v, recovered := false }]) [v] (by simp) ⟨v, rfl, rfl, hv⟩
    | ret => cases he
    | normal => cases he
    | exit id => cases he
    | goto l => cases he
    | outgrown => cases he
theorem fn_ofD {f : FuncId} {fn : Func} {c0 rest : Code} {id d fd : Nat} {o1 o2 : Oper} {caps : Array Operand} {ts : Array TypeId} {args : List AV} {B B' Bi Bi' : List Blk} {x : AV} {S1 : AS} {dids dj ids : List Nat} {T : List (Nat × AV)} [hcf : HasFn P fd]
    (hf : P.funcs[f]? = some fn) (hb : fn.body = some (.seq c0 (.seq (.region id [o1, o2].toArray false) rest))) (hn : fn.ntmps = n) (hle : args.length ≤ n) (h1000 : n ≤ 1000)
    (h0 : zZ P n c0 { t := zipA 0 args, s := numB 1000 B } (fun e S => e = .normal ∧ S = S1))
    (hg1 : o1.guard = none) (hd1 : o1.dst = some d) (hdn : d < n) (ho1 : o1.op = .makeFunc (.func fd) #[] caps) (hc : readIds (caps.toList.map S1.get) = some dids)
    (hg2 : o2.guard = none) (hd2 : o2.dst = none) (ho2 : o2.op = .defer { callee := .value (.tmp d), args := #[], argTypes := ts })
    (hdj : dids = dj.map (sig ids)) (hdr : dj.all (fun k => decide (1000 ≤ k ∧ k < 1000 + Bi.length)) = true)
    (hh : Hands S1 ids Bi) (hBi' : Bi'.length = Bi.length) (hok' : Bi'.all (Blk.okE Bi.length) = true)
    (hT : T.all (fun p => p.2.okE Bi.length) = true) (hT1 : ∀ p ∈ T, S1.tmp p.1 = p.2.ren (sig ids) ∧ d ≠ p.1)
    (h2 : zZ P n rest { t := T, s := numB 1000 Bi } (EndD P fn fd dj x Bi')) (hx : x.okE Bi.length = true) (hxr : x.ren (sig ids) = x) (hB' : HasB (S1.after ids Bi') B') : FnE P f args B (.ret x) B' := by
  intro M hh0 ρ vs hand hs0 hvl hvs
  refine calls_of_wp_defers hf hb ?_
  have hsat : Sat M n hh0 { t := zipA 0 args, s := numB 1000 B } ρ { tmps := vs.toArray ++ Array.replicate (fn.ntmps - vs.toArray.size) undef, defers := [] } hh0.w := by
    refine ⟨hs0.below, hs0.out, hs0.tab, by simp; omega, hs0.defers, fun i => ?_, hs0.blks, hs0.mine, hs0.fix, fun k hk => hh0.lo k (by omega), hs0.dist⟩
    show yV _ _ _ ((look (zipA 0 args) i).getD .any) _
    rw [look_zipA]
    simp only [Nat.zero_le, if_true, Nat.sub_zero]
    cases hx : args[i]? with
    | none => exact .any _
    | some x =>
      have hi : i < vs.length := by rw [hvl]; exact (List.getElem?_eq_some_iff.1 hx).1
      have e : ({ tmps := vs.toArray ++ Array.replicate (fn.ntmps - vs.toArray.size) undef, defers := [] } : Act).tmps.getD i undef = vs[i] := by
        simp [Array.getD_eq_getD_getElem?, Array.getElem?_append, hi]
      rw [e]
      exact hvs i x vs[i] hx (List.getElem?_eq_getElem hi)
  refine wp_seq (h0 M hh0 ρ _ hh0.w _ hsat ?_)
  rintro e S' ρ1 a1 w1 ⟨he, rfl⟩ hs1 _
  cases e with
  | ret => cases he
  | exit id => cases he
  | goto l => cases he
  | panic c => cases he
  | outgrown => cases he
  | normal =>
  refine wp_seq (wp_region_lit ?_)
  unfold wpList
  rw [if_pos (by simp [Region.wanted, hg1])]
  refine .inl ((w_mkFunc ho1 hc hd1 hdn).step M hh0 ρ1 a1 w1 _ _ hs1 fun ρ2 a2 w2 hs2 => ?_)
  rw [hd1] at hs2
  have hs2 : Sat M n hh0 (S'.put d (.clo fd dids)) ρ2 a2 w2 := hs2
  have hv := hs2.tmps d
  rw [AS.tmp_put, if_pos rfl] at hv
  obtain ⟨cvs, hva, hcl, hcw⟩ : ∃ cvs : List Value, a2.tmps.getD d undef = .func (.func fd) #[] cvs.toArray ∧ cvs.length = dids.length ∧ ∀ (i : Nat) k v, dids[i]? = some k → cvs[i]? = some v → ∃ g, zU (ρ2 k) = some g ∧ v = .pointer (some ⟨g, 0, none⟩) := by
    generalize a2.tmps.getD d undef = u at hv
    cases hv with
    | clo _ _ vs hl h => exact ⟨vs, rfl, hl, h⟩
  unfold wpList
  rw [if_pos (by simp [Region.wanted, hg2])]
  refine .inl ?_
  have hrun : (execOp a2.eval o2).run P w2 = .ok (.defer { target := .fn (.func fd) cvs.toArray, args := #[] }) w2 := by
    unfold execOp
    rw [ho2]
    have hev : a2.eval (.tmp d) = .func (.func fd) #[] cvs.toArray := hva
    simp [resolve, Deferred.ofValue, hev]
  unfold Oper.wp
  rw [hrun, Oper.upon_defer, hd2]
  show rest.wp P _ { a2 with defers := { target := .fn (.func fd) cvs.toArray, args := #[] } :: a2.defers } w2
  rw [hs2.defers.trans hs0.defers.symm]
  -- the rest, in its own frame
  have key := call_effC (C := fun R => ∀ R' : Ending → World → Prop, (∀ e w', R e w' → R' e w') → rest.wp P (bodyPostD P fn R') { a2 with defers := [{ target := .fn (.func fd) cvs.toArray, args := #[] }] } w2) (fun R1 R2 h12 hc R' h' => hc R' fun e w' q => h' e w' (h12 e w' q))
    (xs := T.map Prod.snd) (ids := ids) (B := Bi) (B' := Bi') (ev := .ret x) (S := S'.put d (.clo fd dids)) ⟨hh.len, hh.nodup, hh.ok, hh.at_⟩ hBi' hok' (by rw [List.all_map]; exact hT) hs2 (vs := T.map fun p => a2.tmps.getD p.1 undef) (fun i y v h1 h3 => ?_) (fun M' h' ρ' hw hd' hand' hsat' hreps hfix R' hR' => ?_)
  · refine key _ fun e w' ⟨q1, q2⟩ => ?_
    obtain ⟨r1, r2⟩ := q1.asB hs0.defers.symm hB'
    obtain ⟨v, rfl, r3⟩ := q2 hx
    rw [hxr] at r3
    exact ⟨ρ2, r1, v, rfl, r3.mono fun k c _ hk => r2 k c hk⟩
  · rw [List.getElem?_map, Option.map_eq_some_iff] at h1 h3
    obtain ⟨p, hp, rfl⟩ := h1
    obtain ⟨p', hp', rfl⟩ := h3
    rw [hp] at hp'
    obtain rfl := Option.some.inj hp'
    obtain ⟨q1, q2⟩ := hT1 p (List.mem_of_getElem? hp)
    rw [← q1]
    have := hs2.tmps p.1
    rw [AS.tmp_put, if_neg q2] at this
    exact this
  · have hfr : Sat M' n { h' with d := [{ target := .fn (.func fd) cvs.toArray, args := #[] }] } { t := T, s := numB 1000 Bi } ρ' { a2 with defers := [{ target := .fn (.func fd) cvs.toArray, args := #[] }] } w2 := by
      refine Sat.frame (a := { a2 with defers := [{ target := .fn (.func fd) cvs.toArray, args := #[] }] }) hsat' hs2.size h1000 fun i y hy => ?_
      obtain ⟨j, hj⟩ := List.getElem?_of_mem (look_mem2 hy)
      exact hreps j y _ (by rw [List.getElem?_map, hj]; rfl) (by rw [List.getElem?_map, hj]; rfl)
    refine h2 M' _ ρ' _ w2 _ hfr fun e S2 ρ3 a4 w4 hend hs4 hx4 => ?_
    refine leave_one hs4 hd' rfl hend hx4 (by rw [hcl, hdj, List.length_map]) (fun i k v hk hv => ?_) hR'
    have hkr := List.all_eq_true.1 hdr k (List.mem_of_getElem? hk)
    simp only [decide_eq_true_eq] at hkr
    obtain ⟨g, g1, g2⟩ := hcw i (sig ids k) v (by rw [hdj, List.getElem?_map, hk]; rfl) hv
    refine ⟨g, ?_, g2⟩
    have e1 : ρ3 k = ρ' k := by
      have := hand'.r (k - 1000) (by omega)
      rw [show 1000 + (k - 1000) = k by omega] at this
      exact hs4.fix k _ this
    rw [e1, hfix k hkr.1 hkr.2]
    exact g1
end
end Go.Proofs.YtmfbamiciieooaaGreatDoor
/- What recovers what a program over a log panics with: contracts. -/
namespace Go.Proofs.YtmfbamiciieooaaGreatDoor
set_option maxRecDepth 100000
set_option maxHeartbeats 16000000
open Go Go.RowKit
set_option linter.unusedSimpArgs false
attribute [local irreducible] zY zZ Step zX Sub zD zG Fn
section
variable {P : Program} {n : Nat} {o : Oper} {S : AS} {d : Nat} {x : Operand}
theorem w_assertY {s t : Nat} {y : PV} {pl : List (Nat × Nat)} [hb : BuildA P t pl] (ho : o.op = .typeAssert x s t true) (hx : S.get x = .p (.ifc t y)) (hd : o.dst = some d) (hn : d < n) : zX P n o S [] (.tup [.p y, .p (.val (.bool true))]) none :=
  zX.pure hd hn fun S2 hg _ M w0 ρ a w hs => by
    have h1 := yS hs ((hg x (by rw [ho]; simp [Op.operands])).trans hx)
    generalize hv : a.eval x = v at h1
    cases h1 with
    | ifc _ _ u h =>
      refine ⟨.tuple [u, .bool true].toArray, w, ?_, Below.refl _ _, .tup _ [u, .bool true] rfl fun i c v hc hv => ?_⟩
      · unfold execOp
        rw [ho]
        simp [Instr.typeAssert, run_underlying hb.st, hv]
      · match i with
        | 0 => cases hc; cases hv; exact .p h
        | 1 => cases hc; cases hv; exact .p (.val _)
        | i + 2 => simp at hc
theorem w_assertN {s t : Nat} {pl : List (Nat × Nat)} {z : Value} {cl : List Value} [hb : BuildA P t pl] [hz : ZeroA P t z] (ho : o.op = .typeAssert x s t true) (hx : S.get x = .p (.val .nilIface)) (hc0 : z = .agg cl.toArray) (h1 : cl.all (fun u => u.oneCell') = true) (hd : o.dst = some d) (hn : d < n) : zX P n o S [] (.tup [.p (.agg (cl.map PV.val)), .p (.val (.bool false))]) none :=
  zX.pure hd hn fun S2 hg _ M w0 ρ a w hs => by
    have h2 := yS hs ((hg x (by rw [ho]; simp [Op.operands])).trans hx)
    generalize hv : a.eval x = v at h2
    cases h2
    refine ⟨.tuple [z, .bool false].toArray, w, ?_, Below.refl _ _, .tup _ [z, .bool false] rfl fun i c v hc hv => ?_⟩
    · unfold execOp
      rw [ho]
      simp [Instr.typeAssert, run_underlying hb.st, hv, hz.h]
    · match i with
      | 0 =>
        cases hc; cases hv
        subst hc0
        refine .p (.agg _ cl (by simp) (fun i c v hc hv => ?_) fun u hu => List.all_eq_true.1 h1 u hu)
        rw [List.getElem?_map, hv] at hc
        cases hc
        exact .val _
      | 1 => cases hc; cases hv; exact .p (.val _)
      | i + 2 => simp at hc
end
def accB (kind cell a b : Int) (data : PV) : Blk := .box 50 [.p (.val (.int .i64 kind)), .p (.val (.int .i64 cell)), .p (.val (.int .u64 a)), .p (.val (.int .u64 b)), .p data, .p xZ]
def wD (e : Int) (is : Bool) (n w : Int) : Blk := .box 41 [.p (.val (.int .i64 e)), .p (.val (.bool is)), .p (.val (.int .i64 n)), .p (.val (.int .u64 w)), .p xZ]
theorem run1_none (e : Int) (is : Bool) (n w : Int) (b : Bool) : FnD Tryz.prog 46 [accB 0 0 0 0 xZ, wD e is n w, isB b] none [accB 0 0 0 0 xZ, wD e is n w, isB b] := by
  refine fn_ofDef Tryz.func46 rfl Tryz.ntmps46 (Nat.le_of_ble_eq_true rfl) (by decide) rfl rfl rfl (by decide) rfl ?_
  repeat' (first | (refine zY.is ?_; first | refine zY.nil ?_ | refine zY.v rfl rfl (by first | exact wE rfl rfl rfl (by decide) | exact a_extract rfl rfl rfl rfl (by decide) | exact a_moveT rfl rfl rfl (by decide) | exact w_assertN rfl rfl rfl rfl rfl (by decide)) ?_ | refine zY.m rfl rfl (w_alloc rfl (by decide) rfl (by decide)) ?_ | refine zY.w rfl (by exact yO rfl rfl rfl rfl rfl (by rfl) (by exact Nat.le_of_ble_eq_true rfl) rfl rfl) ?_) | (refine zZ.is ?_; first | refine zZ.seq ?_ | (refine zZ.iq 1 ?_; refine zZ.rqa _ K_a K_16 ?_; (refine zY.v rfl rfl (wT rfl rfl rfl (by decide)) ?_); refine zY.nil ?_) | refine zZ.yG rfl (by with_reducible rfl) ?_ | refine zZ.skip ?_))
  all_goals exact ⟨by first | exact .inl rfl | exact .inr rfl, wU (by repeat' first | exact trivial | rfl | constructor)⟩
theorem run1_need (kind cell a b : Int) (data : PV) (e : Int) (is : Bool) (n w : Int) (c : Bool) : FnD Tryz.prog 46 [accB 0 0 0 0 xZ, wD e is n w, isB c] (some (.ifc 115 (accV kind cell a b data))) [accB kind cell a b data, wD 0 false 0 0, isB false] := by
  refine fn_ofDef Tryz.func46 rfl Tryz.ntmps46 (Nat.le_of_ble_eq_true rfl) (by decide) rfl rfl rfl (by decide) rfl ?_
  repeat' (first | (refine zY.is ?_; first | refine zY.nil ?_ | refine zY.v rfl rfl (by first | exact wE rfl rfl rfl (by decide) | exact a_extract rfl rfl rfl rfl (by decide) | exact a_moveT rfl rfl rfl (by decide) | exact w_assertY rfl rfl rfl (by decide)) ?_ | refine zY.m rfl rfl (w_alloc rfl (by decide) rfl (by decide)) ?_ | refine zY.w rfl (by exact yO rfl rfl rfl rfl rfl (by rfl) (by exact Nat.le_of_ble_eq_true rfl) rfl rfl) ?_) | (refine zZ.is ?_; first | refine zZ.seq ?_ | (refine zZ.iq 1 ?_; refine zZ.rqa _ K_a K_16 ?_; (refine zY.v rfl rfl (wT rfl rfl rfl (by decide)) ?_); refine zY.nil ?_) | (refine zZ.isR (id := 2) ?_; refine zZ.qO [0, 1, 2, 3] [3, 1000, 1001, 1002] (by repeat' first | exact zH.nil | apply zH.ptr rfl) (by repeat' first | exact zN.nil | apply zN.boxP rfl rfl) ?_; (refine zY.v rfl rfl (w_fieldR rfl rfl rfl (by decide)) ?_); (refine zY.v rfl rfl (yR rfl rfl rfl (by rfl) (by rfl) rfl (by decide)) ?_); (refine zY.v rfl rfl (w_build rfl (by rfl) (by rfl) (by rfl) (by rfl) rfl (by decide)) ?_); (refine zY.w rfl (by exact yO rfl rfl rfl rfl rfl (by rfl) (by exact Nat.le_of_ble_eq_true rfl) rfl rfl) ?_); (refine zY.w rfl (by exact yO rfl rfl rfl rfl rfl (by rfl) (by exact Nat.le_of_ble_eq_true rfl) rfl rfl) ?_); (refine zY.w rfl (by exact yO rfl rfl rfl rfl rfl (by rfl) (by exact Nat.le_of_ble_eq_true rfl) rfl rfl) ?_); refine zY.nil ?_) | refine zZ.yN rfl (by with_reducible rfl) ?_))
  all_goals exact ⟨by first | exact .inl rfl | exact .inr rfl, wU (by repeat' first | exact trivial | rfl | constructor)⟩
end Go.Proofs.YtmfbamiciieooaaGreatDoor
/- Records are taken; operations that are entered and left: the program's, whatever makes its accesses: contracts. -/
namespace Go.Proofs.YtmfbamiciieooaaGreatDoor
set_option maxRecDepth 100000
set_option maxHeartbeats 16000000
open Go Go.RowKit
set_option linter.unusedSimpArgs false
set_option linter.unusedVariables false
attribute [local irreducible] zY zZ Step zX Sub zD zG Fn zF zR xA
def allocS (H : Hnd) (t me r : Int) (i : Nat) (s : H.σ) : AS :=
  { t := [(0, H.doA), (1, .p (.val (.int .i64 t))), (2, .p (.val (.int .i64 me))), (6, .p (.val (.int .i64 0))), (7, .p (.val (.int .i64 r))), (8, .p (.val (.int .i64 (i : Nat))))], s := [(1000, H.b0 s), (1001, H.b1 s), (1002, H.b2 s)] }
theorem alloc_h (H : Hnd) (s0 : H.σ) {t me : Int} (ht : Small t) (h0 : 0 ≤ t) (hm : Small me) : FnH H 50 [H.doA, .p (.val (.int .i64 t)), .p (.val (.int .i64 me))] [] (fun r => .p (.val (.int .i64 r))) (fun _ => []) Rf s0 (allocP t me) := by
  unfold Hnd.doA
  refine yH Tryz.func50 rfl Tryz.ntmps50 (Nat.le_of_ble_eq_true rfl) (by decide) (fine_alloc t me) fun hok hns => ?_
  repeat' (first | (refine zY.is ?_; first | refine zY.nil ?_ | (refine zY.at_ 7 rfl ?_; refine zY.rc (.v zB .e) ?_) | (refine zY.in_ [11] rfl ?_; refine zY.ofT rfl (zG.hd (i := []) (f := pop_h H _ ht) (r := fun x s e g hk => ?_) (p := fun q s e => ?_) (t := ?_)))) | (refine zZ.is ?_; first | refine zZ.seq ?_ | (refine zZ.isR (id := 0) ?_; refine zZ.rc [0, 1, 2] [1000, 1001, 1002] (r := (.v zB .e)) (h := ?_)) | (refine zZ.isR (id := 1) ?_; refine zZ.rc [0, 1, 2, 6] [1000, 1001, 1002] (r := (.v xJ (.v zV .e))) (h := ?_)) | (refine zZ.isR (id := 2) ?_; refine zZ.rc [0, 1, 2, 6, 7] [1000, 1001, 1002] (r := (.v zB .e)) (h := ?_)) | refine zZ.block ?_) | refine zF.n ?_ | refine zF.p ?_)
  all_goals (first | exact fun e => hns (by clear hns; simp only [allocP, run_bind, zC, zJ, Held.zW, Held.zA, Held.zK, cond_true, cond_false, *]) | exact .pan (q := q) rfl (by repeat' first | exact trivial | rfl | constructor) (by repeat' exact trivial) (by simp only [allocP, run_bind, zC, zJ, Held.zW, Held.zA, Held.zK, cond_true, cond_false, *]) | skip)
  have ho0 : (allocL t me (3 - 0) x).run H.st s = (allocP t me).run H.st s0 := ((run_bind H.st (allocL t me 3) (popP t) s0).trans (by rw [e]; rfl)).symm
  refine zZ.loop (fun q : Nat × Int × H.σ => allocS H t me q.2.1 q.1 q.2.2) (fun q => q.1 ≤ 3 ∧ Rf q.2.1 ∧ H.ok q.2.2 ∧ (allocL t me (3 - q.1) q.2.1).run H.st q.2.2 = (allocP t me).run H.st s0) (fun q => 3 - q.1) (0, x, s) ?h0 ⟨Nat.zero_le _, g, hk, ho0⟩ ?rd
  case h0 =>
    exact z8 K_17 K_0
  case rd =>
    clear ho0 hk g e
    rintro ⟨i, r, s1⟩ ⟨hi, hr, hok1, ho⟩
    dsimp only at hi hr hok1 ho ⊢
    unfold allocS Hnd.doA
    by_cases hlt : i < 3
    case neg =>
      have f1 : decide ((i : Int) < 3) = false := decide_eq_false (by omega)
      rw [show 3 - i = 0 by omega, allocL] at ho
      repeat' (first | (refine zY.nil ?_) | (refine zZ.is ?_; first | refine zZ.seq ?_ | (refine zZ.isR (id := 3) ?_; refine zZ.rc [0, 1, 2, 6, 7, 8, 17] [1000, 1001, 1002] (r := (.v zV (.v xI (.v zV (.gT (.gT (.v wW .e))))))) (h := ?_)) | (refine zZ.isR (id := 8) ?_; refine zZ.rc [6, 7] [1000, 1001, 1002] (r := (.v zV (.v zB .e))) (h := ?_)) | refine zZ.yG rfl bA ?_ | refine zZ.exit ?_ | refine zZ.ret ?_) | refine zF.n ?_ | refine zR.eY ?_ | refine zF.e ?_)
      all_goals exact .ret (x := r) (s' := s1) (.inl rfl) (.one rfl rfl) (by repeat' first | exact trivial | rfl | constructor) ho.symm
    case pos =>
      have f1 : decide ((i : Int) < 3) = true := decide_eq_true (by omega)
      have f2 : IntKind.i64.wrap ((i : Nat) + 1) = ((i + 1 : Nat) : Int) := by rw [wrap_i64 _ (by omega)]; omega
      rw [show 3 - i = (3 - (i + 1)) + 1 by omega, allocL] at ho
      cases hz : decide (r = 0)
      case false =>
        rw [hz, cond_false] at ho
        repeat' (first | (refine zY.nil ?_) | (refine zZ.is ?_; first | refine zZ.seq ?_ | (refine zZ.isR (id := 3) ?_; refine zZ.rc [0, 1, 2, 6, 7, 8, 17] [1000, 1001, 1002] (r := (.v zV (.v xI (.v zV (.gY zV (.gY v41_0 (.v xR .e))))))) (h := ?_)) | (refine zZ.isR (id := 8) ?_; refine zZ.rc [6, 7] [1000, 1001, 1002] (r := (.v zV (.v zB .e))) (h := ?_)) | refine zZ.yG rfl bA ?_ | refine zZ.exit ?_ | refine zZ.ret ?_) | refine zF.n ?_ | refine zR.eY ?_ | refine zF.e ?_)
        all_goals exact .ret (x := r) (s' := s1) (.inl rfl) (.one rfl rfl) (by repeat' first | exact trivial | rfl | constructor) ho.symm
      case true =>
        rw [hz, cond_true] at ho
        repeat' (first | (refine zY.is ?_; first | refine zY.nil ?_ | (refine zY.at_ 7 rfl ?_; refine zY.rc (.v zB .e) ?_) | (refine zY.in_ [28] rfl ?_; refine zY.ofT rfl (zG.hd (i := []) (f := pop_h H _ ht) (r := fun x s e g hk => ?_) (p := fun q s e => ?_) (t := ?_))) | (refine zY.in_ [22] rfl ?_; refine zY.ofT rfl (zG.hd (i := []) (f := pin_h H _ hm) (r := fun x s e g hk => ?_) (p := fun q s e => ?_) (t := ?_))) | (refine zY.in_ [25] rfl ?_; refine zY.ofT rfl (zG.hd (i := []) (f := advance_h H _ ht h0) (r := fun x s e g hk => ?_) (p := fun q s e => ?_) (t := ?_)))) | (refine zZ.is ?_; first | refine zZ.seq ?_ | (refine zZ.isR (id := 3) ?_; refine zZ.rc [0, 1, 2, 6, 7, 8, 17] [1000, 1001, 1002] (r := (.v zV (.v xI (.v zV (.gY zV (.gY v41_0 (.v xR .e))))))) (h := ?_)) | (refine zZ.isR (id := 5) ?_; refine zZ.rc [0, 1, 2, 6, 7, 8, 17] [1000, 1001, 1002] (r := (.v xJ (.v zV .e))) (h := ?_)) | (refine zZ.isR (id := 6) ?_; refine zZ.rc [0, 1, 2, 6, 7, 8, 17] [1000, 1001, 1002] (r := (.v xJ (.v zV .e))) (h := ?_)) | (refine zZ.isR (id := 7) ?_; refine zZ.rc [0, 1, 2, 6, 7, 8, 17] [1000, 1001, 1002] (r := (.v xJ (.v zV .e))) (h := ?_)) | (refine zZ.isR (id := 4) ?_; refine zZ.rc [0, 1, 2, 6, 7, 8, 17] [1000, 1001, 1002] (r := (.v zV (.v wM (.v zB .e)))) (h := ?_)) | refine zZ.yN rfl bA ?_ | refine zZ.skip ?_ | refine zZ.block ?_) | refine zF.n ?_ | refine zF.p ?_ | refine zR.n ?_ | refine zR.p ?_)
        all_goals (first | exact fun e => hns (by rw [← ho]; clear ho; clear hns; simp only [run_bind, zC, zJ, Held.zW, Held.zA, Held.zK, cond_true, cond_false, *]) | exact .pan (q := q) rfl (by repeat' first | exact trivial | rfl | constructor) (by repeat' exact trivial) (by rw [← ho]; clear ho; simp only [run_bind, zC, zJ, Held.zW, Held.zA, Held.zK, cond_true, cond_false, *]) | skip)
        refine ⟨(i + 1, x, s), ?_, ⟨by show i + 1 ≤ 3; omega, by assumption, hk, Eq.trans ?_ ho⟩, by show 3 - (i + 1) < 3 - i; omega⟩
        · exact z8 K_17 K_0
        · clear ho hns
          simp only [run_bind, Held.zW, *]
/-! ### Vertices -/
def outBV (o : OutB) : AV := .tup ([outV o.e o.alt 0 0, .val (.bool o.ok)].map .p)
def workC (H : Hnd) (t me k : Int) : List Cl := [.c H.fn [1000, 1001], .p (.val (.int .i64 t)), .p (.val (.int .i64 me)), .p (.val (.int .u64 k))]
theorem told_h (H : Hnd) (s0 : H.σ) {t me k r b : Int} (is : Bool) (hR : Rc t r) (hb : b = 1 ∨ b = 2) : FnH H 49 [.ag (workC H t me k), .p (.val (.int .i64 r)), .p (.val (.int .i64 b)), .p (.val (.bool is))] [] outBV (fun _ => []) AltOK s0 (toldP t r b is) := by
  unfold workC
  refine yH Tryz.func49 rfl Tryz.ntmps49 (Nat.le_of_ble_eq_true rfl) (by decide) (fine_told t r is hb) fun hok hns => ?_
  repeat' (first | (refine zY.is ?_; first | refine zY.nil ?_ | (refine zY.at_ 10 rfl ?_; refine zY.rc (.v zB .e) ?_) | (refine zY.in_ [17] rfl ?_; refine zY.ofT rfl (zG.hd (i := []) (f := save_h H _ hR hb) (r := fun x s e g hk => ?_) (p := fun q s e => ?_) (t := ?_)))) | (refine zZ.is ?_; first | refine zZ.seq ?_ | (refine zZ.isR (id := 0) ?_; refine zZ.rc [0, 1, 2, 3] [4, 8, 1000, 1001, 1002] (r := (.m m18_6 (.m zT (.v zB .e)))) (h := ?_)) | (refine zZ.isR (id := 1) ?_; refine zZ.rc [1, 2, 3, 4, 8, 9] [4, 8, 1000, 1001, 1002] (r := (.v zM (.v wL (.v zM (.v zO (.v zV (.v zV .e))))))) (h := ?_)) | (refine zZ.isR (id := 2) ?_; refine zZ.rc [3, 8, 9, 10] [4, 8, 1000, 1001, 1002] (r := (.v zV (.v xV (.v zV (.w zS (.v zB .e)))))) (h := ?_)) | refine zZ.ret ?_) | refine zF.n ?_ | refine zF.p ?_)
  all_goals (first | exact fun e => hns (by clear hns; simp only [toldP, run_bind, zC, zJ, Held.zW, Held.zA, Held.zK, cond_true, cond_false, *]) | exact .pan (q := q) rfl (by repeat' first | exact trivial | rfl | constructor) (by repeat' exact trivial) (by simp only [toldP, run_bind, zC, zJ, Held.zW, Held.zA, Held.zK, cond_true, cond_false, *]) | exact .ret (x := ⟨0, is, x, is⟩) (by exact .inl rfl) (by exact .tup rfl (by decide) (.cons (.cellN rfl rfl (by rfl) (by rfl)) (.cons (.tmp rfl) .nil))) (by repeat' first | exact trivial | rfl | constructor) (by simp only [toldP, run_bind, zC, zJ, Held.zW, Held.zA, Held.zK, cond_true, cond_false, *] <;> rfl))
theorem told2_h (H : Hnd) (s0 : H.σ) {t me k r b : Int} (is : Bool) (hR : Rc t r) (hb : b = 1 ∨ b = 2) : FnH H 49 [.ag (workC H t me k), .p (.val (.int .i64 r)), .p (.val (.int .i64 b)), .p (.val (.bool is))] [] (fun ok => .tup ([outV 0 is 0 0, .val (.bool ok)].map .p)) (fun _ => []) yes s0 (saveP t r b) := by
  unfold workC
  refine yH Tryz.func49 rfl Tryz.ntmps49 (Nat.le_of_ble_eq_true rfl) (by decide) (fine_save t r b hb) fun hok hns => ?_
  repeat' (first | (refine zY.is ?_; first | refine zY.nil ?_ | (refine zY.at_ 10 rfl ?_; refine zY.rc (.v zB .e) ?_) | (refine zY.in_ [17] rfl ?_; refine zY.ofT rfl (zG.hd (i := []) (f := save_h H _ hR hb) (r := fun x s e g hk => ?_) (p := fun q s e => ?_) (t := ?_)))) | (refine zZ.is ?_; first | refine zZ.seq ?_ | (refine zZ.isR (id := 0) ?_; refine zZ.rc [0, 1, 2, 3] [4, 8, 1000, 1001, 1002] (r := (.m m18_6 (.m zT (.v zB .e)))) (h := ?_)) | (refine zZ.isR (id := 1) ?_; refine zZ.rc [1, 2, 3, 4, 8, 9] [4, 8, 1000, 1001, 1002] (r := (.v zM (.v wL (.v zM (.v zO (.v zV (.v zV .e))))))) (h := ?_)) | (refine zZ.isR (id := 2) ?_; refine zZ.rc [3, 8, 9, 10] [4, 8, 1000, 1001, 1002] (r := (.v zV (.v xV (.v zV (.w zS (.v zB .e)))))) (h := ?_)) | refine zZ.ret ?_) | refine zF.n ?_ | refine zF.p ?_)
  all_goals (first | exact fun e => hns (by clear hns; simp only [run_bind, zC, zJ, Held.zW, Held.zA, Held.zK, cond_true, cond_false, *]) | exact .pan (q := q) rfl (by repeat' first | exact trivial | rfl | constructor) (by repeat' exact trivial) (by simp only [run_bind, zC, zJ, Held.zW, Held.zA, Held.zK, cond_true, cond_false, *]) | exact .ret (x := x) (by exact .inl rfl) (by exact .tup rfl (by decide) (.cons (.cellN rfl rfl (by rfl) (by rfl)) (.cons (.tmp rfl) .nil))) (by repeat' first | exact trivial | rfl | constructor) (by simp only [run_bind, zC, zJ, Held.zW, Held.zA, Held.zK, cond_true, cond_false, *] <;> rfl))
theorem vhas_h (H : Hnd) (s0 : H.σ) {t me k : Int} (ht : Small t) : FnH H 29 [.ag (workC H t me k)] [] outBV (fun _ => []) AltOK s0 (vhasP t k) := by
  unfold workC
  refine yH Tryz.func29 rfl Tryz.ntmps29 (Nat.le_of_ble_eq_true rfl) (by decide) (fine_vhas t k) fun hok hns => ?_
  have cn : ∀ r : Int × Bool, SFound r → (!r.2) = false → Fn Tryz.prog 61 [.val (.int .i64 t), .val (.int .i64 r.1)] (.p (.val (.int .i64 (zQ t r.1 0)))) := fun r g h => by
    have h1 := g.n (by simpa using h)
    have := cnext_fn t r.1 ht g.x.le
    rwa [nextF_pos t (decide_eq_false (by omega))] at this
  have ct1 := fun s r is hR => told_h H s (t := t) (me := me) (k := k) (r := r) (b := 1) is hR (.inl rfl)
  have ct2 := fun s r is hR => told_h H s (t := t) (me := me) (k := k) (r := r) (b := 2) is hR (.inr rfl)
  repeat' (first | (refine zY.is ?_; first | refine zY.nil ?_ | (refine zY.at_ 30 rfl ?_; refine zY.rc (.v yJ (.v yJ (.w zS (.v zB .e)))) ?_) | (refine zY.at_ 35 rfl ?_; refine zY.rc (.v yJ (.v yJ (.w zS (.v zB .e)))) ?_) | (refine zY.at_ 6 rfl ?_; refine zY.rc (.v vZ (.v yJ (.v yJ (.v zB (.v zB .e))))) ?_) | (refine zY.in_ [13] rfl ?_; refine zY.ofT rfl (zG.hd (i := []) (f := seek_h H _ ht rf_0) (r := fun x s e g hk => ?_) (p := fun q s e => ?_) (t := ?_))) | (refine zY.in_ [29] rfl ?_; refine zY.ofT rfl (zG.hd (i := []) (f := ct2 _ _ _ (Rf.rc (SFound.x (by assumption)) ht)) (r := fun x s e g hk => ?_) (p := fun q s e => ?_) (t := ?_))) | (refine zY.in_ [34] rfl ?_; refine zY.ofT rfl (zG.hd (i := []) (f := ct1 _ _ _ (Rf.rc (SFound.x (by assumption)) ht)) (r := fun x s e g hk => ?_) (p := fun q s e => ?_) (t := ?_)))) | (refine zZ.is ?_; first | refine zZ.seq ?_ | (refine zZ.isR (id := 0) ?_; refine zZ.rc [0] [1, 2, 1000, 1001, 1002] (r := (.m m18_6 (.m zT (.v zB .e)))) (h := ?_)) | (refine zZ.isR (id := 1) ?_; refine zZ.rc [1, 2, 3] [1, 2, 1000, 1001, 1002] (r := (.v zM (.v wL (.v zM (.v zO (.v zM (.v zO .e))))))) (h := ?_)) | (refine zZ.isR (id := 2) ?_; refine zZ.rc [1, 2, 3, 4, 5] [1, 2, 1000, 1001, 1002] (r := (.v zV (.v v52_8 .e))) (h := ?_)) | (refine zZ.isR (id := 3) ?_; refine zZ.rc [1, 2, 3, 4] [1, 2, 1000, 1001, 1002] (r := (.v xV (.w zS (.v zB .e)))) (h := ?_)) | (refine zZ.isR (id := 4) ?_; refine zZ.rk [1, 2, 3, 4] [1, 2, 1000, 1001, 1002] ?_; refine zZ.draws ?_) | (refine zZ.isR (id := 5) ?_; refine zZ.rc [1, 2, 3, 4] [1, 2, 1000, 1001, 1002] (r := (.v v2_19 (.v zV .e))) (h := ?_)) | (refine zZ.isR (id := 6) ?_; refine zZ.rc [1, 2, 3, 4] [1, 2, 1000, 1001, 1002] (r := (.v v2_19 (.v zV .e))) (h := ?_)) | refine zZ.cond rfl (fun h => ?_) (fun h => ?_) | refine zZ.skip ?_ | refine zZ.ret ?_) | refine zF.n ?_ | refine zF.r ?_ | refine zF.p ?_ | (refine Draws.is ?_; first | refine Draws.rc (.v zM (.v wL (.v zM (.v zO (.v zV .e))))) ?_ | (refine Draws.in_ [24] rfl ?_; refine Draws.v rfl rfl (zP (cn _ (by assumption) (by assumption)) rfl rfl rfl (by decide)) ?_) | refine Draws.done (by kernel_rfl) (by kernel_rfl) (by kernel_rfl) ?_) | (refine zD.is ?_; first | refine zD.nil ?_ | (refine zD.in_ [26] rfl ?_; refine zD.v rfl rfl (zP (mark_fn _ (U.lo (by assumption)) (U.hi (by assumption))) rfl rfl rfl (by decide)) ?_) | (refine zD.in_ [25] rfl ?_; refine zD.ofT rfl (zG.hd (i := []) (f := qZ H _ _) (r := fun x s e g hk => ?_) (p := fun q s e => ?_) (t := ?_)))))
  all_goals try simp only [Bool.not_eq_true', Bool.not_eq_false'] at *
  all_goals first
    | exact .ret (x := ⟨0, false, true, false⟩) (by exact .inl rfl) (.tup rfl (by decide) (.cons (.cellN rfl rfl (by rfl) (by rfl)) (.cons (.tmp rfl) .nil))) (by repeat' first | exact trivial | rfl | constructor) (by simp only [vhasP, run_bind, zC, zJ, Held.zW, cond_true, cond_false, *])
    | skip
  all_goals (first | exact fun e => hns (by clear hns; simp only [vhasP, run_bind, zC, zJ, Held.zW, Held.zA, Held.zK, cond_true, cond_false, *]) | exact .pan (q := q) rfl (by repeat' first | exact trivial | rfl | constructor) (by repeat' exact trivial) (by simp only [vhasP, run_bind, zC, zJ, Held.zW, Held.zA, Held.zK, cond_true, cond_false, *]) | exact .ret (x := _) (by exact .inl rfl) (by exact .tup rfl (by decide) (.cons (.cellN rfl rfl (by rfl) (by rfl)) (.cons (.tmp rfl) .nil))) (by repeat' first | exact trivial | rfl | constructor) (by simp only [vhasP, run_bind, zC, zJ, Held.zW, Held.zA, Held.zK, cond_true, cond_false, *] <;> rfl))
def kY (H : Hnd) (t me k : Int) : Blk := .box 91 [H.doA, .p (.val (.int .i64 t)), .p (.val (.int .i64 me)), .p (.val (.int .u64 k))]
def vaddS (H : Hnd) (t me k r : Int) (s : H.σ) : AS :=
  { t := [(1, .ptr 1 0), (2, .ptr 2 0), (3, .p (.val (.bool false))), (8, .p (.val (.int .i64 r)))], s := [(1, kY H t me k), (2, wD 0 false 0 0), (1000, H.b0 s), (1001, H.b1 s), (1002, H.b2 s)] }
theorem vadd_h (H : Hnd) (s0 : H.σ) {t me k : Int} (ht : Small t) (h0 : 0 ≤ t) (hm : Small me) (hk0 : U k) : FnH H 27 [.ag (workC H t me k)] [] outBV (fun _ => []) AltOK s0 (vaddP t me k) := by
  unfold workC
  refine yH Tryz.func27 rfl Tryz.ntmps27 (Nat.le_of_ble_eq_true rfl) (by decide) (fine_vadd t me hk0) fun hok hns => ?_
  have ct1 := fun s r is hR => told_h H s (t := t) (me := me) (k := k) (r := r) (b := 1) is hR (.inl rfl)
  repeat' (first | (refine zY.nil ?_) | (refine zZ.is ?_; first | refine zZ.seq ?_ | (refine zZ.isR (id := 0) ?_; refine zZ.rc [0] [1, 2, 1000, 1001, 1002] (r := (.m m18_6 (.m zT (.v zB .e)))) (h := ?_))) | refine zF.n ?_)
  apply zZ.scopeG 0 (fun q : Nat × Int × H.σ => vaddS H t me k q.2.1 q.2.2) (fun q => Rf q.2.1 ∧ H.ok q.2.2 ∧ (Pr.loop (qX t k q.2.1) q.1 ()).run H.st q.2.2 = (vaddP t me k).run H.st s0) (fun q => q.1)
  case hf => exact rfl
  case first =>
    intro hL
    repeat' (first | (refine zY.is ?_; first | refine zY.nil ?_ | (refine zY.at_ 10 rfl ?_; refine zY.rc (.v vZ (.v yJ (.v yJ (.v yJ (.v yJ (.v zB (.v zB (.v zB (.v zB .e))))))))) ?_) | (refine zY.at_ 29 rfl ?_; refine zY.rc (.v yJ (.v yJ (.w zS (.v zB .e)))) ?_) | (refine zY.at_ 8 rfl ?_; refine zY.rc (.v zB .e) ?_) | (refine zY.in_ [17] rfl ?_; refine zY.ofT rfl (zG.hd (i := []) (f := search_h H _ ht) (r := fun x s e g hk => ?_) (p := fun q s e => ?_) (t := ?_))) | (refine zY.in_ [28] rfl ?_; refine zY.ofT rfl (zG.hd (i := []) (f := ct1 _ _ _ (Rf.rc (FOK.x (by assumption)) ht)) (r := fun x s e g hk => ?_) (p := fun q s e => ?_) (t := ?_))) | (refine zY.in_ [37] rfl ?_; refine zY.ofT rfl (zG.hd (i := []) (f := alloc_h H _ ht h0 hm) (r := fun x s e g hk => ?_) (p := fun q s e => ?_) (t := ?_))) | (refine zY.in_ [49] rfl ?_; refine zY.ofT rfl (zG.hd (i := []) (f := make_h H _ 0 0 (Rf.rc (by assumption) ht) hk0 U.zero U.zero U.zero U.zero) (r := fun x s e g hk => ?_) (p := fun q s e => ?_) (t := ?_)))) | (refine zZ.is ?_; first | refine zZ.seq ?_ | (refine zZ.isR (id := 1) ?_; refine zZ.rc [1, 2, 3, 5, 6, 7, 8, 9, 23, 25, 39, 66, 73, 77, 84] [1, 2, 1000, 1001, 1002] (r := (.v zM (.v wL (.v zM (.v zO (.v zM (.v zO .e))))))) (h := ?_)) | (refine zZ.isR (id := 2) ?_; refine zZ.rc [1, 2, 3, 5, 6, 7, 8, 9, 23, 25, 39, 66, 73, 77, 84] [1, 2, 1000, 1001, 1002] (r := (.v zV (.v v52_8 .e))) (h := ?_)) | (refine zZ.isR (id := 3) ?_; refine zZ.rc [1, 2, 3, 5, 6, 7, 8, 9, 23, 25, 39, 66, 73, 77, 84] [1, 2, 1000, 1001, 1002] (r := (.v xV (.w zS (.v zB .e)))) (h := ?_)) | (refine zZ.isR (id := 4) ?_; refine zZ.rc [1, 2, 3, 5, 6, 7, 8, 9, 23, 25, 39, 66, 73, 77, 84] [1, 2, 1000, 1001, 1002] (r := (.v zV .e)) (h := ?_)) | (refine zZ.isR (id := 5) ?_; refine zZ.rc [1, 2, 3, 5, 6, 7, 8, 9, 23, 25, 39, 66, 73, 77, 84] [1, 2, 1000, 1001, 1002] (r := (.v v2_19 (.v zV .e))) (h := ?_)) | (refine zZ.isR (id := 6) ?_; refine zZ.rc [1, 2, 3, 5, 6, 7, 8, 9, 23, 25, 39, 66, 73, 77, 84] [1, 2, 1000, 1001, 1002] (r := (.v zM (.v wL (.v zM (.v zO (.v zM (.v zO .e))))))) (h := ?_)) | (refine zZ.isR (id := 7) ?_; refine zZ.rc [1, 2, 3, 5, 6, 7, 8, 9, 23, 25, 39, 66, 73, 77, 84] [1, 2, 1000, 1001, 1002] (r := (.v zV (.v v41_8 .e))) (h := ?_)) | (refine zZ.isR (id := 8) ?_; refine zZ.rc [1, 2, 3, 5, 6, 7, 8, 9, 23, 25, 39, 66, 73, 77, 84] [1, 2, 1000, 1001, 1002] (r := (.v xV (.w zS (.v zB .e)))) (h := ?_)) | (refine zZ.isR (id := 9) ?_; refine zZ.rc [1, 2, 3, 5, 6, 7, 8, 9, 23, 25, 39, 66, 73, 77, 84] [1, 2, 1000, 1001, 1002] (r := (.v zM (.v wL (.v zM (.v zO (.v zV (.v zM (.v zO (.v xV .e))))))))) (h := ?_)) | refine zZ.cond rfl (fun h => ?_) (fun h => ?_) | refine zZ.skip ?_ | refine zZ.ret ?_) | refine zF.n ?_ | refine zF.r ?_ | refine zF.p ?_ | refine xA.r ?_ | refine xA.p ?_)
    all_goals try simp only [Bool.not_eq_true', Bool.not_eq_false'] at *
    all_goals first
      | exact .ret (x := ⟨0, false, false, false⟩) (.inl rfl) (.tup rfl (by decide) (.cons (.cellN rfl rfl (by rfl) (by rfl)) (.cons (.tmp rfl) .nil))) (by repeat' first | exact trivial | rfl | constructor) (by simp only [vaddP, run_bind, zC, zJ, Held.zW, cond_true, cond_false, *])
      | exact .ret (x := ⟨3, false, true, false⟩) (.inl rfl) (.tup rfl (by decide) (.cons (.cellN rfl rfl (by rfl) (by rfl)) (.cons (.tmp rfl) .nil))) (by repeat' first | exact trivial | rfl | constructor) (by simp only [vaddP, run_bind, zC, zJ, Held.zW, cond_true, cond_false, *])
      | skip
    all_goals (first | exact fun e => hns (by clear hns; simp only [vaddP, run_bind, zC, zJ, Held.zW, Held.zA, Held.zK, cond_true, cond_false, *]) | exact .pan (q := q) rfl (by repeat' first | exact trivial | rfl | constructor) (by repeat' exact trivial) (by simp only [vaddP, run_bind, zC, zJ, Held.zW, Held.zA, Held.zK, cond_true, cond_false, *]) | exact .ret (x := _) (by exact .inl rfl) (by exact .tup rfl (by decide) (.cons (.cellN rfl rfl (by rfl) (by rfl)) (.cons (.tmp rfl) .nil))) (by repeat' first | exact trivial | rfl | constructor) (by simp only [vaddP, run_bind, zC, zJ, Held.zW, Held.zA, Held.zK, cond_true, cond_false, *] <;> rfl) | skip)
    rename_i f s1 e1 g1 hk1 h1 r s2 e2 g2 hk2 h2
    refine zZ.label ?_
    refine zF.n ?_
    refine zZ.sub ?_ (hL (many, r, s) ⟨g2, hk, ?_⟩)
    · unfold vaddS
      exact z8 K_18 K_h
    · symm
      simp only [vaddP, run_bind, zC, zJ, Held.zW, cond_true, cond_false, *]
  case round =>
    rintro ⟨n, r, s1⟩ ⟨hr, hok1, ho⟩
    dsimp only at hr hok1 ho ⊢
    unfold vaddS kY wD Hnd.doA
    have ct2 := fun s is => told_h H s (t := t) (me := me) (k := k) (r := r) (b := 1) is (hr.rc ht) (.inl rfl)
    cases n with
    | zero => exact absurd ho.symm hns
    | succ n =>
      rw [vY] at ho
      repeat' (first | (refine zY.is ?_; first | refine zY.nil ?_ | (refine zY.at_ 50 rfl ?_; refine zY.rc (.v vZ (.v yJ (.v yJ (.v yJ (.v yJ (.v zB (.v zB (.v zB (.v zB .e))))))))) ?_) | (refine zY.at_ 65 rfl ?_; refine zY.rc (.gY zV (.v wW .e)) ?_) | (refine zY.at_ 65 rfl ?_; refine zY.rc (.gF (.v xR .e)) ?_) | (refine zY.at_ 82 rfl ?_; refine zY.rc (.v yJ (.v yJ (.w zS (.v zB .e)))) ?_) | (refine zY.at_ 93 rfl ?_; refine zY.rc (.v v52_8 (.v zB .e)) ?_) | (refine zY.at_ 97 rfl ?_; refine zY.rc (.v yJ (.v yJ (.w zS (.v zB .e)))) ?_) | (refine zY.in_ [57] rfl ?_; refine zY.ofT rfl (zG.hd (i := []) (f := search_h H _ ht) (r := fun x s e g hk => ?_) (p := fun q s e => ?_) (t := ?_))) | (refine zY.in_ [81] rfl ?_; refine zY.ofT rfl (zG.hd (i := []) (f := ct1 _ _ _ (Rf.rc (FOK.x (by assumption)) ht)) (r := fun x s e g hk => ?_) (p := fun q s e => ?_) (t := ?_))) | (refine zY.in_ [96] rfl ?_; refine zY.ofT rfl (zG.hd (i := []) (f := ct2 _ _) (r := fun x s e g hk => ?_) (p := fun q s e => ?_) (t := ?_))) | (refine zY.in_ [72] rfl ?_; refine zY.ofT rfl (zG.hd (i := []) (f := push_h H _ ht hr) (r := fun x s e g hk => ?_) (p := fun q s e => ?_) (t := ?_))) | (refine zY.in_ [92] rfl ?_; refine zY.ofT rfl (zG.hd (i := []) (f := link_h H _ ht (FOK.p (by assumption)) (FOK.x (by assumption)) hr) (r := fun x s e g hk => ?_) (p := fun q s e => ?_) (t := ?_))) | (fail_if_success refine zY.known rfl rfl rfl (by fail) ?_); refine zY.split rfl rfl rfl (fun h => ?_) (fun h => ?_)) | (refine zZ.is ?_; first | refine zZ.seq ?_ | (refine zZ.isR (id := 10) ?_; refine zZ.rc [1, 2, 3, 5, 6, 7, 8, 9, 23, 25, 39, 66, 73, 77, 84] [1, 2, 1000, 1001, 1002] (r := (.v zM (.v wL (.v zM (.v zO (.v zM (.v zO .e))))))) (h := ?_)) | (refine zZ.isR (id := 11) ?_; refine zZ.rc [1, 2, 3, 5, 6, 7, 8, 9, 23, 25, 39, 66, 73, 77, 84] [1, 2, 1000, 1001, 1002] (r := (.v zV (.v v52_8 (.v zV .e)))) (h := ?_)) | (refine zZ.isR (id := 12) ?_; refine zZ.rc [1, 2, 3, 5, 6, 7, 8, 9, 23, 25, 39, 66, 73, 77, 84] [1, 2, 1000, 1001, 1002] (r := (.v zM (.v wL (.v zM (.v zO (.v zV .e)))))) (h := ?_)) | (refine zZ.isR (id := 13) ?_; refine zZ.rc [1, 2, 3, 5, 6, 7, 8, 9, 23, 25, 39, 66, 73, 77, 84] [1, 2, 1000, 1001, 1002] (r := (.v zV (.v v52_0 (.v zB .e)))) (h := ?_)) | (refine zZ.isR (id := 14) ?_; refine zZ.rc [1, 2, 3, 5, 6, 7, 8, 9, 23, 25, 39, 66, 73, 77, 84] [1, 2, 1000, 1001, 1002] (r := (.v xV (.w zS (.v zB .e)))) (h := ?_)) | (refine zZ.isR (id := 15) ?_; refine zZ.rc [1, 2, 3, 5, 6, 7, 8, 9, 23, 25, 39, 66, 73, 77, 84] [1, 2, 1000, 1001, 1002] (r := (.v zV (.v zB .e))) (h := ?_)) | (refine zZ.isR (id := 16) ?_; refine zZ.rc [1, 2, 3, 5, 6, 7, 8, 9, 23, 25, 39, 66, 73, 77, 84] [1, 2, 1000, 1001, 1002] (r := (.v v2_19 (.v zV .e))) (h := ?_)) | (refine zZ.isR (id := 17) ?_; refine zZ.rc [1, 2, 3, 5, 6, 7, 8, 9, 23, 25, 39, 66, 73, 77, 84] [1, 2, 1000, 1001, 1002] (r := (.v zM (.v wL (.v zM (.v zO (.v zV (.v zV (.v zV .e)))))))) (h := ?_)) | (refine zZ.isR (id := 18) ?_; refine zZ.rc [1, 2, 3, 5, 6, 7, 8, 9, 23, 25, 39, 66, 73, 77, 84] [1, 2, 1000, 1001, 1002] (r := (.v v2_19 (.v zV .e))) (h := ?_)) | refine zZ.yN rfl bA ?_ | refine zZ.yG rfl bA ?_ | refine zZ.cond rfl (fun h => ?_) (fun h => ?_) | refine zZ.skip ?_ | refine zZ.block ?_ | refine zZ.ret ?_ | refine zZ.goto ?_) | refine zF.n ?_ | refine zF.r ?_ | refine zF.p ?_ | refine zR.n ?_ | refine zR.r ?_ | refine zR.p ?_ | refine zF.g ?_ | refine xA.r ?_ | refine xA.g ?_ | refine zR.g ?_ | refine xA.p ?_)
      all_goals try simp only [Bool.not_eq_true', Bool.not_eq_false'] at *
      all_goals first
        | exact .ret (x := ⟨0, false, false, false⟩) (.inl rfl) (.tup rfl (by decide) (.cons (.cellN rfl rfl (by rfl) (by rfl)) (.cons (.tmp rfl) .nil))) (by repeat' first | exact trivial | rfl | constructor) (by rw [← ho]; clear ho; simp only [qX, Sum.elim, run_bind, zC, zJ, Held.zW, cond_true, cond_false, *])
        | skip
      all_goals (first | exact fun e => hns (by rw [← ho]; clear ho; clear hns; simp only [qX, Sum.elim, run_bind, zC, zJ, Held.zW, Held.zA, Held.zK, cond_true, cond_false, *]) | exact .pan (q := q) rfl (by repeat' first | exact trivial | rfl | constructor) (by repeat' exact trivial) (by rw [← ho]; clear ho; simp only [qX, Sum.elim, run_bind, zC, zJ, Held.zW, Held.zA, Held.zK, cond_true, cond_false, *]) | exact .ret (x := _) (by exact .inl rfl) (by exact .tup rfl (by decide) (.cons (.cellN rfl rfl (by rfl) (by rfl)) (.cons (.tmp rfl) .nil))) (by repeat' first | exact trivial | rfl | constructor) (by rw [← ho]; clear ho; simp only [qX, Sum.elim, run_bind, zC, zJ, Held.zW, Held.zA, Held.zK, cond_true, cond_false, *] <;> rfl) | skip)
      have e1 : (qX t k r ()).run H.st s1 = .done (.inl ()) s := by
        clear ho hns
        simp only [qX, run_bind, zC, zJ, Held.zW, cond_true, cond_false, *]
      refine ⟨(n, r, s), ?_, ⟨hr, hk, by rw [← ho, run_bind, e1, Held.zW]; rfl⟩, Nat.lt_succ_self n⟩
      exact z8 K_18 K_h
def vremS (H : Hnd) (t me k : Int) (s : H.σ) : AS :=
  { t := [(1, .ptr 1 0), (2, .ptr 2 0), (3, .p (.val (.bool false)))], s := [(1, kY H t me k), (2, wD 0 false 0 0), (1000, H.b0 s), (1001, H.b1 s), (1002, H.b2 s)] }
theorem vrem_h (H : Hnd) (s0 : H.σ) {t me k : Int} (ht : Small t) : FnH H 28 [.ag (workC H t me k)] [] outBV (fun _ => []) AltOK s0 (vremP t k) := by
  unfold workC
  refine yH Tryz.func28 rfl Tryz.ntmps28 (Nat.le_of_ble_eq_true rfl) (by decide) (fine_vrem t k) fun hok hns => ?_
  have ct2 := fun s r is hR => told2_h H s (t := t) (me := me) (k := k) (r := r) (b := 2) is hR (.inr rfl)
  repeat' (first | (refine zY.nil ?_) | (refine zZ.is ?_; first | refine zZ.seq ?_ | (refine zZ.isR (id := 0) ?_; refine zZ.rc [0] [1, 2, 9, 1000, 1001, 1002] (r := (.m m18_6 (.m zT (.v zB .e)))) (h := ?_)) | refine zZ.block ?_) | refine zF.n ?_)
  refine zZ.loop (fun q : Nat × H.σ => vremS H t me k q.2) (fun q => H.ok q.2 ∧ (Pr.loop (vE t k) q.1 ()).run H.st q.2 = (vremP t k).run H.st s0) (fun q => q.1) (many, s0) ?h0 ⟨hok, rfl⟩ ?rd
  case h0 =>
    unfold vremS
    exact z8 K_d K_h
  case rd =>
    rintro ⟨n, s1⟩ ⟨hok1, ho⟩
    dsimp only at hok1 ho ⊢
    unfold vremS kY wD Hnd.doA
    cases n with
    | zero => exact absurd ho.symm hns
    | succ n =>
      rw [vY] at ho
      repeat' (first | refine zZ.hold (id := 7) ?_ | (refine zY.is ?_; first | refine zY.nil ?_ | (refine zY.at_ 10 rfl ?_; refine zY.rc (.v vZ (.v yJ (.v yJ (.v yJ (.v yJ (.v zB (.v zB (.v zB (.v zB .e))))))))) ?_) | (refine zY.at_ 25 rfl ?_; refine zY.rc (.gY zV (.gY v52_8 (.v wW .e))) ?_) | (refine zY.at_ 25 rfl ?_; refine zY.rc (.gF (.gF (.v xR .e))) ?_) | (refine zY.at_ 36 rfl ?_; refine zY.rc (.v v52_8 .e) ?_) | (refine zY.at_ 45 rfl ?_; refine zY.rc (.v vZ (.v yJ (.v yJ (.m zT (.w zS (.v zB .e)))))) ?_) | (refine zY.in_ [17] rfl ?_; refine zY.ofT rfl (zG.hd (i := []) (f := search_h H _ ht) (r := fun x s e g hk => ?_) (p := fun q s e => ?_) (t := ?_))) | (refine zY.in_ [48] rfl ?_; refine zY.ofT rfl (zG.hd (i := []) (f := ct2 _ _ _ (Rf.rc (FOK.x (by assumption)) ht)) (r := fun x s e g hk => ?_) (p := fun q s e => ?_) (t := ?_))) | (refine zY.in_ [35] rfl ?_; refine zY.ofT rfl (zG.hd (i := []) (f := markOp_h H _ ht (FOK.x (by assumption))) (r := fun x s e g hk => ?_) (p := fun q s e => ?_) (t := ?_))) | (fail_if_success refine zY.known rfl rfl rfl (by fail) ?_); refine zY.split rfl rfl rfl (fun h => ?_) (fun h => ?_)) | (refine zZ.is ?_; first | refine zZ.seq ?_ | (refine zZ.isR (id := 1) ?_; refine zZ.rc [1, 2, 3, 5, 6, 7, 8, 9, 27, 36] [1, 2, 9, 1000, 1001, 1002] (r := (.v zM (.v wL (.v zM (.v zO (.v zM (.v zO .e))))))) (h := ?_)) | (refine zZ.isR (id := 2) ?_; refine zZ.rc [1, 2, 3, 5, 6, 7, 8, 9, 27, 36] [1, 2, 9, 1000, 1001, 1002] (r := (.v zV (.v v52_8 (.v zV .e)))) (h := ?_)) | (refine zZ.isR (id := 3) ?_; refine zZ.rc [1, 2, 3, 5, 6, 7, 8, 9, 27, 36] [1, 2, 9, 1000, 1001, 1002] (r := (.v xV (.v zV (.w zS (.v zB .e))))) (h := ?_)) | (refine zZ.isR (id := 4) ?_; refine zZ.rc [1, 2, 3, 5, 6, 7, 8, 9, 27, 36] [1, 2, 9, 1000, 1001, 1002] (r := (.v zM (.v wL (.v zM (.v zO (.v zV .e)))))) (h := ?_)) | (refine zZ.isR (id := 5) ?_; refine zZ.rk [1, 2, 3, 5, 6, 7, 8, 9, 27, 36] [1, 2, 9, 1000, 1001, 1002] ?_; refine zZ.draws ?_) | (refine zZ.isR (id := 6) ?_; refine zZ.rc [1, 2, 3, 5, 6, 7, 8, 9, 27, 36] [1, 2, 9, 1000, 1001, 1002] (r := (.v v2_19 (.v zV .e))) (h := ?_)) | refine zZ.yN rfl bA ?_ | refine zZ.cond rfl (fun h => ?_) (fun h => ?_) | refine zZ.skip ?_ | refine zZ.block ?_ | refine zZ.exit ?_ | refine zZ.ret ?_) | refine zF.n ?_ | refine zF.r ?_ | refine zF.p ?_ | refine zR.r ?_ | refine zR.eY ?_ | refine zF.e ?_ | refine zR.p ?_ | (refine Draws.is ?_; first | refine Draws.rc (.v zM (.v wL (.v zM (.v zO (.v zV .e))))) ?_ | (refine Draws.in_ [42] rfl ?_; refine Draws.v rfl rfl (zP (qG (Rf.rc (FOK.x (by assumption)) ht) 2 (by decide)) rfl rfl rfl (by decide)) ?_) | refine Draws.done (by kernel_rfl) (by kernel_rfl) (by kernel_rfl) ?_) | (refine zD.is ?_; first | refine zD.nil ?_ | (refine zD.at_ 8 rfl ?_; refine zD.rc (.v zB .e) ?_) | (refine zD.in_ [44] rfl ?_; refine zD.v rfl rfl (zP (wstamp_fn _) rfl rfl rfl (by decide)) ?_) | (refine zD.in_ [43] rfl ?_; refine zD.ofT rfl (zG.hd (i := []) (f := qZ H _ _) (r := fun x s e g hk => ?_) (p := fun q s e => ?_) (t := ?_)))))
      all_goals try simp only [Bool.not_eq_true', Bool.not_eq_false'] at *
      all_goals first
        | exact .ret (x := ⟨0, false, x.ok, false⟩) (.inl rfl) (.tup rfl (by decide) (.cons (.cellN rfl rfl (by rfl) (by rfl)) (.cons (.tmp rfl) .nil))) (by repeat' first | exact trivial | rfl | constructor) (by rw [← ho]; clear ho; simp only [vE, Sum.elim, run_bind, zC, zJ, Held.zW, cond_true, cond_false, *])
        | skip
      all_goals (first | exact fun e => hns (by rw [← ho]; clear ho; clear hns; simp only [vE, Sum.elim, run_bind, zC, zJ, Held.zW, Held.zA, Held.zK, cond_true, cond_false, *]) | exact .pan (q := q) rfl (by repeat' first | exact trivial | rfl | constructor) (by repeat' exact trivial) (by rw [← ho]; clear ho; simp only [vE, Sum.elim, run_bind, zC, zJ, Held.zW, Held.zA, Held.zK, cond_true, cond_false, *]) | skip)
      · have e1 : (vE t k ()).run H.st s1 = .done (.inl ()) s := by
          clear ho hns
          simp only [vE, run_bind, zC, zJ, Held.zW, cond_true, cond_false, *]
        refine ⟨(n, s), ?_, ⟨hk, by rw [← ho, run_bind, e1, Held.zW]; rfl⟩, Nat.lt_succ_self n⟩
        exact z8 K_d K_h
      · rename_i f sf ef gf hkf d sd ed gd hkd W sw ew gw hkw hfo hfi
        simp only [vE, run_bind, zJ, ef, ed, ew, e, Held.zW, hfo, hfi, h, cond_true] at ho
        refine Hold.go ?_
        refine zZ.seq ?_
        refine zZ.rk [1, 2, 3, 7, 8, 9] [1, 2, 9, 1000, 1001, 1002] ?_
        refine zZ.drawGo (by kernel_rfl) ?_
        refine DGo.fr 1 ?_ (h := f_mv (.inl rfl) rfl)
        refine DGo.fr 2 ?_ (h := f_mv (.inl rfl) rfl)
        cases x
        case false =>
          replace ho : Held.done ⟨0, false, false, true⟩ s = (vremP t k).run H.st s0 := ho
          refine DGo.frN 3 ?_
          refine DGo.frN 4 ?_
          refine DGo.frN 5 ?_
          refine DGo.frN 6 ?_
          refine DGo.frN 7 ?_
          refine DGo.frN 8 ?_
          refine DGo.share (fu' := 2) (D' := [9, 0, 8, 7, 6, 5, 4, 3, 2, 1]) (F' := { t := [(1, .ptr 1 0), (2, .ptr 2 0), (3, .p (.val (.bool false))), (51, .p (outV 0 true 0 0)), (60, .p (.val (.bool false)))], s := [(1, kY H t me k), (2, wD 0 false 0 0), (9, wD 0 true 0 0), (1000, H.b0 s), (1001, H.b1 s), (1002, H.b2 s)] }) ?B09 (fun B09 => ?_)
          case B09 =>
            refine DGo.all [10] (by kernel_rfl) ?_
            refine zI.cons ?_ (zI.nil)
            · refine zL.at_ 10 ?_
              refine zL.w rfl rfl (by exact yO rfl rfl rfl rfl rfl (by rfl) (by exact Nat.le_of_ble_eq_true rfl) rfl rfl) ?_
              refine DGo.fr 11 ?_
              refine DGo.fin (by kernel_rfl) (zF.n ?_)
              refine zZ.ret ?_
              repeat' (first | refine zF.r ?_ | refine zR.r ?_)
              exact .ret (x := ⟨0, false, false, true⟩) (s' := s) (.inl rfl) (.tup rfl (by decide) (.cons (.cellN rfl rfl (by rfl) (by rfl)) (.cons (.tmp rfl) .nil))) (by repeat' first | exact trivial | rfl | constructor) ho.symm
          refine DGo.share (fu' := 2) (D' := [10, 0, 8, 7, 6, 5, 4, 3, 2, 1]) (F' := { t := [(1, .ptr 1 0), (2, .ptr 2 0), (3, .p (.val (.bool false))), (53, .p (.val (.bool false))), (59, w9)], s := [(1, kY H t me k), (2, wD 0 true 0 0), (9, wD 0 true 0 0), (1000, H.b0 s), (1001, H.b1 s), (1002, H.b2 s)] }) ?B0a (fun B0a => ?_)
          case B0a =>
            refine DGo.all [9] (by kernel_rfl) ?_
            refine zI.cons ?_ (zI.nil)
            · refine zL.at_ 9 ?_
              refine zL.v rfl rfl rfl (by exact w_pickN rfl rfl bA rfl rfl (by decide)) ?_
              refine DGo.fr 11 ?_
              refine DGo.fin (by kernel_rfl) (zF.n ?_)
              refine zZ.ret ?_
              repeat' (first | refine zF.r ?_ | refine zR.r ?_)
              exact .ret (x := ⟨0, false, false, true⟩) (s' := s) (.inl rfl) (.tup rfl (by decide) (.cons (.cellN rfl rfl (by rfl) (by rfl)) (.cons (.tmp rfl) .nil))) (by repeat' first | exact trivial | rfl | constructor) ho.symm
          refine DGo.share (fu' := 3) (D' := [0, 8, 7, 6, 5, 4, 3, 2, 1]) (F' := { t := [(1, .ptr 1 0), (2, .ptr 2 0), (3, .p (.val (.bool false))), (53, .p (.val (.bool false))), (59, w9), (51, .p (outV 0 true 0 0))], s := [(1, kY H t me k), (2, wD 0 false 0 0), (9, wD 0 true 0 0), (1000, H.b0 s), (1001, H.b1 s), (1002, H.b2 s)] }) ?B0 (fun B0 => ?_)
          case B0 =>
            refine DGo.all [9, 10] (by kernel_rfl) ?_
            refine zI.cons ?_ (zI.cons ?_ (zI.nil))
            · refine zL.at_ 9 ?_
              refine zL.v rfl rfl rfl (by exact w_pickN rfl rfl bA rfl rfl (by decide)) ?_
              exact DGo.keep [1, 2, 3, 51, 60] [1, 2, 9, 1000, 1001, 1002] B09
            · refine zL.at_ 10 ?_
              refine zL.w rfl rfl (by exact yO rfl rfl rfl rfl rfl (by rfl) (by exact Nat.le_of_ble_eq_true rfl) rfl rfl) ?_
              exact DGo.keep [1, 2, 3, 53, 59] [1, 2, 9, 1000, 1001, 1002] B0a
          refine DGo.share (fu' := 3) (D' := [9, 8, 7, 6, 5, 4, 3, 2, 1]) (F' := { t := [(1, .ptr 1 0), (2, .ptr 2 0), (3, .p (.val (.bool false))), (9, .ptr 9 0), (60, .p (.val (.bool false)))], s := [(1, kY H t me k), (2, wD 0 false 0 0), (9, wD 0 true 0 0), (1000, H.b0 s), (1001, H.b1 s), (1002, H.b2 s)] }) ?B9 (fun B9 => ?_)
          case B9 =>
            refine DGo.all [0] (by kernel_rfl) ?_
            refine zI.cons ?_ (zI.nil)
            · refine zL.at_ 0 ?_
              refine zL.v rfl rfl rfl (yR rfl rfl rfl (by rfl) (by rfl) rfl (by decide)) ?_
              exact DGo.keep [1, 2, 3, 51, 60] [1, 2, 9, 1000, 1001, 1002] B09
          refine DGo.all [0, 9] (by kernel_rfl) ?_
          refine zI.cons ?_ (zI.cons ?_ (zI.nil))
          · refine zL.at_ 0 ?_
            refine zL.v rfl rfl rfl (yR rfl rfl rfl (by rfl) (by rfl) rfl (by decide)) ?_
            exact DGo.keep [1, 2, 3, 53, 59, 51] [1, 2, 9, 1000, 1001, 1002] B0
          · refine zL.at_ 9 ?_
            refine zL.v rfl rfl rfl (by exact w_pickN rfl rfl bA rfl rfl (by decide)) ?_
            exact DGo.keep [1, 2, 3, 9, 60] [1, 2, 9, 1000, 1001, 1002] B9
        case true =>
          replace ho : (((kJ t (W / 4)).bind fun s => Pr.ret (Sum.inr (⟨0, true, s, true⟩ : OutB))).bind (Sum.elim (Pr.loop (vE t k) n) .ret)).run H.st s = (vremP t k).run H.st s0 := by rw [← ho, run_bind, run_bind]; rfl
          refine DGo.frY 3 ?_ (f_fieldR rfl rfl)
          refine DGo.frY 5 ?_ (f_fieldR rfl rfl)
          refine DGo.frY 7 ?_ (f_mv (.inl rfl) rfl)
          refine DGo.shareA (α := Bool × H.σ) (c := fun y => (kJ t (W / 4)).run H.st s = .done y.1 y.2 ∧ yes y.1 ∧ H.ok y.2) (fu' := 2) (D' := [9, 8, 6, 4, 0, 7, 5, 3, 2, 1]) (F' := fun y => { t := [(1, .ptr 1 0), (2, .ptr 2 0), (3, .p (.val (.bool false))), (51, .p (outV 0 true 0 0)), (60, .p (.val (.bool y.1)))], s := [(1, kY H t me k), (2, wD 0 false 0 0), (9, wD 0 true 0 0), (1000, H.b0 y.2), (1001, H.b1 y.2), (1002, H.b2 y.2)] }) ?B04689 (fun B04689 => ?_)
          case B04689 =>
            rintro ⟨x2, s2⟩ ⟨e, g, hk⟩
            dsimp only at e g hk ⊢
            refine DGo.all [10] (by kernel_rfl) ?_
            refine zI.cons ?_ (zI.nil)
            · refine zL.at_ 10 ?_
              refine zL.w rfl rfl (by exact yO rfl rfl rfl rfl rfl (by rfl) (by exact Nat.le_of_ble_eq_true rfl) rfl rfl) ?_
              refine DGo.fr 11 ?_
              refine DGo.fin (by kernel_rfl) (zF.n ?_)
              refine zZ.ret ?_
              repeat' (first | refine zF.r ?_ | refine zR.r ?_)
              exact .ret (x := ⟨0, true, x2, true⟩) (s' := s2) (.inl rfl) (.tup rfl (by decide) (.cons (.cellN rfl rfl (by rfl) (by rfl)) (.cons (.tmp rfl) .nil))) (by repeat' first | exact trivial | rfl | constructor) (ho.symm.trans (by rw [run_bind, run_bind, e]; rfl))
          refine DGo.shareA (α := Bool × H.σ) (c := fun y => (kJ t (W / 4)).run H.st s = .done y.1 y.2 ∧ yes y.1 ∧ H.ok y.2) (fu' := 2) (D' := [10, 8, 6, 4, 0, 7, 5, 3, 2, 1]) (F' := fun y => { t := [(1, .ptr 1 0), (2, .ptr 2 0), (3, .p (.val (.bool false))), (53, .p (.val (.bool true))), (59, .p (.val (.bool y.1)))], s := [(1, kY H t me k), (2, wD 0 true 0 0), (9, wD 0 true 0 0), (1000, H.b0 y.2), (1001, H.b1 y.2), (1002, H.b2 y.2)] }) ?B0468a (fun B0468a => ?_)
          case B0468a =>
            rintro ⟨x2, s2⟩ ⟨e, g, hk⟩
            dsimp only at e g hk ⊢
            refine DGo.all [9] (by kernel_rfl) ?_
            refine zI.cons ?_ (zI.nil)
            · refine zL.at_ 9 ?_
              refine zL.v rfl rfl rfl (by exact w_pickY rfl rfl bA rfl rfl (by decide)) ?_
              refine DGo.fr 11 ?_
              refine DGo.fin (by kernel_rfl) (zF.n ?_)
              refine zZ.ret ?_
              repeat' (first | refine zF.r ?_ | refine zR.r ?_)
              exact .ret (x := ⟨0, true, x2, true⟩) (s' := s2) (.inl rfl) (.tup rfl (by decide) (.cons (.cellN rfl rfl (by rfl) (by rfl)) (.cons (.tmp rfl) .nil))) (by repeat' first | exact trivial | rfl | constructor) (ho.symm.trans (by rw [run_bind, run_bind, e]; rfl))
          refine DGo.shareA (α := Bool × H.σ) (c := fun y => (kJ t (W / 4)).run H.st s = .done y.1 y.2 ∧ yes y.1 ∧ H.ok y.2) (fu' := 3) (D' := [8, 6, 4, 0, 7, 5, 3, 2, 1]) (F' := fun y => { t := [(1, .ptr 1 0), (2, .ptr 2 0), (3, .p (.val (.bool false))), (53, .p (.val (.bool true))), (51, .p (outV 0 true 0 0)), (59, .p (.val (.bool y.1)))], s := [(1, kY H t me k), (2, wD 0 false 0 0), (9, wD 0 true 0 0), (1000, H.b0 y.2), (1001, H.b1 y.2), (1002, H.b2 y.2)] }) ?B0468 (fun B0468 => ?_)
          case B0468 =>
            rintro ⟨x2, s2⟩ ⟨e, g, hk⟩
            dsimp only at e g hk ⊢
            refine DGo.all [9, 10] (by kernel_rfl) ?_
            refine zI.cons ?_ (zI.cons ?_ (zI.nil))
            · refine zL.at_ 9 ?_
              refine zL.v rfl rfl rfl (by exact w_pickY rfl rfl bA rfl rfl (by decide)) ?_
              exact DGo.keep [1, 2, 3, 51, 60] [1, 2, 9, 1000, 1001, 1002] (B04689 ⟨x2, s2⟩ ⟨e, g, hk⟩)
            · refine zL.at_ 10 ?_
              refine zL.w rfl rfl (by exact yO rfl rfl rfl rfl rfl (by rfl) (by exact Nat.le_of_ble_eq_true rfl) rfl rfl) ?_
              exact DGo.keep [1, 2, 3, 53, 59] [1, 2, 9, 1000, 1001, 1002] (B0468a ⟨x2, s2⟩ ⟨e, g, hk⟩)
          refine DGo.shareA (α := Bool × H.σ) (c := fun y => (kJ t (W / 4)).run H.st s = .done y.1 y.2 ∧ yes y.1 ∧ H.ok y.2) (fu' := 3) (D' := [9, 8, 6, 4, 7, 5, 3, 2, 1]) (F' := fun y => { t := [(1, .ptr 1 0), (2, .ptr 2 0), (3, .p (.val (.bool false))), (9, .ptr 9 0), (60, .p (.val (.bool y.1)))], s := [(1, kY H t me k), (2, wD 0 false 0 0), (9, wD 0 true 0 0), (1000, H.b0 y.2), (1001, H.b1 y.2), (1002, H.b2 y.2)] }) ?B4689 (fun B4689 => ?_)
          case B4689 =>
            rintro ⟨x2, s2⟩ ⟨e, g, hk⟩
            dsimp only at e g hk ⊢
            refine DGo.all [0] (by kernel_rfl) ?_
            refine zI.cons ?_ (zI.nil)
            · refine zL.at_ 0 ?_
              refine zL.v rfl rfl rfl (yR rfl rfl rfl (by rfl) (by rfl) rfl (by decide)) ?_
              exact DGo.keep [1, 2, 3, 51, 60] [1, 2, 9, 1000, 1001, 1002] (B04689 ⟨x2, s2⟩ ⟨e, g, hk⟩)
          refine DGo.share (fu' := 4) (D' := [6, 4, 0, 7, 5, 3, 2, 1]) (F' := { t := [(1, .ptr 1 0), (2, .ptr 2 0), (3, .p (.val (.bool false))), (53, .p (.val (.bool true))), (54, .ptr 1 0), (56, .ptr 1 1), (58, .p (.val (.int .u64 (W / 4)))), (51, .p (outV 0 true 0 0)), (55, .clo H.fn [1000, 1001]), (57, .p (.val (.int .i64 t)))], s := [(1, kY H t me k), (2, wD 0 false 0 0), (9, wD 0 true 0 0), (1000, H.b0 s), (1001, H.b1 s), (1002, H.b2 s)] }) ?B046 (fun B046 => ?_)
          case B046 =>
            refine DGo.all [8] (by kernel_rfl) ?_
            refine zI.cons ?_ (zI.nil)
            · refine zL.at_ 8 ?_
              refine zL.ofTg rfl rfl rfl (by decide) rfl rfl (zG.hd (i := []) (f := sweep_h H _ ht) (r := fun x2 s2 e g hk => ?r8) (p := fun q s2 e => ?p8) (t := fun e => hns (ho.symm.trans (by rw [run_bind, run_bind, e]; rfl))))
              case p8 =>
                repeat' (first | refine zF.p ?_ | refine zR.p ?_)
                exact .pan (q := q) rfl (by repeat' first | exact trivial | rfl | constructor) (by repeat' exact trivial) (ho.symm.trans (by rw [run_bind, run_bind, e]; rfl))
              case r8 =>
                exact DGo.keep [1, 2, 3, 53, 51, 59] [1, 2, 9, 1000, 1001, 1002] (B0468 ⟨x2, s2⟩ ⟨e, g, hk⟩)
          refine DGo.shareA (α := Bool × H.σ) (c := fun y => (kJ t (W / 4)).run H.st s = .done y.1 y.2 ∧ yes y.1 ∧ H.ok y.2) (fu' := 4) (D' := [8, 6, 4, 7, 5, 3, 2, 1]) (F' := fun y => { t := [(1, .ptr 1 0), (2, .ptr 2 0), (3, .p (.val (.bool false))), (9, .ptr 9 0), (53, .p (.val (.bool true))), (59, .p (.val (.bool y.1)))], s := [(1, kY H t me k), (2, wD 0 false 0 0), (9, wD 0 true 0 0), (1000, H.b0 y.2), (1001, H.b1 y.2), (1002, H.b2 y.2)] }) ?B468 (fun B468 => ?_)
          case B468 =>
            rintro ⟨x2, s2⟩ ⟨e, g, hk⟩
            dsimp only at e g hk ⊢
            refine DGo.all [0, 9] (by kernel_rfl) ?_
            refine zI.cons ?_ (zI.cons ?_ (zI.nil))
            · refine zL.at_ 0 ?_
              refine zL.v rfl rfl rfl (yR rfl rfl rfl (by rfl) (by rfl) rfl (by decide)) ?_
              exact DGo.keep [1, 2, 3, 53, 51, 59] [1, 2, 9, 1000, 1001, 1002] (B0468 ⟨x2, s2⟩ ⟨e, g, hk⟩)
            · refine zL.at_ 9 ?_
              refine zL.v rfl rfl rfl (by exact w_pickY rfl rfl bA rfl rfl (by decide)) ?_
              exact DGo.keep [1, 2, 3, 9, 60] [1, 2, 9, 1000, 1001, 1002] (B4689 ⟨x2, s2⟩ ⟨e, g, hk⟩)
          refine DGo.share (fu' := 5) (D' := [4, 0, 7, 5, 3, 2, 1]) (F' := { t := [(1, .ptr 1 0), (2, .ptr 2 0), (3, .p (.val (.bool false))), (53, .p (.val (.bool true))), (54, .ptr 1 0), (56, .ptr 1 1), (58, .p (.val (.int .u64 (W / 4)))), (51, .p (outV 0 true 0 0)), (55, .clo H.fn [1000, 1001])], s := [(1, kY H t me k), (2, wD 0 false 0 0), (9, wD 0 true 0 0), (1000, H.b0 s), (1001, H.b1 s), (1002, H.b2 s)] }) ?B04 (fun B04 => ?_)
          case B04 =>
            refine DGo.all [6] (by kernel_rfl) ?_
            refine zI.cons ?_ (zI.nil)
            · refine zL.at_ 6 ?_
              refine zL.gv rfl rfl rfl (by decide) rfl rfl rfl (yU rfl rfl rfl rfl rfl (by decide)) ?_
              exact DGo.keep [1, 2, 3, 53, 54, 56, 58, 51, 55, 57] [1, 2, 9, 1000, 1001, 1002] B046
          refine DGo.share (fu' := 5) (D' := [6, 0, 7, 5, 3, 2, 1]) (F' := { t := [(1, .ptr 1 0), (2, .ptr 2 0), (3, .p (.val (.bool false))), (53, .p (.val (.bool true))), (54, .ptr 1 0), (56, .ptr 1 1), (58, .p (.val (.int .u64 (W / 4)))), (51, .p (outV 0 true 0 0)), (57, .p (.val (.int .i64 t)))], s := [(1, kY H t me k), (2, wD 0 false 0 0), (9, wD 0 true 0 0), (1000, H.b0 s), (1001, H.b1 s), (1002, H.b2 s)] }) ?B06 (fun B06 => ?_)
          case B06 =>
            refine DGo.all [4] (by kernel_rfl) ?_
            refine zI.cons ?_ (zI.nil)
            · refine zL.at_ 4 ?_
              refine zL.gv rfl rfl rfl (by decide) rfl rfl rfl (yL rfl rfl rfl rfl rfl (by decide)) ?_
              exact DGo.keep [1, 2, 3, 53, 54, 56, 58, 51, 55, 57] [1, 2, 9, 1000, 1001, 1002] B046
          refine DGo.share (fu' := 5) (D' := [6, 4, 7, 5, 3, 2, 1]) (F' := { t := [(1, .ptr 1 0), (2, .ptr 2 0), (3, .p (.val (.bool false))), (9, .ptr 9 0), (53, .p (.val (.bool true))), (54, .ptr 1 0), (56, .ptr 1 1), (58, .p (.val (.int .u64 (W / 4)))), (55, .clo H.fn [1000, 1001]), (57, .p (.val (.int .i64 t)))], s := [(1, kY H t me k), (2, wD 0 false 0 0), (9, wD 0 true 0 0), (1000, H.b0 s), (1001, H.b1 s), (1002, H.b2 s)] }) ?B46 (fun B46 => ?_)
          case B46 =>
            refine DGo.all [0, 8] (by kernel_rfl) ?_
            refine zI.cons ?_ (zI.cons ?_ (zI.nil))
            · refine zL.at_ 0 ?_
              refine zL.v rfl rfl rfl (yR rfl rfl rfl (by rfl) (by rfl) rfl (by decide)) ?_
              exact DGo.keep [1, 2, 3, 53, 54, 56, 58, 51, 55, 57] [1, 2, 9, 1000, 1001, 1002] B046
            · refine zL.at_ 8 ?_
              refine zL.ofTg rfl rfl rfl (by decide) rfl rfl (zG.hd (i := []) (f := sweep_h H _ ht) (r := fun x2 s2 e g hk => ?r8) (p := fun q s2 e => ?p8) (t := fun e => hns (ho.symm.trans (by rw [run_bind, run_bind, e]; rfl))))
              case p8 =>
                repeat' (first | refine zF.p ?_ | refine zR.p ?_)
                exact .pan (q := q) rfl (by repeat' first | exact trivial | rfl | constructor) (by repeat' exact trivial) (ho.symm.trans (by rw [run_bind, run_bind, e]; rfl))
              case r8 =>
                exact DGo.keep [1, 2, 3, 9, 53, 59] [1, 2, 9, 1000, 1001, 1002] (B468 ⟨x2, s2⟩ ⟨e, g, hk⟩)
          refine DGo.share (fu' := 6) (D' := [0, 7, 5, 3, 2, 1]) (F' := { t := [(1, .ptr 1 0), (2, .ptr 2 0), (3, .p (.val (.bool false))), (53, .p (.val (.bool true))), (54, .ptr 1 0), (56, .ptr 1 1), (58, .p (.val (.int .u64 (W / 4)))), (51, .p (outV 0 true 0 0))], s := [(1, kY H t me k), (2, wD 0 false 0 0), (9, wD 0 true 0 0), (1000, H.b0 s), (1001, H.b1 s), (1002, H.b2 s)] }) ?B0 (fun B0 => ?_)
          case B0 =>
            refine DGo.all [4, 6] (by kernel_rfl) ?_
            refine zI.cons ?_ (zI.cons ?_ (zI.nil))
            · refine zL.at_ 4 ?_
              refine zL.gv rfl rfl rfl (by decide) rfl rfl rfl (yL rfl rfl rfl rfl rfl (by decide)) ?_
              exact DGo.keep [1, 2, 3, 53, 54, 56, 58, 51, 55] [1, 2, 9, 1000, 1001, 1002] B04
            · refine zL.at_ 6 ?_
              refine zL.gv rfl rfl rfl (by decide) rfl rfl rfl (yU rfl rfl rfl rfl rfl (by decide)) ?_
              exact DGo.keep [1, 2, 3, 53, 54, 56, 58, 51, 57] [1, 2, 9, 1000, 1001, 1002] B06
          refine DGo.share (fu' := 6) (D' := [4, 7, 5, 3, 2, 1]) (F' := { t := [(1, .ptr 1 0), (2, .ptr 2 0), (3, .p (.val (.bool false))), (9, .ptr 9 0), (53, .p (.val (.bool true))), (54, .ptr 1 0), (56, .ptr 1 1), (58, .p (.val (.int .u64 (W / 4)))), (55, .clo H.fn [1000, 1001])], s := [(1, kY H t me k), (2, wD 0 false 0 0), (9, wD 0 true 0 0), (1000, H.b0 s), (1001, H.b1 s), (1002, H.b2 s)] }) ?B4 (fun B4 => ?_)
          case B4 =>
            refine DGo.all [0, 6] (by kernel_rfl) ?_
            refine zI.cons ?_ (zI.cons ?_ (zI.nil))
            · refine zL.at_ 0 ?_
              refine zL.v rfl rfl rfl (yR rfl rfl rfl (by rfl) (by rfl) rfl (by decide)) ?_
              exact DGo.keep [1, 2, 3, 53, 54, 56, 58, 51, 55] [1, 2, 9, 1000, 1001, 1002] B04
            · refine zL.at_ 6 ?_
              refine zL.gv rfl rfl rfl (by decide) rfl rfl rfl (yU rfl rfl rfl rfl rfl (by decide)) ?_
              exact DGo.keep [1, 2, 3, 9, 53, 54, 56, 58, 55, 57] [1, 2, 9, 1000, 1001, 1002] B46
          refine DGo.share (fu' := 6) (D' := [6, 7, 5, 3, 2, 1]) (F' := { t := [(1, .ptr 1 0), (2, .ptr 2 0), (3, .p (.val (.bool false))), (9, .ptr 9 0), (53, .p (.val (.bool true))), (54, .ptr 1 0), (56, .ptr 1 1), (58, .p (.val (.int .u64 (W / 4)))), (57, .p (.val (.int .i64 t)))], s := [(1, kY H t me k), (2, wD 0 false 0 0), (9, wD 0 true 0 0), (1000, H.b0 s), (1001, H.b1 s), (1002, H.b2 s)] }) ?B6 (fun B6 => ?_)
          case B6 =>
            refine DGo.all [0, 4] (by kernel_rfl) ?_
            refine zI.cons ?_ (zI.cons ?_ (zI.nil))
            · refine zL.at_ 0 ?_
              refine zL.v rfl rfl rfl (yR rfl rfl rfl (by rfl) (by rfl) rfl (by decide)) ?_
              exact DGo.keep [1, 2, 3, 53, 54, 56, 58, 51, 57] [1, 2, 9, 1000, 1001, 1002] B06
            · refine zL.at_ 4 ?_
              refine zL.gv rfl rfl rfl (by decide) rfl rfl rfl (yL rfl rfl rfl rfl rfl (by decide)) ?_
              exact DGo.keep [1, 2, 3, 9, 53, 54, 56, 58, 55, 57] [1, 2, 9, 1000, 1001, 1002] B46
          refine DGo.all [0, 4, 6] (by kernel_rfl) ?_
          refine zI.cons ?_ (zI.cons ?_ (zI.cons ?_ (zI.nil)))
          · refine zL.at_ 0 ?_
            refine zL.v rfl rfl rfl (yR rfl rfl rfl (by rfl) (by rfl) rfl (by decide)) ?_
            exact DGo.keep [1, 2, 3, 53, 54, 56, 58, 51] [1, 2, 9, 1000, 1001, 1002] B0
          · refine zL.at_ 4 ?_
            refine zL.gv rfl rfl rfl (by decide) rfl rfl rfl (yL rfl rfl rfl rfl rfl (by decide)) ?_
            exact DGo.keep [1, 2, 3, 9, 53, 54, 56, 58, 55] [1, 2, 9, 1000, 1001, 1002] B4
          · refine zL.at_ 6 ?_
            refine zL.gv rfl rfl rfl (by decide) rfl rfl rfl (yU rfl rfl rfl rfl rfl (by decide)) ?_
            exact DGo.keep [1, 2, 3, 9, 53, 54, 56, 58, 57] [1, 2, 9, 1000, 1001, 1002] B6
end Go.Proofs.YtmfbamiciieooaaGreatDoor
