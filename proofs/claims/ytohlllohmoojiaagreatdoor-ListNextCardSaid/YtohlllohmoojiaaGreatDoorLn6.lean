/- For every input ListNext returns true, and leaves its argument as it was. Conditions: none beyond the given statement. (Part 6 of 8.) -/
import Derived.Test.YtohlllohmoojiaaGreatDoorLn5
import Derived.Recover
import Derived.Laws.OwnMore
import Derived.ArgAppend
import Derived.Laws.Cover3
/- Searches, seeks, links and marks: the program's, whatever makes its accesses: contracts. -/
namespace Go.Proofs.YtohlllohmoojiaaGreatDoor
set_option maxRecDepth 100000
set_option maxHeartbeats 16000000
open Go Go.RowKit
set_option linter.unusedSimpArgs false
set_option linter.unusedVariables false
attribute [local irreducible] zY zZ Step zK Sub zS zH Fn zG yZ vE
theorem notT {b : Bool} (h : (!b) = true) : b = false := by cases b <;> simp_all
theorem or1 (w : Int) (hw : U w) (he : decide (w % 2 = 1) = false) : bits .or .u64 w 1 = w + 1 := by
  refine (orBit w 1 hw.lo hw.hi (.inl rfl) ?_).1
  unfold hasF
  simpa using he
theorem mark_h (H : Hnd) (s0 : H.σ) {t x w : Int} (ht : Small t) (hx : Rf x) (hw : U w) (he : decide (w % 2 = 1) = false) : FnH H 86 [H.doA, .p (.val (.int .i64 t)), .p (.val (.int .i64 x)), .p (.val (.int .u64 w))] [] (fun x => .p (.val (.bool x))) (fun _ => []) yes s0 (setMark t x w) := by
  have cn := cnext_fn t x ht hx.le
  have g1 := or1 w hw he
  have u1 := hw.succ he
  unfold Hnd.doA
  refine wY Tryz.func86 rfl Tryz.ntmps86 (Nat.le_of_ble_eq_true rfl) (by decide) (qB _ hw u1) fun hok hns => ?_
  repeat' (first | (refine zY.is ?_; first | refine zY.nil ?_ | (refine zY.at_ 13 rfl ?_; refine zY.rc (.v zJ (.v zJ (.v v36_0 .e))) ?_) | (refine zY.at_ 8 rfl ?_; refine zY.rc (.v zC .e) ?_) | (refine zY.in_ [12] rfl ?_; refine zY.v rfl rfl (zO (cn) rfl rfl rfl (by decide)) ?_) | (refine zY.in_ [16] rfl ?_; refine zY.ofT rfl (zH.hd (i := []) (f := cas_h H _ _ _ _ hw u1) (r := fun x s e g hk => ?_) (p := fun q s e => ?_) (t := ?_)))) | (refine zZ.is ?_; first | refine zZ.seq ?_ | (refine zZ.isR (id := 0) ?_; refine zZ.rc [0, 1, 2, 3] [1000, 1001, 1002] (r := (.v zC .e)) (h := ?_)) | (refine zZ.isR (id := 1) ?_; refine zZ.rc [0, 1, 2, 3, 8] [1000, 1001, 1002] (r := (.v vQ (.v zJ (.v zJ .e)))) (h := ?_)) | refine zZ.ret ?_) | refine zG.n ?_ | refine zG.p ?_)
  all_goals (first | exact fun e => hns (by clear hns; simp only [setMark, run_bind, zP, zM, Held.zB, Held.zL, Held.zF, cond_true, cond_false, *]) | exact .pan (q := q) rfl (by repeat' first | exact trivial | rfl | constructor) (by repeat' exact trivial) (by simp only [setMark, run_bind, zP, zM, Held.zB, Held.zL, Held.zF, cond_true, cond_false, *]) | exact .ret (by exact .inl rfl) (by exact .one rfl rfl) (by repeat' first | exact trivial | rfl | constructor) (by simp only [setMark, run_bind, zP, zM, Held.zB, Held.zL, Held.zF, cond_true, cond_false, *] <;> rfl))
theorem markOp_h (H : Hnd) (s0 : H.σ) {t x : Int} (ht : Small t) (hx : Rf x) : FnH H 31 [H.doA, .p (.val (.int .i64 t)), .p (.val (.int .i64 x))] [] (fun x => .p (.val (.bool x))) (fun _ => []) yes s0 (markP t x) := by
  have cn := cnext_fn t x ht hx.le
  unfold Hnd.doA
  refine wY Tryz.func31 rfl Tryz.ntmps31 (Nat.le_of_ble_eq_true rfl) (by decide) (fine_mark t x) fun hok hns => ?_
  repeat' (first | (refine zY.is ?_; first | refine zY.nil ?_ | (refine zY.at_ 15 rfl ?_; refine zY.rc (.v v52_8 (.v zJ .e)) ?_) | (refine zY.at_ 17 rfl ?_; refine zY.rc (.gY vQ (.gY zJ (.gY zJ (.gY zJ .e)))) ?_) | (refine zY.at_ 17 rfl ?_; refine zY.rc (.gT (.gT (.gT (.gT (.gT (.v xD (.v zC .e))))))) ?_) | (refine zY.at_ 22 rfl ?_; refine zY.rc (.v xA (.v zC .e)) ?_) | (refine zY.at_ 7 rfl ?_; refine zY.rc (.v zC .e) ?_) | (refine zY.in_ [11] rfl ?_; refine zY.v rfl rfl (zO (cn) rfl rfl rfl (by decide)) ?_) | (refine zY.in_ [14] rfl ?_; refine zY.v rfl rfl (zO (mark_fn _ (U.lo (by assumption)) (U.hi (by assumption))) rfl rfl rfl (by decide)) ?_) | (refine zY.in_ [12] rfl ?_; refine zY.ofT rfl (zH.hd (i := []) (f := load_h H _ _) (r := fun x s e g hk => ?_) (p := fun q s e => ?_) (t := ?_))) | (refine zY.in_ [21] rfl ?_; refine zY.ofTg rfl rfl (by decide) rfl bA (zH.hd (i := []) (f := mark_h H _ ht hx (by assumption) (notT (by assumption))) (r := fun x s e g hk => ?_) (p := fun q s e => ?_) (t := ?_))) | (fail_if_success refine zY.known rfl rfl rfl (by fail) ?_); refine zY.split rfl rfl rfl (fun h => ?_) (fun h => ?_)) | (refine zZ.is ?_; first | refine zZ.seq ?_ | (refine zZ.isR (id := 0) ?_; refine zZ.rc [0, 1, 2] [1000, 1001, 1002] (r := (.v zC .e)) (h := ?_)) | (refine zZ.isR (id := 1) ?_; refine zZ.rc [0, 1, 2, 6] [1000, 1001, 1002] (r := (.v vQ (.v zJ (.v zJ .e)))) (h := ?_)) | (refine zZ.isR (id := 2) ?_; refine zZ.rc [0, 1, 2, 6, 7] [1000, 1001, 1002] (r := (.v zJ .e)) (h := ?_)) | refine zZ.ret ?_) | refine zG.n ?_ | refine zG.p ?_)
  all_goals try simp only [Bool.not_eq_true', Bool.not_eq_false'] at *
  all_goals (first | exact fun e => hns (by clear hns; simp only [markP, run_bind, zP, zM, Held.zB, Held.zL, Held.zF, cond_true, cond_false, *]) | exact .pan (q := q) rfl (by repeat' first | exact trivial | rfl | constructor) (by repeat' exact trivial) (by simp only [markP, run_bind, zP, zM, Held.zB, Held.zL, Held.zF, cond_true, cond_false, *]) | exact .ret (by exact .inl rfl) (by exact .one rfl rfl) (by repeat' first | exact trivial | rfl | constructor) (by simp only [markP, run_bind, zP, zM, Held.zB, Held.zL, Held.zF, cond_true, cond_false, *] <;> rfl))
theorem link_h (H : Hnd) (s0 : H.σ) {t p x r : Int} (ht : Small t) (hp : Rf p) (hx : Rf x) (hr : Rf r) : FnH H 30 [H.doA, .p (.val (.int .i64 t)), .p (.val (.int .i64 p)), .p (.val (.int .i64 x)), .p (.val (.int .i64 r))] [] (fun x => .p (.val (.bool x))) (fun _ => []) yes s0 (linkP t p x r) := by
  have cn := cnext_fn t p ht hp.le
  have cm := cnext_fn t r ht hr.le
  have cx := link_fn x hx.le
  have cr := link_fn r hr.le
  have ux := hx.u2
  have ur := hr.u2
  unfold Hnd.doA
  refine wY Tryz.func30 rfl Tryz.ntmps30 (Nat.le_of_ble_eq_true rfl) (by decide) (fine_link t p hx hr) fun hok hns => ?_
  repeat' (first | (refine zY.is ?_; first | refine zY.nil ?_ | (refine zY.at_ 10 rfl ?_; refine zY.rc (.v zC .e) ?_) | (refine zY.at_ 11 rfl ?_; refine zY.rc (.v zC .e) ?_) | (refine zY.at_ 18 rfl ?_; refine zY.rc (.v zJ .e) ?_) | (refine zY.at_ 24 rfl ?_; refine zY.rc (.v zJ (.v zJ .e)) ?_) | (refine zY.in_ [23] rfl ?_; refine zY.v rfl rfl (zO (cn) rfl rfl rfl (by decide)) ?_) | (refine zY.in_ [17] rfl ?_; refine zY.v rfl rfl (zO (cm) rfl rfl rfl (by decide)) ?_) | (refine zY.in_ [13] rfl ?_; refine zY.v rfl rfl (zO (cx) rfl rfl rfl (by decide)) ?_) | (refine zY.in_ [26] rfl ?_; refine zY.v rfl rfl (zO (cr) rfl rfl rfl (by decide)) ?_) | (refine zY.in_ [19] rfl ?_; refine zY.ofT rfl (zH.hd (i := []) (f := store_h H _ _ _ ux) (r := fun x s e g hk => ?_) (p := fun q s e => ?_) (t := ?_))) | (refine zY.in_ [27] rfl ?_; refine zY.ofT rfl (zH.hd (i := []) (f := cas_h H _ _ _ _ ux ur) (r := fun x s e g hk => ?_) (p := fun q s e => ?_) (t := ?_)))) | (refine zZ.is ?_; first | refine zZ.seq ?_ | (refine zZ.isR (id := 0) ?_; refine zZ.rc [0, 1, 2, 3, 4] [1000, 1001, 1002] (r := (.v zC .e)) (h := ?_)) | (refine zZ.isR (id := 1) ?_; refine zZ.rc [0, 1, 2, 3, 4, 10] [1000, 1001, 1002] (r := (.v zJ .e)) (h := ?_)) | (refine zZ.isR (id := 2) ?_; refine zZ.rc [0, 1, 2, 4, 10, 11] [1000, 1001, 1002] (r := (.v vQ (.v zJ (.v zJ .e)))) (h := ?_)) | (refine zZ.isR (id := 3) ?_; refine zZ.rc [0, 1, 2, 4, 10, 11] [1000, 1001, 1002] (r := (.v vQ (.v zJ (.v zJ .e)))) (h := ?_)) | refine zZ.ret ?_) | refine zG.n ?_ | refine zG.p ?_)
  all_goals (first | exact fun e => hns (by clear hns; simp only [linkP, run_bind, zP, zM, Held.zB, Held.zL, Held.zF, cond_true, cond_false, *]) | exact .pan (q := q) rfl (by repeat' first | exact trivial | rfl | constructor) (by repeat' exact trivial) (by simp only [linkP, run_bind, zP, zM, Held.zB, Held.zL, Held.zF, cond_true, cond_false, *]) | exact .ret (by exact .inl rfl) (by exact .one rfl rfl) (by repeat' first | exact trivial | rfl | constructor) (by simp only [linkP, run_bind, zP, zM, Held.zB, Held.zL, Held.zF, cond_true, cond_false, *] <;> rfl))
/-! ### Seeks -/
def seekS (H : Hnd) (t k p x : Int) (s : H.σ) : AS :=
  { t := [(3, .p (.val (.int .u64 k))), (8, .p (.val (.int .i64 0))), (9, .p (.val (.bool false))), (10, .ptr 21 0)], s := [(1000, H.b0 s), (1001, H.b1 s), (1002, H.b2 s), (21, vB H t p x)] }
theorem seek_h (H : Hnd) (s0 : H.σ) {t f k : Int} (ht : Small t) (hf : Rf f) : FnH H 29 [H.doA, .p (.val (.int .i64 t)), .p (.val (.int .i64 f)), .p (.val (.int .u64 k))] [] (fun r => .tup ([.val (.int .i64 r.1), .val (.bool r.2)].map .p)) (fun _ => []) SFound s0 (seekP t f k) := by
  have cn := cnext_fn t f ht hf.le
  unfold Hnd.doA
  refine wY Tryz.func29 rfl Tryz.ntmps29 (Nat.le_of_ble_eq_true rfl) (by decide) (fine_seek t f k) fun hok hns => ?_
  repeat' (first | (refine zY.is ?_; first | refine zY.nil ?_ | (refine zY.at_ 10 rfl ?_; refine zY.rc (.v v1_2 .e) ?_) | (refine zY.in_ [17] rfl ?_; refine zY.v rfl rfl (zO (cn) rfl rfl rfl (by decide)) ?_) | (refine zY.in_ [19] rfl ?_; refine zY.v rfl rfl (zO (ref_fn _ (U.lo (by assumption)) (U.hi (by assumption))) rfl rfl rfl (by decide)) ?_) | (refine zY.in_ [18] rfl ?_; refine zY.ofT rfl (zH.hd (i := []) (f := load_h H _ _) (r := fun x s e g hk => ?_) (p := fun q s e => ?_) (t := ?_))) | refine zY.buildBx rfl rfl rfl rfl rfl rfl (by decide) (by decide) rfl rfl rfl rfl ?_) | (refine zZ.is ?_; first | refine zZ.seq ?_ | (refine zZ.isR (id := 0) ?_; refine zZ.rc [0, 1, 2, 3] [21, 1000, 1001, 1002] (r := (.v zC (.v zC .e))) (h := ?_)) | (refine zZ.isR (id := 1) ?_; refine zZ.rc [0, 1, 2, 3, 8, 9] [21, 1000, 1001, 1002] (r := (.v vQ (.v zJ (.v vQ (.v zJ (.v zJ .e)))))) (h := ?_)) | refine zZ.block ?_) | refine zG.n ?_ | refine zG.p ?_)
  all_goals (first | exact fun e => hns (by clear hns; simp only [seekP, run_bind, zP, zM, Held.zB, Held.zL, Held.zF, cond_true, cond_false, *]) | exact .pan (q := q) rfl (by repeat' first | exact trivial | rfl | constructor) (by repeat' exact trivial) (by simp only [seekP, run_bind, zP, zM, Held.zB, Held.zL, Held.zF, cond_true, cond_false, *]) | skip)
  have ho0 : (seekP t f k).run H.st s0 = (contS t k many (xX x)).run H.st s := by
    simp only [seekP, run_bind, zP, Held.zB, *]
    rfl
  rw [ho0] at hns ⊢
  refine zZ.loop (fun q : Nat × (Int × Int) × H.σ => seekS H t k q.2.1.1 q.2.1.2 q.2.2) (fun q => H.ok q.2.2 ∧ Rf q.2.1.2 ∧ (contS t k q.1 q.2.1.2).run H.st q.2.2 = (contS t k many (xX x)).run H.st s) (fun q => q.1) (many, (0, xX x), s) ?h0 ⟨by assumption, wV _, rfl⟩ ?rd
  case h0 =>
    refine yJ (is := [3, 8, 9, 10]) (js := [1000, 1001, 1002, 21]) ?_ ?_
    repeat' first | exact zX.nil | apply zX.p rfl | apply zX.ptr rfl | apply zX.own rfl | apply zX.clo rfl | apply zX.ifp rfl | apply zX.pt rfl | apply zX.tup rfl | apply zX.skip
    repeat' first | exact zW.nil | apply zW.boxP rfl rfl | apply zW.y7 rfl | (apply zW.at0; exact zI rfl (H.nk _).1 (by repeat' first | exact KB.refl | apply KB.kill | decide)) | (apply zW.at1; exact zI rfl (H.nk _).2.1 (by repeat' first | exact KB.refl | apply KB.kill | decide)) | (apply zW.at2; exact zI rfl (H.nk _).2.2 (by repeat' first | exact KB.refl | apply KB.kill | decide)) | apply zW.some rfl | apply zW.skip
  case rd =>
    clear e
    generalize xX x = y0 at *
    rintro ⟨n, ⟨p, x1⟩, s1⟩ ⟨hok1, hx, ho⟩
    dsimp only at hok1 hx ho ⊢
    rw [← ho] at hns ⊢
    unfold seekS
    unfold contS at *
    cases hz : decide (x1 = 0)
    case true =>
      rw [hz] at ho hns
      have hz' : (!decide (x1 = 0)) = false := by rw [hz]; rfl
      unfold vB Hnd.doA
      repeat' (first | (refine zY.nil ?_) | (refine zZ.is ?_; first | refine zZ.seq ?_ | (refine zZ.isR (id := 2) ?_; refine zZ.rc [3, 8, 9, 10, 11, 26, 31] [21, 1000, 1001, 1002] (r := (.v yL (.v xO (.v zU (.v yV (.v qC .e)))))) (h := ?_)) | (refine zZ.isR (id := 7) ?_; refine zZ.rc [8, 9] [21, 1000, 1001, 1002] (r := (.v zC (.v zC .e))) (h := ?_)) | refine zZ.yI rfl bA ?_ | refine zZ.exit ?_ | refine zZ.ret ?_) | refine zG.n ?_ | refine yZ.eY ?_ | refine zG.e ?_)
      all_goals (exact .ret (x := (_, _)) (by exact .inl rfl) (by exact .tup rfl (by decide) (.cons (.tmp rfl) (.cons (.tmp rfl) .nil))) (by repeat' first | exact trivial | rfl | constructor) (by simp only [run_bind, zP, zM, Held.zB, Held.zL, Held.zF, cond_true, cond_false, *] <;> rfl))
    case false =>
      rw [hz] at ho hns
      have hz' : (!decide (x1 = 0)) = true := by rw [hz]; rfl
      have hxr := hx.rc ht
      rw [cond_false] at ho hns ⊢
      cases n with
      | zero => exact absurd rfl hns
      | succ n =>
        rw [loop_elim] at ho hns ⊢
        repeat' (first | (refine zY.is ?_; first | refine zY.nil ?_ | (refine zY.at_ 11 rfl ?_; refine zY.rc (.v zC .e) ?_) | (refine zY.in_ [28, 41] rfl ?_; refine zY.ofT rfl (zH.hd (i := [21]) (f := field_h H _ hxr (by decide)) (r := fun x s e g hk => ?_) (p := fun q s e => ?_) (t := ?_))) | (refine zY.in_ [42] rfl ?_; refine zY.ofT rfl (zH.h0 (i := [21]) (f := on_h H _ (by assumption)) (r := fun g => ?_)))) | (refine zZ.is ?_; first | refine zZ.seq ?_ | (refine zZ.isR (id := 2) ?_; refine zZ.rc [3, 8, 9, 10, 11, 26, 31] [21, 1000, 1001, 1002] (r := (.v yL (.v xO (.v zU (.v yV (.v qC .e)))))) (h := ?_)) | (refine zZ.isR (id := 3) ?_; refine zZ.rc [3, 8, 9, 10, 11, 26, 31] [21, 1000, 1001, 1002] (r := (.v yL .e)) (h := ?_)) | (refine zZ.isR (id := 4) ?_; refine zZ.rc [3, 8, 9, 10, 11, 26, 31] [21, 1000, 1001, 1002] (r := (.v zJ (.v zJ (.v v46_8 .e)))) (h := ?_)) | (refine zZ.isR (id := 5) ?_; refine zZ.rc [3, 8, 9, 10, 11, 26, 31] [21, 1000, 1001, 1002] (r := (.v yL (.v xO (.v zU (.v yV (.v zJ (.v zJ (.v vZ (.v zC (.v zC .e)))))))))) (h := ?_)) | (refine zZ.isR (id := 6) ?_; refine zZ.rc [3, 8, 9, 10, 11, 26, 31] [21, 1000, 1001, 1002] (r := (.v yL (.v yL .e))) (h := ?_)) | refine zZ.yM rfl bA ?_ | refine zZ.cond rfl (fun h => ?_) (fun h => ?_) | refine zZ.skip ?_ | refine zZ.block ?_ | refine zZ.ret ?_) | refine zG.n ?_ | refine zG.r ?_ | refine zG.p ?_ | refine yZ.n ?_ | refine yZ.r ?_ | refine yZ.p ?_)
        all_goals (first | exact fun e => hns (by clear hns; simp only [vY, run_bind, zP, zM, Held.zB, Held.zL, Held.zF, cond_true, cond_false, *]) | exact .pan (q := q) rfl (by repeat' first | exact trivial | rfl | constructor) (by repeat' exact trivial) (by simp only [vY, run_bind, zP, zM, Held.zB, Held.zL, Held.zF, cond_true, cond_false, *]) | exact .ret (x := (_, _)) (by exact .inl rfl) (by exact .tup rfl (by decide) (.cons (.tmp rfl) (.cons (.tmp rfl) .nil))) (by repeat' first | exact trivial | rfl | constructor) (by simp only [vY, run_bind, zP, zM, Held.zB, Held.zL, Held.zF, cond_true, cond_false, *] <;> rfl) | skip)
        refine ⟨(n, (x1, xX x), s), ?_, ⟨hk, wV _, ?_⟩, Nat.lt_succ_self n⟩
        · refine yJ (is := [3, 8, 9, 10]) (js := [1000, 1001, 1002, 21]) ?_ ?_
          repeat' first | exact zX.nil | apply zX.p rfl | apply zX.ptr rfl | apply zX.own rfl | apply zX.clo rfl | apply zX.ifp rfl | apply zX.pt rfl | apply zX.tup rfl | apply zX.skip
          repeat' first | exact zW.nil | apply zW.boxP rfl rfl | apply zW.y7 rfl | (apply zW.at0; exact zI rfl (H.nk _).1 (by repeat' exact KB.refl)) | (apply zW.at1; exact zI rfl (H.nk _).2.1 (by repeat' exact KB.refl)) | (apply zW.at2; exact zI rfl (H.nk _).2.2 (by repeat' exact KB.refl)) | apply zW.some rfl | apply zW.skip
        · have e1 : (vY t k x1).run H.st s1 = .done (endS (xX x)) s := by
            clear ho hns ho0
            simp only [vY, run_bind, zP, zM, Held.zB, cond_false, *]
          rw [run_bind, e1, Held.zB]
          exact congrArg (fun p => Pr.run H.st p s) (contS_eq t k n (xX x)).symm
/-! ### A walk that is told where to stop -/
def ptrB (i : Nat) : Blk := .box 131 [.ptr i 0]
def keyB (k : Int) : Blk := .box 22 [.p (.val (.int .u64 k))]
theorem search1_h (H : Hnd) (s0 : H.σ) {t p x k w : Int} (f : Bool) (hx : Rc t x) : FnH H 76 [.p (.val (.int .u64 w)), .ptr 1004 0, .ptr 1005 0, .ptr 1006 0] [vB H t p x, ptrB 1003, keyB k, isB f] (fun n => .tup ([.val (.bool (decide (k ≤ n))), .val (.bool false)].map .p)) (fun n => [vB H t p x, ptrB 1003, keyB k, isB (decide (n = k))]) U s0 (xU (yC t x 1)) := by
  unfold ptrB keyB
  refine wY Tryz.func76 rfl Tryz.ntmps76 (Nat.le_of_ble_eq_true rfl) (by decide) (yO _) fun hok hns => ?_
  repeat' (first | (refine zY.is ?_; first | refine zY.nil ?_ | (refine zY.at_ 7 rfl ?_; refine zY.rc (.v zC .e) ?_) | (refine zY.in_ [9] rfl ?_; refine zY.ofT rfl (zH.hd (i := [1003]) (f := field_h H _ hx (by decide)) (r := fun x s e g hk => ?_) (p := fun q s e => ?_) (t := ?_)))) | (refine zZ.is ?_; first | refine zZ.seq ?_ | (refine zZ.isR (id := 0) ?_; refine zZ.rc [1, 2, 3] [1000, 1001, 1002, 1003, 1004, 1005, 1006] (r := (.v zC (.v zC .e))) (h := ?_)) | (refine zZ.isR (id := 1) ?_; refine zZ.rc [1, 2, 3, 5, 6] [1000, 1001, 1002, 1003, 1004, 1005, 1006] (r := (.v v2_12 .e)) (h := ?_)) | (refine zZ.isR (id := 2) ?_; refine zZ.rc [2, 3, 5, 6, 7] [1000, 1001, 1002, 1003, 1004, 1005, 1006] (r := (.v zJ (.v yV (.v vZ (.w yQ .e))))) (h := ?_)) | (refine zZ.isR (id := 3) ?_; refine zZ.rc [2, 5, 6, 7] [1000, 1001, 1002, 1003, 1004, 1005, 1006] (r := (.v zJ (.v yV (.v v46_8 (.v zC (.v zC .e)))))) (h := ?_)) | refine zZ.ret ?_) | refine zG.n ?_ | refine zG.p ?_)
  all_goals (first | exact fun e => hns (by clear hns; simp only [run_bind, zP, zM, Held.zB, Held.zL, Held.zF, cond_true, cond_false, *]) | exact .pan (q := q) rfl (by repeat' first | exact trivial | rfl | constructor) (by repeat' first | exact trivial | exact ⟨_, rfl, rfl⟩ | constructor) (by simp only [run_bind, zP, zM, Held.zB, Held.zL, Held.zF, cond_true, cond_false, *]) | exact .ret (x := x) (by exact .inl rfl) (by exact .tup rfl (by decide) (.cons (.tmp rfl) (.cons (.tmp rfl) .nil))) (by repeat' first | exact trivial | rfl | constructor) (by simp only [run_bind, zP, zM, Held.zB, Held.zL, Held.zF, cond_true, cond_false, *] <;> rfl))
def alongF (H : Hnd) (t k p x : Int) (s : H.σ) : AS :=
  { t := [(0, .ptr 1003 0), (1, .clo 76 [1004, 1005, 1006]), (4, .p (.val (.bool false)))], s := [(1000, H.b0 s), (1001, H.b1 s), (1002, H.b2 s), (1003, vB H t p x), (1004, ptrB 1003), (1005, keyB k), (1006, isB false)] }
theorem along_h (H : Hnd) (s0 : H.σ) {t k : Int} (ht : Small t) : FnH H 75 [.ptr 1003 0, .clo 76 [1004, 1005, 1006]] [vB H t 0 0, ptrB 1003, keyB k, isB false] (fun r => .p (.val (.bool r.ok))) (fun r => [vB H t r.p r.x, ptrB 1003, keyB k, isB r.is]) FOK s0 (alongP t k) := by
  refine wY Tryz.func75 rfl Tryz.ntmps75 (Nat.le_of_ble_eq_true rfl) (by decide) (fine_along t k) fun hok hns => ?_
  repeat' (first | (refine zY.nil ?_) | (refine zZ.is ?_; first | refine zZ.seq ?_ | (refine zZ.isR (id := 0) ?_; refine zZ.rc [0, 1] [1000, 1001, 1002, 1003, 1004, 1005, 1006] (r := (.v zC .e)) (h := ?_))) | refine zG.n ?_)
  refine zZ.scopeL 0 (fun q : Nat × (Int × Int) × H.σ => alongF H t k q.2.1.1 q.2.1.2 q.2.2) (fun q => H.ok q.2.2 ∧ (Pr.loop (yY t (xV t k)) q.1 none).run H.st q.2.2 = (alongP t k).run H.st s0) (fun q => q.1) (many, (0, 0), s0) ?h0 ⟨hok, rfl⟩ ?rd
  case h0 =>
    refine yJ (is := [0, 1, 4]) (js := [1000, 1001, 1002, 1003, 1004, 1005, 1006]) ?_ ?_
    repeat' first | exact zX.nil | apply zX.p rfl | apply zX.ptr rfl | apply zX.own rfl | apply zX.clo rfl | apply zX.ifp rfl | apply zX.pt rfl | apply zX.tup rfl | apply zX.skip
    repeat' first | exact zW.nil | apply zW.boxP rfl rfl | apply zW.y7 rfl | (apply zW.at0; exact zI rfl (H.nk _).1 (by repeat' exact KB.refl)) | (apply zW.at1; exact zI rfl (H.nk _).2.1 (by repeat' exact KB.refl)) | (apply zW.at2; exact zI rfl (H.nk _).2.2 (by repeat' exact KB.refl)) | apply zW.some rfl | apply zW.skip
  case rd =>
    rintro ⟨n, ⟨p, x⟩, s1⟩ ⟨hok1, ho⟩
    dsimp only at hok1 ho ⊢
    rw [← ho] at hns ⊢
    unfold alongF
    cases n with
    | zero => exact absurd rfl hns
    | succ n =>
      rw [loop_elim] at ho hns ⊢
      repeat' (first | (refine zY.is ?_; first | refine zY.nil ?_ | (refine zY.in_ [11] rfl ?_; refine zY.ofT rfl (zH.hd (i := [1003]) (f := start_h H _ ht) (r := fun x s e g hk => ?_) (p := fun q s e => ?_) (t := ?_)))) | (refine zZ.is ?_; first | refine zZ.seq ?_ | (refine zZ.isR (id := 1) ?_; refine zZ.rc [0, 1, 4] [1000, 1001, 1002, 1003, 1004, 1005, 1006] (r := (.v yL .e)) (h := ?_)) | refine zZ.block ?_) | refine zG.n ?_ | refine zG.p ?_ | refine vE.p ?_)
      all_goals (first | exact fun e => hns (by clear hns; simp only [yY, run_bind, zP, zM, Held.zB, Held.zL, Held.zF, cond_true, cond_false, *]) | exact .pan (q := q) rfl (by repeat' first | exact trivial | rfl | constructor) (by repeat' first | exact trivial | exact ⟨_, rfl, rfl⟩ | constructor) (by simp only [yY, run_bind, zP, zM, Held.zB, Held.zL, Held.zF, cond_true, cond_false, *]) | skip)
      have e1 : (yY t (xV t k) none).run H.st s1 = .done (endW 0 (xX x)) s := by
        clear ho hns
        simp only [yY, run_bind, zP, Held.zB, *]
      rw [run_bind, e1, Held.zB, vX] at ho hns ⊢
      refine zZ.loop (fun q : Nat × (Int × Int) × H.σ => alongF H t k q.2.1.1 q.2.1.2 q.2.2) (fun q => q.1 ≤ n ∧ H.ok q.2.2 ∧ Rf q.2.1.1 ∧ Rf q.2.1.2 ∧ (contL t (xV t k) q.1 q.2.1.1 q.2.1.2).run H.st q.2.2 = (contL t (xV t k) n 0 (xX x)).run H.st s) (fun q => q.1) (n, (0, xX x), s) ?h0 ⟨Nat.le_refl _, hk, rf_0, wV _, rfl⟩ ?rd
      case h0 =>
        refine yJ (is := [0, 1, 4]) (js := [1000, 1001, 1002, 1003, 1004, 1005, 1006]) ?_ ?_
        repeat' first | exact zX.nil | apply zX.p rfl | apply zX.ptr rfl | apply zX.own rfl | apply zX.clo rfl | apply zX.ifp rfl | apply zX.pt rfl | apply zX.tup rfl | apply zX.skip
        repeat' first | exact zW.nil | apply zW.boxP rfl rfl | apply zW.y7 rfl | (apply zW.at0; exact zI rfl (H.nk _).1 (by repeat' exact KB.refl)) | (apply zW.at1; exact zI rfl (H.nk _).2.1 (by repeat' exact KB.refl)) | (apply zW.at2; exact zI rfl (H.nk _).2.2 (by repeat' exact KB.refl)) | apply zW.some rfl | apply zW.skip
      case rd =>
        rintro ⟨m, ⟨p1, x1⟩, s2⟩ ⟨hmn, hok2, hp1, hx1, ho2⟩
        dsimp only at hmn hok2 hp1 hx1 ho2 ⊢
        clear e1 e hk
        rw [← ho2] at ho hns ⊢
        unfold alongF
        unfold contL at ho hns ⊢
        cases hz : decide (x1 = 0)
        case true =>
          rw [hz] at ho hns
          obtain rfl : x1 = 0 := of_decide_eq_true hz
          have hz' : (!decide ((0 : Int) = 0)) = false := rfl
          repeat' (first | (refine zY.nil ?_) | (refine zZ.is ?_; first | refine zZ.seq ?_ | (refine zZ.isR (id := 2) ?_; refine zZ.rc [0, 1, 4, 5, 6, 7, 8, 9, 16, 20, 28, 30, 37, 39] [1000, 1001, 1002, 1003, 1004, 1005, 1006] (r := (.v yL (.v xO (.v zU (.v yV (.v qC .e)))))) (h := ?_)) | (refine zZ.isR (id := 14) ?_; refine zZ.rc [4] [1000, 1001, 1002, 1003, 1004, 1005, 1006] (r := (.v zC .e)) (h := ?_)) | refine zZ.yI rfl bA ?_ | refine zZ.exit ?_ | refine zZ.ret ?_) | refine zG.n ?_ | refine yZ.eY ?_ | refine zG.e ?_ | refine vE.r ?_)
          all_goals (exact .ret (x := ⟨_, _, _, _⟩) (by exact .inl rfl) (by exact .one rfl rfl) (by repeat' first | exact trivial | rfl | constructor) (by simp only [run_bind, zP, zM, Held.zB, Held.zL, Held.zF, cond_true, cond_false, *] <;> rfl))
        case false =>
          rw [hz] at ho hns
          have hz' : (!decide (x1 = 0)) = true := by rw [hz]; rfl
          have hxr := hx1.rc ht
          have hw : WOK p1 x1 := ⟨hp1, hx1, hz⟩
          have hnk : ∀ n : Int, decide (k ≤ n) = false → decide (n = k) = false := fun n h => by
            have := of_decide_eq_false h
            exact decide_eq_false (by omega)
          rw [cond_false] at ho hns ⊢
          cases m with
          | zero => exact absurd rfl hns
          | succ m =>
            rw [loop_elim] at ho hns ⊢
            repeat' (first | (refine zY.is ?_; first | refine zY.nil ?_ | (refine zY.at_ 21 rfl ?_; refine zY.rc (.v v0_4 (.v y9 (.v y9 (.v zC (.v zC .e))))) ?_) | (refine zY.at_ 31 rfl ?_; refine zY.rc (.v v0_4 (.v y9 (.v y9 (.v zC (.v zC .e))))) ?_) | (refine zY.at_ 5 rfl ?_; refine zY.rc (.v zC .e) ?_) | (refine zY.in_ [20] rfl ?_; refine zY.v rfl rfl (zO (mark_fn _ (U.lo (by assumption)) (U.hi (by assumption))) rfl rfl rfl (by decide)) ?_) | (refine zY.in_ [18] rfl ?_; refine zY.ofT rfl (zH.hd (i := [1003]) (f := field_h H _ hxr (by decide)) (r := fun x s e g hk => ?_) (p := fun q s e => ?_) (t := ?_))) | (refine zY.in_ [34] rfl ?_; refine zY.ofT rfl (zH.hd (i := [1003, 1004, 1005, 1006]) (f := search1_h H _ _ hxr) (r := fun x s e g hk => ?_) (p := fun q s e => ?_) (t := ?_))) | (refine zY.in_ [24] rfl ?_; refine zY.ofT rfl (zH.hdT (i := [1003]) (f := out_h H _ ht hw (by assumption)) (r0 := fun s e g hk => ?_) (r1 := fun s e g hk => ?_) (r2 := fun s e g hk => ?_) (p := fun q s e => ?_) (t := ?_))) | (refine zY.in_ [42] rfl ?_; refine zY.ofT rfl (zH.h0 (i := [1003]) (f := on_h H _ (by assumption)) (r := fun g => ?_)))) | (refine zZ.is ?_; first | refine zZ.seq ?_ | (refine zZ.isR (id := 2) ?_; refine zZ.rc [0, 1, 4, 5, 6, 7, 8, 9, 16, 20, 28, 30, 37, 39] [1000, 1001, 1002, 1003, 1004, 1005, 1006] (r := (.v yL (.v xO (.v zU (.v yV (.v qC .e)))))) (h := ?_)) | (refine zZ.isR (id := 3) ?_; refine zZ.rc [0, 1, 4, 5, 6, 7, 8, 9, 16, 20, 28, 30, 37, 39] [1000, 1001, 1002, 1003, 1004, 1005, 1006] (r := (.v yL .e)) (h := ?_)) | (refine zZ.isR (id := 4) ?_; refine zZ.rc [0, 1, 4, 5, 6, 7, 8, 9, 16, 20, 28, 30, 37, 39] [1000, 1001, 1002, 1003, 1004, 1005, 1006] (r := (.v zJ .e)) (h := ?_)) | (refine zZ.isR (id := 5) ?_; refine zZ.rc [0, 1, 4, 5, 6, 7, 8, 9, 16, 20, 28, 30, 37, 39] [1000, 1001, 1002, 1003, 1004, 1005, 1006] (r := (.v yL (.v zJ .e))) (h := ?_)) | (refine zZ.isR (id := 6) ?_; refine zZ.rc [0, 1, 4, 5, 6, 7, 8, 9, 16, 20, 28, 30, 37, 39] [1000, 1001, 1002, 1003, 1004, 1005, 1006] (r := (.v zJ (.v qX .e))) (h := ?_)) | (refine zZ.isR (id := 6) ?_; refine zZ.rc [0, 1, 4, 5, 6, 7, 8, 9, 16, 20, 28, 30, 37, 39] [1000, 1001, 1002, 1003, 1004, 1005, 1006] (r := (.v zJ (.v qD .e))) (h := ?_)) | (refine zZ.isR (id := 7) ?_; refine zZ.rc [0, 1, 4, 5, 6, 7, 8, 9, 16, 20, 28, 30, 37, 39] [1000, 1001, 1002, 1003, 1004, 1005, 1006] (r := (.v zC .e)) (h := ?_)) | (refine zZ.isR (id := 8) ?_; refine zZ.rc [0, 1, 4, 5, 6, 7, 8, 9, 16, 20, 28, 30, 37, 39] [1000, 1001, 1002, 1003, 1004, 1005, 1006] (r := (.v zJ (.v qX .e))) (h := ?_)) | (refine zZ.isR (id := 8) ?_; refine zZ.rc [0, 1, 4, 5, 6, 7, 8, 9, 16, 20, 28, 30, 37, 39] [1000, 1001, 1002, 1003, 1004, 1005, 1006] (r := (.v zJ (.v qD .e))) (h := ?_)) | (refine zZ.isR (id := 9) ?_; refine zZ.rc [0, 1, 4, 5, 6, 7, 8, 9, 16, 20, 28, 30, 37, 39] [1000, 1001, 1002, 1003, 1004, 1005, 1006] (r := (.v vQ (.v zJ .e))) (h := ?_)) | (refine zZ.isR (id := 10) ?_; refine zZ.rc [0, 1, 4, 5, 6, 7, 8, 9, 16, 20, 28, 30, 37, 39] [1000, 1001, 1002, 1003, 1004, 1005, 1006] (r := (.v zJ .e)) (h := ?_)) | (refine zZ.isR (id := 11) ?_; refine zZ.rc [0, 1, 4, 5, 6, 7, 8, 9, 16, 20, 28, 30, 37, 39] [1000, 1001, 1002, 1003, 1004, 1005, 1006] (r := (.v zC .e)) (h := ?_)) | (refine zZ.isR (id := 12) ?_; refine zZ.rc [0, 1, 4, 5, 6, 7, 8, 9, 16, 20, 28, 30, 37, 39] [1000, 1001, 1002, 1003, 1004, 1005, 1006] (r := (.v zJ (.v qX .e))) (h := ?_)) | (refine zZ.isR (id := 13) ?_; refine zZ.rc [0, 1, 4, 5, 6, 7, 8, 9, 16, 20, 28, 30, 37, 39] [1000, 1001, 1002, 1003, 1004, 1005, 1006] (r := (.v yL (.v zJ .e))) (h := ?_)) | refine zZ.yM rfl bA ?_ | refine zZ.yI rfl bA ?_ | refine zZ.cond rfl (fun h => ?_) (fun h => ?_) | refine zZ.skip ?_ | refine zZ.block ?_ | refine zZ.exit ?_ | refine zZ.ret ?_ | refine zZ.goto ?_) | refine zG.n ?_ | refine zG.r ?_ | refine zG.p ?_ | refine yZ.n ?_ | refine yZ.r ?_ | refine yZ.eY ?_ | refine zG.e ?_ | refine yZ.p ?_ | refine zG.g ?_ | refine vE.r ?_ | refine vE.g ?_ | refine yZ.g ?_ | refine vE.p ?_)
            all_goals (first | exact fun e => hns (by clear hns; simp only [yY, tookP, tookR, xV, run_bind, zP, zM, Held.zB, Held.zL, Held.zF, cond_true, cond_false, *]) | exact .pan (q := q) rfl (by repeat' first | exact trivial | rfl | constructor) (by repeat' first | exact trivial | exact ⟨_, rfl, rfl⟩ | constructor) (by simp only [yY, tookP, tookR, xV, run_bind, zP, zM, Held.zB, Held.zL, Held.zF, cond_true, cond_false, *]) | exact .ret (x := ⟨_, _, _, _⟩) (by exact .inl rfl) (by exact .one rfl rfl) (by repeat' first | exact trivial | rfl | constructor) (by simp only [yY, tookP, tookR, xV, run_bind, zP, zM, Held.zB, Held.zL, Held.zF, cond_true, cond_false, *] <;> rfl) | skip)
            · have e1 : (yY t (xV t k) (some (p1, x1))).run H.st s2 = .done (.inl none) s := by
                clear ho hns ho2
                simp only [yY, tookP, tookR, run_bind, zP, zM, Held.zB, cond_true, cond_false, *]
              refine ⟨(m, (p1, x1), s), ?_, ⟨hk, (by rw [run_bind, e1, Held.zB]; rfl)⟩, by dsimp only; omega⟩
              refine yJ (is := [0, 1, 4]) (js := [1000, 1001, 1002, 1003, 1004, 1005, 1006]) ?_ ?_
              repeat' first | exact zX.nil | apply zX.p rfl | apply zX.ptr rfl | apply zX.own rfl | apply zX.clo rfl | apply zX.ifp rfl | apply zX.pt rfl | apply zX.tup rfl | apply zX.skip
              repeat' first | exact zW.nil | apply zW.boxP rfl rfl | apply zW.y7 rfl | (apply zW.at0; exact zI rfl (H.nk _).1 (by repeat' exact KB.refl)) | (apply zW.at1; exact zI rfl (H.nk _).2.1 (by repeat' exact KB.refl)) | (apply zW.at2; exact zI rfl (H.nk _).2.2 (by repeat' exact KB.refl)) | apply zW.some rfl | apply zW.skip
            · have e1 : (yY t (xV t k) (some (p1, x1))).run H.st s2 = .done (endW p1 (xX x)) s := by
                clear ho hns ho2
                simp only [yY, tookP, tookR, run_bind, zP, zM, Held.zB, cond_true, cond_false, *]
              refine ⟨(m, (p1, xX x), s), ?_, ⟨by dsimp only; omega, hk, hp1, wV _, ?_⟩, Nat.lt_succ_self m⟩
              · refine yJ (is := [0, 1, 4]) (js := [1000, 1001, 1002, 1003, 1004, 1005, 1006]) ?_ ?_
                repeat' first | exact zX.nil | apply zX.p rfl | apply zX.ptr rfl | apply zX.own rfl | apply zX.clo rfl | apply zX.ifp rfl | apply zX.pt rfl | apply zX.tup rfl | apply zX.skip
                repeat' first | exact zW.nil | apply zW.boxP rfl rfl | apply zW.y7 rfl | (apply zW.at0; exact zI rfl (H.nk _).1 (by repeat' exact KB.refl)) | (apply zW.at1; exact zI rfl (H.nk _).2.1 (by repeat' exact KB.refl)) | (apply zW.at2; exact zI rfl (H.nk _).2.2 (by repeat' exact KB.refl)) | apply zW.some rfl | apply zW.skip
              · rw [run_bind, e1, Held.zB]
                exact congrArg (fun p => Pr.run H.st p s) (vX t (xV t k) m p1 (xX x)).symm
            · rename_i w s4 e4 g4 hk4 hm4 g5
              have e1 : (yY t (xV t k) (some (p1, x1))).run H.st s2 = .done (endW x1 (xX w)) s := by
                clear ho hns ho2
                simp only [yY, xV, run_bind, zP, zM, Held.zB, cond_true, cond_false, *]
              have hdk := hnk x h
              refine ⟨(m, (x1, xX w), s), ?_, ⟨by dsimp only; omega, hk, hx1, wV _, ?_⟩, Nat.lt_succ_self m⟩
              · rw [hdk]
                refine yJ (is := [0, 1, 4]) (js := [1000, 1001, 1002, 1003, 1004, 1005, 1006]) ?_ ?_
                repeat' first | exact zX.nil | apply zX.p rfl | apply zX.ptr rfl | apply zX.own rfl | apply zX.clo rfl | apply zX.ifp rfl | apply zX.pt rfl | apply zX.tup rfl | apply zX.skip
                repeat' first | exact zW.nil | apply zW.boxP rfl rfl | apply zW.y7 rfl | (apply zW.at0; exact zI rfl (H.nk _).1 (by repeat' exact KB.refl)) | (apply zW.at1; exact zI rfl (H.nk _).2.1 (by repeat' exact KB.refl)) | (apply zW.at2; exact zI rfl (H.nk _).2.2 (by repeat' exact KB.refl)) | apply zW.some rfl | apply zW.skip
              · rw [run_bind, e1, Held.zB]
                exact congrArg (fun p => Pr.run H.st p s) (vX t (xV t k) m x1 (xX w)).symm
theorem search_h (H : Hnd) (s0 : H.σ) {t k : Int} (ht : Small t) : FnH H 28 [H.doA, .p (.val (.int .i64 t)), .p (.val (.int .u64 k))] [] (fun r => .tup ([.val (.int .i64 r.p), .val (.int .i64 r.x), .val (.bool r.is), .val (.bool r.ok)].map .p)) (fun _ => []) FOK s0 (vK t k) := by
  unfold Hnd.doA
  refine wY Tryz.func28 rfl Tryz.ntmps28 (Nat.le_of_ble_eq_true rfl) (by decide) (fine_search t k) fun hok hns => ?_
  repeat' (first | (refine zY.is ?_; first | refine zY.nil ?_ | (refine zY.at_ 10 rfl ?_; refine zY.rc (.m yG (.w yQ .e)) ?_) | (refine zY.at_ 9 rfl ?_; refine zY.rc (.v zC .e) ?_) | (refine zY.in_ [17] rfl ?_; refine zY.ofT rfl (zH.hdB (c := wK.is) (i := [14, 10, 5, 8]) (f := along_h H _ ht) (r0 := fun x s e g hk h => ?_) (r1 := fun x s e g hk h => ?_) (p := fun q s e => ?_) (t := ?_))) | refine zY.buildBx rfl rfl rfl rfl rfl rfl (by decide) (by decide) rfl rfl rfl rfl ?_) | (refine zZ.is ?_; first | refine zZ.seq ?_ | (refine zZ.isR (id := 0) ?_; refine zZ.rc [0, 1, 2] [5, 8, 10, 14, 1000, 1001, 1002] (r := (.m m18_1 (.v zC (.v zC (.m yG (.v zC .e)))))) (h := ?_)) | (refine zZ.isR (id := 1) ?_; refine zZ.rc [0, 1, 5, 6, 7, 8, 9] [5, 8, 10, 14, 1000, 1001, 1002] (r := (.v vQ (.v zJ .e))) (h := ?_)) | (refine zZ.isR (id := 2) ?_; refine zZ.rc [5, 6, 7, 8, 9, 10] [5, 8, 10, 14, 1000, 1001, 1002] (r := (.v v2_12 (.v v14_0 .e))) (h := ?_)) | (refine zZ.isR (id := 3) ?_; refine zZ.rc [6, 7, 8, 9, 10] [5, 8, 10, 14, 1000, 1001, 1002] (r := (.v zJ (.v v52_8 .e))) (h := ?_)) | (refine zZ.isR (id := 4) ?_; refine zZ.rc [6, 7, 8, 9, 10] [5, 8, 10, 14, 1000, 1001, 1002] (r := (.v zC (.v zC (.w yQ (.v zC .e))))) (h := ?_)) | (refine zZ.isR (id := 5) ?_; refine zZ.dc [6, 7, 8, 9, 10] [5, 8, 10, 14, 1000, 1001, 1002] (r := (.v v2_12 (.v xO (.v zU (.v yV (.v v2_12 (.v xO (.v zU (.v yV (.v yV (.v zJ (.gY v2_12 (.gY xO (.gY zU (.gY yV (.gY v42_8 (.v xA (.v zC (.v zC .e))))))))))))))))))) (q := (.w yQ (.v zC .e))) (h := ?_)) | (refine zZ.isR (id := 5) ?_; refine zZ.dc [6, 7, 8, 9, 10] [5, 8, 10, 14, 1000, 1001, 1002] (r := (.v v2_12 (.v xO (.v zU (.v yV (.v v2_12 (.v xO (.v zU (.v yV (.v yV (.v zJ (.gT (.gT (.gT (.gT (.gT (.v xD (.v zC (.v zC .e))))))))))))))))))) (q := (.w yQ (.v zC .e))) (h := ?_)) | refine zZ.cond rfl (fun h => ?_) (fun h => ?_) | refine zZ.skip ?_ | refine zZ.ret ?_) | refine zG.n ?_ | refine zG.r ?_ | refine zG.p ?_ | (refine zS.nil ?_))
  all_goals try
    rename_i his
    obtain ⟨p, y, is, ok⟩ := x
    obtain rfl : is = _ := his
  all_goals try
    have hok2 : ok = false := by simpa using h
    subst hok2
    exact .ret (x := ⟨0, 0, false, false⟩) (.inl rfl) (.tup rfl (by decide) (.cons (.tmp rfl) (.cons (.tmp rfl) (.cons (.cell1 rfl rfl rfl) (.cons (.tmp rfl) .nil))))) (by repeat' first | exact trivial | rfl | constructor) (by simp only [vK, run_bind, e, Held.zB, cond_false, zP])
  all_goals try
    have hok2 : ok = true := by simpa using h
    subst hok2
    first
      | exact .ret (x := ⟨p, y, false, true⟩) (.inl rfl) (.tup rfl (by decide) (.cons (.tmp rfl) (.cons (.tmp rfl) (.cons (.cell1 rfl rfl rfl) (.cons (.tmp rfl) .nil))))) (by repeat' first | exact trivial | rfl | constructor) (by simp only [vK, run_bind, e, Held.zB, cond_true, zP])
      | (have hy : (!decide (y = 0)) = true := by
           have : 1 ≤ y := g.n rfl
           rw [decide_eq_false (by omega)]
           rfl
         refine .ret (x := ⟨p, y, true, true⟩) (.inl rfl) (.tup rfl (by decide) (.cons (.tmp rfl) (.cons (.tmp rfl) (.cons (.cell1 rfl rfl (by rw [← hy]; rfl)) (.cons (.tmp rfl) .nil))))) (by repeat' first | exact trivial | rfl | constructor) (by simp only [vK, run_bind, e, Held.zB, cond_true, zP]))
  all_goals (first | exact fun e => hns (by clear hns; simp only [vK, run_bind, zP, zM, Held.zB, Held.zL, Held.zF, cond_true, cond_false, *]) | exact .pan (q := q) rfl (by repeat' first | exact trivial | rfl | constructor) (by repeat' exact trivial) (by simp only [vK, run_bind, zP, zM, Held.zB, Held.zL, Held.zF, cond_true, cond_false, *]))
end Go.Proofs.YtohlllohmoojiaaGreatDoor
/- Sweeps: the program's, whatever makes its accesses: contracts. -/
namespace Go.Proofs.YtohlllohmoojiaaGreatDoor
set_option maxRecDepth 100000
set_option maxHeartbeats 16000000
open Go Go.RowKit
set_option linter.unusedSimpArgs false
set_option linter.unusedVariables false
attribute [local irreducible] zY zZ Step zK Sub zS zH Fn zG yZ vE
theorem ksplit_fn (k : Int) (h0 : 0 ≤ k) (h1 : k < 18446744073709551616) : Fn Tryz.prog 88 [.val (.int .u64 k)] (.tup [.val (.int .i64 (k / 2147483648)), .val (.int .i64 (k % 2147483648 - 1))]) := by
  have g1 : bits .and .u64 k 2147483647 = k % 2147483648 := andLow k 31 (by decide) h0 h1
  have g2 : IntKind.i64.wrap (k / 2147483648) = k / 2147483648 := wrap_i64 _ (by omega)
  have g3 : IntKind.i64.wrap (k % 2147483648) = k % 2147483648 := wrap_i64 _ (by omega)
  have g4 : IntKind.i64.wrap (k % 2147483648 - 1) = k % 2147483648 - 1 := wrap_i64 _ (by omega)
  refine wW Tryz.func88 rfl Tryz.ntmps88 (Nat.le_of_ble_eq_true rfl) ?_
  repeat' (first | (refine zY.nil ?_) | (refine zZ.is ?_; first | refine zZ.seq ?_ | (refine zZ.isR (id := 0) ?_; refine zZ.rc [0] [] (r := (.v zC (.v zC .e))) (h := ?_)) | (refine zZ.isR (id := 1) ?_; refine zZ.rc [0, 2, 3] [] (r := (.v zJ (.v v39_1 (.v v6_0 (.v zJ (.v v35_0 (.v v6_0 (.v v31_0 (.v zC (.v zC .e)))))))))) (h := ?_)) | refine zZ.ret ?_) | refine zG.n ?_)
  all_goals exact ⟨.inl rfl, givesT (ts := [2, 3]) rfl (by decide) rfl⟩
theorem sweep1_h (H : Hnd) (s0 : H.σ) {t p x k w : Int} (ht : Small t) (hW : WOK p x) (hw : U w) (he : decide (w % 2 = 1) = false) : FnH H 87 [.p (.val (.int .u64 w)), .ptr 1004 0, .ptr 1005 0, .ptr 1006 0, .ptr 1007 0] [vB H t p x, ptrB 1003, keyB k, doB H, vO t] (fun b => .tup ([.val (.bool false), .val (.bool b)].map .p)) (fun _ => [vB H t p x, ptrB 1003, keyB k, doB H, vO t]) yes s0 (sweepIn t k x w) := by
  have hxr := hW.x.rc ht
  have hxx := hW.x
  have F1 := fun y : Int => (decide_eq_decide.2 (by omega) : decide (y % 2147483648 - 1 < 0) = decide (y % 2147483648 = 0))
  unfold ptrB keyB doB vO vB Hnd.doA
  refine wY Tryz.func87 rfl Tryz.ntmps87 (Nat.le_of_ble_eq_true rfl) (by decide) (fine_sweepIn t k x w hw he) fun hok hns => ?_
  repeat' (first | (refine zY.is ?_; first | refine zY.nil ?_ | (refine zY.at_ 10 rfl ?_; refine zY.rc (.v zC .e) ?_) | (refine zY.at_ 11 rfl ?_; refine zY.rc (.v zC .e) ?_) | (refine zY.at_ 12 rfl ?_; refine zY.rc (.v v0_4 (.v y9 (.v y9 (.v zC (.v zC .e))))) ?_) | (refine zY.at_ 28 rfl ?_; refine zY.rc (.gY zJ (.gY yV (.gY v42_8 (.v xA .e)))) ?_) | (refine zY.at_ 28 rfl ?_; refine zY.rc (.gT (.gT (.gT (.v xD .e)))) ?_) | (refine zY.in_ [15] rfl ?_; refine zY.v rfl rfl (xJ (ksplit_fn _ (U.lo (by assumption)) (U.hi (by assumption))) rfl rfl rfl (by decide)) ?_) | (refine zY.in_ [14, 21, 23] rfl ?_; refine zY.ofT rfl (zH.hd (i := [1003]) (f := field_h H _ hxr (by decide)) (r := fun x s e g hk => ?_) (p := fun q s e => ?_) (t := ?_))) | (fail_if_success refine zY.known rfl rfl rfl (by fail) ?_); refine zY.split rfl rfl rfl (fun h => ?_) (fun h => ?_)) | (refine zZ.is ?_; first | refine zZ.seq ?_ | (refine zZ.isR (id := 0) ?_; refine zZ.rc [0, 1, 2, 3, 4] [1000, 1001, 1002, 1003, 1004, 1005, 1006, 1007] (r := (.v zC (.v zC .e))) (h := ?_)) | (refine zZ.isR (id := 1) ?_; refine zZ.rc [0, 1, 2, 3, 4, 6, 7] [1000, 1001, 1002, 1003, 1004, 1005, 1006, 1007] (r := (.v v2_12 .e)) (h := ?_)) | (refine zZ.isR (id := 2) ?_; refine zZ.rc [0, 1, 2, 3, 4, 6, 7, 9] [1000, 1001, 1002, 1003, 1004, 1005, 1006, 1007] (r := (.v zJ (.v v43_1 .e))) (h := ?_)) | (refine zZ.isR (id := 3) ?_; refine zZ.rc [0, 1, 2, 3, 4, 6, 7] [1000, 1001, 1002, 1003, 1004, 1005, 1006, 1007] (r := (.v zC (.v zC .e))) (h := ?_)) | (refine zZ.isR (id := 4) ?_; refine zZ.rc [0, 1, 2, 3, 4, 6, 7] [1000, 1001, 1002, 1003, 1004, 1005, 1006, 1007] (r := (.v v2_12 .e)) (h := ?_)) | (refine zZ.isR (id := 5) ?_; refine zZ.rc [0, 1, 2, 3, 4, 6, 7, 10] [1000, 1001, 1002, 1003, 1004, 1005, 1006, 1007] (r := (.v v2_12 .e)) (h := ?_)) | (refine zZ.isR (id := 6) ?_; refine zZ.rc [0, 1, 2, 3, 4, 6, 7, 10, 11] [1000, 1001, 1002, 1003, 1004, 1005, 1006, 1007] (r := (.v zJ (.v yV (.v v42_8 (.v zJ .e))))) (h := ?_)) | (refine zZ.isR (id := 7) ?_; refine zZ.rc [0, 1, 3, 4, 6, 7] [1000, 1001, 1002, 1003, 1004, 1005, 1006, 1007] (r := (.v zC (.v zC .e))) (h := ?_)) | (refine zZ.isR (id := 8) ?_; refine zZ.rk [0, 1, 3, 4, 6, 7] [1000, 1001, 1002, 1003, 1004, 1005, 1006, 1007] ?_; refine zZ.draws ?_) | (refine zZ.isR (id := 9) ?_; refine zZ.rk [1, 3, 4, 6, 7] [1000, 1001, 1002, 1003, 1004, 1005, 1006, 1007] ?_; refine zZ.draws ?_) | (refine zZ.isR (id := 10) ?_; refine zZ.rc [6, 7] [1000, 1001, 1002, 1003, 1004, 1005, 1006, 1007] (r := (.v zC (.v zC .e))) (h := ?_)) | refine zZ.yI rfl bA ?_ | refine zZ.cond rfl (fun h => ?_) (fun h => ?_) | refine zZ.skip ?_ | refine zZ.ret ?_) | refine zG.n ?_ | refine zG.r ?_ | refine zG.p ?_ | (refine Draws.is ?_; first | refine Draws.rc (.v v2_13 (.v yV (.v v2_12 (.v xO (.v zU (.v yV (.v zJ .e))))))) ?_ | refine Draws.rc (.v v2_13 (.v yV (.v v2_12 (.v xO (.v zU (.v yV .e)))))) ?_ | refine Draws.done (by kernel_rfl) (by kernel_rfl) (by kernel_rfl) ?_) | (refine zS.is ?_; first | refine zS.nil ?_ | (refine zS.in_ [39] rfl ?_; refine zS.ofT rfl (zH.hd (i := []) (f := mark_h H _ ht hxx hw he) (r := fun x s e g hk => ?_) (p := fun q s e => ?_) (t := ?_))) | (refine zS.in_ [46] rfl ?_; refine zS.ofT rfl (zH.hd (i := []) (f := setOp_h H _ hxr (.inr rfl)) (r := fun x s e g hk => ?_) (p := fun q s e => ?_) (t := ?_)))))
  all_goals (first | exact fun e => hns (by clear hns; simp only [sweepIn, Bool.true_and, Bool.false_and, run_bind, zP, zM, Held.zB, Held.zL, Held.zF, cond_true, cond_false, *]) | exact .pan (q := q) rfl (by repeat' first | exact trivial | rfl | constructor) (by repeat' first | exact trivial | exact ⟨_, rfl, rfl⟩ | constructor) (by simp only [sweepIn, Bool.true_and, Bool.false_and, run_bind, zP, zM, Held.zB, Held.zL, Held.zF, cond_true, cond_false, *]) | exact .ret (x := _) (by exact .inl rfl) (by exact .tup rfl (by decide) (.cons (.tmp rfl) (.cons (.tmp rfl) .nil))) (by repeat' first | exact trivial | rfl | constructor) (by simp only [sweepIn, Bool.true_and, Bool.false_and, run_bind, zP, zM, Held.zB, Held.zL, Held.zF, cond_true, cond_false, *] <;> rfl))
def alongG (H : Hnd) (t k p x : Int) (s : H.σ) : AS :=
  { t := [(0, .ptr 1003 0), (1, .clo 87 [1004, 1005, 1006, 1007]), (4, .p (.val (.bool false)))], s := [(1000, H.b0 s), (1001, H.b1 s), (1002, H.b2 s), (1003, vB H t p x), (1004, ptrB 1003), (1005, keyB k), (1006, doB H), (1007, vO t)] }
theorem alongS_h (H : Hnd) (s0 : H.σ) {t k : Int} (ht : Small t) : FnH H 75 [.ptr 1003 0, .clo 87 [1004, 1005, 1006, 1007]] [vB H t 0 0, ptrB 1003, keyB k, doB H, vO t] (fun r => .p (.val (.bool r.ok))) (fun r => [vB H t r.p r.x, ptrB 1003, keyB k, doB H, vO t]) FOK s0 (sweepL t k) := by
  refine wY Tryz.func75 rfl Tryz.ntmps75 (Nat.le_of_ble_eq_true rfl) (by decide) (fine_sweepL t k) fun hok hns => ?_
  repeat' (first | (refine zY.nil ?_) | (refine zZ.is ?_; first | refine zZ.seq ?_ | (refine zZ.isR (id := 0) ?_; refine zZ.rc [0, 1] [1000, 1001, 1002, 1003, 1004, 1005, 1006, 1007] (r := (.v zC .e)) (h := ?_))) | refine zG.n ?_)
  refine zZ.scopeL 0 (fun q : Nat × (Int × Int) × H.σ => alongG H t k q.2.1.1 q.2.1.2 q.2.2) (fun q => H.ok q.2.2 ∧ (Pr.loop (yY t (xB t k)) q.1 none).run H.st q.2.2 = (sweepL t k).run H.st s0) (fun q => q.1) (many, (0, 0), s0) ?h0 ⟨hok, rfl⟩ ?rd
  case h0 =>
    refine yJ (is := [0, 1, 4]) (js := [1000, 1001, 1002, 1003, 1004, 1005, 1006, 1007]) ?_ ?_
    repeat' first | exact zX.nil | apply zX.p rfl | apply zX.ptr rfl | apply zX.own rfl | apply zX.clo rfl | apply zX.ifp rfl | apply zX.pt rfl | apply zX.tup rfl | apply zX.skip
    repeat' first | exact zW.nil | apply zW.boxP rfl rfl | apply zW.y7 rfl | (apply zW.at0; exact zI rfl (H.nk _).1 (by repeat' exact KB.refl)) | (apply zW.at1; exact zI rfl (H.nk _).2.1 (by repeat' exact KB.refl)) | (apply zW.at2; exact zI rfl (H.nk _).2.2 (by repeat' exact KB.refl)) | apply zW.some rfl | apply zW.skip
  case rd =>
    rintro ⟨n, ⟨p, x⟩, s1⟩ ⟨hok1, ho⟩
    dsimp only at hok1 ho ⊢
    rw [← ho] at hns ⊢
    unfold alongG
    cases n with
    | zero => exact absurd rfl hns
    | succ n =>
      rw [loop_elim] at ho hns ⊢
      repeat' (first | (refine zY.is ?_; first | refine zY.nil ?_ | (refine zY.in_ [11] rfl ?_; refine zY.ofT rfl (zH.hd (i := [1003]) (f := start_h H _ ht) (r := fun x s e g hk => ?_) (p := fun q s e => ?_) (t := ?_)))) | (refine zZ.is ?_; first | refine zZ.seq ?_ | (refine zZ.isR (id := 1) ?_; refine zZ.rc [0, 1, 4] [1000, 1001, 1002, 1003, 1004, 1005, 1006, 1007] (r := (.v yL .e)) (h := ?_)) | refine zZ.block ?_) | refine zG.n ?_ | refine zG.p ?_ | refine vE.p ?_)
      all_goals (first | exact fun e => hns (by clear hns; simp only [yY, run_bind, zP, zM, Held.zB, Held.zL, Held.zF, cond_true, cond_false, *]) | exact .pan (q := q) rfl (by repeat' first | exact trivial | rfl | constructor) (by repeat' first | exact trivial | exact ⟨_, rfl, rfl⟩ | constructor) (by simp only [yY, run_bind, zP, zM, Held.zB, Held.zL, Held.zF, cond_true, cond_false, *]) | skip)
      have e1 : (yY t (xB t k) none).run H.st s1 = .done (endW 0 (xX x)) s := by
        clear ho hns
        simp only [yY, run_bind, zP, Held.zB, *]
      rw [run_bind, e1, Held.zB, vX] at ho hns ⊢
      refine zZ.loop (fun q : Nat × (Int × Int) × H.σ => alongG H t k q.2.1.1 q.2.1.2 q.2.2) (fun q => q.1 ≤ n ∧ H.ok q.2.2 ∧ Rf q.2.1.1 ∧ Rf q.2.1.2 ∧ (contL t (xB t k) q.1 q.2.1.1 q.2.1.2).run H.st q.2.2 = (contL t (xB t k) n 0 (xX x)).run H.st s) (fun q => q.1) (n, (0, xX x), s) ?h0 ⟨Nat.le_refl _, hk, rf_0, wV _, rfl⟩ ?rd
      case h0 =>
        refine yJ (is := [0, 1, 4]) (js := [1000, 1001, 1002, 1003, 1004, 1005, 1006, 1007]) ?_ ?_
        repeat' first | exact zX.nil | apply zX.p rfl | apply zX.ptr rfl | apply zX.own rfl | apply zX.clo rfl | apply zX.ifp rfl | apply zX.pt rfl | apply zX.tup rfl | apply zX.skip
        repeat' first | exact zW.nil | apply zW.boxP rfl rfl | apply zW.y7 rfl | (apply zW.at0; exact zI rfl (H.nk _).1 (by repeat' exact KB.refl)) | (apply zW.at1; exact zI rfl (H.nk _).2.1 (by repeat' exact KB.refl)) | (apply zW.at2; exact zI rfl (H.nk _).2.2 (by repeat' exact KB.refl)) | apply zW.some rfl | apply zW.skip
      case rd =>
        rintro ⟨m, ⟨p1, x1⟩, s2⟩ ⟨hmn, hok2, hp1, hx1, ho2⟩
        dsimp only at hmn hok2 hp1 hx1 ho2 ⊢
        clear e1 e hk
        rw [← ho2] at ho hns ⊢
        unfold alongG
        unfold contL at ho hns ⊢
        cases hz : decide (x1 = 0)
        case true =>
          rw [hz] at ho hns
          obtain rfl : x1 = 0 := of_decide_eq_true hz
          have hz' : (!decide ((0 : Int) = 0)) = false := rfl
          repeat' (first | (refine zY.nil ?_) | (refine zZ.is ?_; first | refine zZ.seq ?_ | (refine zZ.isR (id := 2) ?_; refine zZ.rc [0, 1, 4, 5, 6, 7, 8, 9, 16, 20, 28, 30, 37, 39] [1000, 1001, 1002, 1003, 1004, 1005, 1006, 1007] (r := (.v yL (.v xO (.v zU (.v yV (.v qC .e)))))) (h := ?_)) | (refine zZ.isR (id := 14) ?_; refine zZ.rc [4] [1000, 1001, 1002, 1003, 1004, 1005, 1006, 1007] (r := (.v zC .e)) (h := ?_)) | refine zZ.yI rfl bA ?_ | refine zZ.exit ?_ | refine zZ.ret ?_) | refine zG.n ?_ | refine yZ.eY ?_ | refine zG.e ?_ | refine vE.r ?_)
          all_goals (exact .ret (x := ⟨_, _, _, _⟩) (by exact .inl rfl) (by exact .one rfl rfl) (by repeat' first | exact trivial | rfl | constructor) (by simp only [run_bind, zP, zM, Held.zB, Held.zL, Held.zF, cond_true, cond_false, *] <;> rfl))
        case false =>
          rw [hz] at ho hns
          have hz' : (!decide (x1 = 0)) = true := by rw [hz]; rfl
          have hxr := hx1.rc ht
          have hw : WOK p1 x1 := ⟨hp1, hx1, hz⟩
          rw [cond_false] at ho hns ⊢
          cases m with
          | zero => exact absurd rfl hns
          | succ m =>
            rw [loop_elim] at ho hns ⊢
            repeat' (first | (refine zY.is ?_; first | refine zY.nil ?_ | (refine zY.at_ 21 rfl ?_; refine zY.rc (.v v0_4 (.v y9 (.v y9 (.v zC (.v zC .e))))) ?_) | (refine zY.at_ 31 rfl ?_; refine zY.rc (.v v0_4 (.v y9 (.v y9 (.v zC (.v zC .e))))) ?_) | (refine zY.at_ 5 rfl ?_; refine zY.rc (.v zC .e) ?_) | (refine zY.in_ [20] rfl ?_; refine zY.v rfl rfl (zO (mark_fn _ (U.lo (by assumption)) (U.hi (by assumption))) rfl rfl rfl (by decide)) ?_) | (refine zY.in_ [18] rfl ?_; refine zY.ofT rfl (zH.hd (i := [1003]) (f := field_h H _ hxr (by decide)) (r := fun x s e g hk => ?_) (p := fun q s e => ?_) (t := ?_))) | (refine zY.in_ [34] rfl ?_; refine zY.ofT rfl (zH.hd (i := [1003, 1004, 1005, 1006, 1007]) (f := sweep1_h H _ ht hw (by assumption) (by assumption)) (r := fun x s e g hk => ?_) (p := fun q s e => ?_) (t := ?_))) | (refine zY.in_ [24] rfl ?_; refine zY.ofT rfl (zH.hdT (i := [1003]) (f := out_h H _ ht hw (by assumption)) (r0 := fun s e g hk => ?_) (r1 := fun s e g hk => ?_) (r2 := fun s e g hk => ?_) (p := fun q s e => ?_) (t := ?_))) | (refine zY.in_ [42] rfl ?_; refine zY.ofT rfl (zH.h0 (i := [1003]) (f := on_h H _ (by assumption)) (r := fun g => ?_)))) | (refine zZ.is ?_; first | refine zZ.seq ?_ | (refine zZ.isR (id := 2) ?_; refine zZ.rc [0, 1, 4, 5, 6, 7, 8, 9, 16, 20, 28, 30, 37, 39] [1000, 1001, 1002, 1003, 1004, 1005, 1006, 1007] (r := (.v yL (.v xO (.v zU (.v yV (.v qC .e)))))) (h := ?_)) | (refine zZ.isR (id := 3) ?_; refine zZ.rc [0, 1, 4, 5, 6, 7, 8, 9, 16, 20, 28, 30, 37, 39] [1000, 1001, 1002, 1003, 1004, 1005, 1006, 1007] (r := (.v yL .e)) (h := ?_)) | (refine zZ.isR (id := 4) ?_; refine zZ.rc [0, 1, 4, 5, 6, 7, 8, 9, 16, 20, 28, 30, 37, 39] [1000, 1001, 1002, 1003, 1004, 1005, 1006, 1007] (r := (.v zJ .e)) (h := ?_)) | (refine zZ.isR (id := 5) ?_; refine zZ.rc [0, 1, 4, 5, 6, 7, 8, 9, 16, 20, 28, 30, 37, 39] [1000, 1001, 1002, 1003, 1004, 1005, 1006, 1007] (r := (.v yL (.v zJ .e))) (h := ?_)) | (refine zZ.isR (id := 6) ?_; refine zZ.rc [0, 1, 4, 5, 6, 7, 8, 9, 16, 20, 28, 30, 37, 39] [1000, 1001, 1002, 1003, 1004, 1005, 1006, 1007] (r := (.v zJ (.v qX .e))) (h := ?_)) | (refine zZ.isR (id := 6) ?_; refine zZ.rc [0, 1, 4, 5, 6, 7, 8, 9, 16, 20, 28, 30, 37, 39] [1000, 1001, 1002, 1003, 1004, 1005, 1006, 1007] (r := (.v zJ (.v qD .e))) (h := ?_)) | (refine zZ.isR (id := 7) ?_; refine zZ.rc [0, 1, 4, 5, 6, 7, 8, 9, 16, 20, 28, 30, 37, 39] [1000, 1001, 1002, 1003, 1004, 1005, 1006, 1007] (r := (.v zC .e)) (h := ?_)) | (refine zZ.isR (id := 8) ?_; refine zZ.rc [0, 1, 4, 5, 6, 7, 8, 9, 16, 20, 28, 30, 37, 39] [1000, 1001, 1002, 1003, 1004, 1005, 1006, 1007] (r := (.v zJ (.v qX .e))) (h := ?_)) | (refine zZ.isR (id := 8) ?_; refine zZ.rc [0, 1, 4, 5, 6, 7, 8, 9, 16, 20, 28, 30, 37, 39] [1000, 1001, 1002, 1003, 1004, 1005, 1006, 1007] (r := (.v zJ (.v qD .e))) (h := ?_)) | (refine zZ.isR (id := 9) ?_; refine zZ.rc [0, 1, 4, 5, 6, 7, 8, 9, 16, 20, 28, 30, 37, 39] [1000, 1001, 1002, 1003, 1004, 1005, 1006, 1007] (r := (.v vQ (.v zJ .e))) (h := ?_)) | (refine zZ.isR (id := 10) ?_; refine zZ.rc [0, 1, 4, 5, 6, 7, 8, 9, 16, 20, 28, 30, 37, 39] [1000, 1001, 1002, 1003, 1004, 1005, 1006, 1007] (r := (.v zJ .e)) (h := ?_)) | (refine zZ.isR (id := 12) ?_; refine zZ.rc [0, 1, 4, 5, 6, 7, 8, 9, 16, 20, 28, 30, 37, 39] [1000, 1001, 1002, 1003, 1004, 1005, 1006, 1007] (r := (.v zJ (.v v52_8 .e))) (h := ?_)) | (refine zZ.isR (id := 13) ?_; refine zZ.rc [0, 1, 4, 5, 6, 7, 8, 9, 16, 20, 28, 30, 37, 39] [1000, 1001, 1002, 1003, 1004, 1005, 1006, 1007] (r := (.v yL (.v zJ .e))) (h := ?_)) | refine zZ.yM rfl bA ?_ | refine zZ.yI rfl bA ?_ | refine zZ.cond rfl (fun h => ?_) (fun h => ?_) | refine zZ.skip ?_ | refine zZ.block ?_ | refine zZ.exit ?_ | refine zZ.ret ?_ | refine zZ.goto ?_) | refine zG.n ?_ | refine zG.r ?_ | refine zG.p ?_ | refine yZ.n ?_ | refine yZ.r ?_ | refine yZ.eY ?_ | refine zG.e ?_ | refine yZ.p ?_ | refine zG.g ?_ | refine vE.r ?_ | refine vE.g ?_ | refine yZ.g ?_ | refine vE.p ?_)
            all_goals (first | exact fun e => hns (by clear hns; simp only [yY, tookP, tookR, xB, run_bind, zP, zM, Held.zB, Held.zL, Held.zF, cond_true, cond_false, *]) | exact .pan (q := q) rfl (by repeat' first | exact trivial | rfl | constructor) (by repeat' first | exact trivial | exact ⟨_, rfl, rfl⟩ | constructor) (by simp only [yY, tookP, tookR, xB, run_bind, zP, zM, Held.zB, Held.zL, Held.zF, cond_true, cond_false, *]) | exact .ret (x := ⟨_, _, _, _⟩) (by exact .inl rfl) (by exact .one rfl rfl) (by repeat' first | exact trivial | rfl | constructor) (by simp only [yY, tookP, tookR, xB, run_bind, zP, zM, Held.zB, Held.zL, Held.zF, cond_true, cond_false, *] <;> rfl) | skip)
            · have e1 : (yY t (xB t k) (some (p1, x1))).run H.st s2 = .done (.inl none) s := by
                clear ho hns ho2
                simp only [yY, tookP, tookR, run_bind, zP, zM, Held.zB, cond_true, cond_false, *]
              refine ⟨(m, (p1, x1), s), ?_, ⟨hk, (by rw [run_bind, e1, Held.zB]; rfl)⟩, by dsimp only; omega⟩
              refine yJ (is := [0, 1, 4]) (js := [1000, 1001, 1002, 1003, 1004, 1005, 1006, 1007]) ?_ ?_
              repeat' first | exact zX.nil | apply zX.p rfl | apply zX.ptr rfl | apply zX.own rfl | apply zX.clo rfl | apply zX.ifp rfl | apply zX.pt rfl | apply zX.tup rfl | apply zX.skip
              repeat' first | exact zW.nil | apply zW.boxP rfl rfl | apply zW.y7 rfl | (apply zW.at0; exact zI rfl (H.nk _).1 (by repeat' exact KB.refl)) | (apply zW.at1; exact zI rfl (H.nk _).2.1 (by repeat' exact KB.refl)) | (apply zW.at2; exact zI rfl (H.nk _).2.2 (by repeat' exact KB.refl)) | apply zW.some rfl | apply zW.skip
            · have e1 : (yY t (xB t k) (some (p1, x1))).run H.st s2 = .done (endW p1 (xX x)) s := by
                clear ho hns ho2
                simp only [yY, tookP, tookR, run_bind, zP, zM, Held.zB, cond_true, cond_false, *]
              refine ⟨(m, (p1, xX x), s), ?_, ⟨by dsimp only; omega, hk, hp1, wV _, ?_⟩, Nat.lt_succ_self m⟩
              · refine yJ (is := [0, 1, 4]) (js := [1000, 1001, 1002, 1003, 1004, 1005, 1006, 1007]) ?_ ?_
                repeat' first | exact zX.nil | apply zX.p rfl | apply zX.ptr rfl | apply zX.own rfl | apply zX.clo rfl | apply zX.ifp rfl | apply zX.pt rfl | apply zX.tup rfl | apply zX.skip
                repeat' first | exact zW.nil | apply zW.boxP rfl rfl | apply zW.y7 rfl | (apply zW.at0; exact zI rfl (H.nk _).1 (by repeat' exact KB.refl)) | (apply zW.at1; exact zI rfl (H.nk _).2.1 (by repeat' exact KB.refl)) | (apply zW.at2; exact zI rfl (H.nk _).2.2 (by repeat' exact KB.refl)) | apply zW.some rfl | apply zW.skip
              · rw [run_bind, e1, Held.zB]
                exact congrArg (fun p => Pr.run H.st p s) (vX t (xB t k) m p1 (xX x)).symm
            · rename_i w s4 e4 g4 hk4 hm4 g5
              have hx : x = false := by simpa using h
              have e1 : (yY t (xB t k) (some (p1, x1))).run H.st s2 = .done (endW x1 (xX w)) s := by
                clear ho hns ho2
                simp only [yY, xB, run_bind, zP, zM, Held.zB, cond_true, cond_false, *]
              refine ⟨(m, (x1, xX w), s), ?_, ⟨by dsimp only; omega, hk, hx1, wV _, ?_⟩, Nat.lt_succ_self m⟩
              · refine yJ (is := [0, 1, 4]) (js := [1000, 1001, 1002, 1003, 1004, 1005, 1006, 1007]) ?_ ?_
                repeat' first | exact zX.nil | apply zX.p rfl | apply zX.ptr rfl | apply zX.own rfl | apply zX.clo rfl | apply zX.ifp rfl | apply zX.pt rfl | apply zX.tup rfl | apply zX.skip
                repeat' first | exact zW.nil | apply zW.boxP rfl rfl | apply zW.y7 rfl | (apply zW.at0; exact zI rfl (H.nk _).1 (by repeat' exact KB.refl)) | (apply zW.at1; exact zI rfl (H.nk _).2.1 (by repeat' exact KB.refl)) | (apply zW.at2; exact zI rfl (H.nk _).2.2 (by repeat' exact KB.refl)) | apply zW.some rfl | apply zW.skip
              · rw [run_bind, e1, Held.zB]
                exact congrArg (fun p => Pr.run H.st p s) (vX t (xB t k) m x1 (xX w)).symm
            · have hx : x = true := by simpa using h
              have e1 : (yY t (xB t k) (some (p1, x1))).run H.st s2 = .done (.inl (some (p1, x1))) s := by
                clear ho hns ho2
                simp only [yY, xB, run_bind, zP, zM, Held.zB, cond_true, cond_false, *]
              refine ⟨(m, (p1, x1), s), ?_, ⟨by dsimp only; omega, hk, hp1, hx1, ?_⟩, Nat.lt_succ_self m⟩
              · refine yJ (is := [0, 1, 4]) (js := [1000, 1001, 1002, 1003, 1004, 1005, 1006, 1007]) ?_ ?_
                repeat' first | exact zX.nil | apply zX.p rfl | apply zX.ptr rfl | apply zX.own rfl | apply zX.clo rfl | apply zX.ifp rfl | apply zX.pt rfl | apply zX.tup rfl | apply zX.skip
                repeat' first | exact zW.nil | apply zW.boxP rfl rfl | apply zW.y7 rfl | (apply zW.at0; exact zI rfl (H.nk _).1 (by repeat' exact KB.refl)) | (apply zW.at1; exact zI rfl (H.nk _).2.1 (by repeat' exact KB.refl)) | (apply zW.at2; exact zI rfl (H.nk _).2.2 (by repeat' exact KB.refl)) | apply zW.some rfl | apply zW.skip
              · rw [run_bind, e1, Held.zB]
                dsimp only
                rw [hz]
                rfl
theorem sweep_h (H : Hnd) (s0 : H.σ) {t k : Int} (ht : Small t) : FnH H 32 [H.doA, .p (.val (.int .i64 t)), .p (.val (.int .u64 k))] [] (fun r => .p (.val (.bool r))) (fun _ => []) yes s0 (sweepP t k) := by
  unfold Hnd.doA
  refine wY Tryz.func32 rfl Tryz.ntmps32 (Nat.le_of_ble_eq_true rfl) (by decide) (fine_sweep t k) fun hok hns => ?_
  repeat' (first | (refine zY.is ?_; first | refine zY.nil ?_ | (refine zY.at_ 6 rfl ?_; refine zY.rc (.v zC .e) ?_) | (refine zY.at_ 7 rfl ?_; refine zY.rc (.m yG (.w yQ .e)) ?_) | (refine zY.in_ [14] rfl ?_; refine zY.ofT rfl (zH.hd (i := [11, 7, 5, 3, 4]) (f := alongS_h H _ ht) (r := fun x s e g hk => ?_) (p := fun q s e => ?_) (t := ?_))) | refine zY.buildBx rfl rfl rfl rfl rfl rfl (by decide) (by decide) rfl rfl rfl rfl ?_) | (refine zZ.is ?_; first | refine zZ.seq ?_ | (refine zZ.isR (id := 0) ?_; refine zZ.rc [0, 1, 2] [3, 4, 5, 7, 11, 1000, 1001, 1002] (r := (.m m18_3 (.m m18_1 (.m m18_1 (.v zC .e))))) (h := ?_)) | (refine zZ.isR (id := 1) ?_; refine zZ.rc [3, 4, 5, 6] [3, 4, 5, 7, 11, 1000, 1001, 1002] (r := (.v v2_13 (.v yV .e))) (h := ?_)) | (refine zZ.isR (id := 2) ?_; refine zZ.rc [3, 4, 5, 6, 7] [3, 4, 5, 7, 11, 1000, 1001, 1002] (r := (.v v2_12 (.v v14_0 .e))) (h := ?_)) | refine zZ.ret ?_) | refine zG.n ?_ | refine zG.p ?_)
  all_goals (first | exact fun e => hns (by clear hns; simp only [sweepP, run_bind, zP, zM, Held.zB, Held.zL, Held.zF, cond_true, cond_false, *]) | exact .pan (q := q) rfl (by repeat' first | exact trivial | rfl | constructor) (by repeat' exact trivial) (by simp only [sweepP, run_bind, zP, zM, Held.zB, Held.zL, Held.zF, cond_true, cond_false, *]) | exact .ret (by exact .inl rfl) (by exact .one rfl rfl) (by repeat' first | exact trivial | rfl | constructor) (by simp only [sweepP, run_bind, zP, zM, Held.zB, Held.zL, Held.zF, cond_true, cond_false, *] <;> rfl))
end Go.Proofs.YtohlllohmoojiaaGreatDoor
/- An array's literal. Generic over the program. -/
namespace Go.Proofs.YtohlllohmoojiaaGreatDoor
set_option maxRecDepth 100000
set_option maxHeartbeats 16000000
open Go Go.RowKit
section
variable {P : Program} {n : Nat} {o : Oper} {S : AS} {d : Nat} {t : TypeId}
end
end Go.Proofs.YtohlllohmoojiaaGreatDoor
/- Functions with one deferred call; the deferred function, that may recover. Generic over the program. -/
namespace Go.Proofs.YtohlllohmoojiaaGreatDoor
set_option maxRecDepth 100000
set_option maxHeartbeats 16000000
open Go Go.RowKit
section
variable {P : Program} {M : Nat → Nat → Prop} {n : Nat} {h : Home} {w : World} {S : AS} {ρ : Nat → Value} {a : Act}
theorem wQ.defer (hb : wQ h w) (D : List Deferred) : wQ { h with d := D } w := ⟨hb.os, hb.tape, hb.output, hb.size, hb.block⟩
theorem wQ.undefer {D : List Deferred} (hb : wQ { h with d := D } w) : wQ h w := ⟨hb.os, hb.tape, hb.output, hb.size, hb.block⟩
theorem Sat.frame {B : List Blk} (hs : Sat M 0 h (Proofs.YtohlllohmoojiaaGreatDoor.asB B) ρ w9 w) {T : List (Nat × AV)} (hn : a.tmps.size = n) (h1000 : n ≤ 1000) (ht : ∀ i x, look T i = some x → yD (Mut M (Proofs.YtohlllohmoojiaaGreatDoor.asB B) ρ) ρ w x (a.tmps.getD i undef)) : Sat M n { h with d := a.defers } { t := T, s := numB 1000 B } ρ a w := by
  refine ⟨hs.below.defer _, hs.out, hs.tab, hn, rfl, fun i => ?_, hs.blks, hs.mine, hs.fix, fun k hk => h.lo k (by omega), hs.dist⟩
  show yD _ _ _ ((look T i).getD .any) _
  cases e : look T i with
  | none => exact .any _
  | some x => exact ht i x e
theorem Sat.unframe {B : List Blk} {D : List Deferred} (hs : Sat M n { h with d := D } S ρ a w) (hd : h.d = []) (hb : HasB S B) : Sat M 0 h (Proofs.YtohlllohmoojiaaGreatDoor.asB B) ρ w9 w ∧ ∀ k c, Mut M (Proofs.YtohlllohmoojiaaGreatDoor.asB B) ρ k c → Mut M S ρ k c := by
  have hm : ∀ k c, Mut M (Proofs.YtohlllohmoojiaaGreatDoor.asB B) ρ k c → Mut M S ρ k c := by
    rintro k c (hk | ⟨id, b, hb1, hk⟩)
    · exact .inl hk
    · obtain ⟨i, rfl, h1⟩ := xG hb1
      exact .inr ⟨_, b, hb i b h1, hk⟩
  refine ⟨⟨hs.below.undefer, hs.out, hs.tab, rfl, hd.symm, fun i => .any _, fun id b hb1 => ?_, fun id b k hb1 hk => ?_, hs.fix, fun k hk => by omega, fun i j bi bj k hi hj h1 h2 => ?_⟩, hm⟩
  · obtain ⟨i, rfl, h1⟩ := xG hb1
    exact (hs.blks _ b (hb i b h1)).mono hm
  · obtain ⟨i, rfl, h1⟩ := xG hb1
    exact hs.mine _ b k (hb i b h1) hk
  · obtain ⟨i', rfl, h3⟩ := xG hi
    obtain ⟨j', rfl, h4⟩ := xG hj
    exact hs.dist _ _ bi bj k (hb i' bi h3) (hb j' bj h4) h1 h2
theorem gives_res {fn : Func} {x : AV} {B : List Blk} {D : List Deferred} (hs' : Sat M n { h with d := D } S ρ a w) (hd : h.d = []) (hg : GivesA P fn S x) (hB : HasB S B) :
    ∃ v, (results fn a.tmps).run P w = .ok v w ∧ ∃ ρ', Sat M 0 h (asB B) ρ' w9 w ∧ EvOK (Mut M (asB B) ρ') ρ' w (.ret x) (.returned v) := by
  obtain ⟨h1, h2⟩ := hs'.unframe hd hB
  cases hg with
  | none hr => exact ⟨_, results_none hr _ _ _, ρ, h1, _, rfl, .any _⟩
  | one hr ht =>
    subst ht
    exact ⟨_, results_tmp hr _ _ _, ρ, h1, _, rfl, (hs'.tmps _).mono fun k c _ hk => h2 k c hk⟩
  | p hr hx =>
    obtain ⟨v, g1, g2⟩ := res_oneM hs' hx
    have g3 := wE (P := P) (w := w) fn a.tmps (rs := [_]) (vs := [v]) hr (by simp only [List.mapM_cons, List.mapM_nil, Sem.run_bind, Sem.run_pure, g1, Result.andThen_ok])
    exact ⟨v, g3, ρ, h1, _, rfl, .p (g2.mono fun k c _ hk => h2 k c hk)⟩
  | tup hr hl hx =>
    obtain ⟨us, g1, g2, g4, g3⟩ := res_allM hs' hx
    have g5 := wE (P := P) (w := w) fn a.tmps hr g1
    rw [dif_neg (by simp only [List.size_toArray]; omega)] at g5
    refine ⟨_, g5, ρ, h1, _, rfl, .tup _ us (by simpa using g2) fun i c v hc hv => ?_⟩
    rw [List.getElem?_map, Option.map_eq_some_iff] at hc
    obtain ⟨y, hy, rfl⟩ := hc
    exact .p ((g3 i y v hy hv).mono fun k c _ hk => h2 k c hk)
end
/-- what is pending at a deferred call: nothing, or a panic -/
def Pending (M : Nat → Nat → Prop) (w : World) : Option PV → FrameMode → Prop
  | none, u => u = .returning
  | some x, u => ∃ v, u = .panicking [{ v := v, recovered := false }] ∧ Rep M w x v
/-- Function f, called deferred, of its callers' variables B: behind it nothing is pending. -/
def FnD (P : Program) (f : FuncId) (B : List Blk) (px : Option PV) (B' : List Blk) : Prop :=
  ∀ (M : Nat → Nat → Prop) (h : Home) (ρ : Nat → Value) (vs : List Value) (u : FrameMode), Handed h B ρ → Sat M 0 h (asB B) ρ w9 h.w → vs.length = B.length →
    (∀ (i : Nat) v, vs[i]? = some v → yD (Mut M (asB B) ρ) ρ h.w (.ptr (1000 + i) 0) v) → Pending (Mut M (asB B) ρ) h.w px u →
    CallsD P f vs.toArray u h.w fun e u' w' => settle u' = .returning ∧ (∃ v, e = .returned v) ∧ ∃ ρ', Sat M 0 h (asB B') ρ' w9 w'
section
variable {P : Program} {n : Nat}
theorem wpS_recover {id : Nat} {o0 : Oper} {l : List Oper} {ts : Array TypeId} {Q : Exit → Act → List Frame → World → Prop} {a : Act} {cs cs' : List Frame} {w : World} {v : Value} (ho : o0.op = .call { callee := .builtin .recover, args := #[], argTypes := ts }) (hg : o0.guard = none)
    (hrec : recoverD cs = some (v, cs') ∨ (recoverD cs = none ∧ v = .nilIface ∧ cs' = cs)) (h : wpList P (o0 :: l).toArray (fun e a' w' => Q e a' cs' w') l (a.put o0.dst v) w) : (Code.region id (o0 :: l).toArray false).wpS P Q a cs w := by
  intro b k hb hro
  have hr : (execOp a.eval o0).run P w = .ok .recover w := by unfold execOp; rw [ho]; rfl
  have hw : Region.wanted o0 (yielded (o0 :: l).toArray a.tmps) = true := by simp [Region.wanted, hg]
  have h0 : (o0 :: l).toArray[0]? = some o0 := rfl
  have e : List.range (o0 :: l).toArray.size = 0 :: List.range' 1 l.length := by
    rw [List.size_toArray, List.length_cons, List.range_eq_range', List.range'_succ]
  have h1 : step P (lone (b.at a (.code (.region id (o0 :: l).toArray false) :: k)) cs w) = .next (lone (b.at a (.inRegion (o0 :: l).toArray (0 :: List.range' 1 l.length) :: k)) cs w) := by rw [← e]; exact step_region
  have h2 : step P (lone (b.at a (.inRegion (o0 :: l).toArray (0 :: List.range' 1 l.length) :: k)) cs w) = .next (lone (b.at (a.put o0.dst v) (.inRegion (o0 :: l).toArray (List.range' 1 l.length) :: k)) cs' w) := by
    have hs := stepG_op (P := P) (b := b) (k := k) (cs := cs) (w := w) (rest := List.range' 1 l.length) h0 hw
    have hfin : ∀ v, (b.at a (.inRegion (o0 :: l).toArray (0 :: List.range' 1 l.length) :: k)).finish v = b.at (a.put o0.dst v) (.inRegion (o0 :: l).toArray (List.range' 1 l.length) :: k) := by
      intro v; rw [Frame.finish_at, h0]; rfl
    have hk : (b.at a (.inRegion (o0 :: l).toArray (0 :: List.range' 1 l.length) :: k)).kind = .deferred := hb
    have htr := tryRecover_deferred hk cs
    refine step_lone_go ?_
    rw [hs, ← hfin]
    simp only [Frame.at] at htr ⊢
    rcases hrec with hrec | ⟨hrec, rfl, rfl⟩
    · simp [stepG.apply, hr, htr, hrec]
    · simp [stepG.apply, hr, htr, hrec]
  have h3 : wpOps P (o0 :: l).toArray (fun e a' w' => Q e a' cs' w') (List.range' 1 l.length) (a.put o0.dst v) w := by
    rw [wpOps_eq_wpList l 1 (fun j => by simp [Nat.add_comm 1 j])]
    exact h
  obtain ⟨ex, a', w', hq, harr⟩ := wp_ops _ _ _ h3 b k cs'
  exact ⟨ex, a', cs', w', hq, .of_steps (.head h1 (.one h2)) harr⟩
def ptrsA (m : Nat) : List AV := (List.range m).map fun i => .ptr (1000 + i) 0
def pendV : Option PV → PV
  | none => .val .nilIface
  | some x => x
def EndR (B' : List Blk) (e : Exit) (S : AS) : Prop := (e = .ret ∨ e = .normal) ∧ HasB S B'
theorem fn_ofDef {f : FuncId} {fn : Func} {id d0 : Nat} {o0 : Oper} {l : List Oper} {rest : Code} {ts : Array TypeId} {B B' : List Blk} {px : Option PV} (hf : P.funcs[f]? = some fn) (hb : fn.body = some (.seq (.region id (o0 :: l).toArray false) rest)) (hn : fn.ntmps = n) (hle : B.length ≤ n) (h1000 : n ≤ 1000)
    (ho : o0.op = .call { callee := .builtin .recover, args := #[], argTypes := ts }) (hg : o0.guard = none) (hd : o0.dst = some d0) (hdn : d0 < n) (hr : fn.results = #[])
    (h : zY P n (o0 :: l).toArray l { t := (d0, .p (pendV px)) :: zipA 0 (ptrsA B.length), s := numB 1000 B } (zG (fun S => zZ P n rest S (EndR B')) (EndR B'))) : FnD P f B px B' := by
  intro M hh ρ vs u hand hs0 hvl hvs hpend
  refine callsD_of_wpS hf hb fun c₀ cs hu => ?_
  have hm : ({ c₀ with mode := u } : Frame) = c₀ := by subst hu; rfl
  obtain ⟨v, u', hrec, hset, hv⟩ : ∃ v u', ((recoverD (c₀ :: cs) = some (v, { c₀ with mode := u' } :: cs)) ∨ (recoverD (c₀ :: cs) = none ∧ v = .nilIface ∧ { c₀ with mode := u' } :: cs = c₀ :: cs)) ∧ settle u' = .returning ∧ Rep (Mut M (asB B) ρ) hh.w (pendV px) v := by
    cases px with
    | none =>
      obtain rfl : u = .returning := hpend
      exact ⟨.nilIface, .returning, .inr ⟨by simp [recoverD, hu], rfl, by rw [hm]⟩, rfl, .val _⟩
    | some x =>
      obtain ⟨v, rfl, hv⟩ := hpend
      exact ⟨v, .panicking [{ v := v, recovered := true }], .inl (by simp [recoverD, hu]), by simp [settle], hv⟩
  have hsat : Sat M n hh { t := zipA 0 (ptrsA B.length), s := numB 1000 B } ρ { tmps := vs.toArray ++ Array.replicate (fn.ntmps - vs.toArray.size) undef, defers := [] } hh.w := by
    refine ⟨hs0.below, hs0.out, hs0.tab, by simp; omega, hs0.defers, fun i => ?_, hs0.blks, hs0.mine, hs0.fix, fun k hk => hh.lo k (by omega), hs0.dist⟩
    show yD _ _ _ ((look (zipA 0 (ptrsA B.length)) i).getD .any) _
    rw [look_zipA]
    simp only [Nat.zero_le, if_true, Nat.sub_zero]
    cases hx : (ptrsA B.length)[i]? with
    | none => exact .any _
    | some x =>
      have hi : i < vs.length := by
        have := (List.getElem?_eq_some_iff.1 hx).1
        simp [ptrsA] at this
        omega
      have e : ({ tmps := vs.toArray ++ Array.replicate (fn.ntmps - vs.toArray.size) undef, defers := [] } : Act).tmps.getD i undef = vs[i] := by
        simp [Array.getD_eq_getD_getElem?, Array.getElem?_append, hi]
      rw [e]
      have hx2 : x = .ptr (1000 + i) 0 := by
        unfold ptrsA at hx
        rw [List.getElem?_map, List.getElem?_range (by omega)] at hx
        exact (Option.some.inj hx).symm
      subst hx2
      exact hvs i vs[i] (List.getElem?_eq_getElem hi)
  have hsat2 := hsat.put hdn (.p hv)
  have fin : ∀ e S1 ρ1 a1 w1, EndR B' (bare e) S1 → Sat M n hh S1 ρ1 a1 w1 → bodyPostS P fn c₀ cs (fun e u' w' => settle u' = .returning ∧ (∃ v, e = .returned v) ∧ ∃ ρ', Sat M 0 hh (asB B') ρ' w9 w') e a1 ({ c₀ with mode := u' } :: cs) w1 := by
    rintro e S1 ρ1 a1 w1 ⟨he, hB⟩ hs1
    have main : a1.defers = [] ∧ ∃ u'', ({ c₀ with mode := u' } :: cs : List Frame) = { c₀ with mode := u'' } :: cs ∧ ∃ v, (results fn a1.tmps).run P w1 = .ok v w1 ∧ (settle u'' = .returning ∧ (∃ v', Ending.returned v = .returned v') ∧ ∃ ρ', Sat M 0 hh (asB B') ρ' w9 w1) :=
      ⟨hs1.defers.trans hs0.defers.symm, u', rfl, _, results_none hr _ _ _, hset, ⟨_, rfl⟩, ρ1, (hs1.asB hs0.defers.symm hB).1⟩
    cases e with
    | ret => exact main
    | normal => exact main
    | exit id => rcases he with h | h <;> cases h
    | goto l => rcases he with h | h <;> cases h
    | panic c => rcases he with h | h <;> cases h
    | outgrown => rcases he with h | h <;> cases h
  refine wpS_seq (wpS_recover ho hg hrec ?_)
  rw [hd]
  refine h M hh ρ _ hh.w _ hsat2 fun e S1 ρ1 a1 w1 hk hs1 _ => ?_
  cases e with
  | normal => exact wpS_of_wp (hk M hh ρ1 a1 w1 _ hs1 fun e S2 ρ2 a2 w2 hk2 hs2 _ => fin e S2 ρ2 a2 w2 hk2 hs2)
  | ret => exact fin .ret S1 ρ1 a1 w1 hk hs1
  | exit id => exact fin (.exit id) S1 ρ1 a1 w1 hk hs1
  | goto l => exact fin (.goto l) S1 ρ1 a1 w1 hk hs1
  | panic c => exact fin (.panic c) S1 ρ1 a1 w1 hk hs1
  | outgrown => exact fin .outgrown S1 ρ1 a1 w1 hk hs1
end
end Go.Proofs.YtohlllohmoojiaaGreatDoor
/- Functions with one deferred call. Generic over the program. -/
namespace Go.Proofs.YtohlllohmoojiaaGreatDoor
set_option maxRecDepth 100000
set_option maxHeartbeats 16000000
open Go Go.RowKit
/-- how the body ends that has deferred function fd over its variables dj -/
def EndD (P : Program) (fn : Func) (fd : FuncId) (dj : List Nat) (x : AV) (B' : List Blk) (e : Exit) (S : AS) : Prop :=
  ∃ (px : Option PV) (Bd Bd' : List Blk), FnD P fd Bd px Bd' ∧ ((px = none ∧ (e = .ret ∨ e = .normal)) ∨ (∃ y, px = some y ∧ e = .panic [] ∧ S.x = .p y)) ∧ Hands S dj Bd ∧ Bd'.length = Bd.length ∧ Bd'.all (Blk.okE Bd.length) = true ∧
    GivesA P fn (S.after dj Bd') x ∧ HasB (S.after dj Bd') B'
theorem look_mem2 {α : Type} : ∀ {l : List (Nat × α)} {i : Nat} {x : α}, look l i = some x → (i, x) ∈ l
  | [], _, _, h => by simp [look] at h
  | (k, y) :: r, i, x, h => by
    unfold look at h
    split at h
    · rename_i hk
      obtain rfl := Option.some.inj h
      subst hk
      simp
    · exact List.mem_cons_of_mem _ (look_mem2 h)
section
variable {P : Program} {n : Nat}
def PendA (M : Nat → Nat → Prop) (w : World) : Option PV → FrameMode → List Value → Prop
  | none, u, pv => u = .returning ∧ pv = []
  | some x, u, pv => ∃ v, pv = [v] ∧ u = .panicking [{ v := v, recovered := false }] ∧ Rep M w x v
/-- the deferred call, out of the frame -/
theorem def_call {fd : FuncId} {dj : List Nat} {px : Option PV} {Bd Bd' : List Blk} {M : Nat → Nat → Prop} {w0 : Home} {S : AS} {ρ : Nat → Value} {a : Act} {w : World} {cvs pv : List Value} {u : FrameMode} (hfd : FnD P fd Bd px Bd') (hh : Hands S dj Bd) (hl : Bd'.length = Bd.length) (hok : Bd'.all (Blk.okE Bd.length) = true)
    (hs : Sat M n w0 S ρ a w) (hcv : cvs.length = dj.length) (hcw : ∀ (i : Nat) k v, dj[i]? = some k → cvs[i]? = some v → ∃ g, yA (ρ k) = some g ∧ v = .pointer (some ⟨g, 0, none⟩)) (hp : PendA (Mut M S ρ) w px u pv) :
    CallsD P fd cvs.toArray u w fun e u' w' => settle u' = .returning ∧ (∃ v, e = .returned v) ∧ Sat M n w0 (S.after dj Bd') ρ a w' := by
  have hdl : dj.length = Bd.length := hh.len
  have hptr : (ptrsA Bd.length).length = Bd.length := by simp [ptrsA]
  have hat : ∀ i, i < Bd.length → (ptrsA Bd.length)[i]? = some (.ptr (1000 + i) 0) := fun i hi => by
    unfold ptrsA
    rw [List.getElem?_map, List.getElem?_range hi]
    rfl
  have c := call_effC (C := fun R0 => CallsD P fd cvs.toArray u w fun e u' w' => settle u' = .returning ∧ (∃ v, e = .returned v) ∧ R0 e w') (fun R1 R2 h12 hc => hc.mono fun e u' w' ⟨q1, q2, q3⟩ => ⟨q1, q2, h12 e w' q3⟩)
    (xs := ptrsA Bd.length ++ px.toList.map AV.p) (ids := dj) (B := Bd) (B' := Bd') (ev := .ret .any) hh hl hok (by
      rw [List.all_append, Bool.and_eq_true]
      refine ⟨List.all_eq_true.2 fun y hy => ?_, List.all_eq_true.2 fun y hy => ?_⟩
      · obtain ⟨i, hi, rfl⟩ := List.mem_map.1 hy
        have := List.mem_range.1 hi
        simp [AV.okE, this]
      · obtain ⟨z, _, rfl⟩ := List.mem_map.1 hy
        rfl) hs (vs := cvs ++ pv) (fun i y v h1 h2 => ?_) (fun M' h' ρ' hw _ hand hsat hreps _ => ?_)
  · exact c.mono fun e u' w' ⟨q1, q2, q3, _⟩ => ⟨q1, q2, q3⟩
  · by_cases hi : i < Bd.length
    · rw [List.getElem?_append_left (by omega)] at h1 h2
      rw [hat i hi] at h1
      obtain rfl := Option.some.inj h1
      have hk : dj[i]? = some (dj[i]'(by omega)) := List.getElem?_eq_getElem _
      obtain ⟨g, hg1, rfl⟩ := hcw i _ v hk h2
      show yD _ ρ w (.ptr (sig dj (1000 + i)) 0) _
      rw [sig_at hk]
      exact .ptr _ 0 g hg1
    · rw [List.getElem?_append_right (by omega), hptr] at h1
      rw [List.getElem?_append_right (by omega), hcv, hdl] at h2
      cases px with
      | none => simp at h1
      | some x =>
        obtain ⟨v', rfl, _, hr⟩ := hp
        obtain ⟨j, hj⟩ : ∃ j, i - Bd.length = j := ⟨_, rfl⟩
        rw [hj] at h1 h2
        cases j with
        | zero =>
          simp at h1 h2
          subst h1
          subst h2
          exact .p hr
        | succ j => simp at h1
  · subst hw
    have hpend : Pending (Mut M' (asB Bd) ρ') h'.w px u := by
      cases px with
      | none => exact hp.1
      | some x =>
        obtain ⟨v', rfl, hu, _⟩ := hp
        refine ⟨v', hu, ?_⟩
        have h3 := hreps Bd.length (.p x) v' (by rw [List.getElem?_append_right (by omega), hptr]; simp) (by rw [List.getElem?_append_right (by omega), hcv, hdl]; simp)
        cases h3 with
        | p h4 => exact h4
    refine (hfd M' h' ρ' cvs u hand hsat (by omega) (fun i v hv => hreps i _ v ?_ ?_) hpend).mono fun e u' w' ⟨q1, ⟨v, q2⟩, ρ2, q3⟩ => ⟨q1, ⟨v, q2⟩, ρ2, q3, v, q2, .any _⟩
    · have hi := (List.getElem?_eq_some_iff.1 hv).1
      rw [List.getElem?_append_left (by omega)]
      exact hat i (by omega)
    · rw [List.getElem?_append_left (List.getElem?_eq_some_iff.1 hv).1]
      exact hv
/-- What is behind the body, once the deferred call has been made. -/
theorem leave_one {fn : Func} {fd : FuncId} {dj : List Nat} {x : AV} {B' : List Blk} {M : Nat → Nat → Prop} {h : Home} {D : List Deferred} {S : AS} {ρ : Nat → Value} {a : Act} {w : World} {e : Exit} {cvs : List Value} {R : Ending → World → Prop} [hcf : HasFn P fd]
    (hs : Sat M n { h with d := D } S ρ a w) (hd : h.d = []) (hD : D = [{ target := .fn (.func fd) cvs.toArray, args := #[] }]) (he : EndD P fn fd dj x B' (bare e) S) (hex : ExOK M S ρ w e) (hcv : cvs.length = dj.length)
    (hcw : ∀ (i : Nat) k v, dj[i]? = some k → cvs[i]? = some v → ∃ g, yA (ρ k) = some g ∧ v = .pointer (some ⟨g, 0, none⟩))
    (hR : ∀ e w', (∃ ρ', Sat M 0 h (asB B') ρ' w9 w' ∧ EvOK (Mut M (asB B') ρ') ρ' w' (.ret x) e) → R e w') : bodyPostD P fn R e a w := by
  obtain ⟨px, Bd, Bd', hfd, hpx, hh, hl, hok, hg, hB⟩ := he
  have hinv : (invoke (.fn (.func fd) cvs.toArray) #[]).run P w = .ok (.enter fd cvs.toArray) w := by simp [invoke, hcf.h]
  have hdf : a.defers = [{ target := .fn (.func fd) cvs.toArray, args := #[] }] := hs.defers.trans hD
  have fin : ∀ (u : FrameMode) (pv : List Value), u ≠ .run → PendA (Mut M S ρ) w px u pv → Leaves P fn a.tmps R a.defers u w := by
    intro u pv hu hp
    rw [hdf]
    refine leaves_cons hu hinv ((def_call hfd hh hl hok hs hcv hcw hp).mono fun e u' w' ⟨q1, ⟨v, q2⟩, q3⟩ => ?_)
    subst q2
    show Leaves P fn a.tmps R [] (settle u') w'
    rw [q1]
    obtain ⟨v', r1, r2⟩ := gives_res q3 hd hg hB
    exact ⟨v', r1, hR _ _ r2⟩
  rcases hpx with ⟨rfl, he⟩ | ⟨y, rfl, he, hy⟩
  · cases e with
    | ret => exact fin .returning [] (by simp) ⟨rfl, rfl⟩
    | normal => exact fin .returning [] (by simp) ⟨rfl, rfl⟩
    | exit id => rcases he with h | h <;> cases h
    | goto l => rcases he with h | h <;> cases h
    | panic c => rcases he with h | h <;> cases h
    | outgrown => rcases he with h | h <;> cases h
  · cases e with
    | panic c =>
      obtain ⟨v, rfl, hv⟩ := hex
      rw [hy] at hv
      cases hv with
      | p hv => exact fin (.panicking [{ v := v, recovered := false }]) [v] (by simp) ⟨v, rfl, rfl, hv⟩
    | ret => cases he
    | normal => cases he
    | exit id => cases he
    | goto l => cases he
    | outgrown => cases he
theorem fn_ofD {f : FuncId} {fn : Func} {c0 rest : Code} {id d fd : Nat} {o1 o2 : Oper} {caps : Array Operand} {ts : Array TypeId} {args : List AV} {B B' Bi Bi' : List Blk} {x : AV} {S1 : AS} {dids dj ids : List Nat} {T : List (Nat × AV)} [hcf : HasFn P fd]
    (hf : P.funcs[f]? = some fn) (hb : fn.body = some (.seq c0 (.seq (.region id [o1, o2].toArray false) rest))) (hn : fn.ntmps = n) (hle : args.length ≤ n) (h1000 : n ≤ 1000)
    (h0 : zZ P n c0 { t := zipA 0 args, s := numB 1000 B } (fun e S => e = .normal ∧ S = S1))
    (hg1 : o1.guard = none) (hd1 : o1.dst = some d) (hdn : d < n) (ho1 : o1.op = .makeFunc (.func fd) #[] caps) (hc : readIds (caps.toList.map S1.get) = some dids)
    (hg2 : o2.guard = none) (hd2 : o2.dst = none) (ho2 : o2.op = .defer { callee := .value (.tmp d), args := #[], argTypes := ts })
    (hdj : dids = dj.map (sig ids)) (hdr : dj.all (fun k => decide (1000 ≤ k ∧ k < 1000 + Bi.length)) = true)
    (hh : Hands S1 ids Bi) (hBi' : Bi'.length = Bi.length) (hok' : Bi'.all (Blk.okE Bi.length) = true)
    (hT : T.all (fun p => p.2.okE Bi.length) = true) (hT1 : ∀ p ∈ T, S1.tmp p.1 = p.2.ren (sig ids) ∧ d ≠ p.1)
    (h2 : zZ P n rest { t := T, s := numB 1000 Bi } (EndD P fn fd dj x Bi')) (hx : x.okE Bi.length = true) (hxr : x.ren (sig ids) = x) (hB' : HasB (S1.after ids Bi') B') : FnE P f args B (.ret x) B' := by
  intro M hh0 ρ vs hand hs0 hvl hvs
  refine calls_of_wp_defers hf hb ?_
  have hsat : Sat M n hh0 { t := zipA 0 args, s := numB 1000 B } ρ { tmps := vs.toArray ++ Array.replicate (fn.ntmps - vs.toArray.size) undef, defers := [] } hh0.w := by
    refine ⟨hs0.below, hs0.out, hs0.tab, by simp; omega, hs0.defers, fun i => ?_, hs0.blks, hs0.mine, hs0.fix, fun k hk => hh0.lo k (by omega), hs0.dist⟩
    show yD _ _ _ ((look (zipA 0 args) i).getD .any) _
    rw [look_zipA]
    simp only [Nat.zero_le, if_true, Nat.sub_zero]
    cases hx : args[i]? with
    | none => exact .any _
    | some x =>
      have hi : i < vs.length := by rw [hvl]; exact (List.getElem?_eq_some_iff.1 hx).1
      have e : ({ tmps := vs.toArray ++ Array.replicate (fn.ntmps - vs.toArray.size) undef, defers := [] } : Act).tmps.getD i undef = vs[i] := by
        simp [Array.getD_eq_getD_getElem?, Array.getElem?_append, hi]
      rw [e]
      exact hvs i x vs[i] hx (List.getElem?_eq_getElem hi)
  refine wp_seq (h0 M hh0 ρ _ hh0.w _ hsat ?_)
  rintro e S' ρ1 a1 w1 ⟨he, rfl⟩ hs1 _
  cases e with
  | ret => cases he
  | exit id => cases he
  | goto l => cases he
  | panic c => cases he
  | outgrown => cases he
  | normal =>
  refine wp_seq (wp_region_lit ?_)
  unfold wpList
  rw [if_pos (by simp [Region.wanted, hg1])]
  refine .inl ((w_mkFunc ho1 hc hd1 hdn).step M hh0 ρ1 a1 w1 _ _ hs1 fun ρ2 a2 w2 hs2 => ?_)
  rw [hd1] at hs2
  have hs2 : Sat M n hh0 (S'.put d (.clo fd dids)) ρ2 a2 w2 := hs2
  have hv := hs2.tmps d
  rw [AS.tmp_put, if_pos rfl] at hv
  obtain ⟨cvs, hva, hcl, hcw⟩ : ∃ cvs : List Value, a2.tmps.getD d undef = .func (.func fd) #[] cvs.toArray ∧ cvs.length = dids.length ∧ ∀ (i : Nat) k v, dids[i]? = some k → cvs[i]? = some v → ∃ g, yA (ρ2 k) = some g ∧ v = .pointer (some ⟨g, 0, none⟩) := by
    generalize a2.tmps.getD d undef = u at hv
    cases hv with
    | clo _ _ vs hl h => exact ⟨vs, rfl, hl, h⟩
  unfold wpList
  rw [if_pos (by simp [Region.wanted, hg2])]
  refine .inl ?_
  have hrun : (execOp a2.eval o2).run P w2 = .ok (.defer { target := .fn (.func fd) cvs.toArray, args := #[] }) w2 := by
    unfold execOp
    rw [ho2]
    have hev : a2.eval (.tmp d) = .func (.func fd) #[] cvs.toArray := hva
    simp [resolve, Deferred.ofValue, hev]
  unfold Oper.wp
  rw [hrun, Oper.upon_defer, hd2]
  show rest.wp P _ { a2 with defers := { target := .fn (.func fd) cvs.toArray, args := #[] } :: a2.defers } w2
  rw [hs2.defers.trans hs0.defers.symm]
  -- the rest, in its own frame
  have key := call_effC (C := fun R => ∀ R' : Ending → World → Prop, (∀ e w', R e w' → R' e w') → rest.wp P (bodyPostD P fn R') { a2 with defers := [{ target := .fn (.func fd) cvs.toArray, args := #[] }] } w2) (fun R1 R2 h12 hc R' h' => hc R' fun e w' q => h' e w' (h12 e w' q))
    (xs := T.map Prod.snd) (ids := ids) (B := Bi) (B' := Bi') (ev := .ret x) (S := S'.put d (.clo fd dids)) ⟨hh.len, hh.nodup, hh.ok, hh.at_⟩ hBi' hok' (by rw [List.all_map]; exact hT) hs2 (vs := T.map fun p => a2.tmps.getD p.1 undef) (fun i y v h1 h3 => ?_) (fun M' h' ρ' hw hd' hand' hsat' hreps hfix R' hR' => ?_)
  · refine key _ fun e w' ⟨q1, q2⟩ => ?_
    obtain ⟨r1, r2⟩ := q1.asB hs0.defers.symm hB'
    obtain ⟨v, rfl, r3⟩ := q2 hx
    rw [hxr] at r3
    exact ⟨ρ2, r1, v, rfl, r3.mono fun k c _ hk => r2 k c hk⟩
  · rw [List.getElem?_map, Option.map_eq_some_iff] at h1 h3
    obtain ⟨p, hp, rfl⟩ := h1
    obtain ⟨p', hp', rfl⟩ := h3
    rw [hp] at hp'
    obtain rfl := Option.some.inj hp'
    obtain ⟨q1, q2⟩ := hT1 p (List.mem_of_getElem? hp)
    rw [← q1]
    have := hs2.tmps p.1
    rw [AS.tmp_put, if_neg q2] at this
    exact this
  · have hfr : Sat M' n { h' with d := [{ target := .fn (.func fd) cvs.toArray, args := #[] }] } { t := T, s := numB 1000 Bi } ρ' { a2 with defers := [{ target := .fn (.func fd) cvs.toArray, args := #[] }] } w2 := by
      refine Sat.frame (a := { a2 with defers := [{ target := .fn (.func fd) cvs.toArray, args := #[] }] }) hsat' hs2.size h1000 fun i y hy => ?_
      obtain ⟨j, hj⟩ := List.getElem?_of_mem (look_mem2 hy)
      exact hreps j y _ (by rw [List.getElem?_map, hj]; rfl) (by rw [List.getElem?_map, hj]; rfl)
    refine h2 M' _ ρ' _ w2 _ hfr fun e S2 ρ3 a4 w4 hend hs4 hx4 => ?_
    refine leave_one hs4 hd' rfl hend hx4 (by rw [hcl, hdj, List.length_map]) (fun i k v hk hv => ?_) hR'
    have hkr := List.all_eq_true.1 hdr k (List.mem_of_getElem? hk)
    simp only [decide_eq_true_eq] at hkr
    obtain ⟨g, g1, g2⟩ := hcw i (sig ids k) v (by rw [hdj, List.getElem?_map, hk]; rfl) hv
    refine ⟨g, ?_, g2⟩
    have e1 : ρ3 k = ρ' k := by
      have := hand'.r (k - 1000) (by omega)
      rw [show 1000 + (k - 1000) = k by omega] at this
      exact hs4.fix k _ this
    rw [e1, hfix k hkr.1 hkr.2]
    exact g1
end
end Go.Proofs.YtohlllohmoojiaaGreatDoor
/- What recovers what a program over a log panics with: contracts. -/
namespace Go.Proofs.YtohlllohmoojiaaGreatDoor
set_option maxRecDepth 100000
set_option maxHeartbeats 16000000
open Go Go.RowKit
set_option linter.unusedSimpArgs false
attribute [local irreducible] zY zZ Step zK Sub zS zH Fn
section
variable {P : Program} {n : Nat} {o : Oper} {S : AS} {d : Nat} {x : Operand}
theorem w_assertY {s t : Nat} {y : PV} {pl : List (Nat × Nat)} [hb : BuildA P t pl] (ho : o.op = .typeAssert x s t true) (hx : S.get x = .p (.ifc t y)) (hd : o.dst = some d) (hn : d < n) : zK P n o S [] (.tup [.p y, .p (.val (.bool true))]) none :=
  zK.pure hd hn fun S2 hg _ M w0 ρ a w hs => by
    have h1 := xY hs ((hg x (by rw [ho]; simp [Op.operands])).trans hx)
    generalize hv : a.eval x = v at h1
    cases h1 with
    | ifc _ _ u h =>
      refine ⟨.tuple [u, .bool true].toArray, w, ?_, Below.refl _ _, .tup _ [u, .bool true] rfl fun i c v hc hv => ?_⟩
      · unfold execOp
        rw [ho]
        simp [Instr.typeAssert, run_underlying hb.st, hv]
      · match i with
        | 0 => cases hc; cases hv; exact .p h
        | 1 => cases hc; cases hv; exact .p (.val _)
        | i + 2 => simp at hc
theorem w_assertN {s t : Nat} {pl : List (Nat × Nat)} {z : Value} {cl : List Value} [hb : BuildA P t pl] [hz : ZeroA P t z] (ho : o.op = .typeAssert x s t true) (hx : S.get x = .p (.val .nilIface)) (hc0 : z = .agg cl.toArray) (h1 : cl.all (fun u => u.oneCell') = true) (hd : o.dst = some d) (hn : d < n) : zK P n o S [] (.tup [.p (.agg (cl.map PV.val)), .p (.val (.bool false))]) none :=
  zK.pure hd hn fun S2 hg _ M w0 ρ a w hs => by
    have h2 := xY hs ((hg x (by rw [ho]; simp [Op.operands])).trans hx)
    generalize hv : a.eval x = v at h2
    cases h2
    refine ⟨.tuple [z, .bool false].toArray, w, ?_, Below.refl _ _, .tup _ [z, .bool false] rfl fun i c v hc hv => ?_⟩
    · unfold execOp
      rw [ho]
      simp [Instr.typeAssert, run_underlying hb.st, hv, hz.h]
    · match i with
      | 0 =>
        cases hc; cases hv
        subst hc0
        refine .p (.agg _ cl (by simp) (fun i c v hc hv => ?_) fun u hu => List.all_eq_true.1 h1 u hu)
        rw [List.getElem?_map, hv] at hc
        cases hc
        exact .val _
      | 1 => cases hc; cases hv; exact .p (.val _)
      | i + 2 => simp at hc
end
def accB (kind cell a b : Int) (data : PV) : Blk := .box 34 [.p (.val (.int .i64 kind)), .p (.val (.int .i64 cell)), .p (.val (.int .u64 a)), .p (.val (.int .u64 b)), .p data, .p xW]
def outB (e : Int) (is : Bool) (n w : Int) : Blk := .box 38 [.p (.val (.int .i64 e)), .p (.val (.bool is)), .p (.val (.int .i64 n)), .p (.val (.int .u64 w)), .p xW]
theorem run1_none (e : Int) (is : Bool) (n w : Int) (b : Bool) : FnD Tryz.prog 73 [accB 0 0 0 0 xW, outB e is n w, isB b] none [accB 0 0 0 0 xW, outB e is n w, isB b] := by
  refine fn_ofDef Tryz.func73 rfl Tryz.ntmps73 (Nat.le_of_ble_eq_true rfl) (by decide) rfl rfl rfl (by decide) rfl ?_
  repeat' (first | (refine zY.is ?_; first | refine zY.nil ?_ | refine zY.v rfl rfl (by first | exact zV rfl rfl rfl (by decide) | exact yK rfl rfl rfl rfl (by decide) | exact xP rfl rfl rfl (by decide) | exact w_assertN rfl rfl rfl rfl rfl (by decide)) ?_ | refine zY.m rfl rfl (yB rfl (by decide) rfl (by decide)) ?_ | refine zY.w rfl (by exact zT rfl rfl rfl rfl rfl (by rfl) (by exact Nat.le_of_ble_eq_true rfl) rfl rfl) ?_) | (refine zZ.is ?_; first | refine zZ.seq ?_ | (refine zZ.iq 1 ?_; refine zZ.rqa _ K_o K_15 ?_; (refine zY.v rfl rfl (zQ rfl rfl rfl (by decide)) ?_); refine zY.nil ?_) | refine zZ.yI rfl (by with_reducible rfl) ?_ | refine zZ.skip ?_))
  all_goals exact ⟨by first | exact .inl rfl | exact .inr rfl, wD (by repeat' first | exact trivial | rfl | constructor)⟩
theorem run1_need (kind cell a b : Int) (data : PV) (e : Int) (is : Bool) (n w : Int) (c : Bool) : FnD Tryz.prog 73 [accB 0 0 0 0 xW, outB e is n w, isB c] (some (.ifc 129 (accV kind cell a b data))) [accB kind cell a b data, outB 0 false 0 0, isB false] := by
  refine fn_ofDef Tryz.func73 rfl Tryz.ntmps73 (Nat.le_of_ble_eq_true rfl) (by decide) rfl rfl rfl (by decide) rfl ?_
  repeat' (first | (refine zY.is ?_; first | refine zY.nil ?_ | refine zY.v rfl rfl (by first | exact zV rfl rfl rfl (by decide) | exact yK rfl rfl rfl rfl (by decide) | exact xP rfl rfl rfl (by decide) | exact w_assertY rfl rfl rfl (by decide)) ?_ | refine zY.m rfl rfl (yB rfl (by decide) rfl (by decide)) ?_ | refine zY.w rfl (by exact zT rfl rfl rfl rfl rfl (by rfl) (by exact Nat.le_of_ble_eq_true rfl) rfl rfl) ?_) | (refine zZ.is ?_; first | refine zZ.seq ?_ | (refine zZ.iq 1 ?_; refine zZ.rqa _ K_o K_15 ?_; (refine zY.v rfl rfl (zQ rfl rfl rfl (by decide)) ?_); refine zY.nil ?_) | (refine zZ.iq 2 ?_; refine zZ.rqe _ K_d K_15 ?_; (refine zY.v rfl rfl (zA rfl rfl rfl (by decide)) ?_); (refine zY.v rfl rfl (yX rfl rfl rfl (by rfl) (by rfl) rfl (by decide)) ?_); (refine zY.v rfl rfl (xR rfl (by rfl) (by rfl) (by rfl) (by rfl) rfl (by decide)) ?_); (refine zY.w rfl (by exact zT rfl rfl rfl rfl rfl (by rfl) (by exact Nat.le_of_ble_eq_true rfl) rfl rfl) ?_); (refine zY.w rfl (by exact zT rfl rfl rfl rfl rfl (by rfl) (by exact Nat.le_of_ble_eq_true rfl) rfl rfl) ?_); (refine zY.w rfl (by exact zT rfl rfl rfl rfl rfl (by rfl) (by exact Nat.le_of_ble_eq_true rfl) rfl rfl) ?_); refine zY.nil ?_) | refine zZ.yM rfl (by with_reducible rfl) ?_))
  all_goals exact ⟨by first | exact .inl rfl | exact .inr rfl, wD (by repeat' first | exact trivial | rfl | constructor)⟩
end Go.Proofs.YtohlllohmoojiaaGreatDoor
/- What a list's operation asks next, of a log: the program's: contracts. -/
namespace Go.Proofs.YtohlllohmoojiaaGreatDoor
set_option maxRecDepth 100000
set_option maxHeartbeats 16000000
open Go Go.RowKit
set_option linter.unusedSimpArgs false
set_option linter.unusedVariables false
attribute [local irreducible] zY zZ Step zK Sub zS zH Fn
def outRN (o : OutN) : AV := .p (outV o.e o.is o.n o.w)
theorem decT {k n : Int} (h : decide (k = n) = true) : k = n := of_decide_eq_true h
theorem next1L_h (H : Hnd) (s0 : H.σ) {t k u v w : Int} (ht : Small t) (hO : OpL k u v w) : FnH H 27 [H.doA, .ptr 1003 0, .ptr 1004 0] [opB k u v w, vO t] outRN (fun _ => [opB k u v w, vO t]) yes s0 (opL t k u v w) := by
  have F1 := fun (x : wK) (g : FOK x) => (wrap_u64 x.p ⟨g.p.lo, by have := g.p.hi; omega⟩ : IntKind.u64.wrap x.p = x.p)
  have F2 := fun (h : decide (k = 24) = true) => (wrap_i64 w ⟨by have := (hO.v (decT h)).2.lo; omega, by have := (hO.v (decT h)).2.hi; omega⟩ : IntKind.i64.wrap w = w)
  unfold Hnd.doA
  refine wY Tryz.func27 rfl Tryz.ntmps27 (Nat.le_of_ble_eq_true rfl) (by decide) (fine_opL hO) fun hok hns => ?_
  repeat' (first | (refine zY.is ?_; first | refine zY.nil ?_ | (refine zY.at_ 14 rfl ?_; refine zY.rc (.v v0_4 (.v y9 (.v y9 (.v y9 (.v y9 (.v zC (.v zC (.v zC (.v zC .e))))))))) ?_) | (refine zY.at_ 36 rfl ?_; refine zY.rc (.v v0_4 (.v y9 (.v y9 (.v zU (.w yQ (.v zU (.w yQ .e))))))) ?_) | (refine zY.at_ 60 rfl ?_; refine zY.rc (.v zU (.w yQ .e)) ?_) | (refine zY.at_ 68 rfl ?_; refine zY.rc (.v zU (.w yQ .e)) ?_) | (refine zY.at_ 76 rfl ?_; refine zY.rc (.v v52_8 .e) ?_) | (refine zY.in_ [19] rfl ?_; refine zY.ofT rfl (zH.hd (i := []) (f := search_h H _ ht) (r := fun x s e g hk => ?_) (p := fun q s e => ?_) (t := ?_))) | (refine zY.in_ [43] rfl ?_; refine zY.ofT rfl (zH.hd (i := []) (f := seek_h H _ ht (hO.u (.inr (.inr (decT (by assumption)))))) (r := fun x s e g hk => ?_) (p := fun q s e => ?_) (t := ?_))) | (refine zY.in_ [59] rfl ?_; refine zY.ofT rfl (zH.hd (i := []) (f := link_h H _ ht (hO.u (.inr (.inl (decT (by assumption))))) (hO.v (decT (by assumption))).1 (hO.v (decT (by assumption))).2) (r := fun x s e g hk => ?_) (p := fun q s e => ?_) (t := ?_))) | (refine zY.in_ [67] rfl ?_; refine zY.ofT rfl (zH.hd (i := []) (f := markOp_h H _ ht (hO.u (.inl (decT (by assumption))))) (r := fun x s e g hk => ?_) (p := fun q s e => ?_) (t := ?_))) | (refine zY.in_ [75] rfl ?_; refine zY.ofT rfl (zH.hd (i := []) (f := sweep_h H _ ht) (r := fun x s e g hk => ?_) (p := fun q s e => ?_) (t := ?_)))) | (refine zZ.is ?_; first | refine zZ.seq ?_ | (refine zZ.isR (id := 0) ?_; refine zZ.rc [0, 1, 2] [4, 1000, 1001, 1002, 1003, 1004] (r := (.m yG .e)) (h := ?_)) | (refine zZ.isR (id := 1) ?_; refine zZ.rc [0, 1, 2, 4] [4, 1000, 1001, 1002, 1003, 1004] (r := (.v zU (.v yV .e))) (h := ?_)) | (refine zZ.isR (id := 3) ?_; refine zZ.rc [0, 1, 2, 4, 10] [4, 1000, 1001, 1002, 1003, 1004] (r := (.v vZ (.v zC .e))) (h := ?_)) | (refine zZ.isR (id := 4) ?_; refine zZ.rc [0, 1, 2, 4, 10] [4, 1000, 1001, 1002, 1003, 1004] (r := (.v vQ (.v yV (.v zU (.v yV .e))))) (h := ?_)) | (refine zZ.isR (id := 5) ?_; refine zZ.rc [0, 1, 2, 4, 5, 6, 7, 8, 10] [4, 1000, 1001, 1002, 1003, 1004] (r := (.v zJ (.v v52_8 .e))) (h := ?_)) | (refine zZ.isR (id := 6) ?_; refine zZ.rc [0, 1, 2, 4, 5, 6, 7, 10] [4, 1000, 1001, 1002, 1003, 1004] (r := (.v wH (.w yQ .e))) (h := ?_)) | (refine zZ.isR (id := 7) ?_; refine zZ.rc [0, 1, 2, 4, 5, 6, 7, 10] [4, 1000, 1001, 1002, 1003, 1004] (r := (.v zJ (.v zJ (.v v6_1 (.v zJ (.v zU (.w yQ (.v zU (.w yQ (.v zU (.w yQ .e))))))))))) (h := ?_)) | (refine zZ.isR (id := 8) ?_; refine zZ.rc [0, 1, 2, 4, 10] [4, 1000, 1001, 1002, 1003, 1004] (r := (.v vZ (.v zC .e))) (h := ?_)) | (refine zZ.isR (id := 9) ?_; refine zZ.rc [0, 1, 2, 4, 10] [4, 1000, 1001, 1002, 1003, 1004] (r := (.v vQ (.v yV (.v zU (.v yV (.v zU (.v yV .e))))))) (h := ?_)) | (refine zZ.isR (id := 10) ?_; refine zZ.rc [0, 1, 2, 4, 10] [4, 1000, 1001, 1002, 1003, 1004] (r := (.v vZ (.v zC .e))) (h := ?_)) | (refine zZ.isR (id := 11) ?_; refine zZ.rc [0, 1, 2, 4, 10] [4, 1000, 1001, 1002, 1003, 1004] (r := (.v vQ (.v yV (.v zU (.v yV (.v zU (.v yV (.v zU (.v yV (.v v6_2 .e)))))))))) (h := ?_)) | (refine zZ.isR (id := 12) ?_; refine zZ.rc [0, 1, 2, 4, 10] [4, 1000, 1001, 1002, 1003, 1004] (r := (.v vZ (.v zC .e))) (h := ?_)) | (refine zZ.isR (id := 13) ?_; refine zZ.rc [0, 1, 2, 4, 10] [4, 1000, 1001, 1002, 1003, 1004] (r := (.v vQ (.v yV (.v zU (.v yV .e))))) (h := ?_)) | (refine zZ.isR (id := 14) ?_; refine zZ.rc [0, 1, 2, 4, 10] [4, 1000, 1001, 1002, 1003, 1004] (r := (.v vZ (.v zC .e))) (h := ?_)) | (refine zZ.isR (id := 15) ?_; refine zZ.rc [0, 1, 2, 4] [4, 1000, 1001, 1002, 1003, 1004] (r := (.v vQ (.v yV (.v zU (.v yV .e))))) (h := ?_)) | (refine zZ.isR (id := 16) ?_; refine zZ.rc [4] [4, 1000, 1001, 1002, 1003, 1004] (r := (.v zU (.w yQ .e))) (h := ?_)) | (refine zZ.isR (id := 2) ?_; refine zZ.rc [4] [4, 1000, 1001, 1002, 1003, 1004] (r := (.v zU (.w yQ .e))) (h := ?_)) | (refine zZ.isR (id := 17) ?_; refine zZ.rc [4] [4, 1000, 1001, 1002, 1003, 1004] (r := (.v vN (.w yQ .e))) (h := ?_)) | refine zZ.cond rfl (fun h => ?_) (fun h => ?_) | refine zZ.skip ?_ | refine zZ.block ?_ | refine zZ.ret ?_) | refine zG.r ?_ | refine zG.p ?_ | refine yZ.r ?_ | refine yZ.p ?_)
  all_goals try simp only [Bool.not_eq_true', Bool.not_eq_false'] at *
  all_goals (first | exact fun e => hns (by clear hns; simp only [opL, run_bind, zP, zM, Held.zB, Held.zL, Held.zF, cond_true, cond_false, *]) | exact .pan (q := q) rfl (by repeat' first | exact trivial | rfl | constructor) (by repeat' first | exact trivial | exact ⟨_, rfl, rfl⟩ | constructor) (by simp only [opL, run_bind, zP, zM, Held.zB, Held.zL, Held.zF, cond_true, cond_false, *]) | exact .ret (x := ⟨_, _, _, _⟩) (by exact .inl rfl) (by exact .p rfl (.cellN rfl rfl (by rfl) (by rfl))) (by repeat' first | exact trivial | rfl | constructor) (by simp only [opL, run_bind, zP, zM, Held.zB, Held.zL, Held.zF, cond_true, cond_false, *] <;> rfl))
/-- the frame behind Run's results -/
def runS1 (k u v w t : Int) (L : List yE) : AS := { t := [(6, .ptr 6 0), (5, .ptr 5 0), (4, .ptr 4 0), (3, .ptr 3 0), (0, .clo 27 [1000, 1001]), (1, .p (logV L))], s := [(6, isB false), (5, outB 0 false 0 0), (4, accB 0 0 0 0 xW), (3, logB L), (1000, opB k u v w), (1001, vO t)] }
def runT : List (Nat × AV) := [(0, .clo 27 [1004, 1005]), (3, .ptr 1000 0), (4, .ptr 1001 0), (5, .ptr 1002 0), (6, .ptr 1003 0)]
theorem run_done (L : List yE) (hL : wF L) {t k u v w : Int} (ht : Small t) (h : OpL k u v w) {o : OutN} {j : Nat} (hm : (opL t k u v w).run (y5 L) 0 = .done o j) :
    FnE Tryz.prog 26 [.clo 27 [1000, 1001], .p (logV L)] [opB k u v w, vO t] (.ret (.tup ([accV 0 0 0 0 xW, outV o.e o.is o.n o.w, .val (.bool true)].map .p))) [opB k u v w, vO t] := by
  have hn := (next1L_h (hLog L hL) (0 : Nat) ht h).done (Nat.zero_le _) hm
  have hn2 : FnE Tryz.prog 27 [.clo 74 [1000, 1001], .ptr 1003 0, .ptr 1004 0] [atB 0, logB L, isB false, opB k u v w, vO t] (.ret (outRN o)) [atB j, logB L, isB false, opB k u v w, vO t] := hn.2.2
  refine fn_ofD (S1 := runS1 k u v w t L) (ids := [3, 4, 5, 6, 1000, 1001]) (Bi := [logB L, accB 0 0 0 0 xW, outB 0 false 0 0, isB false, opB k u v w, vO t]) (Bi' := [logB L, accB 0 0 0 0 xW, outB o.e o.is o.n o.w, isB true, opB k u v w, vO t]) (T := runT) (dj := [1001, 1002, 1003])
    Tryz.func26 rfl Tryz.ntmps26 (Nat.le_of_ble_eq_true rfl) (by decide) ?_ rfl rfl (by decide) rfl (by rfl) rfl rfl rfl (by rfl) (by rfl) (wO (by decide) rfl (by repeat' first | exact trivial | rfl | constructor)) rfl rfl rfl (by
      intro p hp
      simp only [runT, List.mem_cons, List.not_mem_nil, or_false] at hp
      rcases hp with rfl | rfl | rfl | rfl | rfl <;> exact ⟨rfl, by decide⟩) ?_ rfl rfl (wD (by repeat' first | exact trivial | rfl | constructor))
  case refine_1 =>
    repeat' (first | (refine zY.nil ?_) | (refine zZ.is ?_; (refine zZ.isR (id := 0) ?_; refine zZ.rc [0, 1] [3, 4, 5, 6, 7, 1000, 1001] (r := (.m m18_2 (.m yG (.m yG (.m yG .e))))) (h := ?_))))
    exact ⟨rfl, rfl⟩
  case refine_2 =>
    unfold runT
    repeat' (first | (refine zY.is ?_; first | refine zY.nil ?_ | refine zY.rc (.w yQ .e) ?_ | (refine zY.in_ [11] rfl ?_; refine zY.ofT rfl (zH.eR [7, 1000, 1003, 1004, 1005] (hn2) ?_))) | (refine zZ.is ?_; first | refine zZ.seq ?_ | (refine zZ.isR (id := 2) ?_; refine zZ.rc [0, 3, 4, 5, 6] [3, 4, 5, 6, 7, 1000, 1001, 1002, 1003, 1004, 1005] (r := (.m yG (.w yQ .e))) (h := ?_)) | (refine zZ.isR (id := 3) ?_; refine zZ.rc [0, 3, 4, 5, 6, 7] [3, 4, 5, 6, 7, 1000, 1001, 1002, 1003, 1004, 1005] (r := (.v vQ (.v v14_0 .e))) (h := ?_)) | (refine zZ.isR (id := 4) ?_; refine zZ.rk [4, 5, 6] [3, 4, 5, 6, 7, 1000, 1001, 1002, 1003, 1004, 1005] ?_; refine zZ.drawGo (by kernel_rfl) ?_) | refine zZ.ret ?_) | (refine DGo.at_ [] ?_; refine DGo.all [0, 1] (by kernel_rfl) ?_) | (refine DGo.at_ [1] ?_; refine DGo.all [0] (by kernel_rfl) ?_) | (refine DGo.at_ [0, 1] ?_; refine DGo.all [2] (by kernel_rfl) ?_) | (refine DGo.at_ [2, 0, 1] ?_; refine DGo.all [3] (by kernel_rfl) ?_) | (refine DGo.at_ [3, 2, 0, 1] ?_; refine DGo.all [4] (by kernel_rfl) ?_) | (refine DGo.at_ [4, 3, 2, 0, 1] ?_; refine DGo.fin (by kernel_rfl) ?_) | (refine DGo.at_ [0] ?_; refine DGo.all [1, 2] (by kernel_rfl) ?_) | (refine DGo.at_ [2, 0] ?_; refine DGo.all [1] (by kernel_rfl) ?_) | (refine DGo.at_ [1, 2, 0] ?_; refine DGo.all [3] (by kernel_rfl) ?_) | (refine DGo.at_ [3, 1, 2, 0] ?_; refine DGo.all [4] (by kernel_rfl) ?_) | (refine DGo.at_ [4, 3, 1, 2, 0] ?_; refine DGo.fin (by kernel_rfl) ?_) | (refine DGo.at_ [1, 0] ?_; refine DGo.all [2] (by kernel_rfl) ?_) | (refine DGo.at_ [2, 1, 0] ?_; refine DGo.all [3] (by kernel_rfl) ?_) | (refine DGo.at_ [3, 2, 1, 0] ?_; refine DGo.all [4] (by kernel_rfl) ?_) | (refine DGo.at_ [4, 3, 2, 1, 0] ?_; refine DGo.fin (by kernel_rfl) ?_) | refine x9.cons ?_ ?_ | exact x9.nil | (refine xC.at_ 0 ?_; refine xC.v rfl rfl rfl (xR rfl (by rfl) (by rfl) (by rfl) (by rfl) rfl (by decide)) ?_) | (refine xC.at_ 1 ?_; refine xC.v rfl rfl rfl (yX rfl rfl rfl (by rfl) (by rfl) rfl (by decide)) ?_) | (refine xC.at_ 2 ?_; refine xC.w rfl rfl (by exact zT rfl rfl rfl rfl rfl (by rfl) (by exact Nat.le_of_ble_eq_true rfl) rfl rfl) ?_) | (refine xC.at_ 3 ?_; refine xC.w rfl rfl (by exact zT rfl rfl rfl rfl rfl (by rfl) (by exact Nat.le_of_ble_eq_true rfl) rfl rfl) ?_) | (refine xC.at_ 4 ?_; refine xC.w rfl rfl (by exact zT rfl rfl rfl rfl rfl (by rfl) (by exact Nat.le_of_ble_eq_true rfl) rfl rfl) ?_))
    all_goals exact ⟨_, _, _, run1_none o.e o.is o.n o.w true, .inl ⟨rfl, by first | exact .inl rfl | exact .inr rfl⟩, wO (by decide) rfl (by repeat' first | exact trivial | rfl | constructor), rfl, rfl, .tup rfl (by decide) (.cons (.cellN rfl rfl (by rfl) (by rfl)) (.cons (.cellN rfl rfl (by rfl) (by rfl)) (.cons (.cell1 rfl rfl rfl) .nil))), wD (by repeat' first | exact trivial | rfl | constructor)⟩
theorem run_need (L : List yE) (hL : wF L) {t k u v w : Int} (ht : Small t) (h : OpL k u v w) {q : Ned} {j : Nat} (hm : (opL t k u v w).run (y5 L) 0 = .need q j) :
    FnE Tryz.prog 26 [.clo 27 [1000, 1001], .p (logV L)] [opB k u v w, vO t] (.ret (.tup ([accQ q, outV 0 false 0 0, .val (.bool false)].map .p))) [(opB k u v w).forget, (vO t).forget] := by
  have hn := (next1L_h (hLog L hL) (0 : Nat) ht h).need (Nat.zero_le _) hm
  have hn2 : FnE Tryz.prog 27 [.clo 74 [1000, 1001], .ptr 1003 0, .ptr 1004 0] [atB 0, logB L, isB false, opB k u v w, vO t] (.pan (needA (accQ q))) [atB j, logB L, isB false, (opB k u v w).forget, (vO t).forget] := hn.2
  unfold accQ at hn2 ⊢
  refine fn_ofD (S1 := runS1 k u v w t L) (ids := [3, 4, 5, 6, 1000, 1001]) (Bi := [logB L, accB 0 0 0 0 xW, outB 0 false 0 0, isB false, opB k u v w, vO t]) (Bi' := [logB L, accB q.kind q.cell q.a q.b q.d, outB 0 false 0 0, isB false, (opB k u v w).forget, (vO t).forget]) (T := runT) (dj := [1001, 1002, 1003])
    Tryz.func26 rfl Tryz.ntmps26 (Nat.le_of_ble_eq_true rfl) (by decide) ?_ rfl rfl (by decide) rfl (by rfl) rfl rfl rfl (by rfl) (by rfl) (wO (by decide) rfl (by repeat' first | exact trivial | rfl | constructor)) rfl rfl rfl (by
      intro p hp
      simp only [runT, List.mem_cons, List.not_mem_nil, or_false] at hp
      rcases hp with rfl | rfl | rfl | rfl | rfl <;> exact ⟨rfl, by decide⟩) ?_ rfl rfl (wD (by repeat' first | exact trivial | rfl | constructor))
  case refine_1 =>
    repeat' (first | (refine zY.nil ?_) | (refine zZ.is ?_; (refine zZ.isR (id := 0) ?_; refine zZ.rc [0, 1] [3, 4, 5, 6, 7, 1000, 1001] (r := (.m m18_2 (.m yG (.m yG (.m yG .e))))) (h := ?_))))
    exact ⟨rfl, rfl⟩
  case refine_2 =>
    unfold runT
    repeat' (first | (refine zY.is ?_; first | refine zY.nil ?_ | (refine zY.in_ [11] rfl ?_; refine zY.ofT rfl (zH.eP [7, 1000, 1003, 1004, 1005] (hn2) ?_))) | (refine zZ.is ?_; first | refine zZ.seq ?_ | (refine zZ.isR (id := 2) ?_; refine zZ.rc [0, 3, 4, 5, 6] [3, 4, 5, 6, 7, 1000, 1001, 1002, 1003, 1004, 1005] (r := (.m yG (.w yQ .e))) (h := ?_)) | (refine zZ.isR (id := 3) ?_; refine zZ.rc [0, 3, 4, 5, 6, 7] [3, 4, 5, 6, 7, 1000, 1001, 1002, 1003, 1004, 1005] (r := (.v vQ (.v v14_0 .e))) (h := ?_))))
    all_goals exact ⟨_, _, _, run1_need q.kind q.cell q.a q.b q.d 0 false 0 0 false, .inr ⟨_, rfl, rfl, rfl⟩, wO (by decide) rfl (by repeat' first | exact trivial | rfl | constructor), rfl, rfl, .tup rfl (by decide) (.cons (.cellN rfl rfl (by rfl) (by rfl)) (.cons (.cellN rfl rfl (by rfl) (by rfl)) (.cons (.cell1 rfl rfl rfl) .nil))), wD (by repeat' first | exact trivial | rfl | constructor)⟩
theorem next_done (L : List yE) (hL : wF L) {t : Int} (c me : Int) {k u v w : Int} (ht : Small t) (h : OpL k u v w) {o : OutN} {j : Nat} (hm : (opL t k u v w).run (y5 L) 0 = .done o j) :
    Fn Tryz.prog 10 [.val (.int .i64 t), .val (.int .i64 c), .val (.int .i64 me), opV k u v w, logV L] (.tup [accV 0 0 0 0 xW, outV o.e o.is o.n o.w, .val (.bool true)]) := by
  have hr := run_done L hL ht h hm
  refine yS Tryz.func10 rfl Tryz.ntmps10 (Nat.le_of_ble_eq_true rfl) ?_
  repeat' (first | (refine zY.is ?_; first | refine zY.nil ?_ | (refine zY.at_ 16 rfl ?_; refine zY.rc (.v y9 (.v y9 (.v y9 (.w yQ (.w yQ (.v zC .e)))))) ?_) | (refine zY.in_ [15] rfl ?_; refine zY.ofT rfl (zH.eR [8, 5] (hr) ?_))) | (refine zZ.is ?_; first | refine zZ.seq ?_ | (refine zZ.isR (id := 0) ?_; refine zZ.rc [0, 3, 4] [5, 8, 10, 11] (r := (.m m18_1 (.m qE (.m yG (.m yG (.v zC .e)))))) (h := ?_)) | (refine zZ.isR (id := 1) ?_; refine zZ.rc [4, 5, 8, 10, 11, 12] [5, 8, 10, 11] (r := (.v v14_0 (.v zJ .e))) (h := ?_)) | refine zZ.ret ?_))
  all_goals exact ⟨by first | exact .inl rfl | exact .inr rfl, _, Sub.refl _, .tupE rfl (by decide) (.cons (.cellN rfl rfl (by rfl) (by rfl)) (.cons (.cellN rfl rfl (by rfl) (by rfl)) (.cons (.tmp rfl) .nil))) rfl⟩
theorem next_need (L : List yE) (hL : wF L) {t : Int} (c me : Int) {k u v w : Int} (ht : Small t) (h : OpL k u v w) {q : Ned} {j : Nat} (hm : (opL t k u v w).run (y5 L) 0 = .need q j) :
    Fn Tryz.prog 10 [.val (.int .i64 t), .val (.int .i64 c), .val (.int .i64 me), opV k u v w, logV L] (.tup [accQ q, outV 0 false 0 0, .val (.bool false)]) := by
  have hr := run_need L hL ht h hm
  unfold accQ at hr ⊢
  refine yS Tryz.func10 rfl Tryz.ntmps10 (Nat.le_of_ble_eq_true rfl) ?_
  repeat' (first | (refine zY.is ?_; first | refine zY.nil ?_ | (refine zY.at_ 16 rfl ?_; refine zY.rc (.v y9 (.v y9 (.v y9 (.w yQ (.w yQ (.v zC .e)))))) ?_) | (refine zY.in_ [15] rfl ?_; refine zY.ofT rfl (zH.eR [8, 5] (hr) ?_))) | (refine zZ.is ?_; first | refine zZ.seq ?_ | (refine zZ.isR (id := 0) ?_; refine zZ.rc [0, 3, 4] [5, 8, 10, 11] (r := (.m m18_1 (.m qE (.m yG (.m yG (.v zC .e)))))) (h := ?_)) | (refine zZ.isR (id := 1) ?_; refine zZ.rc [4, 5, 8, 10, 11, 12] [5, 8, 10, 11] (r := (.v v14_0 (.v zJ .e))) (h := ?_)) | refine zZ.ret ?_))
  all_goals exact ⟨by first | exact .inl rfl | exact .inr rfl, _, Sub.refl _, .tupE rfl (by decide) (.cons (.cellN rfl rfl (by rfl) (by rfl)) (.cons (.cellN rfl rfl (by rfl) (by rfl)) (.cons (.tmp rfl) .nil))) rfl⟩
end Go.Proofs.YtohlllohmoojiaaGreatDoor
/- Own rows of pure elements; rows that are frozen wherever they are spoken of; calls of function values. Generic over the program. -/
namespace Go.Proofs.YtohlllohmoojiaaGreatDoor
set_option maxRecDepth 100000
set_option maxHeartbeats 16000000
open Go Go.RowKit
/-! ### Rows of pure elements -/
def qP (e sz : Nat) (es : List PV) : Blk := .prow e sz es.length (flat es)
theorem rowV_alike (e sz : Nat) (es : List PV) : Alike (.row e sz es.length ((flat es).map AV.p)) (qP e sz es) := .rp _ _ _ _
theorem rowV_alike' (e sz : Nat) (es : List PV) : Alike (qP e sz es) (.row e sz es.length ((flat es).map AV.p)) := .pr _ _ _ _
theorem flat_append (xs ys : List PV) : flat (xs ++ ys) = flat xs ++ flat ys := by simp [flat]
section
variable {P : Program} {n : Nat} {o : Oper} {S : AS} {d : Nat} {t : TypeId} {x y : Operand}
theorem w_appV {id e sz by_ : Nat} {z : Value} {cs bs : List PV} [ht : Und P t (.slice e)] [hi : InfoA P e z sz by_] (ho : o.op = .call { callee := .builtin .append, args := #[x, y], argTypes := #[t, t] }) (hx : S.get x = .own id) (hb : S.blk id = some (qP e sz cs))
    (hy : S.get y = .p (.sl bs)) (hes : ∀ e ∈ bs, e.cells.length = sz) (hlim : (cs.length + bs.length) * by_ ≤ 140737488355328 ∧ cs.length + bs.length ≤ maxLen) (hzs : z.cells.size = sz) (hsz : 0 < sz) (hd : o.dst = some d) (hn : d < n) :
    Step P n o S ((S.create id (qP e sz (cs ++ bs))).put d (.own id)) := by
  have h := w_appendP (P := P) (S := S.tag id (.row e sz cs.length ((flat cs).map AV.p))) (o := o) (d := d) ho (by rw [AS.wT]; exact hx) (by rw [AS.xS, if_pos rfl]) (by rw [AS.wT]; exact hy) hes hlim hzs hsz hd hn
  have e1 : Blk.row e sz (cs.length + bs.length) ((flat cs).map AV.p ++ (flat bs).map AV.p) = .row e sz (cs ++ bs).length ((flat (cs ++ bs)).map AV.p) := by
    rw [flat_append, List.map_append, List.length_append]
  rw [e1] at h
  exact h.same (vI hb (rowV_alike' e sz cs)) (((vL hb (rowV_alike e sz cs)).create id (rowV_alike e sz (cs ++ bs))).put d _)
theorem qU {ix : Operand} {id e ty sz : Nat} {j : Int} {k : IntKind} {es : List PV} {agg : Bool} [ht : Und P t (.slice e)] [he : TyA P e agg sz] (ho : o.op = .indexAddr t x ix) (hx : S.get x = .own id) (hb : S.blk id = some (qP ty sz es)) (hi : S.get ix = .p (.val (.int k j)))
    (hj : 0 ≤ j ∧ j < es.length) (hd : o.dst = some d) (hn : d < n) : zK P n o S [id] (.ptr id (j.toNat * sz)) none :=
  zK.tag hb (rowV_alike' ty sz es) (rowV_alike ty sz es) (by simp) (w_indexO (S := S.tag id (.row ty sz es.length ((flat es).map AV.p))) ho (by rw [AS.wT]; exact hx) (by rw [AS.xS, if_pos rfl]) (by rw [AS.wT]; exact hi) hj hd hn)
theorem flat_set {sz : Nat} : ∀ {es : List PV} {i : Nat} {v : PV}, (∀ e ∈ es, e.cells.length = sz) → v.cells.length = sz → i < es.length → splice (flat es) (i * sz) v.cells = flat (es.set i v)
  | [], i, v, _, _, h => by simp at h
  | e :: es, 0, v, he, hv, _ => by
    have h1 := he e (by simp)
    have : flat (e :: es) = e.cells ++ flat es := by simp [flat]
    rw [Nat.zero_mul, this, List.set_cons_zero]
    have h2 : flat (v :: es) = v.cells ++ flat es := by simp [flat]
    rw [h2]
    apply List.ext_getElem?
    intro j
    rw [xE (by simp; omega)]
    by_cases hj : j < v.cells.length
    · rw [if_neg (by omega), if_pos (by omega), List.getElem?_append_left hj, Nat.sub_zero]
    · rw [if_neg (by omega), if_neg (by omega), List.getElem?_append_right (by omega), List.getElem?_append_right (by omega), h1, hv]
  | e :: es, i + 1, v, he, hv, hi => by
    have h1 := he e (by simp)
    have ih := flat_set (es := es) (i := i) (v := v) (fun e h => he e (by simp [h])) hv (by simpa using hi)
    have h3 : flat (e :: es) = e.cells ++ flat es := by simp [flat]
    have h4 : flat ((e :: es).set (i + 1) v) = e.cells ++ flat (es.set i v) := by simp [flat]
    have hfl := flat_len (es := es) (sz := sz) (fun e h => he e (by simp [h]))
    have hi' : i < es.length := by simpa using hi
    have hle : i * sz + sz ≤ (flat es).length := by
      rw [hfl]
      have : (i + 1) * sz ≤ es.length * sz := Nat.mul_le_mul_right _ hi'
      rw [Nat.add_mul] at this
      omega
    rw [h3, h4, ← ih]
    apply List.ext_getElem?
    intro j
    have e1 : (i + 1) * sz = sz + i * sz := by rw [Nat.add_mul]; omega
    rw [xE (by rw [List.length_append, h1, hv, e1]; omega), e1]
    by_cases hj : j < e.cells.length
    · rw [if_pos (show j < sz + i * sz by omega), List.getElem?_append_left hj, List.getElem?_append_left hj]
    · rw [List.getElem?_append_right (by omega), List.getElem?_append_right (by omega), xE (by rw [hv]; omega), h1, hv]
      by_cases h5 : j < sz + i * sz
      · rw [if_pos h5, if_pos (show j - sz < i * sz by omega)]
      · rw [if_neg h5, if_neg (show ¬ j - sz < i * sz by omega)]
        by_cases h6 : j < sz + i * sz + sz
        · rw [if_pos h6, if_pos (show j - sz < i * sz + sz by omega)]
          congr 1
          omega
        · rw [if_neg h6, if_neg (show ¬ j - sz < i * sz + sz by omega)]
theorem splice_map {α β : Type} (f : α → β) (l : List α) (o : Nat) (v : List α) : splice (l.map f) o (v.map f) = (splice l o v).map f := by simp [splice, List.map_take, List.map_drop]
theorem w_storeV {id off i e sz : Nat} {es : List PV} {v : PV} {agg : Bool} [h : TyA P t agg sz] (ho : o.op = .store t x y) (hx : S.get x = .ptr id off) (hb : S.blk id = some (qP e sz es)) (hy : S.get y = .p v) (hk : (AV.p v).qW = true) (hes : ∀ e ∈ es, e.cells.length = sz) (hv : v.cells.length = sz) (hoff : off = i * sz) (hi : i < es.length) (hd : o.dst = none) :
    Step P n o S (S.tag id (qP e sz (es.set i v))) := by
  subst hoff
  have hfl := flat_len hes
  have hle : i * sz + sz ≤ (flat es).length := by
    rw [hfl]
    have : (i + 1) * sz ≤ es.length * sz := Nat.mul_le_mul_right _ hi
    rw [Nat.add_mul] at this
    omega
  have h1 := zT (P := P) (n := n) (S := S.tag id (.row e sz es.length ((flat es).map AV.p))) (o := o) (agg := agg) (m := sz) ho (by rw [AS.wT]; exact hx) (by rw [AS.xS, if_pos rfl]) (by rw [AS.wT, hy]) hk (by show (v.cells.map AV.p).length = sz; rw [List.length_map, hv]) (by show i * sz + sz ≤ ((flat es).map AV.p).length; rw [List.length_map]; exact hle) rfl hd
  have e1 : (Blk.row e sz es.length ((flat es).map AV.p)).setXs (splice (Blk.row e sz es.length ((flat es).map AV.p)).xs (i * sz) (AV.p v).wZ) = .row e sz (es.set i v).length ((flat (es.set i v)).map AV.p) := by
    show Blk.row e sz es.length (splice ((flat es).map AV.p) (i * sz) (v.cells.map AV.p)) = _
    rw [splice_map, flat_set hes hv hi, List.length_set]
  rw [e1] at h1
  refine h1.same (vI hb (rowV_alike' e sz es)) ⟨fun _ => rfl, fun j => ?_⟩
  show (if id = j then some _ else if id = j then some _ else S.blk j) = none ∧ (if id = j then some _ else S.blk j) = none ∨ ∃ b b', (if id = j then some _ else if id = j then some _ else S.blk j) = some b ∧ (if id = j then some _ else S.blk j) = some b' ∧ Alike b b'
  by_cases hj : id = j
  · subst hj
    rw [if_pos rfl, if_pos rfl]
    exact .inr ⟨_, _, rfl, rfl, rowV_alike e sz (es.set i v)⟩
  · rw [if_neg hj, if_neg hj, if_neg hj]
    cases S.blk j with
    | none => exact .inl ⟨rfl, rfl⟩
    | some b => exact .inr ⟨b, b, rfl, rfl, .refl b⟩
theorem flat_at {sz : Nat} {es : List PV} (hes : ∀ e ∈ es, e.cells.length = sz) {i : Nat} {c : PV} (hc : es[i]? = some c) : ((flat es).drop (i * sz)).take sz = c.cells := flat_get hes hc
theorem w_loadVN {id off i e sz : Nat} {es cs : List PV} [h : TyA P t true sz] (ho : o.op = .load t x) (hx : S.get x = .ptr id off) (hb : S.blk id = some (qP e sz es)) (hes : ∀ e ∈ es, e.cells.length = sz) (hoff : off = i * sz) (hc : es[i]? = some (.agg cs)) (hd : o.dst = some d) (hn : d < n) : zK P n o S [id] (.p (.agg cs)) none := by
  subst hoff
  refine a_loadRN (b := qP e sz es) ho hx hb ?_ (hes _ (List.mem_of_getElem? hc)) h.ag h.sz hd hn
  show (((flat es).map AV.p).drop (i * sz)).take sz = cs.map AV.p
  rw [← List.map_drop, ← List.map_take, flat_at hes hc]
  rfl
theorem flat_rep {zp : PV} {sz : Nat} (hz : zp.cells.length = sz) (hsz : 0 < sz) : ∀ {m j : Nat}, j < m * sz → (flat (List.replicate m zp))[j]? = zp.cells[j % sz]?
  | 0, j, h => by omega
  | m + 1, j, h => by
    have e : flat (List.replicate (m + 1) zp) = zp.cells ++ flat (List.replicate m zp) := by simp [flat, List.replicate_succ]
    rw [e]
    by_cases hj : j < sz
    · rw [List.getElem?_append_left (by omega), Nat.mod_eq_of_lt hj]
    · rw [Nat.add_mul] at h
      rw [List.getElem?_append_right (by omega), hz, flat_rep hz hsz (by omega), Nat.mod_eq_sub_mod (show sz ≤ j by omega)]
theorem w_makeV {e sz by_ m : Nat} {k : IntKind} {z : Value} {xl xc : Operand} [ht : Und P t (.slice e)] [hi : InfoA P e z sz by_] (ho : o.op = .makeSlice t xl xc) (hl : S.get xl = .p (.val (.int k (m : Int)))) (hc : S.get xc = .p (.val (.int k (m : Int)))) (hlim : m * sz ≤ 16777216 ∧ by_ * m ≤ 281474976710656 ∧ m ≤ maxLen)
    (hzs : z.cells.size = sz) (hsz : 0 < sz) {zp : PV} (hzp : zp.cells = z.cells.toList.map PV.val) (h1 : z.cells.toList.all (fun u => u.oneCell') = true) (hd : o.dst = some d) (hn : d < n) : zK P n o S [] (.own d) (some (qP e sz (List.replicate m zp))) :=
  zK.made hd hn fun S2 hg _ M w0 ρ a w hs => by
    have r1 := hs.val ((hg xl (by rw [ho]; simp [Op.operands])).trans hl)
    have r2 := hs.val ((hg xc (by rw [ho]; simp [Op.operands])).trans hc)
    obtain ⟨i, hi1, hi2⟩ := Option.map_eq_some_iff.1 hi.h
    simp only [Prod.mk.injEq] at hi2
    obtain ⟨hz, hisz, hiby⟩ := hi2
    obtain ⟨w', hr, hown, hgr⟩ := run_makeSlice_full (P := P) w 0 t e i z sz ht.h hi1 hz hisz k k m hlim.1 (by rw [hiby]; exact hlim.2.1) hlim.2.2 (Nat.zero_le _)
    refine ⟨.slice (some ⟨w.heap.size, 0, none⟩) m m, w', ?_, hgr, fun k hk => ?_, ?_, .inl rfl⟩
    · unfold execOp
      rw [ho]
      simp only [r1, r2, Sem.run_bind, hr]
      rfl
    · simp only [yA, Option.some.injEq] at hk; omega
    · have hlen : (madeCells z.cells (m * sz)).toList.length = m * sz := by rw [Array.length_toList, size_madeCells]
      have hzl : z.cells.toList.length = sz := by rw [Array.length_toList]; exact hzs
      have hat : ∀ j, j < m * sz → (madeCells z.cells (m * sz)).toList[j]? = z.cells.toList[j % sz]? := fun j hj => by
        have hjs : j % sz < z.cells.size := by rw [hzs]; exact Nat.mod_lt _ hsz
        simp only [madeCells, Array.toList_map, Array.toList_range, List.getElem?_map, List.getElem?_range hj, Option.map_some, Array.getElem?_toList, hzs]
        rw [getElem!_pos z.cells _ hjs, Array.getElem?_eq_getElem hjs]
      have hfl : flat (List.replicate m zp) = (madeCells z.cells (m * sz)).toList.map PV.val := by
        apply List.ext_getElem?
        intro j
        by_cases hj : j < m * sz
        · rw [flat_rep (sz := sz) (by rw [hzp, List.length_map, hzl]) hsz hj, hzp, List.getElem?_map, List.getElem?_map, hat j hj]
        · rw [List.getElem?_eq_none (l := (madeCells z.cells (m * sz)).toList.map PV.val) (by rw [List.length_map, hlen]; omega), List.getElem?_eq_none]
          rw [flat_len (sz := sz) (fun e he => by rw [List.eq_of_mem_replicate he, hzp, List.length_map, hzl]), List.length_replicate]
          omega
      refine ⟨_, by rw [List.length_replicate]; exact hown, ⟨by rw [hfl, List.length_map, List.length_map], fun j c v h2 h3 => ?_, fun v hv => ?_⟩⟩
      · rw [hfl, List.map_map, List.getElem?_map, h3] at h2
        cases h2
        exact .p (.val _)
      · obtain ⟨j, hj⟩ := List.getElem?_of_mem hv
        have hjl : j < m * sz := by
          have := (List.getElem?_eq_some_iff.1 hj).1
          rw [hlen] at this
          exact this
        rw [hat j hjl] at hj
        exact List.all_eq_true.1 h1 v (List.mem_of_getElem? hj)
end
end Go.Proofs.YtohlllohmoojiaaGreatDoor
/- Rows that are frozen wherever they are spoken of; rows that are lent and grow; calls of function values; arrays. Generic over the program. -/
namespace Go.Proofs.YtohlllohmoojiaaGreatDoor
set_option maxRecDepth 100000
set_option maxHeartbeats 16000000
open Go Go.RowKit
/-! ### Frozen wherever it is spoken of -/
def AV.frz (id : Nat) (x : PV) : AV → AV
  | .own j => if j = id then .p x else .own j
  | y => y.kill id
def Blk.frz (id : Nat) (x : PV) : Blk → Blk
  | .row t s n xs => .row t s n (xs.map (AV.frz id x))
  | .prow t s n xs => .prow t s n xs
  | .box t xs => .box t (xs.map (AV.frz id x))
  | .lent t s n xs => .lent t s n xs
  | .obj mp Q => .obj mp Q
def AS.frz (S : AS) (id : Nat) (x : PV) : AS := { t := S.t.map fun p => (p.1, p.2.frz id x), s := (dropL S.s id).map fun p => (p.1, p.2.frz id x) }
theorem AS.tmp_frz (S : AS) (id : Nat) (x : PV) (i : Nat) : (S.frz id x).tmp i = (S.tmp i).frz id x := by
  simp only [AS.tmp, AS.frz, look_map]
  cases look S.t i <;> rfl
theorem AS.blk_frz (S : AS) (id : Nat) (x : PV) (j : Nat) : (S.frz id x).blk j = if id = j then none else (S.blk j).map (Blk.frz id x) := by
  simp only [AS.blk, AS.frz, look_map, look_dropL]
  by_cases hj : id = j
  · rw [if_pos hj, if_pos hj]; rfl
  · rw [if_neg hj, if_neg hj]
theorem Blk.turns_frz (b : Blk) (id : Nat) (x : PV) (c : Nat) : (b.frz id x).turns c ↔ b.turns c := by cases b <;> exact Iff.rfl
theorem yD.frz {M : Nat → Nat → Prop} {ρ : Nat → Value} {w : World} {y : AV} {v : Value} {id : Nat} {x : PV} (h : yD M ρ w y v) (hx : Rep M w x (ρ id)) : yD M ρ w (y.frz id x) v := by
  have hk := h.killed id (ρ id)
  rw [upd_self] at hk
  cases y with
  | own j =>
    show yD M ρ w (if j = id then .p x else .own j) v
    by_cases hj : j = id
    · subst hj
      rw [if_pos rfl, qI h]
      exact .p hx
    · rw [if_neg hj]
      exact h
  | _ => exact hk
theorem yH.frz {M : Nat → Nat → Prop} {ρ : Nat → Value} {w : World} {xs : List AV} {ys : List Value} {id : Nat} {x : PV} (h : yH M ρ w xs ys) (hx : Rep M w x (ρ id)) : yH M ρ w (xs.map (AV.frz id x)) ys :=
  ⟨by simp [h.len], fun i c v hc hv => by
    rw [List.getElem?_map, Option.map_eq_some_iff] at hc
    obtain ⟨c', hc', rfl⟩ := hc
    exact (h.each i c' v hc' hv).frz hx, h.one⟩
section
variable {M : Nat → Nat → Prop} {n : Nat} {w0 : Home} {w w' : World} {S : AS} {ρ : Nat → Value} {a : Act}
theorem Mut.frz {id k c : Nat} {x : PV} (h : Mut M (S.frz id x) ρ k c) : Mut M (S.drop id) ρ k c := by
  rcases h with h | ⟨j, b, hb, hk, ht⟩
  · exact .inl h
  · rw [AS.blk_frz] at hb
    split at hb
    · cases hb
    · rename_i hne
      obtain ⟨b1, h1, rfl⟩ := Option.map_eq_some_iff.1 hb
      exact .inr ⟨j, b1.kill id, by rw [AS.wN, if_neg hne, h1]; rfl, hk, (Blk.turns_kill b1 id c).2 ((Blk.turns_frz b1 id x c).1 ht)⟩
theorem Sat.frz_of (h : Sat M n w0 S ρ a w) {id : Nat} {x : PV} (hx : Rep (Mut M (S.drop id) ρ) w x (ρ id)) : Sat M n w0 (S.frz id x) ρ a w := by
  have hx' : Rep (Mut M (S.frz id x) ρ) w x (ρ id) := hx.mono fun _ _ _ hk => Mut.frz hk
  have hm : ∀ k c, k < w.heap.size → Mut M (S.frz id x) ρ k c → Mut M S ρ k c := fun k c _ hk => Mut.drop (Mut.frz hk)
  refine ⟨h.below, h.out, h.tab, h.size, h.defers, fun i => ?_, fun j b hb => ?_, fun j b k hb hk => ?_, h.fix, h.free, fun i j bi bj k hi hj => ?_⟩
  · rw [AS.tmp_frz]
    exact ((h.tmps i).mono hm).frz hx'
  · rw [AS.blk_frz] at hb
    split at hb
    · cases hb
    · obtain ⟨b1, h1, rfl⟩ := Option.map_eq_some_iff.1 hb
      have := h.blks j b1 h1
      cases b1 with
      | row t size m xs =>
        obtain ⟨ys, ho, hc⟩ := this
        exact ⟨ys, ho, (hc.mono hm).frz hx'⟩
      | prow t size m xs =>
        obtain ⟨ys, ho, hc⟩ := this
        exact ⟨ys, ho, hc.mono hm⟩
      | lent t size m xs =>
        obtain ⟨ys, ho, hc⟩ := this
        exact ⟨ys, ho, hc.mono hm⟩
      | obj mp Q => exact this
      | box t xs =>
        obtain ⟨g, ys, hv, hg, hh, hc⟩ := this
        exact ⟨g, ys, hv, hg, hh, (hc.mono hm).frz hx'⟩
  · rw [AS.blk_frz] at hb
    split at hb
    · cases hb
    · obtain ⟨b1, h1, _⟩ := Option.map_eq_some_iff.1 hb
      exact h.mine j b1 k h1 hk
  · rw [AS.blk_frz] at hi hj
    split at hi
    · cases hi
    · split at hj
      · cases hj
      · obtain ⟨b1, h1, _⟩ := Option.map_eq_some_iff.1 hi
        obtain ⟨b2, h2, _⟩ := Option.map_eq_some_iff.1 hj
        exact h.dist i j b1 b2 k h1 h2
end
theorem sub_frz {S : AS} {id e sz : Nat} {es : List PV} (hb : S.blk id = some (qP e sz es)) : Sub S (S.frz id (.sl es)) :=
  fun M n w0 ρ a w hs => by
    refine ⟨ρ, hs.frz_of ?_⟩
    have h1 := ((vI hb (rowV_alike' e sz es)).sat hs).frozen (id := id) (es := es) (by rw [AS.xS, if_pos rfl]) rfl
    refine h1.mono fun k c _ hk => ?_
    rcases hk with hk | ⟨j, b, hj, hk, ht⟩
    · exact .inl hk
    · rw [AS.wN] at hj
      split at hj
      · cases hj
      · rename_i hne
        refine .inr ⟨j, b, ?_, hk, ht⟩
        rw [AS.wN, if_neg hne, AS.xS, if_neg hne]
        exact hj
/-! ### Rows that are lent -/
def lentV (e sz : Nat) (es : List PV) : Blk := .lent e sz es.length (flat es)
theorem sub_lend {S : AS} {id e sz : Nat} {es : List PV} (hb : S.blk id = some (qP e sz es)) : Sub S (S.tag id (lentV e sz es)) :=
  fun M n w0 ρ a w h => by
    have hm : ∀ k c, k < w.heap.size → Mut M (S.tag id (lentV e sz es)) ρ k c → Mut M S ρ k c := fun k c _ hk => by
      rcases hk with hk | ⟨j, b, hj, hk, ht⟩
      · exact .inl hk
      · rw [AS.xS] at hj
        split at hj
        · rename_i he
          subst he
          exact .inr ⟨id, _, hb, hk, trivial⟩
        · exact .inr ⟨j, b, hj, hk, ht⟩
    have some_of : ∀ j b, (S.tag id (lentV e sz es)).blk j = some b → ∃ b1, S.blk j = some b1 := fun j b hj => by
      rw [AS.xS] at hj
      split at hj
      · rename_i he; subst he; exact ⟨_, hb⟩
      · exact ⟨b, hj⟩
    refine ⟨ρ, h.below, h.out, h.tab, h.size, h.defers, fun i => (h.tmps i).mono hm, fun j b hj => ?_, fun j b k hj hk => ?_, h.fix, h.free, fun i j bi bj k hi hj => ?_⟩
    · rw [AS.xS] at hj
      split at hj
      · rename_i he
        subst he
        obtain rfl := Option.some.inj hj
        obtain ⟨ys, ho, hc⟩ := h.blks id _ hb
        exact ⟨ys, ho, hc.mono hm⟩
      · have := h.blks j b hj
        cases b with
        | row t size m xs => obtain ⟨ys, ho, hc⟩ := this; exact ⟨ys, ho, hc.mono hm⟩
        | prow t size m xs => obtain ⟨ys, ho, hc⟩ := this; exact ⟨ys, ho, hc.mono hm⟩
        | lent t size m xs => obtain ⟨ys, ho, hc⟩ := this; exact ⟨ys, ho, hc.mono hm⟩
        | obj mp Q => exact this
        | box t xs => obtain ⟨g, ys, hv, hg, hh, hc⟩ := this; exact ⟨g, ys, hv, hg, hh, hc.mono hm⟩
    · obtain ⟨b1, h1⟩ := some_of j b hj
      exact h.mine j b1 k h1 hk
    · obtain ⟨b1, h1⟩ := some_of i bi hi
      obtain ⟨b2, h2⟩ := some_of j bj hj
      exact h.dist i j b1 b2 k h1 h2
/-- what is lent reads as a slice that nobody turns -/
theorem Sat.lentRep {M : Nat → Nat → Prop} {n : Nat} {w0 : Home} {w : World} {S : AS} {ρ : Nat → Value} {a : Act} (h : Sat M n w0 S ρ a w) {id e sz : Nat} {es : List PV} (hb : S.blk id = some (lentV e sz es)) : Rep (Mut M S ρ) w (.sl es) (ρ id) := by
  obtain ⟨ys, ho, hc⟩ := h.blks id _ hb
  have hyl : ys.length = es.length * sz := ho.1
  rcases ho.2 with ⟨hv, hm0⟩ | ⟨g, cap, cur, hv, hg, hh, hn, hcm, hs, ht⟩
  · rw [hv]
    have : es = [] := List.eq_nil_of_length_eq_zero hm0
    subst this
    exact .nil
  · rw [hv]
    have hgm : yA (ρ id) = some g := by rw [hv]; rfl
    refine .sl es g 0 es.length cap ys rfl (by simpa using hc.len) (fun j y hy => ?_) (fun j c y hcj hy => ?_) hc.one ?_ (Array.getElem?_eq_some_iff.1 hh).1 hn hcm
    · rw [Nat.zero_add, cell_of_row w g j cur e (0, 0) hh]
      rw [← ht, List.getElem?_take] at hy
      split at hy
      · simpa using hy
      · cases hy
    · exact rep_p (hc.each j (.p c) y (by rw [List.getElem?_map, hcj]; rfl) hy)
    · rintro i hi (hk | ⟨j, b, hbj, hkj, htj⟩)
      · exact h.out g _ hk (h.mine id _ g hb hgm)
      · have := h.dist id j _ b g hb hbj hgm hkj
        subst this
        rw [hb] at hbj
        obtain rfl := Option.some.inj hbj
        have : es.length * sz ≤ 0 + i := htj
        omega
theorem sub_view {S : AS} {d id e sz : Nat} {es : List PV} (hd : S.tmp d = .own id) (hb : S.blk id = some (lentV e sz es)) : Sub S (S.put d (.p (.sl es))) :=
  fun M n w0 ρ a w hs => by
    refine ⟨ρ, hs.retype (.p ?_)⟩
    have h1 := hs.tmps d
    rw [hd] at h1
    rw [qI h1]
    exact hs.lentRep hb
end Go.Proofs.YtohlllohmoojiaaGreatDoor
/- A lent row grows; calls of function values; arrays in variables; slices that are compared with nil. Generic over the program. -/
namespace Go.Proofs.YtohlllohmoojiaaGreatDoor
set_option maxRecDepth 100000
set_option maxHeartbeats 16000000
open Go Go.RowKit
section
variable {P : Program} {n : Nat} {o : Oper} {S : AS} {d : Nat} {t : TypeId} {x y : Operand}
theorem s_appL {id e sz by_ : Nat} {z : Value} {cs bs : List PV} [ht : Und P t (.slice e)] [hi : InfoA P e z sz by_] (ho : o.op = .call { callee := .builtin .append, args := #[x, y], argTypes := #[t, t] }) (hx : S.get x = .own id) (hb : S.blk id = some (lentV e sz cs))
    (hy : S.get y = .p (.sl bs)) (hes : ∀ e ∈ bs, e.cells.length = sz) (hlim : (cs.length + bs.length) * by_ ≤ 140737488355328 ∧ cs.length + bs.length ≤ maxLen) (hzs : z.cells.size = sz) (hsz : 0 < sz) (hd : o.dst = some d) (hn : d < n) :
    Step P n o S ((S.create id (lentV e sz (cs ++ bs))).put d (.own id)) := by
  intro M w0 ρ a w K Q hs hK
  obtain ⟨i, hi1, hi2⟩ := Option.map_eq_some_iff.1 hi.h
  simp only [Prod.mk.injEq] at hi2
  obtain ⟨hz, hisz, hiby⟩ := hi2
  have h1 := hs.rep x
  rw [hx] at h1
  have hv := qI h1
  obtain ⟨ys, hown, hys⟩ := hs.blks id _ hb
  have hown : w.ownsRow 0 e sz (ρ id) cs.length ys := hown
  obtain ⟨us, hus, hnews⟩ := news_p (ρ := ρ) (xY hs hy) hes
  have e1 : yA (ρ id) = (ρ id).ownBlock := own_slice hown
  have hfree : w0.r id = none := row_free hs hown
  have main : ∀ v' w' row, (Builtin.append_ #[t, t] o.type #[ρ id, a.eval y]).run P w = .ok v' w' → w.grownBy w' row → w'.ownsRow 0 e sz v' (cs.length + bs.length) (ys ++ us) → (row = none ∨ row = (ρ id).ownBlock) →
      (∀ k, yA v' = some k → w.heap.size ≤ k ∨ row = some k) → (∀ k c, row = some k → c < cs.length * sz → w'.cell? ⟨k, c, none⟩ = w.cell? ⟨k, c, none⟩) → o.wp P a w K Q := by
    intro v' w' row hr hg hown' hrow hv' hcell
    have hall : yH (Mut M S ρ) ρ w ((flat (cs ++ bs)).map AV.p) (ys ++ us) := by
      rw [flat_append, List.map_append]
      exact ⟨by simp [hys.len, hus.len], fun i c v h1 h2 => by
        by_cases hi : i < ((flat cs).map AV.p).length
        · rw [List.getElem?_append_left hi] at h1
          rw [List.getElem?_append_left (by rw [hys.len]; exact hi)] at h2
          exact hys.each i c v h1 h2
        · rw [List.getElem?_append_right (by omega)] at h1
          rw [List.getElem?_append_right (by rw [hys.len]; omega), hys.len] at h2
          exact hus.each _ c v h1 h2, fun v hv => by
        rcases List.mem_append.1 hv with hv | hv
        · exact hys.one v hv
        · exact hus.one v hv⟩
    have hks : Keeps (fun k c => Mut M S ρ k c ∨ (yA v' = some k ∧ (lentV e sz (cs ++ bs)).turns c)) w w' := ⟨hg.size, fun k c hk hnm => by
      by_cases hrk : row = some k
      · refine hcell k c hrk (Nat.lt_of_not_le fun hle => hnm (.inl (.inr ⟨id, _, hb, ?_, hle⟩)))
        rcases hrow with h | h
        · rw [h] at hrk; cases hrk
        · rw [e1, ← h]; exact hrk
      · exact World.cell?_of_block (w := w) (hg.block k hk fun e => hrk e.symm)⟩
    have hmut : ∀ k c, k < w.heap.size → (Mut M S ρ k c ∨ (yA v' = some k ∧ (lentV e sz (cs ++ bs)).turns c)) → Mut M S ρ k c := fun k c hk h => by
      rcases h with h | ⟨h, ht⟩
      · exact h
      · rcases hv' k h with h2 | h2
        · omega
        · rcases hrow with h3 | h3
          · rw [h3] at h2; cases h2
          · refine .inr ⟨id, _, hb, by rw [e1, ← h3]; exact h2, ?_⟩
            have h4 : (cs ++ bs).length * sz ≤ c := ht
            have h5 : cs.length * sz ≤ (cs ++ bs).length * sz := Nat.mul_le_mul_right _ (by rw [List.length_append]; omega)
            exact Nat.le_trans h5 h4
    have hs' := hs.change id (lentV e sz (cs ++ bs)) v' row hfree hg (fun k hk => ?_) hv' ⟨ys ++ us, by rw [List.length_append]; exact hown', (hall.mono hmut).keep hks⟩
    · unfold Oper.wp execOp
      simp only [ho, resolve, invoke, builtin, Sem.run_bind, Sem.run_pure, Result.andThen_ok, List.map_toArray, List.map_cons, List.map_nil, hv, hr]
      show K (a.put o.dst v') w'
      rw [hd]
      refine hK _ _ w' (hs'.put hn ?_)
      have := yD.own (M := Mut M (S.create id (lentV e sz (cs ++ bs))) (upd ρ id v')) (ρ := upd ρ id v') (w := w') id
      simpa [upd] using this
    · refine ⟨_, hb, ?_, fun c ht => ?_, fun c hnt => hcell k c hk (Nat.lt_of_not_le hnt)⟩
      · rcases hrow with h | h
        · rw [h] at hk; cases hk
        · rw [e1, ← h]; exact hk
      · have h4 : (cs ++ bs).length * sz ≤ c := ht
        have h5 : cs.length * sz ≤ (cs ++ bs).length * sz := Nat.mul_le_mul_right _ (by rw [List.length_append]; omega)
        exact Nat.le_trans h5 h4
  rcases hnews with ⟨hyv, hk0, hu0⟩ | ⟨ad, c, hyv, hul, hcell⟩
  · have hb0 : bs = [] := List.eq_nil_of_length_eq_zero hk0
    subst hu0
    subst hb0
    exact main (ρ id) w (ρ id).ownBlock (by rw [hyv]; exact run_append_owned_none (P := P) w 0 t o.type e i sz ht.h hi1 (ρ id) cs.length ys hown) ⟨rfl, rfl, rfl, Nat.le_refl _, fun _ _ _ => rfl⟩ (by simpa using hown) (.inr rfl) (fun k hk => .inr (by rw [← e1]; exact hk)) (fun _ _ _ _ => rfl)
  · obtain ⟨v', w', hr, hown', hg, _, hob⟩ := run_append_own_at (P := P) w 0 t o.type e i z sz by_ ht.h hi1 hz hisz hiby hzs hsz (ρ id) cs.length ys hown ad bs.length c us hul hcell hus.one hlim.2 hlim.1 (Nat.zero_le _)
    have e2 : yA v' = v'.ownBlock := own_slice hown'
    rcases hown.2 with ⟨hnil, hc0⟩ | ⟨g, cap, cur, hvg, _, hh, hncap, hcm, hcs, htk⟩
    · rw [← hyv] at hr
      refine main v' w' none hr (by rw [hnil] at hg; exact hg) hown' (.inl rfl) (fun k hk => ?_) (fun k c h => by cases h)
      rw [e2] at hk
      rcases hob with h3 | h3
      · rw [h3, hnil] at hk; cases hk
      · rw [h3] at hk; simp at hk; exact .inl (by omega)
    · have hin : ∀ j u, ys[j]? = some u → w.cell? ⟨g, 0 + j, none⟩ = some u := fun j u hu => by
        rw [Nat.zero_add, cell_of_row w g j cur e (0, 0) hh]
        rw [← htk, List.getElem?_take] at hu
        split at hu
        · simpa using hu
        · cases hu
      by_cases hroom : cs.length + bs.length ≤ cap
      · have hr2 := run_append_room_cells (P := P) w t o.type e i ht.h hi1 g 0 cs.length cap ad bs.length c us (by rw [hisz]; exact hul) hcell hus.one hroom (fun j hj => ?_) (fun j hj => frozen_of_row w g _ cur e hh)
        · rw [hvg] at hr
          have he := hr.symm.trans hr2
          injection he with he1 he2
          subst he1
          subst he2
          rw [← hyv, ← hvg] at hr
          refine main _ _ (some g) hr (by rw [hvg] at hg; exact hg) hown' (.inr (by rw [hvg]; rfl)) (fun k hk => .inr (by simpa [yA] using hk)) (fun k c' hk hc' => ?_)
          obtain rfl : g = k := by simpa using hk
          refine World.cell?_setCells_out g us _ w ⟨g, c', none⟩ (fun _ _ => .inl ?_)
          show c' < 0 + cs.length * i.size
          rw [hisz]; omega
        · rw [cell_of_row w g _ cur e (0, 0) hh]
          have h6 : 0 + cs.length * i.size + j < cur.size := by
            rw [hcs, hisz]
            have : (cs.length + bs.length) * sz ≤ cap * sz := Nat.mul_le_mul_right _ hroom
            rw [Nat.add_mul] at this
            omega
          rw [Array.getElem?_eq_getElem h6]
          rfl
      · obtain ⟨v2, w2, hr2, hown2, hg2⟩ := run_append_arg_grows (P := P) w t o.type e i z sz by_ ht.h hi1 hz hisz hiby hzs hsz ⟨g, 0, none⟩ cs.length cap ys hown.1 (fun j u hu => by rw [add_lit]; exact hin j u hu) ad bs.length c us hul hcell (by omega) hlim.2 hlim.1
        rw [hvg] at hr
        have he := hr.symm.trans hr2
        injection he with he1 he2
        subst he1
        subst he2
        rw [← hyv, ← hvg] at hr
        refine main _ _ none hr hg2 hown' (.inl rfl) (fun k hk => ?_) (fun k c' hk => by cases hk)
        rcases hown2.2 with ⟨he3, _⟩ | ⟨g2, _, _, he3, hg3, _⟩
        · rw [he3] at hk; cases hk
        · rw [he3] at hk
          simp only [yA, Option.some.injEq] at hk
          exact .inl (by omega)
/-! ### Calls of function values -/
theorem qN {f : FuncId} {args : Array Operand} {ts : Array TypeId} [hc : HasFn P f] (ho : o.op = .call { callee := .value x, args := args, argTypes := ts }) (hx : S.get x = .p (.val (.func (.func f) #[] #[]))) : Enters P o S f (args.toList.map S.get) :=
  fun M n w0 ρ a w hs => by
    have hv := hs.val hx
    refine ⟨args.toList.map a.eval, ?_, by simp, reps_get hs args.toList⟩
    have e : (args.toList.map a.eval).toArray = args.map a.eval := by apply Array.ext'; simp
    unfold execOp
    rw [ho, e]
    simp [resolve, Deferred.ofValue, hv, invoke, hc.h]
/-- a pure contract, as one of variables -/
theorem FnE.ofFn {f : FuncId} {xs : List PV} {r : PV} (h : Fn P f xs (.p r)) : FnE P f (xs.map AV.p) [] (.ret (.p r)) [] := by
  intro M hh ρ vs _ hs hvl hvs
  have := h (Mut M (asB []) ρ) hh.w vs ⟨hs.lays, hs.tabs⟩ (fun k c hk => Mut.lt hs hk) (by simpa using hvl) (fun i x v h1 h2 => rep_p (hvs i (.p x) v (by rw [List.getElem?_map, h1]; rfl) h2))
  exact this.mono fun e w' ⟨v, he, hr, hb⟩ => ⟨ρ, hs.ext hb, v, he, .p hr⟩
theorem FnE.ofFnT {f : FuncId} {xs : List PV} {l : List PV} (h : Fn P f xs (.tup l)) : FnE P f (xs.map AV.p) [] (.ret (.tup (l.map AV.p))) [] := by
  intro M hh ρ vs _ hs hvl hvs
  have := h (Mut M (asB []) ρ) hh.w vs ⟨hs.lays, hs.tabs⟩ (fun k c hk => Mut.lt hs hk) (by simpa using hvl) (fun i x v h1 h2 => rep_p (hvs i (.p x) v (by rw [List.getElem?_map, h1]; rfl) h2))
  refine this.mono fun e w' ⟨v, he, ⟨us, hu, hul, hue⟩, hb⟩ => ⟨ρ, hs.ext hb, v, he, ?_⟩
  subst hu
  refine .tup _ us (by simpa using hul) fun i c u h1 h2 => ?_
  rw [List.getElem?_map, Option.map_eq_some_iff] at h1
  obtain ⟨y, hy, rfl⟩ := h1
  exact .p (hue i y u hy h2)
/-! ### Compared with nil -/
theorem r_eqlNil {yt : TypeId} {es : List PV} {r : Bool} {e : TypeId} [ht : Und P t (.slice e)] (ho : o.op = .binOp .eql t x y yt) (hx : S.get x = .p (.sl es)) (hy : S.get y = .p (.val (.slice none 0 0))) (hne : es ≠ []) (hr : false = r) (hd : o.dst = some d) (hn : d < n) : zK P n o S [] (.p (.val (.bool r))) none := by
  subst hr
  exact zK.pure hd hn fun S2 hg _ M w0 ρ a w hs => by
    have r1 := xY hs ((hg x (by rw [ho]; simp [Op.operands])).trans hx)
    have r2 := hs.val ((hg y (by rw [ho]; simp [Op.operands])).trans hy)
    rcases rep_sl r1 with ⟨_, h0⟩ | ⟨g, off, cap, ys, hv, _⟩
    · exact (hne h0).elim
    · refine ⟨.bool false, w, ?_, Below.refl _ _, .p (.val _)⟩
      unfold execOp
      rw [ho]
      simp only [hv, r2, Sem.run_bind]
      simp [eqGuard, binOp, run_equal_slice_nil w t e (some ⟨g, off, none⟩) es.length cap ht.h]
/-! ### Arrays in variables -/
theorem vS {ix : Operand} {id off m e sz : Nat} {j : Int} {k : IntKind} {agg : Bool} [ht : Und P t (.array m e)] [he : TyA P e agg sz] (ho : o.op = .indexAddr t x ix) (hx : S.get x = .ptr id off) (hi : S.get ix = .p (.val (.int k j))) (hj : 0 ≤ j ∧ j < m) (hd : o.dst = some d) (hn : d < n) : zK P n o S [] (.ptr id (off + j.toNat * sz)) none :=
  zK.pure hd hn fun S2 hg _ M w0 ρ a w hs => by
    have h1 := hs.rep x
    rw [hg x (by rw [ho]; simp [Op.operands]), hx] at h1
    have h2 := hs.val ((hg ix (by rw [ho]; simp [Op.operands])).trans hi)
    obtain ⟨g, hgv, hv⟩ := vV h1
    refine ⟨.pointer (some ⟨g, off + j.toNat * sz, none⟩), w, ?_, Below.refl _ _, .ptr id _ g hgv⟩
    have hel : P.elem t = e := by simp [Program.elem, ht.h]
    have hal : P.arrayLen t = m := by simp [Program.arrayLen, ht.h]
    unfold execOp
    rw [ho]
    simp only [hv, h2, Sem.run_bind]
    rw [run_indexAt_array w t _ _ _ (by rw [hel, hal]; exact ht.h), hal, if_pos hj, hel, he.sz w]
    simp [Result.andThen, add_lit]
end
end Go.Proofs.YtohlllohmoojiaaGreatDoor
/- Calls that give an own row; ends that do. Generic over the program. -/
namespace Go.Proofs.YtohlllohmoojiaaGreatDoor
set_option maxRecDepth 100000
set_option maxHeartbeats 16000000
set_option linter.unusedSimpArgs false
open Go Go.RowKit
section
variable {P : Program} {n : Nat} {o : Oper} {S : AS} {d : Nat} {t : TypeId} {x y : Operand}
theorem w_build0V {e sz by_ : Nat} {z : Value} [ht : Und P t (.slice e)] [hi : InfoA P e z sz by_] (ho : o.op = .buildSlice t 0 #[]) (hd : o.dst = some d) (hn : d < n) : zK P n o S [] (.own d) (some (qP e sz [])) := (w_build0 ho hd hn).nb (rowV_alike e sz [])
theorem w_callRowV {f : Nat} {args : Array Operand} {ts : Array TypeId} {xs : List PV} {e sz : Nat} {es : List PV} [hc : HasFn P f] (hf : Fn P f xs (.row e sz es.length (flat es))) (ho : o.op = .call { callee := .value (.func f), args := args, argTypes := ts })
    (hx : args.toList.map S.get = xs.map AV.p) (hd : o.dst = some d) (hn : d < n) : zK P n o S [] (.own d) (some (qP e sz es)) := by
  intro S2 hg _ M w0 ρ a w K Q hs hK
  have hargs : ∀ x ∈ args.toList, S2.get x = S.get x := fun x hx => hg x (by rw [ho]; simp [Op.operands, Call.operands]; exact .inr (by simpa using hx))
  have he : (execOp a.eval o).run P w = .ok (.enter f (args.map a.eval)) w := by
    unfold execOp
    rw [ho]
    simp [resolve, Deferred.ofValue, Act.eval, invoke, hc.h]
  unfold Oper.wp
  rw [he, Oper.upon_enter]
  have hlen : (args.toList.map a.eval).length = xs.length := by
    have := congrArg List.length hx
    simpa using this
  have := hf (Mut M S2 ρ) w (args.toList.map a.eval) ⟨hs.lays, hs.tabs⟩ (fun k c hk => Mut.lt hs hk) hlen (fun i x v h1 h2 => by
    rw [List.getElem?_map, Option.map_eq_some_iff] at h2
    obtain ⟨y, hy, rfl⟩ := h2
    have h3 : S.get y = .p x := by
      have h4 : (args.toList.map S.get)[i]? = (xs.map AV.p)[i]? := by rw [hx]
      rw [List.getElem?_map, List.getElem?_map, hy, h1] at h4
      simpa using h4
    exact xY hs ((hargs y (List.mem_of_getElem? hy)).trans h3))
  have e1 : (args.toList.map a.eval).toArray = args.map a.eval := by apply Array.ext'; simp
  rw [e1] at this
  refine this.mono ?_
  rintro en w' ⟨v, rfl, ⟨ys, hown, hl⟩, hb⟩
  show K (a.put o.dst v) w'
  rw [hd] at hK ⊢
  have hnew : ∀ k, yA v = some k → w.heap.size ≤ k := fun k hk => by
    rcases hown.2 with ⟨rfl, _⟩ | ⟨g, cap, cur, rfl, hg2, _⟩
    · cases hk
    · simp only [yA, Option.some.injEq] at hk; omega
  have hs' := hs.change d (qP e sz es) v none (hs.free d hn) (w' := w') ⟨hb.os, hb.tape, hb.output, hb.size, fun k hk _ => hb.block k hk⟩ (fun k hk => by cases hk) (fun k hk => .inl (hnew k hk))
    ⟨ys, vH hown (fun _ _ => Nat.zero_le _), ⟨by simpa using hl.len, fun i c u h1 h2 => by
      rw [List.getElem?_map, Option.map_eq_some_iff] at h1
      obtain ⟨y, hy, rfl⟩ := h1
      exact .p ((hl.each i y u hy h2).mono fun k c _ hk => hk.elim .inl fun h => .inr h.1), hl.one⟩⟩
  refine hK _ _ w' (hs'.put hn ?_)
  have := yD.own (M := Mut M (S2.create d (qP e sz es)) (upd ρ d v)) (ρ := upd ρ d v) (w := w') d
  simpa [upd] using this
def Blk.isRow : Blk → Bool
  | .box _ _ => false
  | _ => true
theorem own_cell {M : Nat → Nat → Prop} {n : Nat} {w0 : Home} {w : World} {S : AS} {ρ : Nat → Value} {a : Act} (hs : Sat M n w0 S ρ a w) {id2 : Nat} {b2 : Blk} (hb2 : S.blk id2 = some b2) (hrow : b2.isRow = true) : (ρ id2).cells.toList = [ρ id2] ∧ (ρ id2).oneCell' = true := by
  have h := hs.blks id2 _ hb2
  have key : ∀ {e sz m : Nat} {ys : List Value}, w.ownsRow 0 e sz (ρ id2) m ys → (ρ id2).cells.toList = [ρ id2] ∧ (ρ id2).oneCell' = true := fun hown => by
    rcases hown.2 with ⟨e, _⟩ | ⟨g', cap, cur, e, _⟩ <;> (rw [e]; exact ⟨rfl, rfl⟩)
  cases b2 with
  | box _ _ => cases hrow
  | obj mp Q => obtain ⟨g, o, e, _⟩ := h; rw [e]; cases mp <;> exact ⟨rfl, rfl⟩
  | row _ _ _ _ => obtain ⟨ys, h, _⟩ := h; exact key h
  | prow _ _ _ _ => obtain ⟨ys, h, _⟩ := h; exact key h
  | lent _ _ _ _ => obtain ⟨ys, h, _⟩ := h; exact key h
theorem own_cells {M : Nat → Nat → Prop} {n : Nat} {w0 : Home} {w : World} {S : AS} {ρ : Nat → Value} {a : Act} (hs : Sat M n w0 S ρ a w) {id2 : Nat} {b2 : Blk} {v : Value} (hb2 : S.blk id2 = some b2) (hrow : b2.isRow = true) (h2 : yD (Mut M S ρ) ρ w (.own id2) v) :
    yH (Mut M S ρ) ρ w (AV.own id2).wZ v.cells.toList := by
  obtain rfl : v = ρ id2 := by cases h2; rfl
  obtain ⟨h3, h4⟩ := own_cell hs hb2 hrow
  rw [h3]
  exact ⟨rfl, fun i c u h1 h3 => by
    cases i with
    | zero => simp [AV.wZ] at h1 h3; subst h1; subst h3; exact .own id2
    | succ i => simp [AV.wZ] at h1, fun u hu => by simp at hu; subst hu; exact h4⟩
/-- a store of an own row's slice -/
theorem s_storeO {id off id2 : Nat} {b b2 : Blk} (ho : o.op = .store t x y) (hx : S.get x = .ptr id off) (hb : S.blk id = some b) (hy : S.get y = .own id2) (hb2 : S.blk id2 = some b2) (hrow : b2.isRow = true) (hm : ∀ w, (sizeOf t).run P w = .ok 1 w)
    (hle : off + 1 ≤ b.xs.length) (hlb : b.lentB = false) (hd : o.dst = none) : Step P n o S { S with s := putL S.s id (b.setXs (splice b.xs off (AV.own id2).wZ)) } := by
  have hlen : (AV.own id2).wZ.length = 1 := rfl
  intro M w0 ρ a w K Q hs hK
  have hfr := Blk.turns_of hlb
  have h1 := hs.rep x
  rw [hx] at h1
  obtain ⟨g, hgv, hv⟩ := vV h1
  have h2 := hs.rep y
  rw [hy] at h2
  have hcy : yH (Mut M S ρ) ρ w (AV.own id2).wZ (a.eval y).cells.toList := own_cells hs hb2 hrow h2
  have hB := hs.blks id b hb
  have key : ∃ cur ty, w.heap[g]? = some (.cells cur ty (0, 0)) ∧ off + (a.eval y).cells.toList.length ≤ cur.size ∧
      (∀ w' : World, w.grownBy w' (some g) → w'.heap[g]? = some (.cells (splice cur.toList off (a.eval y).cells.toList).toArray ty (0, 0)) → wJ (Mut M S ρ) 0 ρ w' (ρ id) (b.setXs (splice b.xs off (AV.own id2).wZ))) := by
    have keeps : ∀ {w' : World}, w.grownBy w' (some g) → Keeps (Mut M S ρ) w w' := fun {w'} hg => ⟨hg.size, fun k c hk hnm => World.cell?_of_block (w := w) (hg.block k hk (fun e => hnm (.inr ⟨id, b, hb, by rw [hgv]; exact e.symm, hfr c⟩)))⟩
    cases b with
    | lent ty size k xs => cases hlb
    | obj mp Q => cases hlb
    | box ty xs =>
      obtain ⟨g', ys, e, hg, hh, hc⟩ := hB
      have eg : g' = g := by rw [e] at hgv; simpa [yA] using hgv
      subst eg
      refine ⟨ys.toArray, ty, hh, ?_, fun w' hgr hh' => ⟨g', splice ys off (a.eval y).cells.toList, e, hg, by simpa using hh', (hc.splice hcy (by rw [hlen]; exact hle)).keep (keeps hgr)⟩⟩
      have e1 := hcy.len
      have e2 := hc.len
      have e3 : off + 1 ≤ xs.length := hle
      simp only [List.size_toArray]
      omega
    | row ty size k xs =>
      obtain ⟨ys, ⟨hl, ho2⟩, hc⟩ := hB
      have e1 := hcy.len
      have e2 := hc.len
      have e3 : off + 1 ≤ xs.length := hle
      rcases ho2 with ⟨e, _⟩ | ⟨g', cap, cur, e, hbg, hh, hkc, hcm, hcs, htk⟩
      · rw [e] at hgv; simp [yA] at hgv
      · have eg : g' = g := by rw [e] at hgv; simpa [yA] using hgv
        subst eg
        have hsz : k * size ≤ cur.size := by rw [hcs]; exact Nat.mul_le_mul_right _ hkc
        refine ⟨cur, ty, hh, by omega, fun w' hgr hh' => ⟨splice ys off (a.eval y).cells.toList, ⟨by rw [wP (by omega)]; exact hl, .inr ⟨g', cap, _, e, hbg, hh', hkc, hcm, ?_, ?_⟩⟩, (hc.splice hcy (by rw [hlen]; exact hle)).keep (keeps hgr)⟩⟩
        · simp only [List.size_toArray]
          rw [wP (by simp only [Array.length_toList] at *; omega)]
          simpa using hcs
        · apply List.ext_getElem?
          intro i
          rw [List.getElem?_take]
          rw [xE (by simp only [Array.length_toList] at *; omega), xE (by omega)]
          have hi : ∀ (i : Nat), i < k * size → cur.toList[i]? = ys[i]? := fun i hi => by rw [← htk, List.getElem?_take, if_pos hi]
          by_cases h3 : i < k * size
          · rw [if_pos h3]
            split
            · exact hi i h3
            · split
              · rfl
              · exact hi i h3
          · rw [if_neg h3]
            rw [if_neg (by omega), if_neg (by omega)]
            exact (List.getElem?_eq_none (by omega)).symm
    | prow ty size k xs =>
      obtain ⟨ys, ⟨hl, ho2⟩, hc⟩ := hB
      have e1 := hcy.len
      have e2 := hc.len
      have e3 : off + 1 ≤ (xs.map AV.p).length := hle
      rcases ho2 with ⟨e, _⟩ | ⟨g', cap, cur, e, hbg, hh, hkc, hcm, hcs, htk⟩
      · rw [e] at hgv; simp [yA] at hgv
      · have eg : g' = g := by rw [e] at hgv; simpa [yA] using hgv
        subst eg
        have hsz : k * size ≤ cur.size := by rw [hcs]; exact Nat.mul_le_mul_right _ hkc
        refine ⟨cur, ty, hh, by omega, fun w' hgr hh' => ⟨splice ys off (a.eval y).cells.toList, ⟨by rw [wP (by omega)]; exact hl, .inr ⟨g', cap, _, e, hbg, hh', hkc, hcm, ?_, ?_⟩⟩, (hc.splice hcy (by rw [hlen]; exact hle)).keep (keeps hgr)⟩⟩
        · simp only [List.size_toArray]
          rw [wP (by simp only [Array.length_toList] at *; omega)]
          simpa using hcs
        · apply List.ext_getElem?
          intro i
          rw [List.getElem?_take]
          rw [xE (by simp only [Array.length_toList] at *; omega), xE (by omega)]
          have hi : ∀ (i : Nat), i < k * size → cur.toList[i]? = ys[i]? := fun i hi => by rw [← htk, List.getElem?_take, if_pos hi]
          by_cases h3 : i < k * size
          · rw [if_pos h3]
            split
            · exact hi i h3
            · split
              · rfl
              · exact hi i h3
          · rw [if_neg h3]
            rw [if_neg (by omega), if_neg (by omega)]
            exact (List.getElem?_eq_none (by omega)).symm
  obtain ⟨cur, ty, hh, hfit, hfin⟩ := key
  have hst := run_storeCells_at P g off ty (a.eval y).cells.toList 0 cur w hh (by simpa using hfit) hcy.one
  have hsz : (a.eval y).cells.size = 1 := by have := hcy.len; rw [hlen] at this; simpa using this
  have hrun : (execOp a.eval o).run P w = .ok .skip (w.setRow g (splice cur.toList off (a.eval y).cells.toList).toArray) := by
    unfold execOp
    rw [ho]
    simp only [hv, Instr.storeAt, Instr.sureAddr, storeVar, Sem.run_bind, Sem.run_pure, Result.andThen_ok, hm, hsz, ne_eq, not_true_eq_false, if_false]
    simp only [Nat.add_zero] at hst
    rw [hst]
    rfl
  have hgr : w.grownBy (w.setRow g (splice cur.toList off (a.eval y).cells.toList).toArray) (some g) := ⟨rfl, rfl, rfl, by simp, fun k _ hk => setRow_other w g k _ (fun e => hk (by rw [e]))⟩
  unfold Oper.wp
  rw [hrun]
  show K (a.put o.dst undef) _
  rw [hd]
  exact hK ρ a _ (hs.turn hb hgv hgr hfr (hfin _ hgr (setRow_heap w g cur _ ty _ hh)))
theorem w_storeO {id off id2 : Nat} {b b2 : Blk} {agg : Bool} [h : TyA P t agg 1] (ho : o.op = .store t x y) (hx : S.get x = .ptr id off) (hb : S.blk id = some b) (hy : S.get y = .own id2) (hb2 : S.blk id2 = some b2) (hrow : b2.isRow = true)
    (hle : off + 1 ≤ b.xs.length) (hlb : b.lentB = false) (hd : o.dst = none) : Step P n o S { S with s := putL S.s id (b.setXs (splice b.xs off [AV.own id2])) } :=
  s_storeO ho hx hb hy hb2 hrow h.sz hle hlb hd
end
theorem givesRowV {P : Program} {fn : Func} {S : AS} {t id e sz : Nat} {es : List PV} (hr : fn.results = #[.tmp t]) (ht : S.tmp t = .own id) (hb : S.blk id = some (qP e sz es)) : ∃ S', Sub S S' ∧ GivesV P fn S' (.row e sz es.length (flat es)) :=
  ⟨_, (vI hb (rowV_alike' e sz es)).sub, .row hr ht (by rw [AS.xS, if_pos rfl])⟩
end Go.Proofs.YtohlllohmoojiaaGreatDoor
/- Instances that hang on functions' types. Written by inst.py. -/
namespace Go.Proofs.YtohlllohmoojiaaGreatDoor
set_option maxRecDepth 100000
set_option maxHeartbeats 16000000
open Go Go.RowKit
set_option maxRecDepth 100000
instance ty1 : TyA Tryz.prog 1 false 1 := ⟨fun _ => by kernel_rfl, fun _ => by kernel_rfl⟩
instance ze1 : ZeroA Tryz.prog 1 (Value.nilFunc) := ⟨fun _ => by kernel_rfl⟩
instance in1 : InfoA Tryz.prog 1 (Value.nilFunc) 1 8 := ⟨by kernel_rfl⟩
instance ty28 : TyA Tryz.prog 28 false 1 := ⟨fun _ => by kernel_rfl, fun _ => by kernel_rfl⟩
instance ze28 : ZeroA Tryz.prog 28 (Value.nilFunc) := ⟨fun _ => by kernel_rfl⟩
instance in28 : InfoA Tryz.prog 28 (Value.nilFunc) 1 8 := ⟨by kernel_rfl⟩
instance ty29 : TyA Tryz.prog 29 false 1 := ⟨fun _ => by kernel_rfl, fun _ => by kernel_rfl⟩
instance ze29 : ZeroA Tryz.prog 29 (Value.nilFunc) := ⟨fun _ => by kernel_rfl⟩
instance in29 : InfoA Tryz.prog 29 (Value.nilFunc) 1 8 := ⟨by kernel_rfl⟩
instance ty30 : TyA Tryz.prog 30 false 1 := ⟨fun _ => by kernel_rfl, fun _ => by kernel_rfl⟩
instance ze30 : ZeroA Tryz.prog 30 (Value.nilFunc) := ⟨fun _ => by kernel_rfl⟩
instance in30 : InfoA Tryz.prog 30 (Value.nilFunc) 1 8 := ⟨by kernel_rfl⟩
instance ty40 : TyA Tryz.prog 40 false 1 := ⟨fun _ => by kernel_rfl, fun _ => by kernel_rfl⟩
instance ze40 : ZeroA Tryz.prog 40 (Value.nilFunc) := ⟨fun _ => by kernel_rfl⟩
instance in40 : InfoA Tryz.prog 40 (Value.nilFunc) 1 8 := ⟨by kernel_rfl⟩
instance ty41 : TyA Tryz.prog 41 false 1 := ⟨fun _ => by kernel_rfl, fun _ => by kernel_rfl⟩
instance ze41 : ZeroA Tryz.prog 41 (Value.nilFunc) := ⟨fun _ => by kernel_rfl⟩
instance in41 : InfoA Tryz.prog 41 (Value.nilFunc) 1 8 := ⟨by kernel_rfl⟩
instance ty42 : TyA Tryz.prog 42 false 1 := ⟨fun _ => by kernel_rfl, fun _ => by kernel_rfl⟩
instance ze42 : ZeroA Tryz.prog 42 (Value.nilFunc) := ⟨fun _ => by kernel_rfl⟩
instance in42 : InfoA Tryz.prog 42 (Value.nilFunc) 1 8 := ⟨by kernel_rfl⟩
instance ty43 : TyA Tryz.prog 43 false 1 := ⟨fun _ => by kernel_rfl, fun _ => by kernel_rfl⟩
instance ze43 : ZeroA Tryz.prog 43 (Value.nilFunc) := ⟨fun _ => by kernel_rfl⟩
instance in43 : InfoA Tryz.prog 43 (Value.nilFunc) 1 8 := ⟨by kernel_rfl⟩
instance ty44 : TyA Tryz.prog 44 false 1 := ⟨fun _ => by kernel_rfl, fun _ => by kernel_rfl⟩
instance ze44 : ZeroA Tryz.prog 44 (Value.nilFunc) := ⟨fun _ => by kernel_rfl⟩
instance in44 : InfoA Tryz.prog 44 (Value.nilFunc) 1 8 := ⟨by kernel_rfl⟩
instance ty46 : TyA Tryz.prog 46 false 1 := ⟨fun _ => by kernel_rfl, fun _ => by kernel_rfl⟩
instance ze46 : ZeroA Tryz.prog 46 (Value.nilFunc) := ⟨fun _ => by kernel_rfl⟩
instance in46 : InfoA Tryz.prog 46 (Value.nilFunc) 1 8 := ⟨by kernel_rfl⟩
instance ty47 : TyA Tryz.prog 47 false 1 := ⟨fun _ => by kernel_rfl, fun _ => by kernel_rfl⟩
instance ze47 : ZeroA Tryz.prog 47 (Value.nilFunc) := ⟨fun _ => by kernel_rfl⟩
instance in47 : InfoA Tryz.prog 47 (Value.nilFunc) 1 8 := ⟨by kernel_rfl⟩
instance ty49 : TyA Tryz.prog 49 false 1 := ⟨fun _ => by kernel_rfl, fun _ => by kernel_rfl⟩
instance ze49 : ZeroA Tryz.prog 49 (Value.nilFunc) := ⟨fun _ => by kernel_rfl⟩
instance in49 : InfoA Tryz.prog 49 (Value.nilFunc) 1 8 := ⟨by kernel_rfl⟩
instance ty51 : TyA Tryz.prog 51 false 1 := ⟨fun _ => by kernel_rfl, fun _ => by kernel_rfl⟩
instance ze51 : ZeroA Tryz.prog 51 (Value.nilFunc) := ⟨fun _ => by kernel_rfl⟩
instance in51 : InfoA Tryz.prog 51 (Value.nilFunc) 1 8 := ⟨by kernel_rfl⟩
instance ty60 : TyA Tryz.prog 60 false 1 := ⟨fun _ => by kernel_rfl, fun _ => by kernel_rfl⟩
instance ze60 : ZeroA Tryz.prog 60 (Value.nilFunc) := ⟨fun _ => by kernel_rfl⟩
instance in60 : InfoA Tryz.prog 60 (Value.nilFunc) 1 8 := ⟨by kernel_rfl⟩
instance ty61 : TyA Tryz.prog 61 false 1 := ⟨fun _ => by kernel_rfl, fun _ => by kernel_rfl⟩
instance ze61 : ZeroA Tryz.prog 61 (Value.nilFunc) := ⟨fun _ => by kernel_rfl⟩
instance in61 : InfoA Tryz.prog 61 (Value.nilFunc) 1 8 := ⟨by kernel_rfl⟩
instance ty63 : TyA Tryz.prog 63 false 1 := ⟨fun _ => by kernel_rfl, fun _ => by kernel_rfl⟩
instance ze63 : ZeroA Tryz.prog 63 (Value.nilFunc) := ⟨fun _ => by kernel_rfl⟩
instance in63 : InfoA Tryz.prog 63 (Value.nilFunc) 1 8 := ⟨by kernel_rfl⟩
instance ty64 : TyA Tryz.prog 64 false 1 := ⟨fun _ => by kernel_rfl, fun _ => by kernel_rfl⟩
instance ze64 : ZeroA Tryz.prog 64 (Value.nilFunc) := ⟨fun _ => by kernel_rfl⟩
instance in64 : InfoA Tryz.prog 64 (Value.nilFunc) 1 8 := ⟨by kernel_rfl⟩
instance ty65 : TyA Tryz.prog 65 false 1 := ⟨fun _ => by kernel_rfl, fun _ => by kernel_rfl⟩
instance ze65 : ZeroA Tryz.prog 65 (Value.nilFunc) := ⟨fun _ => by kernel_rfl⟩
instance in65 : InfoA Tryz.prog 65 (Value.nilFunc) 1 8 := ⟨by kernel_rfl⟩
instance ty68 : TyA Tryz.prog 68 false 1 := ⟨fun _ => by kernel_rfl, fun _ => by kernel_rfl⟩
instance ze68 : ZeroA Tryz.prog 68 (Value.nilFunc) := ⟨fun _ => by kernel_rfl⟩
instance in68 : InfoA Tryz.prog 68 (Value.nilFunc) 1 8 := ⟨by kernel_rfl⟩
instance ty70 : TyA Tryz.prog 70 false 1 := ⟨fun _ => by kernel_rfl, fun _ => by kernel_rfl⟩
instance ze70 : ZeroA Tryz.prog 70 (Value.nilFunc) := ⟨fun _ => by kernel_rfl⟩
instance in70 : InfoA Tryz.prog 70 (Value.nilFunc) 1 8 := ⟨by kernel_rfl⟩
instance ty71 : TyA Tryz.prog 71 false 1 := ⟨fun _ => by kernel_rfl, fun _ => by kernel_rfl⟩
instance ze71 : ZeroA Tryz.prog 71 (Value.nilFunc) := ⟨fun _ => by kernel_rfl⟩
instance in71 : InfoA Tryz.prog 71 (Value.nilFunc) 1 8 := ⟨by kernel_rfl⟩
instance ty72 : TyA Tryz.prog 72 false 1 := ⟨fun _ => by kernel_rfl, fun _ => by kernel_rfl⟩
instance ze72 : ZeroA Tryz.prog 72 (Value.nilFunc) := ⟨fun _ => by kernel_rfl⟩
instance in72 : InfoA Tryz.prog 72 (Value.nilFunc) 1 8 := ⟨by kernel_rfl⟩
instance ty73 : TyA Tryz.prog 73 false 1 := ⟨fun _ => by kernel_rfl, fun _ => by kernel_rfl⟩
instance ze73 : ZeroA Tryz.prog 73 (Value.nilFunc) := ⟨fun _ => by kernel_rfl⟩
instance in73 : InfoA Tryz.prog 73 (Value.nilFunc) 1 8 := ⟨by kernel_rfl⟩
instance ty74 : TyA Tryz.prog 74 false 1 := ⟨fun _ => by kernel_rfl, fun _ => by kernel_rfl⟩
instance ze74 : ZeroA Tryz.prog 74 (Value.nilFunc) := ⟨fun _ => by kernel_rfl⟩
instance in74 : InfoA Tryz.prog 74 (Value.nilFunc) 1 8 := ⟨by kernel_rfl⟩
instance ty77 : TyA Tryz.prog 77 false 1 := ⟨fun _ => by kernel_rfl, fun _ => by kernel_rfl⟩
instance ze77 : ZeroA Tryz.prog 77 (Value.nilFunc) := ⟨fun _ => by kernel_rfl⟩
instance in77 : InfoA Tryz.prog 77 (Value.nilFunc) 1 8 := ⟨by kernel_rfl⟩
instance ty79 : TyA Tryz.prog 79 false 1 := ⟨fun _ => by kernel_rfl, fun _ => by kernel_rfl⟩
instance ze79 : ZeroA Tryz.prog 79 (Value.nilFunc) := ⟨fun _ => by kernel_rfl⟩
instance in79 : InfoA Tryz.prog 79 (Value.nilFunc) 1 8 := ⟨by kernel_rfl⟩
instance ty80 : TyA Tryz.prog 80 false 1 := ⟨fun _ => by kernel_rfl, fun _ => by kernel_rfl⟩
instance ze80 : ZeroA Tryz.prog 80 (Value.nilFunc) := ⟨fun _ => by kernel_rfl⟩
instance in80 : InfoA Tryz.prog 80 (Value.nilFunc) 1 8 := ⟨by kernel_rfl⟩
instance ty81 : TyA Tryz.prog 81 false 1 := ⟨fun _ => by kernel_rfl, fun _ => by kernel_rfl⟩
instance ze81 : ZeroA Tryz.prog 81 (Value.nilFunc) := ⟨fun _ => by kernel_rfl⟩
instance in81 : InfoA Tryz.prog 81 (Value.nilFunc) 1 8 := ⟨by kernel_rfl⟩
instance ty82 : TyA Tryz.prog 82 false 1 := ⟨fun _ => by kernel_rfl, fun _ => by kernel_rfl⟩
instance ze82 : ZeroA Tryz.prog 82 (Value.nilFunc) := ⟨fun _ => by kernel_rfl⟩
instance in82 : InfoA Tryz.prog 82 (Value.nilFunc) 1 8 := ⟨by kernel_rfl⟩
instance ty83 : TyA Tryz.prog 83 false 1 := ⟨fun _ => by kernel_rfl, fun _ => by kernel_rfl⟩
instance ze83 : ZeroA Tryz.prog 83 (Value.nilFunc) := ⟨fun _ => by kernel_rfl⟩
instance in83 : InfoA Tryz.prog 83 (Value.nilFunc) 1 8 := ⟨by kernel_rfl⟩
instance ty84 : TyA Tryz.prog 84 false 1 := ⟨fun _ => by kernel_rfl, fun _ => by kernel_rfl⟩
instance ze84 : ZeroA Tryz.prog 84 (Value.nilFunc) := ⟨fun _ => by kernel_rfl⟩
instance in84 : InfoA Tryz.prog 84 (Value.nilFunc) 1 8 := ⟨by kernel_rfl⟩
instance ty85 : TyA Tryz.prog 85 false 1 := ⟨fun _ => by kernel_rfl, fun _ => by kernel_rfl⟩
instance ze85 : ZeroA Tryz.prog 85 (Value.nilFunc) := ⟨fun _ => by kernel_rfl⟩
instance in85 : InfoA Tryz.prog 85 (Value.nilFunc) 1 8 := ⟨by kernel_rfl⟩
instance ty91 : TyA Tryz.prog 91 false 1 := ⟨fun _ => by kernel_rfl, fun _ => by kernel_rfl⟩
instance ze91 : ZeroA Tryz.prog 91 (Value.nilFunc) := ⟨fun _ => by kernel_rfl⟩
instance in91 : InfoA Tryz.prog 91 (Value.nilFunc) 1 8 := ⟨by kernel_rfl⟩
instance ty92 : TyA Tryz.prog 92 false 1 := ⟨fun _ => by kernel_rfl, fun _ => by kernel_rfl⟩
instance ze92 : ZeroA Tryz.prog 92 (Value.nilFunc) := ⟨fun _ => by kernel_rfl⟩
instance in92 : InfoA Tryz.prog 92 (Value.nilFunc) 1 8 := ⟨by kernel_rfl⟩
instance ty95 : TyA Tryz.prog 95 false 1 := ⟨fun _ => by kernel_rfl, fun _ => by kernel_rfl⟩
instance ze95 : ZeroA Tryz.prog 95 (Value.nilFunc) := ⟨fun _ => by kernel_rfl⟩
instance in95 : InfoA Tryz.prog 95 (Value.nilFunc) 1 8 := ⟨by kernel_rfl⟩
instance ty96 : TyA Tryz.prog 96 false 1 := ⟨fun _ => by kernel_rfl, fun _ => by kernel_rfl⟩
instance ze96 : ZeroA Tryz.prog 96 (Value.nilFunc) := ⟨fun _ => by kernel_rfl⟩
instance in96 : InfoA Tryz.prog 96 (Value.nilFunc) 1 8 := ⟨by kernel_rfl⟩
instance ty97 : TyA Tryz.prog 97 false 1 := ⟨fun _ => by kernel_rfl, fun _ => by kernel_rfl⟩
instance ze97 : ZeroA Tryz.prog 97 (Value.nilFunc) := ⟨fun _ => by kernel_rfl⟩
instance in97 : InfoA Tryz.prog 97 (Value.nilFunc) 1 8 := ⟨by kernel_rfl⟩
instance ty98 : TyA Tryz.prog 98 false 1 := ⟨fun _ => by kernel_rfl, fun _ => by kernel_rfl⟩
instance ze98 : ZeroA Tryz.prog 98 (Value.nilFunc) := ⟨fun _ => by kernel_rfl⟩
instance in98 : InfoA Tryz.prog 98 (Value.nilFunc) 1 8 := ⟨by kernel_rfl⟩
instance ty99 : TyA Tryz.prog 99 false 1 := ⟨fun _ => by kernel_rfl, fun _ => by kernel_rfl⟩
instance ze99 : ZeroA Tryz.prog 99 (Value.nilFunc) := ⟨fun _ => by kernel_rfl⟩
instance in99 : InfoA Tryz.prog 99 (Value.nilFunc) 1 8 := ⟨by kernel_rfl⟩
instance ty100 : TyA Tryz.prog 100 false 1 := ⟨fun _ => by kernel_rfl, fun _ => by kernel_rfl⟩
instance ze100 : ZeroA Tryz.prog 100 (Value.nilFunc) := ⟨fun _ => by kernel_rfl⟩
instance in100 : InfoA Tryz.prog 100 (Value.nilFunc) 1 8 := ⟨by kernel_rfl⟩
instance ty101 : TyA Tryz.prog 101 false 1 := ⟨fun _ => by kernel_rfl, fun _ => by kernel_rfl⟩
instance ze101 : ZeroA Tryz.prog 101 (Value.nilFunc) := ⟨fun _ => by kernel_rfl⟩
instance in101 : InfoA Tryz.prog 101 (Value.nilFunc) 1 8 := ⟨by kernel_rfl⟩
instance ty105 : TyA Tryz.prog 105 false 1 := ⟨fun _ => by kernel_rfl, fun _ => by kernel_rfl⟩
instance ze105 : ZeroA Tryz.prog 105 (Value.nilFunc) := ⟨fun _ => by kernel_rfl⟩
instance in105 : InfoA Tryz.prog 105 (Value.nilFunc) 1 8 := ⟨by kernel_rfl⟩
instance ty110 : TyA Tryz.prog 110 false 1 := ⟨fun _ => by kernel_rfl, fun _ => by kernel_rfl⟩
instance ze110 : ZeroA Tryz.prog 110 (Value.nilFunc) := ⟨fun _ => by kernel_rfl⟩
instance in110 : InfoA Tryz.prog 110 (Value.nilFunc) 1 8 := ⟨by kernel_rfl⟩
instance ty113 : TyA Tryz.prog 113 false 1 := ⟨fun _ => by kernel_rfl, fun _ => by kernel_rfl⟩
instance ze113 : ZeroA Tryz.prog 113 (Value.nilFunc) := ⟨fun _ => by kernel_rfl⟩
instance in113 : InfoA Tryz.prog 113 (Value.nilFunc) 1 8 := ⟨by kernel_rfl⟩
instance ty119 : TyA Tryz.prog 119 false 1 := ⟨fun _ => by kernel_rfl, fun _ => by kernel_rfl⟩
instance ze119 : ZeroA Tryz.prog 119 (Value.nilFunc) := ⟨fun _ => by kernel_rfl⟩
instance in119 : InfoA Tryz.prog 119 (Value.nilFunc) 1 8 := ⟨by kernel_rfl⟩
instance ty121 : TyA Tryz.prog 121 false 1 := ⟨fun _ => by kernel_rfl, fun _ => by kernel_rfl⟩
instance ze121 : ZeroA Tryz.prog 121 (Value.nilFunc) := ⟨fun _ => by kernel_rfl⟩
instance in121 : InfoA Tryz.prog 121 (Value.nilFunc) 1 8 := ⟨by kernel_rfl⟩
instance ty123 : TyA Tryz.prog 123 false 1 := ⟨fun _ => by kernel_rfl, fun _ => by kernel_rfl⟩
instance ze123 : ZeroA Tryz.prog 123 (Value.nilFunc) := ⟨fun _ => by kernel_rfl⟩
instance in123 : InfoA Tryz.prog 123 (Value.nilFunc) 1 8 := ⟨by kernel_rfl⟩
instance ty127 : TyA Tryz.prog 127 false 1 := ⟨fun _ => by kernel_rfl, fun _ => by kernel_rfl⟩
instance ze127 : ZeroA Tryz.prog 127 (Value.nilFunc) := ⟨fun _ => by kernel_rfl⟩
instance in127 : InfoA Tryz.prog 127 (Value.nilFunc) 1 8 := ⟨by kernel_rfl⟩
instance ty134 : TyA Tryz.prog 134 false 1 := ⟨fun _ => by kernel_rfl, fun _ => by kernel_rfl⟩
instance ze134 : ZeroA Tryz.prog 134 (Value.nilFunc) := ⟨fun _ => by kernel_rfl⟩
instance in134 : InfoA Tryz.prog 134 (Value.nilFunc) 1 8 := ⟨by kernel_rfl⟩
instance ty135 : TyA Tryz.prog 135 false 1 := ⟨fun _ => by kernel_rfl, fun _ => by kernel_rfl⟩
instance ze135 : ZeroA Tryz.prog 135 (Value.nilFunc) := ⟨fun _ => by kernel_rfl⟩
instance in135 : InfoA Tryz.prog 135 (Value.nilFunc) 1 8 := ⟨by kernel_rfl⟩
instance ty136 : TyA Tryz.prog 136 false 1 := ⟨fun _ => by kernel_rfl, fun _ => by kernel_rfl⟩
instance ze136 : ZeroA Tryz.prog 136 (Value.nilFunc) := ⟨fun _ => by kernel_rfl⟩
instance in136 : InfoA Tryz.prog 136 (Value.nilFunc) 1 8 := ⟨by kernel_rfl⟩
instance ty137 : TyA Tryz.prog 137 false 1 := ⟨fun _ => by kernel_rfl, fun _ => by kernel_rfl⟩
instance ze137 : ZeroA Tryz.prog 137 (Value.nilFunc) := ⟨fun _ => by kernel_rfl⟩
instance in137 : InfoA Tryz.prog 137 (Value.nilFunc) 1 8 := ⟨by kernel_rfl⟩
instance ty138 : TyA Tryz.prog 138 false 1 := ⟨fun _ => by kernel_rfl, fun _ => by kernel_rfl⟩
instance ze138 : ZeroA Tryz.prog 138 (Value.nilFunc) := ⟨fun _ => by kernel_rfl⟩
instance in138 : InfoA Tryz.prog 138 (Value.nilFunc) 1 8 := ⟨by kernel_rfl⟩
instance ty139 : TyA Tryz.prog 139 false 1 := ⟨fun _ => by kernel_rfl, fun _ => by kernel_rfl⟩
instance ze139 : ZeroA Tryz.prog 139 (Value.nilFunc) := ⟨fun _ => by kernel_rfl⟩
instance in139 : InfoA Tryz.prog 139 (Value.nilFunc) 1 8 := ⟨by kernel_rfl⟩
instance ty140 : TyA Tryz.prog 140 false 1 := ⟨fun _ => by kernel_rfl, fun _ => by kernel_rfl⟩
instance ze140 : ZeroA Tryz.prog 140 (Value.nilFunc) := ⟨fun _ => by kernel_rfl⟩
instance in140 : InfoA Tryz.prog 140 (Value.nilFunc) 1 8 := ⟨by kernel_rfl⟩
instance ty141 : TyA Tryz.prog 141 false 1 := ⟨fun _ => by kernel_rfl, fun _ => by kernel_rfl⟩
instance ze141 : ZeroA Tryz.prog 141 (Value.nilFunc) := ⟨fun _ => by kernel_rfl⟩
instance in141 : InfoA Tryz.prog 141 (Value.nilFunc) 1 8 := ⟨by kernel_rfl⟩
instance ty142 : TyA Tryz.prog 142 false 1 := ⟨fun _ => by kernel_rfl, fun _ => by kernel_rfl⟩
instance ze142 : ZeroA Tryz.prog 142 (Value.nilFunc) := ⟨fun _ => by kernel_rfl⟩
instance in142 : InfoA Tryz.prog 142 (Value.nilFunc) 1 8 := ⟨by kernel_rfl⟩
instance ty143 : TyA Tryz.prog 143 false 1 := ⟨fun _ => by kernel_rfl, fun _ => by kernel_rfl⟩
instance ze143 : ZeroA Tryz.prog 143 (Value.nilFunc) := ⟨fun _ => by kernel_rfl⟩
instance in143 : InfoA Tryz.prog 143 (Value.nilFunc) 1 8 := ⟨by kernel_rfl⟩
instance ty144 : TyA Tryz.prog 144 false 1 := ⟨fun _ => by kernel_rfl, fun _ => by kernel_rfl⟩
instance ze144 : ZeroA Tryz.prog 144 (Value.nilFunc) := ⟨fun _ => by kernel_rfl⟩
instance in144 : InfoA Tryz.prog 144 (Value.nilFunc) 1 8 := ⟨by kernel_rfl⟩
instance ty145 : TyA Tryz.prog 145 false 1 := ⟨fun _ => by kernel_rfl, fun _ => by kernel_rfl⟩
instance ze145 : ZeroA Tryz.prog 145 (Value.nilFunc) := ⟨fun _ => by kernel_rfl⟩
instance in145 : InfoA Tryz.prog 145 (Value.nilFunc) 1 8 := ⟨by kernel_rfl⟩
instance ty147 : TyA Tryz.prog 147 false 1 := ⟨fun _ => by kernel_rfl, fun _ => by kernel_rfl⟩
instance ze147 : ZeroA Tryz.prog 147 (Value.nilFunc) := ⟨fun _ => by kernel_rfl⟩
instance in147 : InfoA Tryz.prog 147 (Value.nilFunc) 1 8 := ⟨by kernel_rfl⟩
instance ty148 : TyA Tryz.prog 148 false 1 := ⟨fun _ => by kernel_rfl, fun _ => by kernel_rfl⟩
instance ze148 : ZeroA Tryz.prog 148 (Value.nilFunc) := ⟨fun _ => by kernel_rfl⟩
instance in148 : InfoA Tryz.prog 148 (Value.nilFunc) 1 8 := ⟨by kernel_rfl⟩
instance ty150 : TyA Tryz.prog 150 false 1 := ⟨fun _ => by kernel_rfl, fun _ => by kernel_rfl⟩
instance ze150 : ZeroA Tryz.prog 150 (Value.nilFunc) := ⟨fun _ => by kernel_rfl⟩
instance in150 : InfoA Tryz.prog 150 (Value.nilFunc) 1 8 := ⟨by kernel_rfl⟩
instance ty151 : TyA Tryz.prog 151 false 1 := ⟨fun _ => by kernel_rfl, fun _ => by kernel_rfl⟩
instance ze151 : ZeroA Tryz.prog 151 (Value.nilFunc) := ⟨fun _ => by kernel_rfl⟩
instance in151 : InfoA Tryz.prog 151 (Value.nilFunc) 1 8 := ⟨by kernel_rfl⟩
instance ty152 : TyA Tryz.prog 152 false 1 := ⟨fun _ => by kernel_rfl, fun _ => by kernel_rfl⟩
instance ze152 : ZeroA Tryz.prog 152 (Value.nilFunc) := ⟨fun _ => by kernel_rfl⟩
instance in152 : InfoA Tryz.prog 152 (Value.nilFunc) 1 8 := ⟨by kernel_rfl⟩
instance ty153 : TyA Tryz.prog 153 false 1 := ⟨fun _ => by kernel_rfl, fun _ => by kernel_rfl⟩
instance ze153 : ZeroA Tryz.prog 153 (Value.nilFunc) := ⟨fun _ => by kernel_rfl⟩
instance in153 : InfoA Tryz.prog 153 (Value.nilFunc) 1 8 := ⟨by kernel_rfl⟩
instance ty154 : TyA Tryz.prog 154 false 1 := ⟨fun _ => by kernel_rfl, fun _ => by kernel_rfl⟩
instance ze154 : ZeroA Tryz.prog 154 (Value.nilFunc) := ⟨fun _ => by kernel_rfl⟩
instance in154 : InfoA Tryz.prog 154 (Value.nilFunc) 1 8 := ⟨by kernel_rfl⟩
instance ty155 : TyA Tryz.prog 155 false 1 := ⟨fun _ => by kernel_rfl, fun _ => by kernel_rfl⟩
instance ze155 : ZeroA Tryz.prog 155 (Value.nilFunc) := ⟨fun _ => by kernel_rfl⟩
instance in155 : InfoA Tryz.prog 155 (Value.nilFunc) 1 8 := ⟨by kernel_rfl⟩
instance ty156 : TyA Tryz.prog 156 false 1 := ⟨fun _ => by kernel_rfl, fun _ => by kernel_rfl⟩
instance ze156 : ZeroA Tryz.prog 156 (Value.nilFunc) := ⟨fun _ => by kernel_rfl⟩
instance in156 : InfoA Tryz.prog 156 (Value.nilFunc) 1 8 := ⟨by kernel_rfl⟩
instance ty159 : TyA Tryz.prog 159 false 1 := ⟨fun _ => by kernel_rfl, fun _ => by kernel_rfl⟩
instance ze159 : ZeroA Tryz.prog 159 (Value.nilFunc) := ⟨fun _ => by kernel_rfl⟩
instance in159 : InfoA Tryz.prog 159 (Value.nilFunc) 1 8 := ⟨by kernel_rfl⟩
instance ty160 : TyA Tryz.prog 160 false 1 := ⟨fun _ => by kernel_rfl, fun _ => by kernel_rfl⟩
instance ze160 : ZeroA Tryz.prog 160 (Value.nilFunc) := ⟨fun _ => by kernel_rfl⟩
instance in160 : InfoA Tryz.prog 160 (Value.nilFunc) 1 8 := ⟨by kernel_rfl⟩
instance ty161 : TyA Tryz.prog 161 false 1 := ⟨fun _ => by kernel_rfl, fun _ => by kernel_rfl⟩
instance ze161 : ZeroA Tryz.prog 161 (Value.nilFunc) := ⟨fun _ => by kernel_rfl⟩
instance in161 : InfoA Tryz.prog 161 (Value.nilFunc) 1 8 := ⟨by kernel_rfl⟩
instance ty163 : TyA Tryz.prog 163 false 1 := ⟨fun _ => by kernel_rfl, fun _ => by kernel_rfl⟩
instance ze163 : ZeroA Tryz.prog 163 (Value.nilFunc) := ⟨fun _ => by kernel_rfl⟩
instance in163 : InfoA Tryz.prog 163 (Value.nilFunc) 1 8 := ⟨by kernel_rfl⟩
instance ty164 : TyA Tryz.prog 164 false 1 := ⟨fun _ => by kernel_rfl, fun _ => by kernel_rfl⟩
instance ze164 : ZeroA Tryz.prog 164 (Value.nilFunc) := ⟨fun _ => by kernel_rfl⟩
instance in164 : InfoA Tryz.prog 164 (Value.nilFunc) 1 8 := ⟨by kernel_rfl⟩
instance ty165 : TyA Tryz.prog 165 false 1 := ⟨fun _ => by kernel_rfl, fun _ => by kernel_rfl⟩
instance ze165 : ZeroA Tryz.prog 165 (Value.nilFunc) := ⟨fun _ => by kernel_rfl⟩
instance in165 : InfoA Tryz.prog 165 (Value.nilFunc) 1 8 := ⟨by kernel_rfl⟩
instance ty166 : TyA Tryz.prog 166 false 1 := ⟨fun _ => by kernel_rfl, fun _ => by kernel_rfl⟩
instance ze166 : ZeroA Tryz.prog 166 (Value.nilFunc) := ⟨fun _ => by kernel_rfl⟩
instance in166 : InfoA Tryz.prog 166 (Value.nilFunc) 1 8 := ⟨by kernel_rfl⟩
instance ty167 : TyA Tryz.prog 167 false 1 := ⟨fun _ => by kernel_rfl, fun _ => by kernel_rfl⟩
instance ze167 : ZeroA Tryz.prog 167 (Value.nilFunc) := ⟨fun _ => by kernel_rfl⟩
instance in167 : InfoA Tryz.prog 167 (Value.nilFunc) 1 8 := ⟨by kernel_rfl⟩
instance ty168 : TyA Tryz.prog 168 false 1 := ⟨fun _ => by kernel_rfl, fun _ => by kernel_rfl⟩
instance ze168 : ZeroA Tryz.prog 168 (Value.nilFunc) := ⟨fun _ => by kernel_rfl⟩
instance in168 : InfoA Tryz.prog 168 (Value.nilFunc) 1 8 := ⟨by kernel_rfl⟩
instance ty169 : TyA Tryz.prog 169 false 1 := ⟨fun _ => by kernel_rfl, fun _ => by kernel_rfl⟩
instance ze169 : ZeroA Tryz.prog 169 (Value.nilFunc) := ⟨fun _ => by kernel_rfl⟩
instance in169 : InfoA Tryz.prog 169 (Value.nilFunc) 1 8 := ⟨by kernel_rfl⟩
instance ty170 : TyA Tryz.prog 170 false 1 := ⟨fun _ => by kernel_rfl, fun _ => by kernel_rfl⟩
instance ze170 : ZeroA Tryz.prog 170 (Value.nilFunc) := ⟨fun _ => by kernel_rfl⟩
instance in170 : InfoA Tryz.prog 170 (Value.nilFunc) 1 8 := ⟨by kernel_rfl⟩
instance ty172 : TyA Tryz.prog 172 false 1 := ⟨fun _ => by kernel_rfl, fun _ => by kernel_rfl⟩
instance ze172 : ZeroA Tryz.prog 172 (Value.nilFunc) := ⟨fun _ => by kernel_rfl⟩
instance in172 : InfoA Tryz.prog 172 (Value.nilFunc) 1 8 := ⟨by kernel_rfl⟩
instance ty173 : TyA Tryz.prog 173 false 1 := ⟨fun _ => by kernel_rfl, fun _ => by kernel_rfl⟩
instance ze173 : ZeroA Tryz.prog 173 (Value.nilFunc) := ⟨fun _ => by kernel_rfl⟩
instance in173 : InfoA Tryz.prog 173 (Value.nilFunc) 1 8 := ⟨by kernel_rfl⟩
instance ty174 : TyA Tryz.prog 174 false 1 := ⟨fun _ => by kernel_rfl, fun _ => by kernel_rfl⟩
instance ze174 : ZeroA Tryz.prog 174 (Value.nilFunc) := ⟨fun _ => by kernel_rfl⟩
instance in174 : InfoA Tryz.prog 174 (Value.nilFunc) 1 8 := ⟨by kernel_rfl⟩
instance ty175 : TyA Tryz.prog 175 false 1 := ⟨fun _ => by kernel_rfl, fun _ => by kernel_rfl⟩
instance ze175 : ZeroA Tryz.prog 175 (Value.nilFunc) := ⟨fun _ => by kernel_rfl⟩
instance in175 : InfoA Tryz.prog 175 (Value.nilFunc) 1 8 := ⟨by kernel_rfl⟩
instance ty176 : TyA Tryz.prog 176 false 1 := ⟨fun _ => by kernel_rfl, fun _ => by kernel_rfl⟩
instance ze176 : ZeroA Tryz.prog 176 (Value.nilFunc) := ⟨fun _ => by kernel_rfl⟩
instance in176 : InfoA Tryz.prog 176 (Value.nilFunc) 1 8 := ⟨by kernel_rfl⟩
instance ty177 : TyA Tryz.prog 177 false 1 := ⟨fun _ => by kernel_rfl, fun _ => by kernel_rfl⟩
instance ze177 : ZeroA Tryz.prog 177 (Value.nilFunc) := ⟨fun _ => by kernel_rfl⟩
instance in177 : InfoA Tryz.prog 177 (Value.nilFunc) 1 8 := ⟨by kernel_rfl⟩
instance ty178 : TyA Tryz.prog 178 false 1 := ⟨fun _ => by kernel_rfl, fun _ => by kernel_rfl⟩
instance ze178 : ZeroA Tryz.prog 178 (Value.nilFunc) := ⟨fun _ => by kernel_rfl⟩
instance in178 : InfoA Tryz.prog 178 (Value.nilFunc) 1 8 := ⟨by kernel_rfl⟩
instance ty179 : TyA Tryz.prog 179 false 1 := ⟨fun _ => by kernel_rfl, fun _ => by kernel_rfl⟩
instance ze179 : ZeroA Tryz.prog 179 (Value.nilFunc) := ⟨fun _ => by kernel_rfl⟩
instance in179 : InfoA Tryz.prog 179 (Value.nilFunc) 1 8 := ⟨by kernel_rfl⟩
instance ty180 : TyA Tryz.prog 180 false 1 := ⟨fun _ => by kernel_rfl, fun _ => by kernel_rfl⟩
instance ze180 : ZeroA Tryz.prog 180 (Value.nilFunc) := ⟨fun _ => by kernel_rfl⟩
instance in180 : InfoA Tryz.prog 180 (Value.nilFunc) 1 8 := ⟨by kernel_rfl⟩
instance ty181 : TyA Tryz.prog 181 false 1 := ⟨fun _ => by kernel_rfl, fun _ => by kernel_rfl⟩
instance ze181 : ZeroA Tryz.prog 181 (Value.nilFunc) := ⟨fun _ => by kernel_rfl⟩
instance in181 : InfoA Tryz.prog 181 (Value.nilFunc) 1 8 := ⟨by kernel_rfl⟩
instance ty183 : TyA Tryz.prog 183 false 1 := ⟨fun _ => by kernel_rfl, fun _ => by kernel_rfl⟩
instance ze183 : ZeroA Tryz.prog 183 (Value.nilFunc) := ⟨fun _ => by kernel_rfl⟩
instance in183 : InfoA Tryz.prog 183 (Value.nilFunc) 1 8 := ⟨by kernel_rfl⟩
instance ty187 : TyA Tryz.prog 187 false 1 := ⟨fun _ => by kernel_rfl, fun _ => by kernel_rfl⟩
instance ze187 : ZeroA Tryz.prog 187 (Value.nilFunc) := ⟨fun _ => by kernel_rfl⟩
instance in187 : InfoA Tryz.prog 187 (Value.nilFunc) 1 8 := ⟨by kernel_rfl⟩
instance ty188 : TyA Tryz.prog 188 false 1 := ⟨fun _ => by kernel_rfl, fun _ => by kernel_rfl⟩
instance ze188 : ZeroA Tryz.prog 188 (Value.nilFunc) := ⟨fun _ => by kernel_rfl⟩
instance in188 : InfoA Tryz.prog 188 (Value.nilFunc) 1 8 := ⟨by kernel_rfl⟩
instance ty190 : TyA Tryz.prog 190 false 1 := ⟨fun _ => by kernel_rfl, fun _ => by kernel_rfl⟩
instance ze190 : ZeroA Tryz.prog 190 (Value.nilFunc) := ⟨fun _ => by kernel_rfl⟩
instance in190 : InfoA Tryz.prog 190 (Value.nilFunc) 1 8 := ⟨by kernel_rfl⟩
instance ty191 : TyA Tryz.prog 191 false 1 := ⟨fun _ => by kernel_rfl, fun _ => by kernel_rfl⟩
instance ze191 : ZeroA Tryz.prog 191 (Value.nilFunc) := ⟨fun _ => by kernel_rfl⟩
instance in191 : InfoA Tryz.prog 191 (Value.nilFunc) 1 8 := ⟨by kernel_rfl⟩
instance ty193 : TyA Tryz.prog 193 false 1 := ⟨fun _ => by kernel_rfl, fun _ => by kernel_rfl⟩
instance ze193 : ZeroA Tryz.prog 193 (Value.nilFunc) := ⟨fun _ => by kernel_rfl⟩
instance in193 : InfoA Tryz.prog 193 (Value.nilFunc) 1 8 := ⟨by kernel_rfl⟩
instance ty194 : TyA Tryz.prog 194 false 1 := ⟨fun _ => by kernel_rfl, fun _ => by kernel_rfl⟩
instance ze194 : ZeroA Tryz.prog 194 (Value.nilFunc) := ⟨fun _ => by kernel_rfl⟩
instance in194 : InfoA Tryz.prog 194 (Value.nilFunc) 1 8 := ⟨by kernel_rfl⟩
instance ty195 : TyA Tryz.prog 195 false 1 := ⟨fun _ => by kernel_rfl, fun _ => by kernel_rfl⟩
instance ze195 : ZeroA Tryz.prog 195 (Value.nilFunc) := ⟨fun _ => by kernel_rfl⟩
instance in195 : InfoA Tryz.prog 195 (Value.nilFunc) 1 8 := ⟨by kernel_rfl⟩
instance ty196 : TyA Tryz.prog 196 false 1 := ⟨fun _ => by kernel_rfl, fun _ => by kernel_rfl⟩
instance ze196 : ZeroA Tryz.prog 196 (Value.nilFunc) := ⟨fun _ => by kernel_rfl⟩
instance in196 : InfoA Tryz.prog 196 (Value.nilFunc) 1 8 := ⟨by kernel_rfl⟩
instance ty197 : TyA Tryz.prog 197 false 1 := ⟨fun _ => by kernel_rfl, fun _ => by kernel_rfl⟩
instance ze197 : ZeroA Tryz.prog 197 (Value.nilFunc) := ⟨fun _ => by kernel_rfl⟩
instance in197 : InfoA Tryz.prog 197 (Value.nilFunc) 1 8 := ⟨by kernel_rfl⟩
instance ty198 : TyA Tryz.prog 198 false 1 := ⟨fun _ => by kernel_rfl, fun _ => by kernel_rfl⟩
instance ze198 : ZeroA Tryz.prog 198 (Value.nilFunc) := ⟨fun _ => by kernel_rfl⟩
instance in198 : InfoA Tryz.prog 198 (Value.nilFunc) 1 8 := ⟨by kernel_rfl⟩
instance ty199 : TyA Tryz.prog 199 false 1 := ⟨fun _ => by kernel_rfl, fun _ => by kernel_rfl⟩
instance ze199 : ZeroA Tryz.prog 199 (Value.nilFunc) := ⟨fun _ => by kernel_rfl⟩
instance in199 : InfoA Tryz.prog 199 (Value.nilFunc) 1 8 := ⟨by kernel_rfl⟩
instance ty200 : TyA Tryz.prog 200 false 1 := ⟨fun _ => by kernel_rfl, fun _ => by kernel_rfl⟩
instance ze200 : ZeroA Tryz.prog 200 (Value.nilFunc) := ⟨fun _ => by kernel_rfl⟩
instance in200 : InfoA Tryz.prog 200 (Value.nilFunc) 1 8 := ⟨by kernel_rfl⟩
instance ty203 : TyA Tryz.prog 203 false 1 := ⟨fun _ => by kernel_rfl, fun _ => by kernel_rfl⟩
instance ze203 : ZeroA Tryz.prog 203 (Value.nilFunc) := ⟨fun _ => by kernel_rfl⟩
instance in203 : InfoA Tryz.prog 203 (Value.nilFunc) 1 8 := ⟨by kernel_rfl⟩
instance ty204 : TyA Tryz.prog 204 false 1 := ⟨fun _ => by kernel_rfl, fun _ => by kernel_rfl⟩
instance ze204 : ZeroA Tryz.prog 204 (Value.nilFunc) := ⟨fun _ => by kernel_rfl⟩
instance in204 : InfoA Tryz.prog 204 (Value.nilFunc) 1 8 := ⟨by kernel_rfl⟩
instance ty205 : TyA Tryz.prog 205 false 1 := ⟨fun _ => by kernel_rfl, fun _ => by kernel_rfl⟩
instance ze205 : ZeroA Tryz.prog 205 (Value.nilFunc) := ⟨fun _ => by kernel_rfl⟩
instance in205 : InfoA Tryz.prog 205 (Value.nilFunc) 1 8 := ⟨by kernel_rfl⟩
instance ty206 : TyA Tryz.prog 206 false 1 := ⟨fun _ => by kernel_rfl, fun _ => by kernel_rfl⟩
instance ze206 : ZeroA Tryz.prog 206 (Value.nilFunc) := ⟨fun _ => by kernel_rfl⟩
instance in206 : InfoA Tryz.prog 206 (Value.nilFunc) 1 8 := ⟨by kernel_rfl⟩
instance ty208 : TyA Tryz.prog 208 false 1 := ⟨fun _ => by kernel_rfl, fun _ => by kernel_rfl⟩
instance ze208 : ZeroA Tryz.prog 208 (Value.nilFunc) := ⟨fun _ => by kernel_rfl⟩
instance in208 : InfoA Tryz.prog 208 (Value.nilFunc) 1 8 := ⟨by kernel_rfl⟩
instance ty210 : TyA Tryz.prog 210 false 1 := ⟨fun _ => by kernel_rfl, fun _ => by kernel_rfl⟩
instance ze210 : ZeroA Tryz.prog 210 (Value.nilFunc) := ⟨fun _ => by kernel_rfl⟩
instance in210 : InfoA Tryz.prog 210 (Value.nilFunc) 1 8 := ⟨by kernel_rfl⟩
instance ty211 : TyA Tryz.prog 211 false 1 := ⟨fun _ => by kernel_rfl, fun _ => by kernel_rfl⟩
instance ze211 : ZeroA Tryz.prog 211 (Value.nilFunc) := ⟨fun _ => by kernel_rfl⟩
instance in211 : InfoA Tryz.prog 211 (Value.nilFunc) 1 8 := ⟨by kernel_rfl⟩
instance ty212 : TyA Tryz.prog 212 false 1 := ⟨fun _ => by kernel_rfl, fun _ => by kernel_rfl⟩
instance ze212 : ZeroA Tryz.prog 212 (Value.nilFunc) := ⟨fun _ => by kernel_rfl⟩
instance in212 : InfoA Tryz.prog 212 (Value.nilFunc) 1 8 := ⟨by kernel_rfl⟩
instance ty213 : TyA Tryz.prog 213 false 1 := ⟨fun _ => by kernel_rfl, fun _ => by kernel_rfl⟩
instance ze213 : ZeroA Tryz.prog 213 (Value.nilFunc) := ⟨fun _ => by kernel_rfl⟩
instance in213 : InfoA Tryz.prog 213 (Value.nilFunc) 1 8 := ⟨by kernel_rfl⟩
instance ty215 : TyA Tryz.prog 215 false 1 := ⟨fun _ => by kernel_rfl, fun _ => by kernel_rfl⟩
instance ze215 : ZeroA Tryz.prog 215 (Value.nilFunc) := ⟨fun _ => by kernel_rfl⟩
instance in215 : InfoA Tryz.prog 215 (Value.nilFunc) 1 8 := ⟨by kernel_rfl⟩
instance ty216 : TyA Tryz.prog 216 false 1 := ⟨fun _ => by kernel_rfl, fun _ => by kernel_rfl⟩
instance ze216 : ZeroA Tryz.prog 216 (Value.nilFunc) := ⟨fun _ => by kernel_rfl⟩
instance in216 : InfoA Tryz.prog 216 (Value.nilFunc) 1 8 := ⟨by kernel_rfl⟩
instance ty218 : TyA Tryz.prog 218 false 1 := ⟨fun _ => by kernel_rfl, fun _ => by kernel_rfl⟩
instance ze218 : ZeroA Tryz.prog 218 (Value.nilFunc) := ⟨fun _ => by kernel_rfl⟩
instance in218 : InfoA Tryz.prog 218 (Value.nilFunc) 1 8 := ⟨by kernel_rfl⟩
instance ty219 : TyA Tryz.prog 219 false 1 := ⟨fun _ => by kernel_rfl, fun _ => by kernel_rfl⟩
instance ze219 : ZeroA Tryz.prog 219 (Value.nilFunc) := ⟨fun _ => by kernel_rfl⟩
instance in219 : InfoA Tryz.prog 219 (Value.nilFunc) 1 8 := ⟨by kernel_rfl⟩
instance ty220 : TyA Tryz.prog 220 false 1 := ⟨fun _ => by kernel_rfl, fun _ => by kernel_rfl⟩
instance ze220 : ZeroA Tryz.prog 220 (Value.nilFunc) := ⟨fun _ => by kernel_rfl⟩
instance in220 : InfoA Tryz.prog 220 (Value.nilFunc) 1 8 := ⟨by kernel_rfl⟩
instance ty222 : TyA Tryz.prog 222 false 1 := ⟨fun _ => by kernel_rfl, fun _ => by kernel_rfl⟩
instance ze222 : ZeroA Tryz.prog 222 (Value.nilFunc) := ⟨fun _ => by kernel_rfl⟩
instance in222 : InfoA Tryz.prog 222 (Value.nilFunc) 1 8 := ⟨by kernel_rfl⟩
instance ty223 : TyA Tryz.prog 223 false 1 := ⟨fun _ => by kernel_rfl, fun _ => by kernel_rfl⟩
instance ze223 : ZeroA Tryz.prog 223 (Value.nilFunc) := ⟨fun _ => by kernel_rfl⟩
instance in223 : InfoA Tryz.prog 223 (Value.nilFunc) 1 8 := ⟨by kernel_rfl⟩
instance bu224 : BuildA Tryz.prog 224 [(0, 1), (1, 1)] := ⟨by kernel_rfl, by kernel_rfl⟩
instance bu225 : BuildA Tryz.prog 225 [(0, 1), (1, 1)] := ⟨by kernel_rfl, by kernel_rfl⟩
instance ty227 : TyA Tryz.prog 227 false 1 := ⟨fun _ => by kernel_rfl, fun _ => by kernel_rfl⟩
instance ze227 : ZeroA Tryz.prog 227 (Value.nilFunc) := ⟨fun _ => by kernel_rfl⟩
instance in227 : InfoA Tryz.prog 227 (Value.nilFunc) 1 8 := ⟨by kernel_rfl⟩
instance ty228 : TyA Tryz.prog 228 false 1 := ⟨fun _ => by kernel_rfl, fun _ => by kernel_rfl⟩
instance ze228 : ZeroA Tryz.prog 228 (Value.nilFunc) := ⟨fun _ => by kernel_rfl⟩
instance in228 : InfoA Tryz.prog 228 (Value.nilFunc) 1 8 := ⟨by kernel_rfl⟩
instance ty229 : TyA Tryz.prog 229 false 1 := ⟨fun _ => by kernel_rfl, fun _ => by kernel_rfl⟩
instance ze229 : ZeroA Tryz.prog 229 (Value.nilFunc) := ⟨fun _ => by kernel_rfl⟩
instance in229 : InfoA Tryz.prog 229 (Value.nilFunc) 1 8 := ⟨by kernel_rfl⟩
instance ty231 : TyA Tryz.prog 231 false 1 := ⟨fun _ => by kernel_rfl, fun _ => by kernel_rfl⟩
instance ze231 : ZeroA Tryz.prog 231 (Value.nilFunc) := ⟨fun _ => by kernel_rfl⟩
instance in231 : InfoA Tryz.prog 231 (Value.nilFunc) 1 8 := ⟨by kernel_rfl⟩
instance ty232 : TyA Tryz.prog 232 false 1 := ⟨fun _ => by kernel_rfl, fun _ => by kernel_rfl⟩
instance ze232 : ZeroA Tryz.prog 232 (Value.nilFunc) := ⟨fun _ => by kernel_rfl⟩
instance in232 : InfoA Tryz.prog 232 (Value.nilFunc) 1 8 := ⟨by kernel_rfl⟩
instance ty233 : TyA Tryz.prog 233 false 1 := ⟨fun _ => by kernel_rfl, fun _ => by kernel_rfl⟩
instance ze233 : ZeroA Tryz.prog 233 (Value.nilFunc) := ⟨fun _ => by kernel_rfl⟩
instance in233 : InfoA Tryz.prog 233 (Value.nilFunc) 1 8 := ⟨by kernel_rfl⟩
instance ty234 : TyA Tryz.prog 234 false 1 := ⟨fun _ => by kernel_rfl, fun _ => by kernel_rfl⟩
instance ze234 : ZeroA Tryz.prog 234 (Value.nilFunc) := ⟨fun _ => by kernel_rfl⟩
instance in234 : InfoA Tryz.prog 234 (Value.nilFunc) 1 8 := ⟨by kernel_rfl⟩
instance ty237 : TyA Tryz.prog 237 false 1 := ⟨fun _ => by kernel_rfl, fun _ => by kernel_rfl⟩
instance ze237 : ZeroA Tryz.prog 237 (Value.nilFunc) := ⟨fun _ => by kernel_rfl⟩
instance in237 : InfoA Tryz.prog 237 (Value.nilFunc) 1 8 := ⟨by kernel_rfl⟩
instance ty238 : TyA Tryz.prog 238 false 1 := ⟨fun _ => by kernel_rfl, fun _ => by kernel_rfl⟩
instance ze238 : ZeroA Tryz.prog 238 (Value.nilFunc) := ⟨fun _ => by kernel_rfl⟩
instance in238 : InfoA Tryz.prog 238 (Value.nilFunc) 1 8 := ⟨by kernel_rfl⟩
instance ty239 : TyA Tryz.prog 239 false 1 := ⟨fun _ => by kernel_rfl, fun _ => by kernel_rfl⟩
instance ze239 : ZeroA Tryz.prog 239 (Value.nilFunc) := ⟨fun _ => by kernel_rfl⟩
instance in239 : InfoA Tryz.prog 239 (Value.nilFunc) 1 8 := ⟨by kernel_rfl⟩
instance ty240 : TyA Tryz.prog 240 false 1 := ⟨fun _ => by kernel_rfl, fun _ => by kernel_rfl⟩
instance ze240 : ZeroA Tryz.prog 240 (Value.nilFunc) := ⟨fun _ => by kernel_rfl⟩
instance in240 : InfoA Tryz.prog 240 (Value.nilFunc) 1 8 := ⟨by kernel_rfl⟩
instance ty241 : TyA Tryz.prog 241 false 1 := ⟨fun _ => by kernel_rfl, fun _ => by kernel_rfl⟩
instance ze241 : ZeroA Tryz.prog 241 (Value.nilFunc) := ⟨fun _ => by kernel_rfl⟩
instance in241 : InfoA Tryz.prog 241 (Value.nilFunc) 1 8 := ⟨by kernel_rfl⟩
instance ty243 : TyA Tryz.prog 243 false 1 := ⟨fun _ => by kernel_rfl, fun _ => by kernel_rfl⟩
instance ze243 : ZeroA Tryz.prog 243 (Value.nilFunc) := ⟨fun _ => by kernel_rfl⟩
instance in243 : InfoA Tryz.prog 243 (Value.nilFunc) 1 8 := ⟨by kernel_rfl⟩
instance ty244 : TyA Tryz.prog 244 false 1 := ⟨fun _ => by kernel_rfl, fun _ => by kernel_rfl⟩
instance ze244 : ZeroA Tryz.prog 244 (Value.nilFunc) := ⟨fun _ => by kernel_rfl⟩
instance in244 : InfoA Tryz.prog 244 (Value.nilFunc) 1 8 := ⟨by kernel_rfl⟩
instance ty245 : TyA Tryz.prog 245 false 1 := ⟨fun _ => by kernel_rfl, fun _ => by kernel_rfl⟩
instance ze245 : ZeroA Tryz.prog 245 (Value.nilFunc) := ⟨fun _ => by kernel_rfl⟩
instance in245 : InfoA Tryz.prog 245 (Value.nilFunc) 1 8 := ⟨by kernel_rfl⟩
instance ty247 : TyA Tryz.prog 247 false 1 := ⟨fun _ => by kernel_rfl, fun _ => by kernel_rfl⟩
instance ze247 : ZeroA Tryz.prog 247 (Value.nilFunc) := ⟨fun _ => by kernel_rfl⟩
instance in247 : InfoA Tryz.prog 247 (Value.nilFunc) 1 8 := ⟨by kernel_rfl⟩
instance ty248 : TyA Tryz.prog 248 false 1 := ⟨fun _ => by kernel_rfl, fun _ => by kernel_rfl⟩
instance ze248 : ZeroA Tryz.prog 248 (Value.nilFunc) := ⟨fun _ => by kernel_rfl⟩
instance in248 : InfoA Tryz.prog 248 (Value.nilFunc) 1 8 := ⟨by kernel_rfl⟩
instance ty249 : TyA Tryz.prog 249 false 1 := ⟨fun _ => by kernel_rfl, fun _ => by kernel_rfl⟩
instance ze249 : ZeroA Tryz.prog 249 (Value.nilFunc) := ⟨fun _ => by kernel_rfl⟩
instance in249 : InfoA Tryz.prog 249 (Value.nilFunc) 1 8 := ⟨by kernel_rfl⟩
instance ty250 : TyA Tryz.prog 250 false 1 := ⟨fun _ => by kernel_rfl, fun _ => by kernel_rfl⟩
instance ze250 : ZeroA Tryz.prog 250 (Value.nilFunc) := ⟨fun _ => by kernel_rfl⟩
instance in250 : InfoA Tryz.prog 250 (Value.nilFunc) 1 8 := ⟨by kernel_rfl⟩
instance ty252 : TyA Tryz.prog 252 false 1 := ⟨fun _ => by kernel_rfl, fun _ => by kernel_rfl⟩
instance ze252 : ZeroA Tryz.prog 252 (Value.nilFunc) := ⟨fun _ => by kernel_rfl⟩
instance in252 : InfoA Tryz.prog 252 (Value.nilFunc) 1 8 := ⟨by kernel_rfl⟩
instance ty254 : TyA Tryz.prog 254 false 1 := ⟨fun _ => by kernel_rfl, fun _ => by kernel_rfl⟩
instance ze254 : ZeroA Tryz.prog 254 (Value.nilFunc) := ⟨fun _ => by kernel_rfl⟩
instance in254 : InfoA Tryz.prog 254 (Value.nilFunc) 1 8 := ⟨by kernel_rfl⟩
instance ty257 : TyA Tryz.prog 257 false 1 := ⟨fun _ => by kernel_rfl, fun _ => by kernel_rfl⟩
instance ze257 : ZeroA Tryz.prog 257 (Value.nilFunc) := ⟨fun _ => by kernel_rfl⟩
instance in257 : InfoA Tryz.prog 257 (Value.nilFunc) 1 8 := ⟨by kernel_rfl⟩
instance ty258 : TyA Tryz.prog 258 false 1 := ⟨fun _ => by kernel_rfl, fun _ => by kernel_rfl⟩
instance ze258 : ZeroA Tryz.prog 258 (Value.nilFunc) := ⟨fun _ => by kernel_rfl⟩
instance in258 : InfoA Tryz.prog 258 (Value.nilFunc) 1 8 := ⟨by kernel_rfl⟩
instance ty259 : TyA Tryz.prog 259 false 1 := ⟨fun _ => by kernel_rfl, fun _ => by kernel_rfl⟩
instance ze259 : ZeroA Tryz.prog 259 (Value.nilFunc) := ⟨fun _ => by kernel_rfl⟩
instance in259 : InfoA Tryz.prog 259 (Value.nilFunc) 1 8 := ⟨by kernel_rfl⟩
instance ty260 : TyA Tryz.prog 260 false 1 := ⟨fun _ => by kernel_rfl, fun _ => by kernel_rfl⟩
instance ze260 : ZeroA Tryz.prog 260 (Value.nilFunc) := ⟨fun _ => by kernel_rfl⟩
instance in260 : InfoA Tryz.prog 260 (Value.nilFunc) 1 8 := ⟨by kernel_rfl⟩
instance ty261 : TyA Tryz.prog 261 false 1 := ⟨fun _ => by kernel_rfl, fun _ => by kernel_rfl⟩
instance ze261 : ZeroA Tryz.prog 261 (Value.nilFunc) := ⟨fun _ => by kernel_rfl⟩
instance in261 : InfoA Tryz.prog 261 (Value.nilFunc) 1 8 := ⟨by kernel_rfl⟩
instance ty263 : TyA Tryz.prog 263 false 1 := ⟨fun _ => by kernel_rfl, fun _ => by kernel_rfl⟩
instance ze263 : ZeroA Tryz.prog 263 (Value.nilFunc) := ⟨fun _ => by kernel_rfl⟩
instance in263 : InfoA Tryz.prog 263 (Value.nilFunc) 1 8 := ⟨by kernel_rfl⟩
instance ty264 : TyA Tryz.prog 264 false 1 := ⟨fun _ => by kernel_rfl, fun _ => by kernel_rfl⟩
instance ze264 : ZeroA Tryz.prog 264 (Value.nilFunc) := ⟨fun _ => by kernel_rfl⟩
instance in264 : InfoA Tryz.prog 264 (Value.nilFunc) 1 8 := ⟨by kernel_rfl⟩
instance ty272 : TyA Tryz.prog 272 false 1 := ⟨fun _ => by kernel_rfl, fun _ => by kernel_rfl⟩
instance ze272 : ZeroA Tryz.prog 272 (Value.nilFunc) := ⟨fun _ => by kernel_rfl⟩
instance in272 : InfoA Tryz.prog 272 (Value.nilFunc) 1 8 := ⟨by kernel_rfl⟩
instance bu276 : BuildA Tryz.prog 276 [(0, 1), (1, 1), (2, 1), (3, 1), (4, 1), (5, 1), (6, 1), (7, 1), (8, 1), (9, 1), (10, 1)] := ⟨by kernel_rfl, by kernel_rfl⟩
instance bu277 : BuildA Tryz.prog 277 [(0, 1), (1, 1), (2, 1), (3, 1), (4, 1), (5, 1), (6, 1), (7, 1), (8, 1), (9, 1), (10, 1)] := ⟨by kernel_rfl, by kernel_rfl⟩
end Go.Proofs.YtohlllohmoojiaaGreatDoor
/- Worlds: copies of rows, accesses of words: contracts. -/
namespace Go.Proofs.YtohlllohmoojiaaGreatDoor
set_option maxRecDepth 100000
set_option maxHeartbeats 16000000
open Go Go.RowKit
set_option linter.unusedSimpArgs false
attribute [local irreducible] zY zZ Step zK Sub zS zH Fn
/-- words, as a slice's elements -/
def wds (ws : List Int) : List PV := ws.map fun n => .val (.int .u64 n)
theorem wds_len (ws : List Int) : (wds ws).length = ws.length := by simp [wds]
theorem wds_one (ws : List Int) : ∀ e ∈ wds ws, e.cells = [e] := fun e he => by
  obtain ⟨x, _, rfl⟩ := List.mem_map.1 he
  rfl
theorem wds_cells (ws : List Int) : ∀ e ∈ wds ws, e.cells.length = 1 := fun e he => by rw [wds_one ws e he]; rfl
theorem grow_lim (n k : Nat) (h : n ≤ 1000000) (hk : k ≤ 1000) : (([] : List PV).length + n) * k ≤ 140737488355328 ∧ ([] : List PV).length + n ≤ maxLen := by
  have h2 : n * k ≤ 1000000 * 1000 := Nat.mul_le_mul h hk
  simp only [List.length_nil, Nat.zero_add, maxLen]
  omega
theorem cloneW_fn (ws : List Int) (h0 : 1 ≤ ws.length) (h1 : ws.length ≤ 1000000) : Fn Tryz.prog 142 [.sl (wds ws)] (.row 22 1 (wds ws).length (flat (wds ws))) := by
  have g1 := wds_cells ws
  have g2 : wds ws ≠ [] := fun e => by have := congrArg List.length e; rw [wds_len, List.length_nil] at this; omega
  have g3 := grow_lim (wds ws).length 8 (by rw [wds_len]; exact h1) (by decide)
  refine yS Tryz.func142 rfl Tryz.ntmps142 (Nat.le_of_ble_eq_true rfl) ?_
  repeat' ((refine zZ.is ?_; first | refine zZ.seq ?_ | (refine zZ.iq 0 ?_; refine zZ.rqb _ K_5 K_c ?_; (refine zY.v rfl rfl (zV rfl rfl rfl (by decide)) ?_); refine zY.nil ?_) | (refine zZ.iq 1 ?_; refine zZ.rqb _ K_11 K_c ?_; (refine zY.v rfl rfl (zQ rfl rfl rfl (by decide)) ?_); (refine zY.v rfl rfl (by exact r_eqlNil rfl rfl rfl (by exact g2) (by exact bF (by decide)) rfl (by decide)) ?_); refine zY.nil ?_) | (refine zZ.iq 3 ?_; refine zZ.rqb _ K_11 K_c ?_; (refine zY.m rfl rfl (w_build0V rfl rfl (by decide)) ?_); (refine zY.v rfl rfl (zQ rfl rfl rfl (by decide)) ?_); (refine zY.w rfl (by exact w_appV rfl rfl rfl rfl (by exact g1) (by exact g3) rfl (by decide) rfl (by decide)) ?_); (refine zY.v rfl rfl (xK rfl rfl rfl (by decide)) ?_); refine zY.nil ?_) | refine zZ.yI rfl (by with_reducible rfl) ?_ | refine zZ.skip ?_ | refine zZ.ret ?_))
  all_goals exact ⟨by first | exact .inl rfl | exact .inr rfl, givesRowV rfl rfl rfl⟩
/-! ### The accesses of a word -/
def funV (f : Nat) : Value := .func (.func f) #[] #[]
def turnsL : List PV := [.agg [.val (.int .i64 0), .val (funV 205)], .agg [.val (.int .i64 1), .val (funV 206)], .agg [.val (.int .i64 2), .val (funV 207)], .agg [.val (.int .i64 3), .val (funV 208)], .agg [.val (.int .i64 4), .val (funV 209)]]
theorem turns_fn : Fn Tryz.prog 188 [] (.p (.sl turnsL)) := by
  refine yS Tryz.func188 rfl Tryz.ntmps188 (Nat.le_of_ble_eq_true rfl) ?_
  repeat' ((refine zZ.is ?_; first | refine zZ.seq ?_ | (refine zZ.isR (id := 0) ?_; refine zZ.zR [] [0, 6] (by repeat' exact zX.nil) (by repeat' first | exact zW.nil | apply zW.skip) ?_; (refine zY.v rfl rfl (zV rfl rfl rfl (by decide)) ?_); refine zY.nil ?_) | (refine zZ.iq 1 ?_; refine zZ.rqb _ K_5 K_1c ?_; (refine zY.v rfl rfl (xR rfl (by rfl) (by rfl) (by rfl) (by rfl) rfl (by decide)) ?_); (refine zY.v rfl rfl (xR rfl (by rfl) (by rfl) (by rfl) (by rfl) rfl (by decide)) ?_); (refine zY.v rfl rfl (xR rfl (by rfl) (by rfl) (by rfl) (by rfl) rfl (by decide)) ?_); (refine zY.v rfl rfl (xR rfl (by rfl) (by rfl) (by rfl) (by rfl) rfl (by decide)) ?_); (refine zY.v rfl rfl (xR rfl (by rfl) (by rfl) (by rfl) (by rfl) rfl (by decide)) ?_); (refine zY.v rfl rfl (w_buildSl rfl (by decide) (by decide) (by decide) (by decide) (by rfl) (by rfl) (by rfl) (by rfl) (by rfl) (by rfl) (by rfl) rfl (by decide)) ?_); (refine zY.v rfl rfl (zV rfl rfl rfl (by decide)) ?_); refine zY.nil ?_) | refine zZ.ret ?_))
  trace_state
  all_goals exact ⟨by first | exact .inl rfl | exact .inr rfl, _, Sub.refl _, .p rfl (.tmp rfl)⟩
/-- what an access of a word tells, and the word then -/
def turnR (kind old a b : Int) : Int × Int := if kind = 0 then (old, old) else if kind = 1 then (0, a) else if kind = 2 then (if old = a then (1, b) else (0, old)) else if kind = 3 then (old, IntKind.u64.wrap (old + a)) else (old, a)
theorem turn1_fn (old kind cell a b : Int) (d w : PV) : Fn Tryz.prog 205 [.val (.int .u64 old), .agg [.val (.int .i64 kind), .val (.int .i64 cell), .val (.int .u64 a), .val (.int .u64 b), d, w]] (.tup [.val (.int .u64 old), .val (.int .u64 old)]) := by
  refine yS Tryz.func205 rfl Tryz.ntmps205 (Nat.le_of_ble_eq_true rfl) ?_
  repeat' ((refine zZ.is ?_; first | refine zZ.seq ?_ | (refine zZ.iq 0 ?_; refine zZ.rqb _ K_9 K_f ?_; (refine zY.m rfl rfl (yN rfl rfl rfl (by decide)) ?_); (refine zY.v rfl rfl (zV rfl rfl rfl (by decide)) ?_); (refine zY.v rfl rfl (zV rfl rfl rfl (by decide)) ?_); refine zY.nil ?_) | (refine zZ.isR (id := 1) ?_; refine zZ.zR [0, 4, 5] [3] (by repeat' first | exact zX.nil | apply zX.p rfl) (by repeat' first | exact zW.nil | apply zW.boxP rfl rfl) ?_; (refine zY.v rfl rfl (zQ rfl rfl rfl (by decide)) ?_); (refine zY.v rfl rfl (zQ rfl rfl rfl (by decide)) ?_); (refine zY.v rfl rfl (zV rfl rfl rfl (by decide)) ?_); (refine zY.v rfl rfl (zV rfl rfl rfl (by decide)) ?_); refine zY.nil ?_) | refine zZ.ret ?_))
  all_goals exact ⟨by first | exact .inl rfl | exact .inr rfl, _, Sub.refl _, .tupE rfl (by decide) (.cons (.tmp rfl) (.cons (.tmp rfl) .nil)) rfl⟩
theorem turn2_fn (old kind cell a b : Int) (d w : PV) : Fn Tryz.prog 206 [.val (.int .u64 old), .agg [.val (.int .i64 kind), .val (.int .i64 cell), .val (.int .u64 a), .val (.int .u64 b), d, w]] (.tup [.val (.int .u64 0), .val (.int .u64 a)]) := by
  refine yS Tryz.func206 rfl Tryz.ntmps206 (Nat.le_of_ble_eq_true rfl) ?_
  repeat' ((refine zZ.is ?_; first | refine zZ.seq ?_ | (refine zZ.iq 0 ?_; refine zZ.rqb _ K_4 K_f ?_; (refine zY.m rfl rfl (yN rfl rfl rfl (by decide)) ?_); (refine zY.v rfl rfl (zV rfl rfl rfl (by decide)) ?_); (refine zY.v rfl rfl (zV rfl rfl rfl (by decide)) ?_); refine zY.nil ?_) | (refine zZ.isR (id := 1) ?_; refine zZ.regionD [3, 4, 5] [3] (by repeat' first | exact zX.nil | apply zX.p rfl | apply zX.ptr rfl) (by repeat' first | exact zW.nil | apply zW.boxP rfl rfl) (zZ.draws ?_); all_goals (refine Draws.v rfl rfl (zA rfl rfl rfl (by decide)) ?_); all_goals (refine Draws.v rfl rfl (zD rfl rfl rfl rfl rfl (by decide)) ?_); all_goals (refine Draws.v rfl rfl (zV rfl rfl rfl (by decide)) ?_); all_goals (refine Draws.v rfl rfl (zV rfl rfl rfl (by decide)) ?_); all_goals ((refine Draws.done (by kernel_rfl) (by kernel_rfl) (by kernel_rfl) ?_; refine zS.nil ?_))) | refine zZ.ret ?_))
  all_goals exact ⟨by first | exact .inl rfl | exact .inr rfl, _, Sub.refl _, .tupE rfl (by decide) (.cons (.tmp rfl) (.cons (.tmp rfl) .nil)) rfl⟩
theorem turn3_fn (old kind cell a b : Int) (d w : PV) : Fn Tryz.prog 207 [.val (.int .u64 old), .agg [.val (.int .i64 kind), .val (.int .i64 cell), .val (.int .u64 a), .val (.int .u64 b), d, w]] (.tup [.val (.int .u64 (turnR 2 old a b).1), .val (.int .u64 (turnR 2 old a b).2)]) := by
  refine yS Tryz.func207 rfl Tryz.ntmps207 (Nat.le_of_ble_eq_true rfl) ?_
  repeat' (first | (refine zZ.is ?_; first | refine zZ.seq ?_ | (refine zZ.iq 0 ?_; refine zZ.rqb _ K_9 K_f ?_; (refine zY.m rfl rfl (yN rfl rfl rfl (by decide)) ?_); (refine zY.v rfl rfl (zV rfl rfl rfl (by decide)) ?_); (refine zY.v rfl rfl (zV rfl rfl rfl (by decide)) ?_); refine zY.nil ?_) | (refine zZ.iq 1 ?_; refine zZ.rqa _ K_1y K_f ?_; (refine zY.v rfl rfl (zQ rfl rfl rfl (by decide)) ?_); (refine zY.v rfl rfl (zA rfl rfl rfl (by decide)) ?_); (refine zY.v rfl rfl (zD rfl rfl rfl rfl rfl (by decide)) ?_); (refine zY.v rfl rfl (wM rfl rfl rfl (by rfl) rfl (by decide)) ?_); refine zY.nil ?_) | (refine zZ.isR (id := 2) ?_; refine zZ.regionD [0, 3, 4, 5] [3] (by repeat' first | exact zX.nil | apply zX.p rfl | apply zX.ptr rfl) (by repeat' first | exact zW.nil | apply zW.boxP rfl rfl) (zZ.draws ?_); all_goals (refine Draws.v rfl rfl (zA rfl rfl rfl (by decide)) ?_); all_goals (refine Draws.v rfl rfl (zD rfl rfl rfl rfl rfl (by decide)) ?_); all_goals (refine Draws.v rfl rfl (zV rfl rfl rfl (by decide)) ?_); all_goals (refine Draws.v rfl rfl (zV rfl rfl rfl (by decide)) ?_); all_goals ((refine Draws.done (by kernel_rfl) (by kernel_rfl) (by kernel_rfl) ?_; refine zS.nil ?_))) | (refine zZ.isR (id := 3) ?_; refine zZ.zR [0, 4, 5] [3] (by repeat' first | exact zX.nil | apply zX.p rfl) (by repeat' first | exact zW.nil | apply zW.boxP rfl rfl) ?_; (refine zY.v rfl rfl (zQ rfl rfl rfl (by decide)) ?_); (refine zY.v rfl rfl (zV rfl rfl rfl (by decide)) ?_); (refine zY.v rfl rfl (zV rfl rfl rfl (by decide)) ?_); refine zY.nil ?_) | refine zZ.cond rfl (fun h => ?_) (fun h => ?_) | refine zZ.skip ?_ | refine zZ.ret ?_) | refine zG.r ?_)
  all_goals exact ⟨by first | exact .inl rfl | exact .inr rfl, _, Sub.refl _, .tupE rfl (by decide) (.cons (.tmp rfl) (.cons (.tmp rfl) .nil)) (by simp_all [turnR])⟩
theorem turn4_fn (old kind cell a b : Int) (d w : PV) : Fn Tryz.prog 208 [.val (.int .u64 old), .agg [.val (.int .i64 kind), .val (.int .i64 cell), .val (.int .u64 a), .val (.int .u64 b), d, w]] (.tup [.val (.int .u64 old), .val (.int .u64 (IntKind.u64.wrap (old + a)))]) := by
  refine yS Tryz.func208 rfl Tryz.ntmps208 (Nat.le_of_ble_eq_true rfl) ?_
  repeat' ((refine zZ.is ?_; first | refine zZ.seq ?_ | (refine zZ.iq 0 ?_; refine zZ.rqb _ K_9 K_f ?_; (refine zY.m rfl rfl (yN rfl rfl rfl (by decide)) ?_); (refine zY.v rfl rfl (zV rfl rfl rfl (by decide)) ?_); (refine zY.v rfl rfl (zV rfl rfl rfl (by decide)) ?_); refine zY.nil ?_) | (refine zZ.isR (id := 1) ?_; refine zZ.regionD [0, 3, 4, 5] [3] (by repeat' first | exact zX.nil | apply zX.p rfl | apply zX.ptr rfl) (by repeat' first | exact zW.nil | apply zW.boxP rfl rfl) (zZ.draws ?_); all_goals (refine Draws.v rfl rfl (zQ rfl rfl rfl (by decide)) ?_); all_goals (refine Draws.v rfl rfl (zQ rfl rfl rfl (by decide)) ?_); all_goals (refine Draws.v rfl rfl (zA rfl rfl rfl (by decide)) ?_); all_goals (refine Draws.v rfl rfl (zD rfl rfl rfl rfl rfl (by decide)) ?_); all_goals (refine Draws.v rfl rfl (qQ rfl rfl rfl (by rfl) rfl (by decide)) ?_); all_goals (refine Draws.v rfl rfl (zV rfl rfl rfl (by decide)) ?_); all_goals (refine Draws.v rfl rfl (zV rfl rfl rfl (by decide)) ?_); all_goals ((refine Draws.done (by kernel_rfl) (by kernel_rfl) (by kernel_rfl) ?_; refine zS.nil ?_))) | refine zZ.ret ?_))
  all_goals exact ⟨by first | exact .inl rfl | exact .inr rfl, _, Sub.refl _, .tupE rfl (by decide) (.cons (.tmp rfl) (.cons (.tmp rfl) .nil)) rfl⟩
theorem turn5_fn (old kind cell a b : Int) (d w : PV) : Fn Tryz.prog 209 [.val (.int .u64 old), .agg [.val (.int .i64 kind), .val (.int .i64 cell), .val (.int .u64 a), .val (.int .u64 b), d, w]] (.tup [.val (.int .u64 old), .val (.int .u64 (a))]) := by
  refine yS Tryz.func209 rfl Tryz.ntmps209 (Nat.le_of_ble_eq_true rfl) ?_
  repeat' ((refine zZ.is ?_; first | refine zZ.seq ?_ | (refine zZ.iq 0 ?_; refine zZ.rqb _ K_9 K_f ?_; (refine zY.m rfl rfl (yN rfl rfl rfl (by decide)) ?_); (refine zY.v rfl rfl (zV rfl rfl rfl (by decide)) ?_); (refine zY.v rfl rfl (zV rfl rfl rfl (by decide)) ?_); refine zY.nil ?_) | (refine zZ.isR (id := 1) ?_; refine zZ.regionD [0, 3, 4, 5] [3] (by repeat' first | exact zX.nil | apply zX.p rfl | apply zX.ptr rfl) (by repeat' first | exact zW.nil | apply zW.boxP rfl rfl) (zZ.draws ?_); all_goals (refine Draws.v rfl rfl (zQ rfl rfl rfl (by decide)) ?_); all_goals (refine Draws.v rfl rfl (zA rfl rfl rfl (by decide)) ?_); all_goals (refine Draws.v rfl rfl (zD rfl rfl rfl rfl rfl (by decide)) ?_); all_goals (refine Draws.v rfl rfl (zV rfl rfl rfl (by decide)) ?_); all_goals (refine Draws.v rfl rfl (zV rfl rfl rfl (by decide)) ?_); all_goals ((refine Draws.done (by kernel_rfl) (by kernel_rfl) (by kernel_rfl) ?_; refine zS.nil ?_))) | refine zZ.ret ?_))
  all_goals exact ⟨by first | exact .inl rfl | exact .inr rfl, _, Sub.refl _, .tupE rfl (by decide) (.cons (.tmp rfl) (.cons (.tmp rfl) .nil)) rfl⟩
end Go.Proofs.YtohlllohmoojiaaGreatDoor
