/- Operations on vertices that step alone, one behind the other, by any threads, answer as a set of vertices does. (Part 5 of 10.) -/
import Derived.Test.YtmfbamiciieooaaGreatDoorVa4
/- Worlds: an access made: contracts. -/
namespace Go.Proofs.YtmfbamiciieooaaGreatDoor
set_option maxRecDepth 100000
set_option maxHeartbeats 16000000
open Go Go.RowKit
set_option linter.unusedSimpArgs false
attribute [local irreducible] zY zZ Step zX Sub zD zG Fn
/-- a world; a result that tells that the disk failed -/
def vX (t c : Int) (ws : List Int) (root : Int) (r0 r1 : List (List Int × Int)) : PV := .agg [.val (.int .i64 t), .val (.int .i64 c), .sl (wds ws), .val (.int .u64 root), .sl (strs r0), .sl (strs r1)]
def resF : PV := .agg [.val (.int .u64 0), .val (.slice none 0 0), .val (.bool true)]
theorem streams50_fn (root : Int) (r0 r1 : List (List Int × Int)) (i : Nat) (d : List Int) (s p q r : Int) (bs : List Int) (h0 : 0 ≤ root) (hr : root % 2 = 0) (hi : r0[i]? = some (d, s)) (h1 : r0.length ≤ 1000000) (h2 : d.length + bs.length ≤ 100000000) :
    Fn Tryz.prog 34 [vV root r0 r1, .val (.int .i64 i), accV 5 p q r (.sl (byts bs))] (.tup [vV root (r0.set i (d ++ bs, s)) r1, resN 0]) := by
  have c0 : Fn Tryz.prog 66 [vV root r0 r1] (.p (.val (.int .i64 0))) := hr ▸ row_fn root (.sl (strs r0)) (.sl (strs r1)) h0
  have c1 := diskApp0_fn root r0 r1 i d s bs hi h1 h2
  refine yP Tryz.func34 rfl Tryz.ntmps34 (Nat.le_of_ble_eq_true rfl) ?_
  repeat' (first | (refine zY.is ?_; first | refine zY.nil ?_ | (refine zY.at_ 16 rfl ?_; refine zY.rc (.v vZ (.v yJ (.v yJ (.w zS .e)))) ?_) | (refine zY.at_ 8 rfl ?_; refine zY.rc (.v zB .e) ?_) | (refine zY.in_ [11] rfl ?_; refine zY.v rfl rfl (zP (c0) rfl rfl rfl (by decide)) ?_) | (refine zY.in_ [22] rfl ?_; refine zY.v rfl rfl (xY (c1) rfl rfl rfl (by decide)) ?_)) | (refine zZ.is ?_; first | refine zZ.seq ?_ | (refine zZ.isR (id := 0) ?_; refine zZ.rc [0, 1, 2] [3, 5, 6, 7, 9] (r := (.m yT (.m yT (.m zT (.m zT .e))))) (h := ?_)) | (refine zZ.isR (id := 1) ?_; refine zZ.rc [1, 3, 5, 6, 7] [3, 5, 6, 7, 9] (r := (.v xU .e)) (h := ?_)) | (refine zZ.isR (id := 2) ?_; refine zZ.rc [1, 3, 5, 6, 7, 8] [3, 5, 6, 7, 9] (r := (.m zT .e)) (h := ?_)) | (refine zZ.isR (id := 3) ?_; refine zZ.rc [1, 3, 5, 6, 7, 8, 9] [3, 5, 6, 7, 9] (r := (.v zM (.v zO .e))) (h := ?_)) | (refine zZ.isR (id := 4) ?_; refine zZ.rc [1, 3, 5, 6, 7, 8, 9, 13] [3, 5, 6, 7, 9] (r := (.v v41_4 (.v zB .e))) (h := ?_)) | (refine zZ.isR (id := 5) ?_; refine zZ.rc [1, 3, 5, 6, 7, 8, 9, 13] [3, 5, 6, 7, 9] (r := (.v xU (.v zV (.v zV (.v zM (.v zO .e)))))) (h := ?_)) | (refine zZ.iq 20 ?_; refine zZ.rqb _ K_u K_v (zZ.drawAll (by kernel_rfl) ?_); repeat' (first | refine DAll.many (by rfl) ?_ | refine zI.cons ?_ ?_ | exact zI.nil | refine DOne.v rfl rfl rfl (yR rfl rfl rfl (by rfl) (by rfl) rfl (by decide)) ?_ | refine DOne.w rfl rfl (by exact yO rfl rfl rfl rfl rfl (by rfl) (by exact Nat.le_of_ble_eq_true rfl) rfl rfl) ?_ | refine DAll.fin (by rfl) ?_)) | refine zZ.yN rfl bA ?_ | refine zZ.block ?_ | refine zZ.ret ?_))
  all_goals exact ⟨by first | exact .inl rfl | exact .inr rfl, _, Sub.refl _, .tup (rs := [.cell 6 31, .cell 7 55]) (l := [vV root (r0.set i (d ++ bs, s)) r1, resN 0]) rfl (by decide) (.cons (.cellN rfl rfl (by rfl) (by rfl)) (.cons (.cellN rfl rfl (by rfl) (by rfl)) .nil))⟩
theorem doFail5_fn (t c p q r me root : Int) (ws : List Int) (d : PV) (r0 r1 : List (List Int × Int)) :
    Fn Tryz.prog 13 [vX t c ws root r0 r1, .val (.int .i64 me), accV 5 p q r d, .val (.bool true)] (.tup [vX t c ws root r0 r1, resF]) := by
  have c0 : Fn Tryz.prog 33 [.val (.int .i64 5)] (.p (.val (.bool true))) := isDisk_fn 5
  refine yP Tryz.func13 rfl Tryz.ntmps13 (Nat.le_of_ble_eq_true rfl) ?_
  repeat' (first | (refine zY.is ?_; first | refine zY.nil ?_ | (refine zY.at_ 23 rfl ?_; refine zY.rc (.v zV (.gY zV (.v xR (.v zB .e)))) ?_) | (refine zY.in_ [22] rfl ?_; refine zY.v rfl rfl (zP (c0) rfl rfl rfl (by decide)) ?_)) | (refine zZ.is ?_; first | refine zZ.seq ?_ | (refine zZ.isR (id := 0) ?_; refine zZ.rc [0, 1, 2, 3] [4, 6, 8, 9, 10] (r := (.m yT (.m yT (.m zT (.m zT .e))))) (h := ?_)) | (refine zZ.isR (id := 1) ?_; refine zZ.rc [1, 3, 4, 6, 8, 9] [4, 6, 8, 9, 10] (r := (.m zT .e)) (h := ?_)) | (refine zZ.isR (id := 3) ?_; refine zZ.rc [1, 3, 4, 6, 8, 9, 10] [4, 6, 8, 9, 10] (r := (.v zM (.v zO .e))) (h := ?_)) | (refine zZ.isR (id := 4) ?_; refine zZ.rc [1, 4, 6, 8, 9, 10] [4, 6, 8, 9, 10] (r := (.v zM (.w zS .e))) (h := ?_)) | (refine zZ.iq 10 ?_; refine zZ.rqb _ K_8 K_9 (zZ.drawAll (by kernel_rfl) ?_); repeat' (first | refine DAll.many (by rfl) ?_ | refine zI.cons ?_ ?_ | exact zI.nil | refine DOne.v rfl rfl rfl (yR rfl rfl rfl (by rfl) (by rfl) rfl (by decide)) ?_ | refine DOne.w rfl rfl (by exact yO rfl rfl rfl rfl rfl (by rfl) (by exact Nat.le_of_ble_eq_true rfl) rfl rfl) ?_ | refine DAll.fin (by rfl) ?_)) | refine zZ.yN rfl bA ?_ | refine zZ.block ?_ | refine zZ.ret ?_))
  all_goals exact ⟨by first | exact .inl rfl | exact .inr rfl, _, Sub.refl _, .tup (rs := [.cell 8 33, .cell 9 55]) (l := [vX t c ws root r0 r1, resF]) rfl (by decide) (.cons (.cellN rfl rfl (by rfl) (by rfl)) (.cons (.cellN rfl rfl (by rfl) (by rfl)) .nil))⟩
theorem doDisk50_fn (t c p q r root : Int) (ws : List Int) (r0 r1 : List (List Int × Int)) (i : Nat) (d : List Int) (s : Int) (bs : List Int) (h0 : 0 ≤ root) (hr : root % 2 = 0) (hi : r0[i]? = some (d, s)) (h1 : r0.length ≤ 1000000) (h2 : d.length + bs.length ≤ 100000000) :
    Fn Tryz.prog 13 [vX t c ws root r0 r1, .val (.int .i64 i), accV 5 p q r (.sl (byts bs)), .val (.bool false)] (.tup [vX t c ws root (r0.set i (d ++ bs, s)) r1, resN 0]) := by
  have c0 : Fn Tryz.prog 33 [.val (.int .i64 5)] (.p (.val (.bool true))) := isDisk_fn 5
  have c1 := streams50_fn root r0 r1 i d s p q r bs h0 hr hi h1 h2
  refine yP Tryz.func13 rfl Tryz.ntmps13 (Nat.le_of_ble_eq_true rfl) ?_
  repeat' (first | (refine zY.is ?_; first | refine zY.nil ?_ | (refine zY.at_ 23 rfl ?_; refine zY.rc (.v zV (.gY zV (.v xR (.v zB .e)))) ?_) | (refine zY.at_ 27 rfl ?_; refine zY.rc (.v zB .e) ?_) | (refine zY.at_ 31 rfl ?_; refine zY.rc (.v vZ (.v yJ (.v yJ (.v zM (.w zS (.w zS .e)))))) ?_) | (refine zY.in_ [22, 30] rfl ?_; refine zY.v rfl rfl (zP (c0) rfl rfl rfl (by decide)) ?_) | (refine zY.in_ [36] rfl ?_; refine zY.v rfl rfl (xY (c1) rfl rfl rfl (by decide)) ?_)) | (refine zZ.is ?_; first | refine zZ.seq ?_ | (refine zZ.isR (id := 0) ?_; refine zZ.rc [0, 1, 2, 3] [4, 6, 8, 9, 10] (r := (.m yT (.m yT (.m zT (.m zT .e))))) (h := ?_)) | (refine zZ.isR (id := 1) ?_; refine zZ.rc [1, 3, 4, 6, 8, 9] [4, 6, 8, 9, 10] (r := (.m zT .e)) (h := ?_)) | (refine zZ.isR (id := 3) ?_; refine zZ.rc [1, 3, 4, 6, 8, 9, 10] [4, 6, 8, 9, 10] (r := (.v zM (.v zO .e))) (h := ?_)) | (refine zZ.isR (id := 5) ?_; refine zZ.rc [1, 4, 6, 8, 9, 10] [4, 6, 8, 9, 10] (r := (.v zM (.v zO .e))) (h := ?_)) | (refine zZ.isR (id := 6) ?_; refine zZ.rc [1, 4, 6, 8, 9, 10] [4, 6, 8, 9, 10] (r := (.v zM (.v xU (.v zV (.v xU .e))))) (h := ?_)) | (refine zZ.iq 10 ?_; refine zZ.rqb _ K_8 K_9 (zZ.drawAll (by kernel_rfl) ?_); repeat' (first | refine DAll.many (by rfl) ?_ | refine zI.cons ?_ ?_ | exact zI.nil | refine DOne.v rfl rfl rfl (yR rfl rfl rfl (by rfl) (by rfl) rfl (by decide)) ?_ | refine DOne.w rfl rfl (by exact yO rfl rfl rfl rfl rfl (by rfl) (by exact Nat.le_of_ble_eq_true rfl) rfl rfl) ?_ | refine DAll.fin (by rfl) ?_)) | refine zZ.yN rfl bA ?_ | refine zZ.yG rfl bA ?_ | refine zZ.block ?_ | refine zZ.ret ?_))
  all_goals exact ⟨by first | exact .inl rfl | exact .inr rfl, _, Sub.refl _, .tup (rs := [.cell 8 33, .cell 9 55]) (l := [vX t c ws root (r0.set i (d ++ bs, s)) r1, resN 0]) rfl (by decide) (.cons (.cellN rfl rfl (by rfl) (by rfl)) (.cons (.cellN rfl rfl (by rfl) (by rfl)) .nil))⟩
theorem streams60_fn (root : Int) (r0 r1 : List (List Int × Int)) (i : Nat) (d : List Int) (s p q r : Int) (x : PV) (h0 : 0 ≤ root) (hr : root % 2 = 0) (hi : r0[i]? = some (d, s)) (h1 : r0.length ≤ 1000000) :
    Fn Tryz.prog 34 [vV root r0 r1, .val (.int .i64 i), accV 6 p q r (x)] (.tup [vV root (r0.set i (d, d.length)) r1, resN 0]) := by
  have c0 : Fn Tryz.prog 66 [vV root r0 r1] (.p (.val (.int .i64 0))) := hr ▸ row_fn root (.sl (strs r0)) (.sl (strs r1)) h0
  have c1 := diskSync0_fn root r0 r1 i d s hi h1
  refine yP Tryz.func34 rfl Tryz.ntmps34 (Nat.le_of_ble_eq_true rfl) ?_
  repeat' (first | (refine zY.is ?_; first | refine zY.nil ?_ | (refine zY.at_ 27 rfl ?_; refine zY.rc (.v vZ (.v yJ (.v yJ (.w zS .e)))) ?_) | (refine zY.at_ 8 rfl ?_; refine zY.rc (.v zB .e) ?_) | (refine zY.in_ [11] rfl ?_; refine zY.v rfl rfl (zP (c0) rfl rfl rfl (by decide)) ?_) | (refine zY.in_ [31] rfl ?_; refine zY.v rfl rfl (xY (c1) rfl rfl rfl (by decide)) ?_)) | (refine zZ.is ?_; first | refine zZ.seq ?_ | (refine zZ.isR (id := 0) ?_; refine zZ.rc [0, 1, 2] [3, 5, 6, 7, 9] (r := (.m yT (.m yT (.m zT (.m zT .e))))) (h := ?_)) | (refine zZ.isR (id := 1) ?_; refine zZ.rc [1, 3, 5, 6, 7] [3, 5, 6, 7, 9] (r := (.v xU .e)) (h := ?_)) | (refine zZ.isR (id := 2) ?_; refine zZ.rc [1, 3, 5, 6, 7, 8] [3, 5, 6, 7, 9] (r := (.m zT .e)) (h := ?_)) | (refine zZ.isR (id := 3) ?_; refine zZ.rc [1, 3, 5, 6, 7, 8, 9] [3, 5, 6, 7, 9] (r := (.v zM (.v zO .e))) (h := ?_)) | (refine zZ.isR (id := 4) ?_; refine zZ.rc [1, 3, 5, 6, 7, 8, 9, 13] [3, 5, 6, 7, 9] (r := (.v v41_5 (.v zB .e))) (h := ?_)) | (refine zZ.isR (id := 6) ?_; refine zZ.rc [1, 3, 5, 6, 7, 8, 9, 13] [3, 5, 6, 7, 9] (r := (.v v41_4 (.v zB .e))) (h := ?_)) | (refine zZ.isR (id := 7) ?_; refine zZ.rc [1, 3, 5, 6, 7, 8, 9, 13] [3, 5, 6, 7, 9] (r := (.v xU (.v zV (.v zV .e)))) (h := ?_)) | (refine zZ.iq 20 ?_; refine zZ.rqb _ K_u K_v (zZ.drawAll (by kernel_rfl) ?_); repeat' (first | refine DAll.many (by rfl) ?_ | refine zI.cons ?_ ?_ | exact zI.nil | refine DOne.v rfl rfl rfl (yR rfl rfl rfl (by rfl) (by rfl) rfl (by decide)) ?_ | refine DOne.w rfl rfl (by exact yO rfl rfl rfl rfl rfl (by rfl) (by exact Nat.le_of_ble_eq_true rfl) rfl rfl) ?_ | refine DAll.fin (by rfl) ?_)) | refine zZ.yN rfl bA ?_ | refine zZ.yG rfl bA ?_ | refine zZ.block ?_ | refine zZ.ret ?_))
  all_goals exact ⟨by first | exact .inl rfl | exact .inr rfl, _, Sub.refl _, .tup (rs := [.cell 6 31, .cell 7 55]) (l := [vV root (r0.set i (d, d.length)) r1, resN 0]) rfl (by decide) (.cons (.cellN rfl rfl (by rfl) (by rfl)) (.cons (.cellN rfl rfl (by rfl) (by rfl)) .nil))⟩
theorem doFail6_fn (t c p q r me root : Int) (ws : List Int) (d : PV) (r0 r1 : List (List Int × Int)) :
    Fn Tryz.prog 13 [vX t c ws root r0 r1, .val (.int .i64 me), accV 6 p q r d, .val (.bool true)] (.tup [vX t c ws root r0 r1, resF]) := by
  have c0 : Fn Tryz.prog 33 [.val (.int .i64 6)] (.p (.val (.bool true))) := isDisk_fn 6
  refine yP Tryz.func13 rfl Tryz.ntmps13 (Nat.le_of_ble_eq_true rfl) ?_
  repeat' (first | (refine zY.is ?_; first | refine zY.nil ?_ | (refine zY.at_ 23 rfl ?_; refine zY.rc (.v zV (.gY zV (.v xR (.v zB .e)))) ?_) | (refine zY.in_ [22] rfl ?_; refine zY.v rfl rfl (zP (c0) rfl rfl rfl (by decide)) ?_)) | (refine zZ.is ?_; first | refine zZ.seq ?_ | (refine zZ.isR (id := 0) ?_; refine zZ.rc [0, 1, 2, 3] [4, 6, 8, 9, 10] (r := (.m yT (.m yT (.m zT (.m zT .e))))) (h := ?_)) | (refine zZ.isR (id := 1) ?_; refine zZ.rc [1, 3, 4, 6, 8, 9] [4, 6, 8, 9, 10] (r := (.m zT .e)) (h := ?_)) | (refine zZ.isR (id := 3) ?_; refine zZ.rc [1, 3, 4, 6, 8, 9, 10] [4, 6, 8, 9, 10] (r := (.v zM (.v zO .e))) (h := ?_)) | (refine zZ.isR (id := 4) ?_; refine zZ.rc [1, 4, 6, 8, 9, 10] [4, 6, 8, 9, 10] (r := (.v zM (.w zS .e))) (h := ?_)) | (refine zZ.iq 10 ?_; refine zZ.rqb _ K_8 K_9 (zZ.drawAll (by kernel_rfl) ?_); repeat' (first | refine DAll.many (by rfl) ?_ | refine zI.cons ?_ ?_ | exact zI.nil | refine DOne.v rfl rfl rfl (yR rfl rfl rfl (by rfl) (by rfl) rfl (by decide)) ?_ | refine DOne.w rfl rfl (by exact yO rfl rfl rfl rfl rfl (by rfl) (by exact Nat.le_of_ble_eq_true rfl) rfl rfl) ?_ | refine DAll.fin (by rfl) ?_)) | refine zZ.yN rfl bA ?_ | refine zZ.block ?_ | refine zZ.ret ?_))
  all_goals exact ⟨by first | exact .inl rfl | exact .inr rfl, _, Sub.refl _, .tup (rs := [.cell 8 33, .cell 9 55]) (l := [vX t c ws root r0 r1, resF]) rfl (by decide) (.cons (.cellN rfl rfl (by rfl) (by rfl)) (.cons (.cellN rfl rfl (by rfl) (by rfl)) .nil))⟩
theorem doDisk60_fn (t c p q r root : Int) (ws : List Int) (r0 r1 : List (List Int × Int)) (i : Nat) (d : List Int) (s : Int) (x : PV) (h0 : 0 ≤ root) (hr : root % 2 = 0) (hi : r0[i]? = some (d, s)) (h1 : r0.length ≤ 1000000) :
    Fn Tryz.prog 13 [vX t c ws root r0 r1, .val (.int .i64 i), accV 6 p q r (x), .val (.bool false)] (.tup [vX t c ws root (r0.set i (d, d.length)) r1, resN 0]) := by
  have c0 : Fn Tryz.prog 33 [.val (.int .i64 6)] (.p (.val (.bool true))) := isDisk_fn 6
  have c1 := streams60_fn root r0 r1 i d s p q r x h0 hr hi h1
  refine yP Tryz.func13 rfl Tryz.ntmps13 (Nat.le_of_ble_eq_true rfl) ?_
  repeat' (first | (refine zY.is ?_; first | refine zY.nil ?_ | (refine zY.at_ 23 rfl ?_; refine zY.rc (.v zV (.gY zV (.v xR (.v zB .e)))) ?_) | (refine zY.at_ 27 rfl ?_; refine zY.rc (.v zB .e) ?_) | (refine zY.at_ 31 rfl ?_; refine zY.rc (.v vZ (.v yJ (.v yJ (.v zM (.w zS (.w zS .e)))))) ?_) | (refine zY.in_ [22, 30] rfl ?_; refine zY.v rfl rfl (zP (c0) rfl rfl rfl (by decide)) ?_) | (refine zY.in_ [36] rfl ?_; refine zY.v rfl rfl (xY (c1) rfl rfl rfl (by decide)) ?_)) | (refine zZ.is ?_; first | refine zZ.seq ?_ | (refine zZ.isR (id := 0) ?_; refine zZ.rc [0, 1, 2, 3] [4, 6, 8, 9, 10] (r := (.m yT (.m yT (.m zT (.m zT .e))))) (h := ?_)) | (refine zZ.isR (id := 1) ?_; refine zZ.rc [1, 3, 4, 6, 8, 9] [4, 6, 8, 9, 10] (r := (.m zT .e)) (h := ?_)) | (refine zZ.isR (id := 3) ?_; refine zZ.rc [1, 3, 4, 6, 8, 9, 10] [4, 6, 8, 9, 10] (r := (.v zM (.v zO .e))) (h := ?_)) | (refine zZ.isR (id := 5) ?_; refine zZ.rc [1, 4, 6, 8, 9, 10] [4, 6, 8, 9, 10] (r := (.v zM (.v zO .e))) (h := ?_)) | (refine zZ.isR (id := 6) ?_; refine zZ.rc [1, 4, 6, 8, 9, 10] [4, 6, 8, 9, 10] (r := (.v zM (.v xU (.v zV (.v xU .e))))) (h := ?_)) | (refine zZ.iq 10 ?_; refine zZ.rqb _ K_8 K_9 (zZ.drawAll (by kernel_rfl) ?_); repeat' (first | refine DAll.many (by rfl) ?_ | refine zI.cons ?_ ?_ | exact zI.nil | refine DOne.v rfl rfl rfl (yR rfl rfl rfl (by rfl) (by rfl) rfl (by decide)) ?_ | refine DOne.w rfl rfl (by exact yO rfl rfl rfl rfl rfl (by rfl) (by exact Nat.le_of_ble_eq_true rfl) rfl rfl) ?_ | refine DAll.fin (by rfl) ?_)) | refine zZ.yN rfl bA ?_ | refine zZ.yG rfl bA ?_ | refine zZ.block ?_ | refine zZ.ret ?_))
  all_goals exact ⟨by first | exact .inl rfl | exact .inr rfl, _, Sub.refl _, .tup (rs := [.cell 8 33, .cell 9 55]) (l := [vX t c ws root (r0.set i (d, d.length)) r1, resN 0]) rfl (by decide) (.cons (.cellN rfl rfl (by rfl) (by rfl)) (.cons (.cellN rfl rfl (by rfl) (by rfl)) .nil))⟩
theorem doWord_fn (t c kd a b old me root : Int) (hkd : 0 ≤ kd ∧ kd ≤ 4) (i : Nat) (ws : List Int) (d : PV) (r0 r1 : List (List Int × Int)) (fails : Bool) (hi : ws[i]? = some old) (h1 : ws.length ≤ 1000000) :
    Fn Tryz.prog 13 [vX t c ws root r0 r1, .val (.int .i64 me), accV kd i a b d, .val (.bool fails)] (.tup [vX t c (ws.set i (qB kd old a b).2) root r0 r1, resN (qB kd old a b).1]) := by
  have c0 : Fn Tryz.prog 33 [.val (.int .i64 kd)] (.p (.val (.bool false))) := by
    have e : (decide (5 ≤ kd) && decide (kd ≤ 12)) = false := by rw [decide_eq_false (show ¬5 ≤ kd by omega)]; rfl
    exact e ▸ isDisk_fn kd
  have c1 := words_fn t c kd a b old hkd i ws d hi h1
  have g1 : decide (kd = 13) = false := decide_eq_false (by omega)
  refine yP Tryz.func13 rfl Tryz.ntmps13 (Nat.le_of_ble_eq_true rfl) ?_
  repeat' (first | (refine zY.is ?_; first | refine zY.nil ?_ | (refine zY.at_ 11 rfl ?_; refine zY.rc (.v vZ (.v yJ (.v yJ (.v zM (.w zS (.w zS .e)))))) ?_) | (refine zY.at_ 23 rfl ?_; refine zY.rc (.v zV (.gT (.v wW (.v zB .e)))) ?_) | (refine zY.at_ 27 rfl ?_; refine zY.rc (.v zB .e) ?_) | (refine zY.in_ [22, 30] rfl ?_; refine zY.v rfl rfl (zP (c0) rfl rfl rfl (by decide)) ?_) | (refine zY.in_ [15] rfl ?_; refine zY.v rfl rfl (xY (c1) rfl rfl rfl (by decide)) ?_)) | (refine zZ.is ?_; first | refine zZ.seq ?_ | (refine zZ.isR (id := 0) ?_; refine zZ.rc [0, 1, 2, 3] [4, 6, 8, 9, 10] (r := (.m yT (.m yT (.m zT (.m zT .e))))) (h := ?_)) | (refine zZ.isR (id := 1) ?_; refine zZ.rc [1, 3, 4, 6, 8, 9] [4, 6, 8, 9, 10] (r := (.m zT .e)) (h := ?_)) | (refine zZ.isR (id := 3) ?_; refine zZ.rc [1, 3, 4, 6, 8, 9, 10] [4, 6, 8, 9, 10] (r := (.v zM (.v zO .e))) (h := ?_)) | (refine zZ.isR (id := 5) ?_; refine zZ.rc [1, 4, 6, 8, 9, 10] [4, 6, 8, 9, 10] (r := (.v zM (.v zO .e))) (h := ?_)) | (refine zZ.isR (id := 7) ?_; refine zZ.rc [4, 6, 8, 9, 10] [4, 6, 8, 9, 10] (r := (.v zM (.v zO (.v v41_0 (.v zB .e))))) (h := ?_)) | (refine zZ.isR (id := 2) ?_; refine zZ.rc [4, 6, 8, 9, 10] [4, 6, 8, 9, 10] (r := (.v zM (.v xU (.v xU .e)))) (h := ?_)) | (refine zZ.iq 10 ?_; refine zZ.rqb _ K_8 K_9 (zZ.drawAll (by kernel_rfl) ?_); repeat' (first | refine DAll.many (by rfl) ?_ | refine zI.cons ?_ ?_ | exact zI.nil | refine DOne.v rfl rfl rfl (yR rfl rfl rfl (by rfl) (by rfl) rfl (by decide)) ?_ | refine DOne.w rfl rfl (by exact yO rfl rfl rfl rfl rfl (by rfl) (by exact Nat.le_of_ble_eq_true rfl) rfl rfl) ?_ | refine DAll.fin (by rfl) ?_)) | refine zZ.yG rfl bA ?_ | refine zZ.block ?_ | refine zZ.ret ?_))
  all_goals exact ⟨by first | exact .inl rfl | exact .inr rfl, _, Sub.refl _, .tup (rs := [.cell 8 33, .cell 9 55]) (l := [vX t c (ws.set i (qB kd old a b).2) root r0 r1, resN (qB kd old a b).1]) rfl (by decide) (.cons (.cellN rfl rfl (by rfl) (by rfl)) (.cons (.cellN rfl rfl (by rfl) (by rfl)) .nil))⟩
theorem doOut_fn (t c kd cell a b me root : Int) (hkd : 0 ≤ kd ∧ kd ≤ 4) (ws : List Int) (d : PV) (r0 r1 : List (List Int × Int)) (fails : Bool) (hi : cell < 0 ∨ (ws.length : Int) ≤ cell) :
    Fn Tryz.prog 13 [vX t c ws root r0 r1, .val (.int .i64 me), accV kd cell a b d, .val (.bool fails)] (.tup [vX t c ws root r0 r1, resN 0]) := by
  have c0 : Fn Tryz.prog 33 [.val (.int .i64 kd)] (.p (.val (.bool false))) := by
    have e : (decide (5 ≤ kd) && decide (kd ≤ 12)) = false := by rw [decide_eq_false (show ¬5 ≤ kd by omega)]; rfl
    exact e ▸ isDisk_fn kd
  have c1 := wordsOut_fn t c kd cell a b ws d hi
  have g1 : decide (kd = 13) = false := decide_eq_false (by omega)
  refine yP Tryz.func13 rfl Tryz.ntmps13 (Nat.le_of_ble_eq_true rfl) ?_
  repeat' (first | (refine zY.is ?_; first | refine zY.nil ?_ | (refine zY.at_ 11 rfl ?_; refine zY.rc (.v vZ (.v yJ (.v yJ (.v zM (.w zS (.w zS .e)))))) ?_) | (refine zY.at_ 23 rfl ?_; refine zY.rc (.v zV (.gT (.v wW (.v zB .e)))) ?_) | (refine zY.at_ 27 rfl ?_; refine zY.rc (.v zB .e) ?_) | (refine zY.in_ [22, 30] rfl ?_; refine zY.v rfl rfl (zP (c0) rfl rfl rfl (by decide)) ?_) | (refine zY.in_ [15] rfl ?_; refine zY.v rfl rfl (xY (c1) rfl rfl rfl (by decide)) ?_)) | (refine zZ.is ?_; first | refine zZ.seq ?_ | (refine zZ.isR (id := 0) ?_; refine zZ.rc [0, 1, 2, 3] [4, 6, 8, 9, 10] (r := (.m yT (.m yT (.m zT (.m zT .e))))) (h := ?_)) | (refine zZ.isR (id := 1) ?_; refine zZ.rc [1, 3, 4, 6, 8, 9] [4, 6, 8, 9, 10] (r := (.m zT .e)) (h := ?_)) | (refine zZ.isR (id := 3) ?_; refine zZ.rc [1, 3, 4, 6, 8, 9, 10] [4, 6, 8, 9, 10] (r := (.v zM (.v zO .e))) (h := ?_)) | (refine zZ.isR (id := 5) ?_; refine zZ.rc [1, 4, 6, 8, 9, 10] [4, 6, 8, 9, 10] (r := (.v zM (.v zO .e))) (h := ?_)) | (refine zZ.isR (id := 7) ?_; refine zZ.rc [4, 6, 8, 9, 10] [4, 6, 8, 9, 10] (r := (.v zM (.v zO (.v v41_0 (.v zB .e))))) (h := ?_)) | (refine zZ.isR (id := 2) ?_; refine zZ.rc [4, 6, 8, 9, 10] [4, 6, 8, 9, 10] (r := (.v zM (.v xU (.v xU .e)))) (h := ?_)) | (refine zZ.iq 10 ?_; refine zZ.rqb _ K_8 K_9 (zZ.drawAll (by kernel_rfl) ?_); repeat' (first | refine DAll.many (by rfl) ?_ | refine zI.cons ?_ ?_ | exact zI.nil | refine DOne.v rfl rfl rfl (yR rfl rfl rfl (by rfl) (by rfl) rfl (by decide)) ?_ | refine DOne.w rfl rfl (by exact yO rfl rfl rfl rfl rfl (by rfl) (by exact Nat.le_of_ble_eq_true rfl) rfl rfl) ?_ | refine DAll.fin (by rfl) ?_)) | refine zZ.yG rfl bA ?_ | refine zZ.block ?_ | refine zZ.ret ?_))
  all_goals exact ⟨by first | exact .inl rfl | exact .inr rfl, _, Sub.refl _, .tup (rs := [.cell 8 33, .cell 9 55]) (l := [vX t c ws root r0 r1, resN 0]) rfl (by decide) (.cons (.cellN rfl rfl (by rfl) (by rfl)) (.cons (.cellN rfl rfl (by rfl) (by rfl)) .nil))⟩
end Go.Proofs.YtmfbamiciieooaaGreatDoor
/- Contracts made weaker: nil is an empty slice. Generic over the program. -/
namespace Go.Proofs.YtmfbamiciieooaaGreatDoor
set_option maxRecDepth 100000
set_option maxHeartbeats 16000000
open Go Go.RowKit
/-- y says no more than x -/
inductive PLe0 : PV → PV → Prop
  | refl (x : PV) : PLe0 x x
  | nil : PLe0 (.val (.slice none 0 0)) (.sl [])
inductive PL0s : List PV → List PV → Prop
  | nil : PL0s [] []
  | cons {x y : PV} {xs ys : List PV} (h : PLe0 x y) (hs : PL0s xs ys) : PL0s (x :: xs) (y :: ys)
inductive PLe1 : PV → PV → Prop
  | refl (x : PV) : PLe1 x x
  | nil : PLe1 (.val (.slice none 0 0)) (.sl [])
  | sl {xs ys : List PV} (hl : xs.length = ys.length) (h : PL0s (flat xs) (flat ys)) : PLe1 (.sl xs) (.sl ys)
inductive PLes : List PV → List PV → Prop
  | nil : PLes [] []
  | cons {x y : PV} {xs ys : List PV} (h : PLe1 x y) (hs : PLes xs ys) : PLes (x :: xs) (y :: ys)
inductive PLe : PV → PV → Prop
  | one {x y : PV} (h : PLe1 x y) : PLe x y
  | agg {xs ys : List PV} (h : PLes xs ys) : PLe (.agg xs) (.agg ys)
inductive PLet : List PV → List PV → Prop
  | nil : PLet [] []
  | cons {x y : PV} {xs ys : List PV} (h : PLe x y) (hs : PLet xs ys) : PLet (x :: xs) (y :: ys)
theorem PLe0.rep {x y : PV} (h : PLe0 x y) {M : Nat → Nat → Prop} {w : World} {v : Value} (hr : Rep M w x v) : Rep M w y v := by
  cases h with
  | refl => exact hr
  | nil => cases hr; exact .nil
theorem PL0s.at_ {xs ys : List PV} (h : PL0s xs ys) : xs.length = ys.length ∧ ∀ (i : Nat) y, ys[i]? = some y → ∃ x, xs[i]? = some x ∧ PLe0 x y := by
  induction h with
  | nil => exact ⟨rfl, fun i y h => by simp at h⟩
  | cons h hs ih =>
    refine ⟨by simp [ih.1], fun i y hy => ?_⟩
    cases i with
    | zero => simp at hy; subst hy; exact ⟨_, rfl, h⟩
    | succ i => exact ih.2 i y hy
theorem PLe1.rep {x y : PV} (h : PLe1 x y) {M : Nat → Nat → Prop} {w : World} {v : Value} (hr : Rep M w x v) : Rep M w y v := by
  cases h with
  | refl => exact hr
  | nil => cases hr; exact .nil
  | sl hl h =>
    obtain ⟨hfl, hat⟩ := h.at_
    rcases rep_sl hr with ⟨⟨b, rfl⟩, h0⟩ | ⟨g, off, cap, us, rfl, hl2, hcell, hM, hg, hcap, hm⟩
    · subst h0
      have : _ = [] := List.eq_nil_of_length_eq_zero hl.symm
      subst this
      exact .nil
    · rw [hl] at hcap ⊢
      exact .sl _ g off _ cap us rfl (hl2.len.trans hfl) hcell (fun j c y hc hy => by
        obtain ⟨x, hx, hle⟩ := hat j c hc
        exact hle.rep (hl2.each j x y hx hy)) hl2.one hM hg hcap hm
theorem PLes.at_ {xs ys : List PV} (h : PLes xs ys) : xs.length = ys.length ∧ ∀ (i : Nat) y, ys[i]? = some y → ∃ x, xs[i]? = some x ∧ PLe1 x y := by
  induction h with
  | nil => exact ⟨rfl, fun i y h => by simp at h⟩
  | cons h hs ih =>
    refine ⟨by simp [ih.1], fun i y hy => ?_⟩
    cases i with
    | zero => simp at hy; subst hy; exact ⟨_, rfl, h⟩
    | succ i => exact ih.2 i y hy
theorem PLe.rep {x y : PV} (h : PLe x y) {M : Nat → Nat → Prop} {w : World} {v : Value} (hr : Rep M w x v) : Rep M w y v := by
  cases h with
  | one h => exact h.rep hr
  | agg h =>
    obtain ⟨hl, hat⟩ := h.at_
    cases hr with
    | agg cs vs hl2 h2 h1 => exact .agg _ vs (hl2.trans hl) (fun i c u hc hu => by
        obtain ⟨x, hx, hxy⟩ := hat i c hc
        exact hxy.rep (h2 i x u hx hu)) h1
theorem PLet.at_ {xs ys : List PV} (h : PLet xs ys) : xs.length = ys.length ∧ ∀ (i : Nat) y, ys[i]? = some y → ∃ x, xs[i]? = some x ∧ PLe x y := by
  induction h with
  | nil => exact ⟨rfl, fun i y h => by simp at h⟩
  | cons h hs ih =>
    refine ⟨by simp [ih.1], fun i y hy => ?_⟩
    cases i with
    | zero => simp at hy; subst hy; exact ⟨_, rfl, h⟩
    | succ i => exact ih.2 i y hy
theorem PLe.refl (x : PV) : PLe x x := .one (.refl x)
section
variable {P : Program} {f : FuncId}
theorem Fn.weakT {args l l' : List PV} (h : Fn P f args (.tup l)) (hl : PLet l l') : Fn P f args (.tup l') :=
  fun M w vs a b c d => (h M w vs a b c d).mono fun e w' ⟨v, e1, ⟨us, e2, e3, e4⟩, e5⟩ => ⟨v, e1, ⟨us, e2, e3.trans hl.at_.1, fun i x u hx hu => by
    obtain ⟨y, hy, hle⟩ := hl.at_.2 i x hx
    exact hle.rep (e4 i y u hy hu)⟩, e5⟩
end
end Go.Proofs.YtmfbamiciieooaaGreatDoor
/- Worlds: an access made, as a function of all accesses that programs ask; its contract. -/
namespace Go.Proofs.YtmfbamiciieooaaGreatDoor
set_option maxRecDepth 100000
set_option maxHeartbeats 16000000
open Go Go.RowKit
set_option linter.unusedSimpArgs false
set_option linter.unusedVariables false
attribute [local irreducible] zY zZ Step zX Sub zD zG Fn
structure Wd where
  t : Int
  c : Int
  ws : List Int
  root : Int
  r0 : List (List Int × Int)
  r1 : List (List Int × Int)
def Wd.pv (w : Wd) : PV := vX w.t w.c w.ws w.root w.r0 w.r1
def bytOf : PV → List Int
  | .val (.int _ n) => [n]
  | _ => []
def qF : PV → List Int
  | .sl es => es.flatMap bytOf
  | _ => []
theorem bytsOf_byts (bs : List Int) : qF (.sl (byts bs)) = bs := by
  show (byts bs).flatMap bytOf = bs
  induction bs with
  | nil => rfl
  | cons b r ih => show bytOf _ ++ (byts r).flatMap bytOf = _; rw [ih]; rfl
/-- a stream, behind an access of it -/
def strX (kind : Int) (bs : List Int) (p : List Int × Int) : List Int × Int := bif decide (kind = 5) then (p.1 ++ bs, p.2) else (p.1, (p.1.length : Int))
/-- an access made -/
def doX (W : Wd) (me : Nat) (q : Ned) (fails : Bool) : Wd × xO :=
  bif decide (q.kind = 5) || decide (q.kind = 6) then
    bif fails then (W, ⟨0, xZ, true⟩) else ({ W with r0 := match W.r0[me]? with
      | some p => W.r0.set me (strX q.kind (qF q.d) p)
      | none => W.r0 }, ⟨0, xZ, false⟩)
  else match (bif decide (q.cell < 0) then none else W.ws[q.cell.toNat]?) with
    | some old => ({ W with ws := W.ws.set q.cell.toNat (qB q.kind old q.a q.b).2 }, ⟨(qB q.kind old q.a q.b).1, xZ, false⟩)
    | none => (W, ⟨0, xZ, false⟩)
/-- a world that is right, its streams no longer than so -/
structure WdOK (b : Nat) (W : Wd) : Prop where
  ws : ∀ x ∈ W.ws, U x
  len : W.ws.length ≤ 1000000
  root : W.root = 0
  rows : W.r0.length ≤ 1000000
  str : ∀ p ∈ W.r0, p.1.length ≤ b
theorem WdOK.le {b c : Nat} {W : Wd} (h : WdOK b W) (hc : b ≤ c) : WdOK c W := ⟨h.ws, h.len, h.root, h.rows, fun p hp => Nat.le_trans (h.str p hp) hc⟩
theorem turnR_U {kind old a b : Int} (h : U old) (ha : U a) (hb : U b) : U (qB kind old a b).1 ∧ U (qB kind old a b).2 := by
  have z : U 0 := U.zero
  have z1 : U 1 := by unfold U; decide
  unfold qB
  split
  · exact ⟨h, h⟩
  · split
    · exact ⟨z, ha⟩
    · split
      · split
        · exact ⟨z1, hb⟩
        · exact ⟨z, h⟩
      · split
        · exact ⟨h, by rw [wrapU]; unfold U; omega⟩
        · exact ⟨h, ha⟩
theorem Asked.len {q : Ned} (h : Asked q) : (qF q.d).length ≤ 1000 := by
  rcases h.d with h | ⟨_, bs, _, h1, e⟩
  · rw [h.2]; exact Nat.zero_le _
  · rw [e, bytsOf_byts]; exact h1
theorem doX_ok {b : Nat} {W : Wd} {q : Ned} (h : WdOK b W) (hq : Asked q) (me : Nat) (f : Bool) : WdOK (b + 1000) (doX W me q f).1 ∧ U (doX W me q f).2.n := by
  have h0 := h.le (Nat.le_add_right b 1000)
  have z : U 0 := U.zero
  have hl := hq.len
  unfold doX
  cases decide (q.kind = 5) || decide (q.kind = 6)
  · rw [cond_false]
    cases e : (bif decide (q.cell < 0) then none else W.ws[q.cell.toNat]?) with
    | none => exact ⟨h0, z⟩
    | some old =>
      have ho : U old := by
        cases hd : decide (q.cell < 0) <;> rw [hd] at e
        · exact h.ws _ (List.mem_of_getElem? e)
        · cases e
      obtain ⟨h1, h2⟩ := turnR_U (kind := q.kind) ho hq.a hq.b
      refine ⟨⟨fun x hx => ?_, by simpa using h.len, h.root, h.rows, h0.str⟩, h1⟩
      rcases List.mem_or_eq_of_mem_set hx with hx | rfl
      · exact h.ws x hx
      · exact h2
  · rw [cond_true]
    cases f
    · rw [cond_false]
      cases e : W.r0[me]? with
      | none => exact ⟨h0, z⟩
      | some p =>
        refine ⟨⟨h.ws, h.len, h.root, by simpa using h.rows, fun x hx => ?_⟩, z⟩
        rcases List.mem_or_eq_of_mem_set hx with hx | rfl
        · exact h0.str x hx
        · have hp := h.str p (List.mem_of_getElem? e)
          unfold strX
          cases decide (q.kind = 5)
          · exact Nat.le_trans hp (Nat.le_add_right _ _)
          · show (p.1 ++ qF q.d).length ≤ _
            rw [List.length_append]
            omega
    · exact ⟨h0, z⟩
theorem doX_keeps (W : Wd) (me : Nat) (q : Ned) (f : Bool) : (doX W me q f).1.t = W.t ∧ (doX W me q f).1.c = W.c ∧ (doX W me q f).1.r0.length = W.r0.length ∧ (doX W me q f).1.ws.length = W.ws.length ∧ (doX W me q f).1.r1 = W.r1 := by
  unfold doX
  cases decide (q.kind = 5) || decide (q.kind = 6)
  · rw [cond_false]
    cases (bif decide (q.cell < 0) then none else W.ws[q.cell.toNat]?) with
    | none => exact ⟨rfl, rfl, rfl, rfl, rfl⟩
    | some old => exact ⟨rfl, rfl, rfl, by simp, rfl⟩
  · rw [cond_true]
    cases f
    · rw [cond_false]
      cases W.r0[me]? with
      | none => exact ⟨rfl, rfl, rfl, rfl, rfl⟩
      | some p => exact ⟨rfl, rfl, by simp, rfl, rfl⟩
    · exact ⟨rfl, rfl, rfl, rfl, rfl⟩
theorem resN_le (n : Int) (fl : Bool) : PLe (.agg [.val (.int .u64 n), .val (.slice none 0 0), .val (.bool fl)]) (resV ⟨n, xZ, fl⟩) := .refl _
theorem doX_fn {b : Nat} {W : Wd} {q : Ned} (h : WdOK b W) (hb : b ≤ 90000000) (hq : Asked q) {me : Nat} (hme : me < W.r0.length) (f : Bool) :
    Fn Tryz.prog 13 [W.pv, .val (.int .i64 me), accV q.kind q.cell q.a q.b (.sl (byts (qF q.d))), .val (.bool f)] (.tup [(doX W me q f).1.pv, resV (doX W me q f).2]) := by
  obtain ⟨t, c, ws, root, r0, r1⟩ := W
  obtain ⟨kind, cell, a, b', d, w⟩ := q
  obtain rfl : root = 0 := h.root
  have hd : (0 ≤ kind ∧ kind ≤ 4) ∨ kind = 5 ∨ kind = 6 := by
    rcases hq.d with ⟨h, _⟩ | ⟨h, _⟩
    · rcases h with h | h
      · exact .inl h
      · exact .inr (.inr h)
    · exact .inr (.inl h)
  have hl : (qF d).length ≤ 1000 := hq.len
  rcases hd with hk | hk
  · have e : (decide (kind = 5) || decide (kind = 6)) = false := by rw [decide_eq_false (show ¬kind = 5 by omega), decide_eq_false (show ¬kind = 6 by omega)]; rfl
    unfold doX
    dsimp only
    rw [e, cond_false]
    by_cases hc : cell < 0
    · rw [decide_eq_true hc, cond_true]
      exact (doOut_fn t c kind cell a b' me 0 hk ws (.sl (byts (qF d))) r0 r1 f (.inl hc)).weakT (.cons (.refl _) (.cons (resN_le _ false) .nil))
    · rw [decide_eq_false hc, cond_false]
      cases ho : ws[cell.toNat]? with
      | none =>
        refine (doOut_fn t c kind cell a b' me 0 hk ws (.sl (byts (qF d))) r0 r1 f (.inr ?_)).weakT (.cons (.refl _) (.cons (resN_le _ false) .nil))
        have := List.getElem?_eq_none_iff.1 ho
        omega
      | some old =>
        obtain ⟨i, rfl⟩ : ∃ i : Nat, cell = (i : Int) := ⟨cell.toNat, by omega⟩
        rw [Int.toNat_natCast] at ho ⊢
        exact (doWord_fn t c kind a b' old me 0 hk i ws (.sl (byts (qF d))) r0 r1 f ho h.len).weakT (.cons (.refl _) (.cons (resN_le _ false) .nil))
  · have hme' : me < r0.length := hme
    have hr : r0[me]? = some r0[me] := List.getElem?_eq_getElem hme'
    have hs := h.str r0[me] (List.getElem_mem hme')
    generalize r0[me] = p at hr hs
    obtain ⟨x, s⟩ := p
    have hs : x.length ≤ b := hs
    unfold doX
    dsimp only
    rcases hk with rfl | rfl
    · cases f
      · simp only [hr, decide_true, Bool.true_or, cond_true, cond_false]
        exact (doDisk50_fn t c cell a b' 0 ws r0 r1 me x s (qF d) (by decide) rfl hr h.rows (by omega)).weakT (.cons (.refl _) (.cons (resN_le 0 false) .nil))
      · exact (doFail5_fn t c cell a b' me 0 ws (.sl (byts (qF d))) r0 r1).weakT (.cons (.refl _) (.cons (resN_le 0 true) .nil))
    · cases f
      · simp only [hr, decide_true, Bool.or_true, cond_true, cond_false]
        exact (doDisk60_fn t c cell a b' 0 ws r0 r1 me x s (.sl (byts (qF d))) (by decide) rfl hr h.rows).weakT (.cons (.refl _) (.cons (resN_le 0 false) .nil))
      · exact (doFail6_fn t c cell a b' me 0 ws (.sl (byts (qF d))) r0 r1).weakT (.cons (.refl _) (.cons (resN_le 0 true) .nil))
/-! ### A world's answers -/
def wSt (me : Nat) (fail : Nat → Bool) (s : Wd × Nat) (q : Ned) : Ans (Wd × Nat) := .ret (doX s.1 me q (fail s.2)).2 ((doX s.1 me q (fail s.2)).1, s.2 + 1)
theorem wSt_le {α : Type} {me : Nat} {fail : Nat → Bool} : ∀ {p : Pr α} {s : Wd × Nat} {x : α} {s' : Wd × Nat}, p.run (wSt me fail) s = .done x s' → s.2 ≤ s'.2
  | .ret _, _, _, _, h => by cases h; exact Nat.le_refl _
  | .stuck, _, _, _, h => by cases h
  | .ask q k, s, _, s', h => by
    rw [qP] at h
    have h2 := wSt_le (p := k _) h
    exact Nat.le_trans (Nat.le_succ _) h2
/-- what is left of a program behind a log -/
def Pr.after {α : Type} : Pr α → List xO → Option (Pr α)
  | p, [] => some p
  | .ask _ k, r :: L => (k r).after L
  | _, _ :: _ => none
theorem after_snoc {α : Type} {q : Ned} {k : xO → Pr α} (r : xO) : ∀ {L : List xO} {p : Pr α}, p.after L = some (.ask q k) → p.after (L ++ [r]) = some (k r)
  | [], p, h => by
    have : p = .ask q k := by cases p <;> exact Option.some.inj h
    subst this
    show (k r).after [] = some (k r)
    cases k r <;> rfl
  | x :: L, .ask q' k', h => after_snoc r (L := L) (p := k' x) h
  | x :: L, .ret _, h => by cases h
  | x :: L, .stuck, h => by cases h
theorem after_run {α : Type} {p' : Pr α} : ∀ {L L0 : List xO} {p : Pr α}, p.after L = some p' → p.run (vU (L0 ++ L)) L0.length = p'.run (vU (L0 ++ L)) (L0.length + L.length)
  | [], L0, p, h => by
    have : p = p' := by cases p <;> exact Option.some.inj h
    subst this
    simp
  | x :: L, L0, .ask q k, h => by
    have e : vU (L0 ++ x :: L) L0.length q = .ret x (L0.length + 1) := by unfold vU; simp
    rw [qP, e]
    have := after_run (L := L) (L0 := L0 ++ [x]) (p := k x) h
    simp only [List.append_assoc, List.singleton_append, List.length_append, List.length_cons, List.length_nil, Nat.zero_add] at this ⊢
    rw [this]
    congr 1
    omega
  | x :: L, _, .ret _, h => by cases h
  | x :: L, _, .stuck, h => by cases h
theorem after_need {α : Type} {p : Pr α} {L : List xO} {q : Ned} {k : xO → Pr α} (h : p.after L = some (.ask q k)) : p.run (vU L) 0 = .need q L.length := by
  have := after_run (L0 := []) h
  simp only [List.nil_append, List.length_nil, Nat.zero_add] at this
  rw [this, qP]
  have e : vU L L.length q = .need q L.length := by unfold vU; simp
  rw [e]
theorem after_done {α : Type} {p : Pr α} {L : List xO} {x : α} (h : p.after L = some (.ret x)) : p.run (vU L) 0 = .done x L.length := by
  have := after_run (L0 := []) h
  simp only [List.nil_append, List.length_nil, Nat.zero_add] at this
  rw [this, zC]
end Go.Proofs.YtmfbamiciieooaaGreatDoor
/- Programs that step alone, on words as a function: what they answer, and what the words are behind them. Generic over the program. -/
namespace Go.Proofs.YtmfbamiciieooaaGreatDoor
set_option maxRecDepth 100000
set_option maxHeartbeats 16000000
open Go Go.RowKit
set_option linter.unusedSimpArgs false
set_option linter.unusedVariables false
def okF (_ : Nat) : Bool := false
/-- a world of one thread, its words as a function -/
structure MemW (C : Nat) (W : Wd) (m : Int → Int) : Prop where
  t : W.t = 1
  len : W.ws.length = 9 + 8 * C
  at_ : ∀ c : Nat, c < 9 + 8 * C → W.ws[c]? = some (m c)
  st : 0 < W.r0.length
def updW (m : Int → Int) (c v : Int) : Int → Int := fun x => if x = c then v else m x
theorem updW_at (m : Int → Int) (c v : Int) : updW m c v c = v := by simp [updW]
theorem wJ (m : Int → Int) {c x : Int} (v : Int) (h : x ≠ c) : updW m c v x = m x := by simp [updW, h]
theorem updW_same (m : Int → Int) (c : Int) : updW m c (m c) = m := by
  funext x
  unfold updW
  split
  · next h => rw [h]
  · rfl
/-- a word that there is -/
structure InW (C : Nat) (c : Int) : Prop where
  lo : 0 ≤ c
  hi : c < 9 + 8 * C
section
variable {α β : Type} {C : Nat} {m m1 m2 : Int → Int}
end
end Go.Proofs.YtmfbamiciieooaaGreatDoor
/- The list in a memory: what searches do, alone. Generic over the program. -/
namespace Go.Proofs.YtmfbamiciieooaaGreatDoor
set_option maxRecDepth 100000
set_option maxHeartbeats 16000000
open Go Go.RowKit
set_option linter.unusedSimpArgs false
set_option linter.unusedVariables false
def hd : List (Int × Bool) → Int
  | [] => 0
  | (x, _) :: _ => x
def bI (b : Bool) : Int := bif b then 1 else 0
def nms (l : List (Int × Bool)) : List Int := l.map Prod.fst
/-- a list's records, and whether they are marked, from a record on -/
def Lnk (C : Nat) (m : Int → Int) : Int → Bool → List (Int × Bool) → Prop
  | p, k, [] => m (yZ 1 p) = bI k
  | p, k, (x, b) :: l => m (yZ 1 p) = 2 * x + bI k ∧ (1 ≤ x ∧ x ≤ C) ∧ Lnk C m x b l
/-- what turned: next words of S, flags of T -/
structure Aft (m m' : Int → Int) (S T : List Int) : Prop where
  f : ∀ r f : Int, 1 ≤ r → 1 ≤ f → f ≤ 6 → f ≠ 2 → m' (zQ 1 r f) = m (zQ 1 r f)
  g : ∀ r : Int, 1 ≤ r → m' (zQ 1 r 2) = m (zQ 1 r 2) + (if r ∈ T then 2 else 0)
  e : m' 3 = m 3
  n : ∀ r : Int, 0 ≤ r → r ∉ S → m' (yZ 1 r) = m (yZ 1 r)
theorem bI_lt (b : Bool) : 0 ≤ bI b ∧ bI b ≤ 1 := by cases b <;> decide
theorem refW_of {x : Int} {b : Bool} (h : 0 ≤ x) (h2 : x ≤ 100000) : xQ (2 * x + bI b) = x := by
  have := bI_lt b
  unfold xQ
  omega
theorem odd_of (x : Int) (b : Bool) : decide ((2 * x + bI b) % 2 = 1) = b := by
  cases b
  · exact decide_eq_false (by show ¬ (2 * x + 0) % 2 = 1; omega)
  · exact decide_eq_true (by show (2 * x + 1) % 2 = 1; omega)
/-! ### What a search answers, what it leaves, and what it takes out -/
def srch (key : Int → Int) (k : Int) : Int → List (Int × Bool) → wZ
  | p, [] => ⟨p, 0, false, true⟩
  | p, (x, b) :: l => bif b then srch key k p l else bif decide (k ≤ key x) then ⟨p, x, decide (key x = k), true⟩ else srch key k x l
def srchL (key : Int → Int) (k : Int) : List (Int × Bool) → List (Int × Bool)
  | [] => []
  | (x, b) :: l => bif b then srchL key k l else bif decide (k ≤ key x) then (x, b) :: l else (x, b) :: srchL key k l
theorem srch_ok (key : Int → Int) (k : Int) : ∀ (l : List (Int × Bool)) (p : Int), (srch key k p l).ok = true
  | [], _ => rfl
  | (x, true) :: l, p => srch_ok key k l p
  | (x, false) :: l, p => by
    show (bif decide (k ≤ key x) then (⟨p, x, decide (key x = k), true⟩ : wZ) else srch key k x l).ok = true
    cases decide (k ≤ key x)
    · exact srch_ok key k l x
    · rfl
end Go.Proofs.YtmfbamiciieooaaGreatDoor
/- The list in a memory: what seeks and sweeps do, alone. Generic over the program. -/
namespace Go.Proofs.YtmfbamiciieooaaGreatDoor
set_option maxRecDepth 100000
set_option maxHeartbeats 16000000
open Go Go.RowKit
set_option linter.unusedSimpArgs false
set_option linter.unusedVariables false
/-! ### A seek from the beginning -/
def sekN (key : Int → Int) (k : Int) : List (Int × Bool) → Int × Bool
  | [] => (0, false)
  | (x, _) :: l => bif decide (k ≤ key x) then (x, decide (key x = k)) else sekN key k l
/-! ### A sweep: what stays, and what is taken out -/
/-- is a record, that isn't marked, to go? -/
def gone (m : Int → Int) (s x : Int) : Bool := !decide (m (zQ 1 x 1) % 2147483648 = 0) && (decide (m (zQ 1 x 4) = s) || decide (m (zQ 1 x 5) = s))
end Go.Proofs.YtmfbamiciieooaaGreatDoor
/- The law ListSeeks, in plain terms: the records that are laid, and what seeks and searches of them answer. Generic over the program. -/
namespace Go.Proofs.YtmfbamiciieooaaGreatDoor
set_option maxRecDepth 100000
set_option maxHeartbeats 16000000
open Go Go.RowKit
set_option linter.unusedSimpArgs false
set_option linter.unusedVariables false
/-! ### A record more -/
def qN : Int → List (Int × Bool) → Int
  | p, [] => p
  | _, (x, _) :: l => qN x l
theorem lastN_in : ∀ (l : List (Int × Bool)) (p : Int), qN p l = p ∨ qN p l ∈ nms l
  | [], p => .inl rfl
  | (x, b) :: l, p => by
    rcases lastN_in l x with h | h
    · exact .inr (by show qN x l ∈ x :: nms l; rw [h]; exact List.mem_cons_self ..)
    · exact .inr (List.mem_cons_of_mem _ h)
theorem srch_sekN (key : Int → Int) (k : Int) : ∀ (l : List (Int × Bool)) (p : Int), (∀ y ∈ l, y.2 = false) → (srch key k p l).x = (sekN key k l).1 ∧ (srch key k p l).is = (sekN key k l).2
  | [], p, h => ⟨rfl, rfl⟩
  | (y, c) :: l, p, h => by
    have hc : c = false := h (y, c) (List.mem_cons_self ..)
    subst hc
    show (bif decide (k ≤ key y) then (⟨p, y, decide (key y = k), true⟩ : wZ) else srch key k y l).x = (bif decide (k ≤ key y) then (y, decide (key y = k)) else sekN key k l).1 ∧ (bif decide (k ≤ key y) then (⟨p, y, decide (key y = k), true⟩ : wZ) else srch key k y l).is = (bif decide (k ≤ key y) then (y, decide (key y = k)) else sekN key k l).2
    cases decide (k ≤ key y) with
    | true => exact ⟨rfl, rfl⟩
    | false => exact srch_sekN key k l y fun z hz => h z (List.mem_cons_of_mem _ hz)
/-! ### The records that are laid -/
structure SkS where
  m : Int → Int
  key : Int
  want : Int
  any : Bool
def skL : Nat → List Bool → List (Int × Bool)
  | _, [] => []
  | i, b :: bs => ((i : Int) + 1, b) :: skL (i + 1) bs
/-- what holds behind so many rounds -/
structure SkOK (k : Int) (bs : List Bool) (s : SkS) : Prop where
  len : bs.length ≤ 10
  l : Lnk 10 s.m 0 false (skL 0 bs)
  n : ∀ r : Int, (bs.length : Int) < r → s.m (yZ 1 r) = 0
  f : ∀ r : Int, 1 ≤ r → r ≤ bs.length → s.m (zQ 1 r 2) = 4 * r
  e : s.m 3 = 0
  k0 : 0 ≤ s.key
  k1 : s.key ≤ 256 * bs.length
  w : s.want = (sekN (fun r => s.m (zQ 1 r 1)) k (skL 0 bs)).1
  a : s.any = bs.any id
  u : ∀ c : Int, 0 ≤ c → U (s.m c)
structure SkF (i : Nat) (key : Int) (b : Bool) (m m' : Int → Int) : Prop where
  n : ∀ r : Int, 0 ≤ r → r ≠ i → r ≠ (i : Int) + 1 → m' (yZ 1 r) = m (yZ 1 r)
  n0 : m' (yZ 1 i) = m (yZ 1 i) + 2 * ((i : Int) + 1)
  n1 : m (yZ 1 ((i : Int) + 1)) = 0 → m' (yZ 1 ((i : Int) + 1)) = bI b
  k : ∀ r : Int, 1 ≤ r → r ≠ (i : Int) + 1 → m' (zQ 1 r 1) = m (zQ 1 r 1)
  k1 : m' (zQ 1 ((i : Int) + 1) 1) = key
  f : ∀ r : Int, 1 ≤ r → r ≠ (i : Int) + 1 → m' (zQ 1 r 2) = m (zQ 1 r 2)
  f1 : m' (zQ 1 ((i : Int) + 1) 2) = 4 * ((i : Int) + 1)
  e : m' 3 = m 3
end Go.Proofs.YtmfbamiciieooaaGreatDoor
/- The list in a memory: what links, and marks, do behind a search, alone. Generic over the program. -/
namespace Go.Proofs.YtmfbamiciieooaaGreatDoor
set_option maxRecDepth 100000
set_option maxHeartbeats 16000000
open Go Go.RowKit
set_option linter.unusedSimpArgs false
set_option linter.unusedVariables false
theorem y8 (l k : List (Int × Bool)) : nms (l ++ k) = nms l ++ nms k := List.map_append
/-- what a search leaves is cut where it stopped -/
structure Cut (l : List (Int × Bool)) (p x : Int) (l1 l2 : List (Int × Bool)) : Prop where
  e : l = l1 ++ l2
  u : ∀ y ∈ l1, y.2 = false
  x : x = hd l2
end Go.Proofs.YtmfbamiciieooaaGreatDoor
/- A list in a memory, kept by searches, seeks, links, marks and sweeps, alone. Generic over the program. -/
namespace Go.Proofs.YtmfbamiciieooaaGreatDoor
set_option maxRecDepth 100000
set_option maxHeartbeats 16000000
open Go Go.RowKit
set_option linter.unusedSimpArgs false
set_option linter.unusedVariables false
/-- a list in a memory; the records of S were never in it -/
structure LsI (C : Nat) (m : Int → Int) (l : List (Int × Bool)) (S : Int → Prop) : Prop where
  lk : Lnk C m 0 false l
  nd : (0 :: nms l).Nodup
  fl : ∀ x ∈ nms l, qJ (m (zQ 1 x 2)) 2 = false
  e : 0 ≤ m 3
  off : ∀ r : Int, 1 ≤ r → S r → r ∉ nms l ∧ qJ (m (zQ 1 r 2)) 2 = false
section
variable {C : Nat} {m m' : Int → Int} {l l' : List (Int × Bool)} {S : Int → Prop}
theorem nd_ins {r : Int} : ∀ {l1 l2 : List (Int × Bool)}, (nms (l1 ++ l2)).Nodup → r ∉ nms (l1 ++ l2) → (nms (l1 ++ (r, false) :: l2)).Nodup
  | [], l2, h, hr => List.nodup_cons.2 ⟨hr, h⟩
  | (y, b) :: l1, l2, h, hr => by
    have h : (y :: nms (l1 ++ l2)).Nodup := h
    have hr : r ∉ y :: nms (l1 ++ l2) := hr
    obtain ⟨h1, h2⟩ := List.nodup_cons.1 h
    show (y :: nms (l1 ++ (r, false) :: l2)).Nodup
    refine List.nodup_cons.2 ⟨fun hy => ?_, nd_ins h2 fun e => hr (List.mem_cons_of_mem _ e)⟩
    rw [y8] at hy h1
    rcases List.mem_append.1 hy with hy | hy
    · exact h1 (List.mem_append_left _ hy)
    · rcases List.mem_cons.1 (show y ∈ r :: nms l2 from hy) with e | hy
      · exact hr (e ▸ List.mem_cons_self ..)
      · exact h1 (List.mem_append_right _ hy)
theorem mem_ins {r x : Int} {b : Bool} {l1 l2 : List (Int × Bool)} : x ∈ nms (l1 ++ (r, b) :: l2) ↔ x = r ∨ x ∈ nms (l1 ++ l2) := by
  rw [y8, y8]
  show x ∈ nms l1 ++ r :: nms l2 ↔ _
  simp only [List.mem_append, List.mem_cons]
  constructor
  · rintro (h | h | h)
    · exact .inr (.inl h)
    · exact .inl h
    · exact .inr (.inr h)
  · rintro (h | h | h)
    · exact .inr (.inl h)
    · exact .inl h
    · exact .inr (.inr h)
end
end Go.Proofs.YtmfbamiciieooaaGreatDoor
/- The law ListAlone, in plain terms: the list is the keys that are in. Generic over the program. -/
namespace Go.Proofs.YtmfbamiciieooaaGreatDoor
set_option maxRecDepth 100000
set_option maxHeartbeats 16000000
open Go Go.RowKit
set_option linter.unusedSimpArgs false
set_option linter.unusedVariables false
/-- ahead of what is sought -/
theorem srch_low (key : Int → Int) (q : Int) : ∀ {l1 : List (Int × Bool)} {p : Int} (l2 : List (Int × Bool)), (∀ y ∈ l1, y.2 = false ∧ key y.1 < q) → srch key q p (l1 ++ l2) = srch key q (qN p l1) l2 ∧ srchL key q (l1 ++ l2) = l1 ++ srchL key q l2
  | [], p, l2, _ => ⟨rfl, rfl⟩
  | (y, b) :: l1, p, l2, h => by
    obtain ⟨hb, hk⟩ := h (y, b) (List.mem_cons_self ..)
    have hb : b = false := hb
    subst hb
    have hd : decide (q ≤ key y) = false := decide_eq_false (by show ¬ q ≤ key y; have : key y < q := hk; omega)
    obtain ⟨a, c⟩ := srch_low key q (l1 := l1) (p := y) l2 fun z hz => h z (List.mem_cons_of_mem _ hz)
    refine ⟨?_, ?_⟩
    · show (bif decide (q ≤ key y) then _ else srch key q y (l1 ++ l2)) = _
      rw [hd]; exact a
    · show (bif decide (q ≤ key y) then _ else (y, false) :: srchL key q (l1 ++ l2)) = _
      rw [hd, cond_false, c]; rfl
section
variable {key : Int → Int} {a b : List Int} {v : Int}
end
end Go.Proofs.YtmfbamiciieooaaGreatDoor
/- Programs that step alone in a world of two threads, whose streams are synced: what they answer, and what words and streams are behind them. Generic over the program. -/
namespace Go.Proofs.YtmfbamiciieooaaGreatDoor
set_option maxRecDepth 100000
set_option maxHeartbeats 16000000
open Go Go.RowKit
set_option linter.unusedSimpArgs false
set_option linter.unusedVariables false
/-- words, and streams -/
structure Mm where
  m : Int → Int
  d : Nat → List Int
def Mm.up (M : Mm) (c v : Int) : Mm := ⟨updW M.m c v, M.d⟩
def Mm.ap (M : Mm) (i : Nat) (b : List Int) : Mm := ⟨M.m, fun j => if j = i then M.d j ++ b else M.d j⟩
structure MmW (C : Nat) (W : Wd) (M : Mm) : Prop where
  t : W.t = 2
  c : W.c = C
  root : W.root = 0
  len : W.ws.length = 10 + 8 * C
  at_ : ∀ c : Nat, c < 10 + 8 * C → W.ws[c]? = some (M.m c)
  st : W.r0.length = 2
  d : ∀ i : Nat, i < 2 → W.r0[i]? = some (M.d i, ((M.d i).length : Int))
  r1 : W.r1 = [([], 0), ([], 0)]
structure InV (C : Nat) (c : Int) : Prop where
  lo : 0 ≤ c
  hi : c < 10 + 8 * C
theorem Mm.up_self (M : Mm) (c : Int) : M.up c (M.m c) = M := by
  unfold Mm.up
  rw [updW_same]
theorem Mm.up_at (M : Mm) (c v : Int) : (M.up c v).m c = v := updW_at _ _ _
theorem Mm.yC (M : Mm) {c x : Int} (v : Int) (h : x ≠ c) : (M.up c v).m x = M.m x := wJ _ _ h
theorem MmW.set {C : Nat} {W : Wd} {M : Mm} (h : MmW C W M) {c : Int} (hc : InV C c) (v : Int) : MmW C { W with ws := W.ws.set c.toNat v } (M.up c v) := by
  obtain ⟨n, rfl⟩ := Int.eq_ofNat_of_zero_le hc.lo
  have hn := hc.hi
  refine ⟨h.t, h.c, h.root, by show (W.ws.set _ v).length = _; rw [List.length_set]; exact h.len, fun k hk => ?_, h.st, h.d, h.r1⟩
  show (W.ws.set n v)[k]? = _
  rw [List.getElem?_set]
  by_cases e : n = k
  · subst e
    rw [if_pos rfl, if_pos (by rw [h.len]; omega), Mm.up_at]
  · rw [if_neg e, Mm.yC _ _ (by omega)]
    exact h.at_ k hk
/-- alone, a thread's program ends, within so many steps, so, and words and streams are those then -/
def RnV {α : Type} (C me : Nat) (p : Pr α) (M : Mm) (x : α) (M' : Mm) (n : Nat) : Prop := ∀ W i, MmW C W M → ∃ W' j, p.run (wSt me okF) (W, i) = .done x (W', j) ∧ MmW C W' M' ∧ j ≤ i + n
section
variable {α β : Type} {C me : Nat} {M M1 M2 : Mm}
theorem RnV.ret (x : α) : RnV C me (.ret x) M x M 0 := fun W i h => ⟨W, i, rfl, h, Nat.le_refl _⟩
theorem RnV.le {p : Pr α} {x : α} {a b : Nat} (h : RnV C me p M x M1 a) (hab : a ≤ b) : RnV C me p M x M1 b := fun W i hm => by
  obtain ⟨W', j, h1, h2, h3⟩ := h W i hm
  exact ⟨W', j, h1, h2, by omega⟩
theorem RnV.bind {p : Pr α} {f : α → Pr β} {x : α} {y : β} {a b : Nat} (h : RnV C me p M x M1 a) (h2 : RnV C me (f x) M1 y M2 b) : RnV C me (p.bind f) M y M2 (a + b) := fun W i hm => by
  obtain ⟨W', j, e1, hm1, l1⟩ := h W i hm
  obtain ⟨W'', j', e2, hm2, l2⟩ := h2 W' j hm1
  exact ⟨W'', j', by rw [run_bind, e1, Held.zW, e2], hm2, by omega⟩
/-- an access of a word -/
theorem doX_wordV {W : Wd} (hm : MmW C W M) {k c a b : Int} (hk : 0 ≤ k ∧ k ≤ 4) (hc : InV C c) : doX W me (wS k c a b xZ) false = ({ W with ws := W.ws.set c.toNat (qB k (M.m c) a b).2 }, ⟨(qB k (M.m c) a b).1, xZ, false⟩) := by
  obtain ⟨n, rfl⟩ := Int.eq_ofNat_of_zero_le hc.lo
  have hn := hc.hi
  have h5 : (decide (k = 5) || decide (k = 6)) = false := by
    rw [Bool.or_eq_false_iff, decide_eq_false_iff_not, decide_eq_false_iff_not]
    omega
  have h0 : decide ((n : Int) < 0) = false := decide_eq_false (by omega)
  have e := hm.at_ n (by omega)
  show (bif (decide (k = 5) || decide (k = 6)) then _ else _) = _
  rw [h5, cond_false]
  show (match (bif decide ((n : Int) < 0) then none else W.ws[((n : Nat) : Int).toNat]?) with | some old => _ | none => _) = _
  rw [h0, cond_false, Int.toNat_natCast, e]
  rfl
theorem RnV.askW {k c a b : Int} (hk : 0 ≤ k ∧ k ≤ 4) (hc : InV C c) {f : xO → Pr α} {x : α} {n : Nat} (h : RnV C me (f ⟨(qB k (M.m c) a b).1, xZ, false⟩) (M.up c (qB k (M.m c) a b).2) x M1 n) : RnV C me (.ask (wS k c a b xZ) f) M x M1 (n + 1) := fun W i hm => by
  obtain ⟨W', j, e1, h1, l1⟩ := h _ (i + 1) (hm.set hc _)
  refine ⟨W', j, ?_, h1, by omega⟩
  rw [qP]
  show (f (doX W me (wS k c a b xZ) false).2).run (wSt me okF) ((doX W me (wS k c a b xZ) false).1, i + 1) = _
  rw [doX_wordV hm hk hc]
  exact e1
theorem RnV.load {c : Int} (hc : InV C c) : RnV C me (xD c) M (M.m c) M 1 := by
  refine RnV.askW (k := 0) (a := 0) (b := 0) (f := fun r => .ret r.n) (n := 0) (by decide) hc ?_
  show RnV C me (.ret (M.m c)) (M.up c (M.m c)) _ _ _
  rw [Mm.up_self]
  exact RnV.ret _
theorem RnV.store {c v : Int} (hc : InV C c) : RnV C me (vT c v) M () (M.up c v) 1 := .askW (by decide) hc (RnV.ret _)
theorem RnV.cas {c a b : Int} (hc : InV C c) (h : M.m c = a) : RnV C me (casP c a b) M true (M.up c b) 1 := .askW (by decide) hc (by
  have e : qB 2 (M.m c) a b = (1, b) := by unfold qB; rw [h]; simp
  rw [e]
  exact RnV.ret _)
theorem RnV.swap {c v : Int} (hc : InV C c) : RnV C me (swapP c v) M (M.m c) (M.up c v) 1 := .askW (by decide) hc (RnV.ret _)
theorem RnV.add {c v : Int} (hc : InV C c) : RnV C me (addP c v) M (M.m c) (M.up c (IntKind.u64.wrap (M.m c + v))) 1 := .askW (by decide) hc (RnV.ret _)
theorem RnV.loop {ι : Type} {body : ι → Pr (ι ⊕ α)} {f : Nat} {s : ι} {r : ι ⊕ α} {x : α} {a b : Nat} (h : RnV C me (body s) M r M1 a) (h2 : RnV C me (Sum.elim (Pr.loop body f) .ret r) M1 x M2 b) : RnV C me (Pr.loop body (f + 1) s) M x M2 (a + b) := by
  rw [vY]
  exact h.bind h2
/-- a stream grows, and is synced -/
theorem RnV.disk (hme : me < 2) (bs : List Int) : RnV C me (diskP [wS 5 0 0 0 (.sl (byts bs)), wS 6 0 0 0 xZ]) M true (M.ap me bs) 2 := fun W i hm => by
  have h0 := hm.d me hme
  have hl := hm.st
  obtain ⟨t, c, ws, root, r0, r1⟩ := W
  have h0 : r0[me]? = some (M.d me, ((M.d me).length : Int)) := h0
  have hl : r0.length = 2 := hl
  have e1 : doX ⟨t, c, ws, root, r0, r1⟩ me (wS 5 0 0 0 (.sl (byts bs))) false = (⟨t, c, ws, root, r0.set me (M.d me ++ bs, ((M.d me).length : Int)), r1⟩, ⟨0, xZ, false⟩) := by
    show ((⟨t, c, ws, root, match r0[me]? with | some p => r0.set me (strX 5 (qF (.sl (byts bs))) p) | none => r0, r1⟩ : Wd), (⟨0, xZ, false⟩ : xO)) = _
    rw [h0, bytsOf_byts]
    rfl
  have h2 : (r0.set me (M.d me ++ bs, ((M.d me).length : Int)))[me]? = some (M.d me ++ bs, ((M.d me).length : Int)) := by rw [List.getElem?_set, if_pos rfl, if_pos (by omega)]
  have e2 : doX ⟨t, c, ws, root, r0.set me (M.d me ++ bs, ((M.d me).length : Int)), r1⟩ me (wS 6 0 0 0 xZ) false = (⟨t, c, ws, root, (r0.set me (M.d me ++ bs, ((M.d me).length : Int))).set me (M.d me ++ bs, ((M.d me ++ bs).length : Int)), r1⟩, ⟨0, xZ, false⟩) := by
    show ((⟨t, c, ws, root, match (r0.set me (M.d me ++ bs, ((M.d me).length : Int)))[me]? with | some p => (r0.set me (M.d me ++ bs, ((M.d me).length : Int))).set me (strX 6 (qF xZ) p) | none => r0.set me (M.d me ++ bs, ((M.d me).length : Int)), r1⟩ : Wd), (⟨0, xZ, false⟩ : xO)) = _
    rw [h2]
    rfl
  refine ⟨⟨t, c, ws, root, (r0.set me (M.d me ++ bs, ((M.d me).length : Int))).set me (M.d me ++ bs, ((M.d me ++ bs).length : Int)), r1⟩, i + 1 + 1, ?_, ⟨hm.t, hm.c, hm.root, hm.len, hm.at_, by simpa using hl, fun k hk => ?_, hm.r1⟩, Nat.le_refl _⟩
  · unfold diskP
    rw [qP]
    show (bif (doX ⟨t, c, ws, root, r0, r1⟩ me (wS 5 0 0 0 (.sl (byts bs))) false).2.fail then .ret false else diskP [wS 6 0 0 0 xZ]).run (wSt me okF) ((doX ⟨t, c, ws, root, r0, r1⟩ me (wS 5 0 0 0 (.sl (byts bs))) false).1, i + 1) = _
    rw [e1]
    show (diskP [wS 6 0 0 0 xZ]).run (wSt me okF) (⟨t, c, ws, root, r0.set me (M.d me ++ bs, ((M.d me).length : Int)), r1⟩, i + 1) = _
    unfold diskP
    rw [qP]
    show (bif (doX ⟨t, c, ws, root, r0.set me (M.d me ++ bs, ((M.d me).length : Int)), r1⟩ me (wS 6 0 0 0 xZ) false).2.fail then .ret false else diskP []).run (wSt me okF) ((doX ⟨t, c, ws, root, r0.set me (M.d me ++ bs, ((M.d me).length : Int)), r1⟩ me (wS 6 0 0 0 xZ) false).1, i + 1 + 1) = _
    rw [e2]
    rfl
  · show ((r0.set me _).set me _)[k]? = _
    by_cases e : k = me
    · subst e
      rw [List.getElem?_set, if_pos rfl, if_pos (by rw [List.length_set]; omega)]
      show _ = some ((if k = k then M.d k ++ bs else M.d k), (((if k = k then M.d k ++ bs else M.d k) : List Int).length : Int))
      rw [if_pos rfl]
    · rw [List.getElem?_set, if_neg (fun h => e h.symm), List.getElem?_set, if_neg (fun h => e h.symm)]
      show _ = some ((if k = me then M.d k ++ bs else M.d k), (((if k = me then M.d k ++ bs else M.d k) : List Int).length : Int))
      rw [if_neg e]
      exact hm.d k hk
/-- a bit is set -/
theorem RnV.setP {over : Int → Bool} {c b : Int} (hc : InV C c) (h : over (M.m c) = false) : RnV C me (setP over c b) M () (M.up c (M.m c + b)) 2 := by
  have h1 : RnV C me (wO over c b ()) M (.inr ()) (M.up c (M.m c + b)) (1 + 1) := by
    unfold wO
    refine (RnV.load hc).bind ?_
    rw [h, cond_false]
    exact (RnV.cas hc rfl).bind (b := 0) (RnV.ret _)
  exact RnV.loop (b := 0) h1 (RnV.ret _)
theorem fv (r f : Int) : zQ 2 r f = 8 * r + 2 + f := by unfold zQ; omega
theorem inV {x f : Int} (h : 1 ≤ x ∧ x ≤ C) (hf : 0 ≤ f ∧ f ≤ 7) : InV C (zQ 2 x f) := ⟨by rw [fv]; omega, by rw [fv]; omega⟩
theorem RnV.wr (hme : me < 2) {x b k s y u v w : Int} (hc : InV C (zQ 2 x 2)) (h : over2 s b (M.m (zQ 2 x 2)) = false) : RnV C me (wrP 2 x b k s y u v w) M true ((M.ap me (vS k s y u v w)).up (zQ 2 x 2) (M.m (zQ 2 x 2) + b)) 4 := by
  unfold wrP wrAcc
  refine RnV.bind (a := 2) (b := 2) (RnV.disk hme _) ?_
  rw [cond_true]
  exact RnV.bind (b := 0) (RnV.setP (M := M.ap me (vS k s y u v w)) hc h) (RnV.ret _)
/-- a birth is made durable -/
theorem RnV.save1 (hme : me < 2) {x : Int} (hx : 1 ≤ x ∧ x ≤ C) (h : qJ (M.m (zQ 2 x 2)) 1 = false) : RnV C me (saveP 2 x 1) M true ((M.ap me (vS 1 (M.m (zQ 2 x 2) / 4) (M.m (zQ 2 x 1)) (M.m (zQ 2 x 4)) (M.m (zQ 2 x 5)) (M.m (zQ 2 x 6)))).up (zQ 2 x 2) (M.m (zQ 2 x 2) + 1)) 9 := by
  unfold saveP
  refine ((RnV.load (inV hx (by decide))).bind (b := 8) ?_).le (by decide)
  unfold restP
  rw [h, cond_false, show decide ((1 : Int) = 1) = true from rfl, cond_true]
  refine (RnV.load (inV hx (by decide))).bind (b := 7) ?_
  refine (RnV.load (inV hx (by decide))).bind (b := 6) ?_
  refine (RnV.load (inV hx (by decide))).bind (b := 5) ?_
  refine (RnV.load (inV hx (by decide))).bind (b := 4) ?_
  refine RnV.wr hme (inV hx (by decide)) ?_
  unfold over2
  rw [h, decide_eq_true rfl]
  rfl
/-- a death -/
theorem RnV.save2 (hme : me < 2) {x : Int} (hx : 1 ≤ x ∧ x ≤ C) (h : qJ (M.m (zQ 2 x 2)) 2 = false) : RnV C me (saveP 2 x 2) M true ((M.ap me (vS 2 (M.m (zQ 2 x 2) / 4) 0 0 0 0)).up (zQ 2 x 2) (M.m (zQ 2 x 2) + 2)) 5 := by
  unfold saveP
  refine ((RnV.load (inV hx (by decide))).bind (b := 4) ?_).le (by decide)
  unfold restP
  rw [h, cond_false, show decide ((2 : Int) = 1) = false from rfl, cond_false]
  refine RnV.wr hme (inV hx (by decide)) ?_
  unfold over2
  rw [h, decide_eq_true rfl]
  rfl
theorem RnV.saved {x b : Int} (hx : 1 ≤ x ∧ x ≤ C) (h : qJ (M.m (zQ 2 x 2)) b = true) : RnV C me (saveP 2 x b) M true M 1 := by
  unfold saveP
  refine ((RnV.load (inV hx (by decide))).bind (b := 0) ?_).le (by decide)
  unfold restP
  rw [h, cond_true]
  exact RnV.ret _
/-- a record is given back -/
theorem RnV.retire {x : Int} (hx : 1 ≤ x ∧ x ≤ C) (h0 : 0 ≤ M.m 3) : RnV C me (retireP 2 x) M () ((M.up (zQ 2 x 7) (M.m (yB (M.m 3)))).up (yB (M.m 3)) x) 4 := by
  unfold retireP
  have hl : InV C (yB (M.m 3)) := ⟨by unfold yB; omega, by unfold yB; omega⟩
  have hne : yB (M.m 3) ≠ zQ 2 x 7 := by rw [fv]; unfold yB; omega
  refine ((RnV.load ⟨by decide, by omega⟩).bind (b := 3) ?_).le (by decide)
  unfold retLoop
  refine RnV.loop (a := 3) (b := 0) (r := .inr ()) ?_ (RnV.ret _)
  unfold retRound
  refine ((RnV.load hl).bind (b := 2) ?_).le (by decide)
  refine (RnV.store (inV hx (by decide))).bind (b := 1) ?_
  exact (RnV.cas hl (Mm.yC _ _ hne)).bind (b := 0) (RnV.ret _)
end
end Go.Proofs.YtmfbamiciieooaaGreatDoor
/- The list in a memory of two threads. Generic over the program; written by gen_lnkv.py. -/
namespace Go.Proofs.YtmfbamiciieooaaGreatDoor
set_option maxRecDepth 100000
set_option maxHeartbeats 16000000
open Go Go.RowKit
set_option linter.unusedSimpArgs false
set_option linter.unusedVariables false
def xE (C : Nat) (m : Int → Int) : Int → Bool → List (Int × Bool) → Prop
  | p, k, [] => m (yZ 2 p) = bI k
  | p, k, (x, b) :: l => m (yZ 2 p) = 2 * x + bI k ∧ (1 ≤ x ∧ x ≤ C) ∧ xE C m x b l
theorem xE.keep {C : Nat} {m m' : Int → Int} : ∀ {l : List (Int × Bool)} {p : Int} {k : Bool}, xE C m p k l → (∀ r, r = p ∨ r ∈ nms l → m' (yZ 2 r) = m (yZ 2 r)) → xE C m' p k l
  | [], p, k, h, hn => (hn p (.inl rfl)).trans h
  | (x, b) :: l, p, k, h, hn => ⟨(hn p (.inl rfl)).trans h.1, h.2.1, xE.keep h.2.2 fun r hr => hn r (.inr (by
      rcases hr with rfl | hr
      · exact List.mem_cons_self ..
      · exact List.mem_cons_of_mem _ hr))⟩
theorem xE.word {C : Nat} {m : Int → Int} {l : List (Int × Bool)} {p : Int} {k : Bool} (h : xE C m p k l) : m (yZ 2 p) = 2 * hd l + bI k := by
  cases l with
  | nil => have h : m (yZ 2 p) = bI k := h; rw [h]; simp [hd]
  | cons a l => exact h.1
theorem xE.hd_le {C : Nat} {m : Int → Int} {l : List (Int × Bool)} {p : Int} {k : Bool} (h : xE C m p k l) : 0 ≤ hd l ∧ hd l ≤ C := by
  cases l with
  | nil => simp [hd]
  | cons a l => have := h.2.1; exact ⟨by show (0 : Int) ≤ a.1; omega, this.2⟩
theorem xE.pos {C : Nat} {m : Int → Int} : ∀ {l : List (Int × Bool)} {p : Int} {k : Bool}, xE C m p k l → ∀ y ∈ nms l, 1 ≤ y
  | [], _, _, _, y, hy => absurd hy (by simp [nms])
  | (x, b) :: l, p, k, h, y, hy => by
    rcases List.mem_cons.1 hy with rfl | hy
    · exact h.2.1.1
    · exact xE.pos h.2.2 y hy
theorem nx_posV {x : Int} (h : 1 ≤ x) : yZ 2 x = zQ 2 x 0 := nextF_pos 2 (decide_eq_false (by omega))
theorem nx_eqV (r : Int) : yZ 2 r = if r = 0 then 0 else 8 * r + 2 := by
  unfold yZ zQ
  by_cases h : r = 0
  · subst h; rfl
  · rw [decide_eq_false h, if_neg h, cond_false]; omega
theorem nx_injV {r s : Int} (hr : 0 ≤ r) (hs : 0 ≤ s) (h : yZ 2 r = yZ 2 s) : r = s := by
  rw [nx_eqV, nx_eqV] at h
  split at h <;> split at h <;> omega
theorem xE.bnd {C : Nat} {m : Int → Int} : ∀ {l : List (Int × Bool)} {p : Int} {k : Bool}, xE C m p k l → ∀ y ∈ nms l, 1 ≤ y ∧ y ≤ C
  | [], _, _, _, y, hy => absurd hy (by simp [nms])
  | (x, b) :: l, p, k, h, y, hy => by
    rcases List.mem_cons.1 hy with rfl | hy
    · exact h.2.1
    · exact xE.bnd h.2.2 y hy
theorem xE.cutw {C : Nat} {m : Int → Int} : ∀ {l1 l2 : List (Int × Bool)} {p : Int}, xE C m p false (l1 ++ l2) → (∀ y ∈ l1, y.2 = false) → m (yZ 2 (qN p l1)) = 2 * hd l2
  | [], l2, p, h, _ => by
    have := xE.word h
    show m (yZ 2 p) = _
    rw [this]
    show 2 * hd ([] ++ l2) + 0 = _
    simp
  | (y, b) :: l1, l2, p, h, hu => by
    have hb : b = false := hu (y, b) (List.mem_cons_self ..)
    subst hb
    exact xE.cutw (l1 := l1) h.2.2 fun z hz => hu z (List.mem_cons_of_mem _ hz)
def lnkMV (m : Int → Int) (p x r : Int) : Int → Int := updW (updW m (yZ 2 r) (2 * x)) (yZ 2 p) (2 * r)
theorem lnkV_out {m : Int → Int} {p x r q : Int} (hp : 0 ≤ p) (hr : 0 ≤ r) (hq : 0 ≤ q) (h1 : q ≠ p) (h2 : q ≠ r) : lnkMV m p x r (yZ 2 q) = m (yZ 2 q) := by
  unfold lnkMV
  rw [wJ _ _ (fun h => h1 (nx_injV hq hp h)), wJ _ _ (fun h => h2 (nx_injV hq hr h))]
theorem xE.ins {C : Nat} {m : Int → Int} {r : Int} (hr : 1 ≤ r ∧ r ≤ C) : ∀ {l1 l2 : List (Int × Bool)} {p : Int}, 0 ≤ p → xE C m p false (l1 ++ l2) → (∀ y ∈ l1, y.2 = false) → (p :: nms (l1 ++ l2)).Nodup → r ∉ p :: nms (l1 ++ l2) → xE C (lnkMV m (qN p l1) (hd l2) r) p false (l1 ++ (r, false) :: l2)
  | [], l2, p, hp, h, _, hnd, hno => by
    have h : xE C m p false l2 := h
    have hnd : (p :: nms l2).Nodup := hnd
    have hno : r ∉ p :: nms l2 := hno
    have hpr : p ≠ r := fun e => hno (e ▸ List.mem_cons_self ..)
    have hpo := h.pos
    have a1 : lnkMV m p (hd l2) r (yZ 2 p) = 2 * r := updW_at _ _ _
    have a2 : lnkMV m p (hd l2) r (yZ 2 r) = 2 * hd l2 := by
      unfold lnkMV
      rw [wJ _ _ (fun h => hpr (nx_injV (by omega) hp h).symm), updW_at]
    have hq : ∀ q ∈ nms l2, lnkMV m p (hd l2) r (yZ 2 q) = m (yZ 2 q) := fun q hq => lnkV_out hp (by omega) (by have := hpo q hq; omega) (fun e => (List.nodup_cons.1 hnd).1 (e ▸ hq)) (fun e => hno (List.mem_cons_of_mem _ (e ▸ hq)))
    show xE C (lnkMV m p (hd l2) r) p false ((r, false) :: l2)
    refine ⟨by rw [a1]; show _ = 2 * r + 0; omega, hr, ?_⟩
    cases l2 with
    | nil => exact a2.trans rfl
    | cons y t =>
      obtain ⟨y, b⟩ := y
      refine ⟨a2.trans (by show 2 * y = 2 * y + 0; omega), h.2.1, h.2.2.keep fun q hq2 => hq q ?_⟩
      rcases hq2 with rfl | hq2
      · exact List.mem_cons_self ..
      · exact List.mem_cons_of_mem _ hq2
  | (y, b) :: l1, l2, p, hp, h, hu, hnd, hno => by
    have hb : b = false := hu (y, b) (List.mem_cons_self ..)
    subst hb
    obtain ⟨h1, h2, h3⟩ := h
    have h3 : xE C m y false (l1 ++ l2) := h3
    have hnd : (p :: y :: nms (l1 ++ l2)).Nodup := hnd
    have hno : r ∉ p :: y :: nms (l1 ++ l2) := hno
    have hu' : ∀ z ∈ l1, z.2 = false := fun z hz => hu z (List.mem_cons_of_mem _ hz)
    have ih := xE.ins hr (l1 := l1) (l2 := l2) (p := y) (by omega) h3 hu' (List.nodup_cons.1 hnd).2 (fun e => hno (List.mem_cons_of_mem _ e))
    have hlast : qN y l1 ≠ p := fun e => (List.nodup_cons.1 hnd).1 (by
      rcases lastN_in l1 y with h | h
      · rw [← e, h]; exact List.mem_cons_self ..
      · rw [← e, y8]; exact List.mem_cons_of_mem _ (List.mem_append_left _ h))
    have hl0 : 0 ≤ qN y l1 := by
      rcases lastN_in l1 y with h | h
      · rw [h]; omega
      · have := h3.pos (qN y l1) (by rw [y8]; exact List.mem_append_left _ h); omega
    show xE C (lnkMV m (qN y l1) (hd l2) r) p false ((y, false) :: (l1 ++ (r, false) :: l2))
    refine ⟨?_, h2, ih⟩
    rw [lnkV_out hl0 (by omega) hp (fun e => hlast e.symm) (fun e => hno (e ▸ List.mem_cons_self ..))]
    exact h1
def mrkMV (m : Int → Int) (x : Int) : Int → Int := updW m (yZ 2 x) (m (yZ 2 x) + 1)
theorem xE.mrk {C : Nat} {m : Int → Int} {x : Int} {t : List (Int × Bool)} : ∀ {l1 : List (Int × Bool)} {p : Int} {k : Bool}, 0 ≤ p → xE C m p k (l1 ++ (x, false) :: t) → (p :: nms (l1 ++ (x, false) :: t)).Nodup → xE C (mrkMV m x) p k (l1 ++ (x, true) :: t)
  | [], p, k, hp, h, hnd => by
    obtain ⟨h1, h2, h3⟩ := h
    have hnd : (p :: x :: nms t).Nodup := hnd
    have hpx : p ≠ x := fun e => (List.nodup_cons.1 hnd).1 (e ▸ List.mem_cons_self ..)
    have hq : ∀ q, 0 ≤ q → q ≠ x → mrkMV m x (yZ 2 q) = m (yZ 2 q) := fun q hq hne => wJ _ _ fun h => hne (nx_injV hq (by omega) h)
    have h3' := h3.pos
    refine ⟨(hq p hp hpx).trans h1, h2, ?_⟩
    have hw : mrkMV m x (yZ 2 x) = m (yZ 2 x) + 1 := updW_at _ _ _
    have hn := (List.nodup_cons.1 (List.nodup_cons.1 hnd).2).1
    cases t with
    | nil =>
      have h3 : m (yZ 2 x) = 0 := h3
      show mrkMV m x (yZ 2 x) = 1
      rw [hw, h3]; rfl
    | cons y t =>
      obtain ⟨y, b⟩ := y
      obtain ⟨g1, g2, g3⟩ := h3
      refine ⟨by rw [hw, g1]; show 2 * y + 0 + 1 = 2 * y + 1; omega, g2, g3.keep fun q hq2 => hq q ?_ fun e => hn ?_⟩
      · rcases hq2 with rfl | hq2
        · omega
        · have := h3' q (List.mem_cons_of_mem _ hq2); omega
      · rcases hq2 with rfl | hq2
        · exact e ▸ List.mem_cons_self ..
        · exact e ▸ List.mem_cons_of_mem _ hq2
  | (y, b) :: l1, p, k, hp, h, hnd => by
    obtain ⟨h1, h2, h3⟩ := h
    have h3 : xE C m y b (l1 ++ (x, false) :: t) := h3
    have hnd : (p :: y :: nms (l1 ++ (x, false) :: t)).Nodup := hnd
    have hxi : x ∈ y :: nms (l1 ++ (x, false) :: t) := List.mem_cons_of_mem _ (by rw [y8]; exact List.mem_append_right _ (List.mem_cons_self ..))
    have hpx : p ≠ x := fun e => (List.nodup_cons.1 hnd).1 (e ▸ hxi)
    have hx0 : 1 ≤ x := h3.pos x (by rw [y8]; exact List.mem_append_right _ (List.mem_cons_self ..))
    exact ⟨(wJ _ _ fun h => hpx (nx_injV hp (by omega) h)).trans h1, h2, xE.mrk (l1 := l1) (by omega) h3 (List.nodup_cons.1 hnd).2⟩
theorem xE.even {C : Nat} {m : Int → Int} {x : Int} {t : List (Int × Bool)} : ∀ {l1 : List (Int × Bool)} {p : Int} {k : Bool}, xE C m p k (l1 ++ (x, false) :: t) → decide (m (yZ 2 x) % 2 = 1) = false ∧ (1 ≤ x ∧ x ≤ C)
  | [], p, k, h => ⟨by rw [xE.word h.2.2]; exact odd_of _ _, h.2.1⟩
  | (y, b) :: l1, p, k, h => xE.even (l1 := l1) h.2.2
end Go.Proofs.YtmfbamiciieooaaGreatDoor
/- Records that are free, and that wait, as chains in a memory: what pools, epochs, and whoever makes records, do, alone. Generic over the program. -/
namespace Go.Proofs.YtmfbamiciieooaaGreatDoor
set_option maxRecDepth 100000
set_option maxHeartbeats 16000000
open Go Go.RowKit
set_option linter.unusedSimpArgs false
set_option linter.unusedVariables false
/-- a chain, by its first record -/
def ChV (C : Nat) (m : Int → Int) : Int → List Int → Prop
  | h, [] => h = 0
  | h, x :: l => h = x ∧ (1 ≤ x ∧ x ≤ C) ∧ ChV C m (m (zQ 2 x 7)) l
theorem ChV.keep {C : Nat} {m m' : Int → Int} : ∀ {l : List Int} {h : Int}, ChV C m h l → (∀ x ∈ l, m' (zQ 2 x 7) = m (zQ 2 x 7)) → ChV C m' h l
  | [], _, h, _ => h
  | x :: l, _, h, hn => ⟨h.1, h.2.1, by rw [hn x (List.mem_cons_self ..)]; exact ChV.keep h.2.2 fun y hy => hn y (List.mem_cons_of_mem _ hy)⟩
theorem ChV.bnd {C : Nat} {m : Int → Int} : ∀ {l : List Int} {h : Int}, ChV C m h l → ∀ x ∈ l, 1 ≤ x ∧ x ≤ C
  | [], _, _, x, hx => by cases hx
  | y :: l, _, h, x, hx => by
    rcases List.mem_cons.1 hx with rfl | hx
    · exact h.2.1
    · exact ChV.bnd h.2.2 x hx
theorem ChV.rng {C : Nat} {m : Int → Int} {l : List Int} {h : Int} (hc : ChV C m h l) : 0 ≤ h ∧ h ≤ C := by
  cases l with
  | nil => have h0 : h = 0 := hc; omega
  | cons x l => have := hc.1; have := hc.2.1; omega
theorem nd_sub : ∀ {l l' : List Int}, l.Nodup → (∀ x ∈ l, x ∈ l') → l.length ≤ l'.length
  | [], _, _, _ => Nat.zero_le _
  | x :: l, l', h, hs => by
    obtain ⟨h1, h2⟩ := List.nodup_cons.1 h
    have hx := hs x (List.mem_cons_self ..)
    have ih := nd_sub (l' := l'.erase x) h2 fun y hy => (List.mem_erase_of_ne (fun e : y = x => h1 (e ▸ hy))).2 (hs y (List.mem_cons_of_mem _ hy))
    rw [List.length_erase_of_mem hx] at ih
    have : 0 < l'.length := List.length_pos_of_mem hx
    simp
    omega
def recs (C : Nat) : List Int := (List.range C).map fun i : Nat => (i : Int) + 1
theorem recs_len (C : Nat) : (recs C).length = C := by simp [recs]
theorem recs_mem {C : Nat} {x : Int} : x ∈ recs C ↔ 1 ≤ x ∧ x ≤ C := by
  unfold recs
  rw [List.mem_map]
  constructor
  · rintro ⟨i, h, rfl⟩
    have := List.mem_range.1 h
    omega
  · intro h
    exact ⟨(x - 1).toNat, List.mem_range.2 (by omega), by omega⟩
theorem recs_nd (C : Nat) : (recs C).Nodup := by
  unfold recs
  refine List.Pairwise.map _ ?_ (List.nodup_range (n := C))
  intro a b h e
  exact h (by omega)
theorem nd_len {C : Nat} {l : List Int} (h : l.Nodup) (hb : ∀ x ∈ l, 1 ≤ x ∧ x ≤ C) : l.length ≤ C := by
  have := nd_sub h fun x hx => recs_mem.2 (hb x hx)
  rw [recs_len] at this
  exact this
theorem first_of {x : Int} (h : 0 ≤ x ∧ x ≤ 100000) : yM x = x := by unfold yM; omega
theorem first_top {r g : Int} (h : 0 ≤ r ∧ r ≤ 100000) : yM (topF r g) = r := by unfold yM topF; omega
theorem f7_inj {x y : Int} (h : zQ 2 x 7 = zQ 2 y 7) : x = y := by rw [fv, fv] at h; omega
section
variable {C me : Nat} {M : Mm} {P B : List Int}
theorem pop_run {x : Int} (hC : C ≤ 100000) (h : ChV C M.m (yM (M.m 1)) (x :: P)) : ∃ g, RnV C me (popP 2) M x (M.up 1 (topF (M.m (zQ 2 x 7)) g)) 3 ∧ ChV C (M.up 1 (topF (M.m (zQ 2 x 7)) g)).m (yM ((M.up 1 (topF (M.m (zQ 2 x 7)) g)).m 1)) P := by
  obtain ⟨h1, h2, h3⟩ := h
  have hr := h3.rng
  have hf : yM (M.m (zQ 2 x 7)) = M.m (zQ 2 x 7) := first_of (by omega)
  refine ⟨tagF (M.m 1) + 1, ?_, ?_⟩
  · unfold popP
    refine (RnV.loop (f := 1000000) (r := .inr x) (a := 3) (b := 0) ?_ (RnV.ret _)).le (by decide)
    unfold qM
    refine ((RnV.load (c := 1) ⟨by decide, by omega⟩).bind (b := 2) ?_).le (by decide)
    rw [h1, decide_eq_false (show ¬ x = 0 by omega), cond_false]
    refine (RnV.load (inV h2 (by decide))).bind (b := 1) ?_
    rw [hf]
    exact (RnV.cas ⟨by decide, by omega⟩ rfl).bind (b := 0) (RnV.ret _)
  · rw [Mm.up_at, first_top (by omega)]
    exact h3.keep fun y hy => Mm.yC _ _ (by have := h3.bnd y hy; rw [fv]; omega)
theorem pop_none (h : ChV C M.m (yM (M.m 1)) []) : RnV C me (popP 2) M 0 M 1 := by
  have h : yM (M.m 1) = 0 := h
  unfold popP
  refine (RnV.loop (f := 1000000) (r := .inr 0) (a := 1) (b := 0) ?_ (RnV.ret _)).le (by decide)
  unfold qM
  refine ((RnV.load (c := 1) ⟨by decide, by omega⟩).bind (b := 0) ?_).le (by decide)
  rw [h]
  exact RnV.ret _
/-- a record is free again -/
theorem push_run {r : Int} (hC : C ≤ 100000) (h : ChV C M.m (yM (M.m 1)) P) (hr : 1 ≤ r ∧ r ≤ C) (hp : r ∉ P) : ∃ M', RnV C me (pushP 2 r) M () M' 3 ∧ ChV C M'.m (yM (M'.m 1)) (r :: P) ∧ M'.d = M.d ∧ ∀ c : Int, c ≠ 1 → c ≠ zQ 2 r 7 → M'.m c = M.m c := by
  have hg := h.rng
  have h7 : zQ 2 r 7 ≠ 1 := by rw [fv]; omega
  refine ⟨(M.up (zQ 2 r 7) (yM (M.m 1))).up 1 (topF r (tagF (M.m 1) + 1)), ?_, ?_, rfl, fun c h1 h2 => ?_⟩
  · unfold pushP
    refine (RnV.loop (f := 1000000) (r := .inr ()) (a := 3) (b := 0) ?_ (RnV.ret _)).le (by decide)
    unfold qA
    refine ((RnV.load (c := 1) ⟨by decide, by omega⟩).bind (b := 2) ?_).le (by decide)
    refine (RnV.store (inV hr (by decide))).bind (b := 1) ?_
    exact (RnV.cas ⟨by decide, by omega⟩ (Mm.yC _ _ (fun e => h7 e.symm))).bind (b := 0) (RnV.ret _)
  · rw [Mm.up_at, first_top (by omega)]
    refine ⟨rfl, hr, ?_⟩
    rw [Mm.yC _ _ h7, Mm.up_at]
    refine h.keep fun y hy => ?_
    rw [Mm.yC _ _ (by have := h.bnd y hy; rw [fv]; omega), Mm.yC _ _ (fun e => hp ((f7_inj e : y = r) ▸ hy))]
  · rw [Mm.yC _ _ h1, Mm.yC _ _ h2]
/-- all records of a chain are free again -/
theorem chain_run (hC : C ≤ 100000) : ∀ {B P : List Int} {M : Mm} {h : Int} {n : Nat}, ChV C M.m h B → ChV C M.m (yM (M.m 1)) P → (∀ x ∈ B, x ∉ P) → B.Nodup → B.length ≤ n → ∃ M', RnV C me (chainL 2 (pushP 2) n h) M () M' (4 * B.length) ∧ ChV C M'.m (yM (M'.m 1)) (B.reverse ++ P) ∧ M'.d = M.d ∧ ∀ c : Int, c ≠ 1 → (∀ x ∈ B, c ≠ zQ 2 x 7) → M'.m c = M.m c
  | [], P, M, h, n, hb, hp, _, _, _ => by
    have hb : h = 0 := hb
    subst hb
    exact ⟨M, RnV.ret _, hp, rfl, fun _ _ _ => rfl⟩
  | x :: B, P, M, h, 0, _, _, _, _, hn => absurd hn (by simp)
  | x :: B, P, M, h, n + 1, hb, hp, hd, hnd, hn => by
    obtain ⟨h1, h2, h3⟩ := hb
    subst h1
    obtain ⟨n1, n2⟩ := List.nodup_cons.1 hnd
    obtain ⟨M1, r1, c1, d1, k1⟩ := push_run (me := me) hC hp h2 (hd h (List.mem_cons_self ..))
    have hb1 : ChV C M1.m (M.m (zQ 2 h 7)) B := h3.keep fun y hy => k1 _ (by have := h3.bnd y hy; rw [fv]; omega) (fun e => n1 ((f7_inj e : y = h) ▸ hy))
    obtain ⟨M2, r2, c2, d2, k2⟩ := chain_run hC (n := n) hb1 c1 (fun y hy e => by
      rcases List.mem_cons.1 e with e | e
      · exact n1 (e ▸ hy)
      · exact hd y (List.mem_cons_of_mem _ hy) e) n2 (by simp at hn; omega)
    have hg := h3.rng
    refine ⟨M2, ?_, by rw [List.reverse_cons, List.append_assoc]; exact c2, d2.trans d1, fun c a b => (k2 c a fun y hy => b y (List.mem_cons_of_mem _ hy)).trans (k1 c a (b h (List.mem_cons_self ..)))⟩
    have e0 : chainL 2 (pushP 2) (n + 1) h = Pr.loop (wR 2 (pushP 2)) (n + 1) h := by
      unfold chainL
      rw [decide_eq_false (show ¬ h = 0 by omega), cond_false]
    rw [e0]
    refine (RnV.loop (a := 4) (b := 4 * B.length) (r := endC (M.m (zQ 2 h 7))) (M1 := M1) ?_ ?_).le (by simp; omega)
    · unfold wR
      refine ((RnV.load (inV h2 (by decide))).bind (b := 3) ?_).le (by decide)
      rw [first_of (show 0 ≤ M.m (zQ 2 h 7) ∧ M.m (zQ 2 h 7) ≤ 100000 by omega)]
      exact r1.bind (b := 0) (RnV.ret _)
    · rw [chainL_eq]
      exact r2
end
/-! ### All records, by where they are -/
/-- o: 0 linked, 1 free, 2 in somebody's hands, 4 to 6 waiting there -/
structure StV (C : Nat) (M : Mm) (L : List (Int × Bool)) (P : List Int) (B : Int → List Int) (o : Int → Int) : Prop where
  lk : xE C M.m 0 false L
  po : ChV C M.m (yM (M.m 1)) P
  li : ∀ i, 4 ≤ i → i ≤ 6 → ChV C M.m (M.m i) (B i)
  ol : ∀ r ∈ nms L, o r = 0
  op : ∀ r ∈ P, o r = 1
  ob : ∀ i, 4 ≤ i → i ≤ 6 → ∀ r ∈ B i, o r = i
  nl : (nms L).Nodup
  np : P.Nodup
  nb : ∀ i, 4 ≤ i → i ≤ 6 → (B i).Nodup
  al : ∀ r : Int, 1 ≤ r → r ≤ C → o r = 2 ∨ r ∈ nms L ∨ r ∈ P ∨ ∃ i, 4 ≤ i ∧ i ≤ 6 ∧ r ∈ B i
  e0 : 0 ≤ M.m 3
/-- what making a record ready keeps -/
structure AkV (me : Nat) (m m' : Int → Int) : Prop where
  f : ∀ r f : Int, 1 ≤ r → 0 ≤ f → f ≤ 6 → m' (zQ 2 r f) = m (zQ 2 r f)
  h : m' 0 = m 0
  s : m' 2 = m 2
  z : m' 7 = m 7
  p : ∀ j : Nat, j < 2 → j ≠ me → m' (8 + j) = m (8 + j)
theorem AkV.refl (me : Nat) (m : Int → Int) : AkV me m m := ⟨fun _ _ _ _ _ => rfl, rfl, rfl, rfl, fun _ _ _ => rfl⟩
theorem AkV.trans {me : Nat} {m m1 m2 : Int → Int} (h1 : AkV me m m1) (h2 : AkV me m1 m2) : AkV me m m2 := ⟨fun r f a b c => (h2.f r f a b c).trans (h1.f r f a b c), h2.h.trans h1.h, h2.s.trans h1.s, h2.z.trans h1.z, fun j a b => (h2.p j a b).trans (h1.p j a b)⟩
theorem AkV.of {me : Nat} {m m' : Int → Int} (hme : me < 2) (h : ∀ c : Int, c ≠ 1 → c ≠ 3 → ¬ (4 ≤ c ∧ c ≤ 6) → c ≠ 8 + (me : Int) → (∀ r : Int, 1 ≤ r → c ≠ zQ 2 r 7) → m' c = m c) : AkV me m m' := by
  refine ⟨fun r f a b c => h _ ?_ ?_ ?_ ?_ fun q hq => ?_, h _ ?_ ?_ ?_ ?_ fun q hq => ?_, h _ ?_ ?_ ?_ ?_ fun q hq => ?_, h _ ?_ ?_ ?_ ?_ fun q hq => ?_, fun j a b => h _ ?_ ?_ ?_ ?_ fun q hq => ?_⟩
  all_goals try simp only [fv]
  all_goals omega
section
variable {C me : Nat} {M : Mm} {L : List (Int × Bool)} {P : List Int} {B : Int → List Int} {o : Int → Int}
theorem StV.pos (h : StV C M L P B o) : ∀ r ∈ nms L, 1 ≤ r ∧ r ≤ C := h.lk.bnd
/-- a record is taken -/
theorem StV.pop {x : Int} (h : StV C M L (x :: P) B o) (hC : C ≤ 100000) (hme : me < 2) : ∃ M', RnV C me (popP 2) M x M' 3 ∧ StV C M' L P B (updW o x 2) ∧ M'.d = M.d ∧ M'.m 3 = M.m 3 ∧ AkV me M.m M'.m ∧ (1 ≤ x ∧ x ≤ C) ∧ o x = 1 := by
  obtain ⟨g, r1, c1⟩ := pop_run (me := me) hC h.po
  have hx := h.po.2.1
  have hox := h.op x (List.mem_cons_self ..)
  have hk : ∀ c : Int, c ≠ 1 → (M.up 1 (topF (M.m (zQ 2 x 7)) g)).m c = M.m c := fun c hc => Mm.yC _ _ hc
  have ho : ∀ r, o r ≠ 1 → updW o x 2 r = o r := fun r hr => wJ _ _ fun e : r = x => hr (e ▸ hox)
  obtain ⟨n1, n2⟩ := List.nodup_cons.1 h.np
  refine ⟨_, r1, ⟨h.lk.keep fun r hr => hk _ ?_, c1, fun i a b => ?_, fun r hr => ?_, fun r hr => ?_, fun i a b r hr => ?_, h.nl, n2, h.nb, fun r a b => ?_, by rw [hk 3 (by decide)]; exact h.e0⟩, rfl, hk 3 (by decide), .of hme fun c a _ _ _ _ => hk c a, hx, hox⟩
  · have : 0 ≤ r := by
      rcases hr with rfl | hr
      · omega
      · have := h.pos r hr; omega
    rw [nx_eqV]; split <;> omega
  · rw [hk i (by omega)]
    exact (h.li i a b).keep fun y hy => hk _ (by have := (h.li i a b).bnd y hy; rw [fv]; omega)
  · rw [ho r (by rw [h.ol r hr]; decide)]; exact h.ol r hr
  · rw [wJ _ _ (fun e : r = x => n1 (e ▸ hr))]; exact h.op r (List.mem_cons_of_mem _ hr)
  · rw [ho r (by rw [h.ob i a b r hr]; omega)]; exact h.ob i a b r hr
  · by_cases e : r = x
    · subst e; exact .inl (updW_at _ _ _)
    · rw [wJ _ _ e]
      rcases h.al r a b with h | h | h | h
      · exact .inl h
      · exact .inr (.inl h)
      · rcases List.mem_cons.1 h with h | h
        · exact absurd h e
        · exact .inr (.inr (.inl h))
      · exact .inr (.inr (.inr h))
/-- a thread is in at the epoch -/
theorem StV.pinned (h : StV C M L P B o) {v : Int} (hme : me < 2) : RnV C me (vT (8 + me) v) M () (M.up (8 + me) v) 1 ∧ StV C (M.up (8 + me) v) L P B o ∧ AkV me M.m (M.up (8 + me) v).m ∧ (M.up (8 + me) v).m 3 = M.m 3 := by
  have hk : ∀ c : Int, c ≠ 8 + (me : Int) → (M.up (8 + me) v).m c = M.m c := fun c hc => Mm.yC _ _ hc
  refine ⟨RnV.store ⟨by omega, by omega⟩, ⟨h.lk.keep fun r hr => hk _ ?_, ?_, fun i a b => ?_, h.ol, h.op, h.ob, h.nl, h.np, h.nb, h.al, by rw [hk 3 (by omega)]; exact h.e0⟩, .of hme fun c _ _ _ a _ => hk c a, hk 3 (by omega)⟩
  · have : 0 ≤ r := by
      rcases hr with rfl | hr
      · omega
      · have := h.pos r hr; omega
    rw [nx_eqV]; split <;> omega
  · rw [hk 1 (by omega)]
    exact h.po.keep fun y hy => hk _ (by have := h.po.bnd y hy; rw [fv]; omega)
  · rw [hk i (by omega)]
    exact (h.li i a b).keep fun y hy => hk _ (by have := (h.li i a b).bnd y hy; rw [fv]; omega)
/-- the epoch goes on, and who waited since the one before the last is free -/
theorem StV.advance (h : StV C M L P B o) (hC : C ≤ 100000) (hme : me < 2) (he : M.m 3 + 2 < 18446744073709551616) (hp : ∀ j : Nat, j < 2 → M.m (8 + j) = 0 ∨ M.m (8 + j) = M.m 3 + 1) : ∃ M', RnV C me (wC 2) M true M' (5 + 4 * (B (yB (M.m 3 + 2))).length) ∧ StV C M' L ((B (yB (M.m 3 + 2))).reverse ++ P) (fun i => if i = yB (M.m 3 + 2) then [] else B i) (fun r => if r ∈ B (yB (M.m 3 + 2)) then 1 else o r) ∧ M'.d = M.d ∧ M'.m 3 = M.m 3 + 1 ∧ AkV me M.m M'.m ∧ M'.m (8 + me) = M.m (8 + me) := by
  have e0 := h.e0
  have w1 : wr1 (M.m 3) = M.m 3 + 1 := by unfold wr1; rw [wrapU]; omega
  have w2 : wr2 (M.m 3) = M.m 3 + 2 := by unfold wr2; rw [wrapU]; omega
  generalize hq : yB (M.m 3 + 2) = q at *
  have q4 : 4 ≤ q ∧ q ≤ 6 := by rw [← hq]; unfold yB; omega
  have hb := h.li q q4.1 q4.2
  have hbr := hb.rng
  have hk1 : ∀ c : Int, c ≠ 3 → c ≠ q → ((M.up 3 (M.m 3 + 1)).up q 0).m c = M.m c := fun c a b => by rw [Mm.yC _ _ b, Mm.yC _ _ a]
  have hk7 : ∀ x, 1 ≤ x → ((M.up 3 (M.m 3 + 1)).up q 0).m (zQ 2 x 7) = M.m (zQ 2 x 7) := fun x hx => hk1 _ (by rw [fv]; omega) (by rw [fv]; omega)
  have hb1 : ChV C ((M.up 3 (M.m 3 + 1)).up q 0).m (M.m q) (B q) := hb.keep fun y hy => hk7 y (hb.bnd y hy).1
  have hp1 : ChV C ((M.up 3 (M.m 3 + 1)).up q 0).m (yM (((M.up 3 (M.m 3 + 1)).up q 0).m 1)) P := by
    rw [hk1 1 (by decide) (by omega)]
    exact h.po.keep fun y hy => hk7 y (h.po.bnd y hy).1
  have hdis : ∀ x ∈ B q, x ∉ P := fun x hx hp => by
    have a := h.ob q q4.1 q4.2 x hx
    have b := h.op x hp
    omega
  obtain ⟨M2, r2, c2, d2, k2⟩ := chain_run (me := me) hC (n := many) hb1 hp1 hdis (h.nb q q4.1 q4.2) (by
    have hl := nd_len (h.nb q q4.1 q4.2) hb.bnd
    have : many = 1000001 := rfl
    omega)
  have hk : ∀ c : Int, c ≠ 1 → c ≠ 3 → c ≠ q → (∀ x ∈ B q, c ≠ zQ 2 x 7) → M2.m c = M.m c := fun c a b d e => (k2 c a e).trans (hk1 c b d)
  have hnx : ∀ r, 0 ≤ r → M2.m (yZ 2 r) = M.m (yZ 2 r) := fun r hr => hk _ (by rw [nx_eqV]; split <;> omega) (by rw [nx_eqV]; split <;> omega) (by rw [nx_eqV]; split <;> omega) fun x hx => by have := hb.bnd x hx; rw [nx_eqV, fv]; split <;> omega
  have hm3 : M2.m 3 = M.m 3 + 1 := by
    rw [k2 3 (by decide) (fun x hx => by have := hb.bnd x hx; rw [fv]; omega), Mm.yC _ _ (show (3 : Int) ≠ q by omega), Mm.up_at]
  have hpin : ∀ j : Nat, j < 2 → M2.m (8 + j) = M.m (8 + j) := fun j hj => hk _ (by omega) (by omega) (by omega) fun x hx => by have := hb.bnd x hx; rw [fv]; omega
  refine ⟨M2, ?_, ⟨h.lk.keep fun r hr => hnx r ?_, c2, fun i a b => ?_, fun r hr => ?_, fun r hr => ?_, fun i a b r hr => ?_, h.nl, ?_, fun i a b => ?_, fun r a b => ?_, by rw [hm3]; omega⟩, d2, hm3, .of hme fun c a b d _ e => hk c a b (fun e => d (by omega)) fun x hx => e x (hb.bnd x hx).1, hpin me hme⟩
  · unfold wC
    refine ((RnV.load (c := 3) ⟨by decide, by omega⟩).bind (b := 4 + 4 * (B q).length) ?_).le (by omega)
    have hsc : RnV C me (scanP (M.m 3) (2 : Int).toNat 0) M true M 2 := by
      show RnV C me (scanP (M.m 3) 2 0) M true M 2
      unfold scanP
      refine ((RnV.load (c := 8 + ((0 : Nat) : Int)) ⟨by decide, by simp; omega⟩).bind (b := 1) ?_)
      have h0 : (!decide (M.m (8 + ((0 : Nat) : Int)) = 0) && !decide (M.m (8 + ((0 : Nat) : Int)) = wr1 (M.m 3))) = false := by
        rw [w1]
        rcases hp 0 (by decide) with h | h <;> rw [h] <;> simp
      rw [h0, cond_false]
      unfold scanP
      refine ((RnV.load (c := 8 + ((0 + 1 : Nat) : Int)) ⟨by decide, by simp; omega⟩).bind (b := 0) ?_)
      have h1 : (!decide (M.m (8 + ((0 + 1 : Nat) : Int)) = 0) && !decide (M.m (8 + ((0 + 1 : Nat) : Int)) = wr1 (M.m 3))) = false := by
        rw [w1]
        rcases hp 1 (by decide) with h | h <;> rw [show 0 + 1 = 1 from rfl, h] <;> simp
      rw [h1, cond_false]
      exact RnV.ret _
    refine (hsc.bind (b := 2 + 4 * (B q).length) ?_).le (by omega)
    unfold advRest
    rw [cond_true, w1, w2, hq]
    refine ((RnV.cas (c := 3) ⟨by decide, by omega⟩ rfl).bind (b := 1 + 4 * (B q).length) ?_).le (by omega)
    rw [cond_true]
    refine RnV.bind (a := 1) (b := 4 * (B q).length) (RnV.swap (M := M.up 3 (M.m 3 + 1)) (c := q) ⟨by omega, by omega⟩) ?_
    rw [Mm.yC _ _ (show q ≠ 3 by omega)]
    refine RnV.bind (x := ()) (b := 0) (M1 := M2) ?_ (RnV.ret _)
    unfold chainP
    rw [first_of (by omega)]
    exact r2
  · rcases hr with rfl | hr
    · omega
    · have := h.pos r hr; omega
  · by_cases e : i = q
    · subst e
      rw [if_pos rfl]
      show M2.m i = 0
      rw [k2 i (by omega) (fun x hx => by have := hb.bnd x hx; rw [fv]; omega), Mm.up_at]
    · rw [if_neg e, hk i (by omega) (by omega) e (fun x hx => by have := hb.bnd x hx; rw [fv]; omega)]
      have hi := h.li i a b
      refine hi.keep fun y hy => hk _ (by have := hi.bnd y hy; rw [fv]; omega) (by have := hi.bnd y hy; rw [fv]; omega) (by have := hi.bnd y hy; rw [fv]; omega) fun x hx e2 => ?_
      have e3 := f7_inj e2
      subst e3
      have a1 := h.ob i a b y hy
      have a2 := h.ob q q4.1 q4.2 y hx
      omega
  · rw [if_neg (fun hb => by have a1 := h.ol r hr; have a2 := h.ob q q4.1 q4.2 r hb; omega)]
    exact h.ol r hr
  · by_cases e : r ∈ B q
    · rw [if_pos e]
    · rw [if_neg e]
      rcases List.mem_append.1 hr with hr | hr
      · exact absurd (List.mem_reverse.1 hr) e
      · exact h.op r hr
  · by_cases e : i = q
    · rw [if_pos e] at hr; cases hr
    · rw [if_neg e] at hr
      rw [if_neg (fun hb => by have a1 := h.ob i a b r hr; have a2 := h.ob q q4.1 q4.2 r hb; omega)]
      exact h.ob i a b r hr
  · refine List.nodup_append.2 ⟨List.pairwise_reverse.2 ((h.nb q q4.1 q4.2).imp Ne.symm), h.np, fun x hx y hy e => ?_⟩
    subst e
    exact hdis x (List.mem_reverse.1 hx) hy
  · by_cases e : i = q
    · rw [if_pos e]; exact List.nodup_nil
    · rw [if_neg e]; exact h.nb i a b
  · by_cases e : r ∈ B q
    · exact .inr (.inr (.inl (List.mem_append_left _ (List.mem_reverse.2 e))))
    · rw [if_neg e]
      rcases h.al r a b with h | h | h | ⟨i, h1, h2, h3⟩
      · exact .inl h
      · exact .inr (.inl h)
      · exact .inr (.inr (.inl (List.mem_append_right _ h)))
      · refine .inr (.inr (.inr ⟨i, h1, h2, ?_⟩))
        rw [if_neg (fun hi : i = q => e (hi ▸ h3))]
        exact h3
theorem allocL_no {t m x : Int} (hx : ¬ x = 0) : ∀ k, allocL t m k x = .ret x
  | 0 => rfl
  | k + 1 => by
    show (bif decide (x = 0) then _ else _) = _
    rw [decide_eq_false hx]; rfl
theorem allocL_run (hC : C ≤ 100000) (hme : me < 2) : ∀ (k : Nat) {M : Mm} {B : Int → List Int} {o : Int → Int}, k ≤ 3 → StV C M L [] B o → (∀ j : Int, (k : Int) - 1 ≤ j → j ≤ 1 → B (yB (M.m 3 + j)) = []) → (∀ r, o r ≠ 2) → M.m 3 + k + 2 < 18446744073709551616 → (∀ j : Nat, j < 2 → j ≠ me → M.m (8 + j) = 0) →
    ∃ x M' P' B' o', RnV C me (allocL 2 me k 0) M x M' (10 * k + 4 * C) ∧ StV C M' L P' B' o' ∧ M'.d = M.d ∧ (M.m 3 ≤ M'.m 3 ∧ M'.m 3 ≤ M.m 3 + k) ∧ AkV me M.m M'.m ∧ ((x = 0 ∧ (∀ r, o' r ≠ 2) ∧ P' = [] ∧ ∀ i, 4 ≤ i → i ≤ 6 → B' i = []) ∨ ((1 ≤ x ∧ x ≤ C) ∧ ∀ r, o' r = 2 ↔ r = x))
  | 0, M, B, o, hk, h, hb, ho, he, hp => by
    refine ⟨0, M, [], B, o, (RnV.ret _).le (by omega), h, rfl, ⟨Int.le_refl _, by simp⟩, AkV.refl _ _, .inl ⟨rfl, ho, rfl, fun i a b => ?_⟩⟩
    have e0 := h.e0
    have : i = yB (M.m 3 + 0) ∨ i = yB (M.m 3 + 1) ∨ i = yB (M.m 3 + -1) := by unfold yB; omega
    rcases this with rfl | rfl | rfl
    · exact hb 0 (by decide) (by decide)
    · exact hb 1 (by decide) (by decide)
    · exact hb (-1) (by decide) (by decide)
  | k + 1, M, B, o, hk, h, hb, ho, he, hp => by
    have e0 := h.e0
    have w1 : wr1 (M.m 3) = M.m 3 + 1 := by unfold wr1; rw [wrapU]; omega
    obtain ⟨s1, s2, s3, s4⟩ := h.pinned (v := M.m 3 + 1) hme
    generalize hM1 : M.up (8 + me) (M.m 3 + 1) = M1 at s1 s2 s3 s4
    have d1 : M1.d = M.d := by rw [← hM1]; rfl
    have hpin : RnV C me (pinP me) M () M1 2 := by
      unfold pinP
      refine (RnV.load (c := 3) ⟨by decide, by omega⟩).bind (b := 1) ?_
      rw [w1]; exact s1
    obtain ⟨M2, t1, t2, t3, t4, t5, t6⟩ := s2.advance hC hme (by rw [s4]; omega) (fun j hj => by
      by_cases e : j = me
      · subst e; right; rw [s4, ← hM1, Mm.up_at]
      · left; rw [s3.p j hj e]; exact hp j hj e)
    rw [s4] at t1 t2 t4
    have hrun : ∀ {f : Unit → Pr Int} {y : Int} {M' : Mm} {n : Nat}, RnV C me ((popP 2).bind fun r => allocL 2 me k r) M2 y M' n → RnV C me (allocL 2 me (k + 1) 0) M y M' (2 + ((5 + 4 * (B (yB (M.m 3 + 2))).length) + n)) := fun hf => hpin.bind (t1.bind hf)
    have ak := s3.trans t5
    cases hq : B (yB (M.m 3 + 2)) with
    | nil =>
      rw [hq] at t2 hrun
      obtain ⟨x, M', P', B', o', r1, r2, r3, r4, r5, r6⟩ := allocL_run hC hme k (by omega) t2 (fun j h1 h2 => by
        show (if yB (M2.m 3 + j) = yB (M.m 3 + 2) then [] else B (yB (M2.m 3 + j))) = []
        by_cases e : yB (M2.m 3 + j) = yB (M.m 3 + 2)
        · rw [if_pos e]
        · have hj : j ≠ 1 := fun e1 => e (by rw [t4, e1]; congr 1; omega)
          rw [if_neg e, t4, show M.m 3 + 1 + j = M.m 3 + (j + 1) by omega]
          exact hb (j + 1) (by push_cast; omega) (by omega)) (fun r => by
            show (if _ then _ else _) ≠ _
            split
            · decide
            · exact ho r) (by rw [t4]; push_cast at he; omega) (fun j hj e => (ak.p j hj e).trans (hp j hj e))
      refine ⟨x, M', P', B', o', (hrun (f := fun _ => .ret 0) ((pop_none t2.po).bind r1)).le (by simp; omega), r2, r3.trans (t3.trans d1), ⟨by rw [t4] at r4; omega, by rw [t4] at r4; push_cast; omega⟩, ak.trans r5, r6⟩
    | cons y l =>
      rw [hq] at t2 hrun
      obtain ⟨z, l2, hz⟩ : ∃ z l2, (y :: l).reverse ++ [] = z :: l2 := by
        cases e : (y :: l).reverse ++ [] with
        | nil => simp at e
        | cons z l2 => exact ⟨z, l2, rfl⟩
      rw [hz] at t2
      obtain ⟨M3, u1, u2, u3, u4, u5, u6, u7⟩ := t2.pop hC hme
      refine ⟨z, M3, l2, _, _, (hrun (f := fun _ => .ret 0) (u1.bind (b := 0) (by rw [allocL_no (by omega)]; exact RnV.ret _))).le ?_, u2, u3.trans (t3.trans d1), ⟨by omega, by push_cast; omega⟩, ak.trans u5, .inr ⟨u6, fun r => ?_⟩⟩
      · have hq4 : 4 ≤ yB (M.m 3 + 2) ∧ yB (M.m 3 + 2) ≤ 6 := by unfold yB; omega
        have := nd_len (h.nb _ hq4.1 hq4.2) (h.li _ hq4.1 hq4.2).bnd
        rw [hq] at this
        omega
      · unfold updW
        constructor
        · intro hr
          split at hr
          · assumption
          · exfalso
            have hr : (if r ∈ y :: l then (1 : Int) else o r) = 2 := hr
            split at hr
            · cases hr
            · exact ho r hr
        · intro e; rw [if_pos e]
/-- a record is made ready, or there is none -/
theorem StV.alloc (h : StV C M L P B o) (hC : C ≤ 100000) (hme : me < 2) (ho : ∀ r, o r ≠ 2) (he : M.m 3 + 5 < 18446744073709551616) (hp : ∀ j : Nat, j < 2 → j ≠ me → M.m (8 + j) = 0) :
    ∃ x M' P' B' o', RnV C me (allocP 2 me) M x M' (33 + 4 * C) ∧ StV C M' L P' B' o' ∧ M'.d = M.d ∧ (M.m 3 ≤ M'.m 3 ∧ M'.m 3 ≤ M.m 3 + 3) ∧ AkV me M.m M'.m ∧ ((x = 0 ∧ (∀ r, o' r ≠ 2) ∧ P' = [] ∧ ∀ i, 4 ≤ i → i ≤ 6 → B' i = []) ∨ ((1 ≤ x ∧ x ≤ C) ∧ ∀ r, o' r = 2 ↔ r = x)) := by
  unfold allocP
  cases P with
  | nil =>
    obtain ⟨x, M', P', B', o', r1, r2, r3, r4, r5, r6⟩ := allocL_run hC hme 3 (Nat.le_refl _) h (fun j a b => by simp at a; omega) ho (by simp; omega) hp
    exact ⟨x, M', P', B', o', ((pop_none h.po).bind r1).le (by omega), r2, r3, r4, r5, r6⟩
  | cons x l =>
    obtain ⟨M', u1, u2, u3, u4, u5, u6, u7⟩ := h.pop hC hme
    refine ⟨x, M', l, B, _, (u1.bind (b := 0) (by rw [allocL_no (by omega)]; exact RnV.ret _)).le (by omega), u2, u3, by omega, u5, .inr ⟨u6, fun r => ?_⟩⟩
    unfold updW
    constructor
    · intro hr
      split at hr
      · assumption
      · exact absurd hr (ho r)
    · intro e; rw [if_pos e]
end
end Go.Proofs.YtmfbamiciieooaaGreatDoor
/- The list, the free records and those that wait: what searches, seeks, links, marks and sweeps do, alone. Generic over the program. -/
namespace Go.Proofs.YtmfbamiciieooaaGreatDoor
set_option maxRecDepth 100000
set_option maxHeartbeats 16000000
open Go Go.RowKit
set_option linter.unusedSimpArgs false
set_option linter.unusedVariables false
/-- what stays: all that records tell, but for their next words, flags, and chains; and the words that count -/
structure FkV (m m' : Int → Int) : Prop where
  f : ∀ r f : Int, 1 ≤ r → 1 ≤ f → f ≤ 6 → m' (zQ 2 r f) = m (zQ 2 r f)
  s : m' 2 = m 2
  e : m' 3 = m 3
  z : m' 7 = m 7
  p : ∀ j : Nat, j < 2 → m' (8 + j) = m (8 + j)
theorem FkV.refl (m : Int → Int) : FkV m m := ⟨fun _ _ _ _ _ => rfl, rfl, rfl, rfl, fun _ _ => rfl⟩
theorem FkV.trans {m m1 m2 : Int → Int} (h1 : FkV m m1) (h2 : FkV m1 m2) : FkV m m2 := ⟨fun r f a b c => (h2.f r f a b c).trans (h1.f r f a b c), h2.s.trans h1.s, h2.e.trans h1.e, h2.z.trans h1.z, fun j a => (h2.p j a).trans (h1.p j a)⟩
theorem nx_cases (r : Int) (hr : 0 ≤ r) : yZ 2 r = 0 ∨ (1 ≤ r ∧ yZ 2 r = 8 * r + 2) := by
  rw [nx_eqV]
  split
  · exact .inl rfl
  · exact .inr ⟨by omega, rfl⟩
theorem xE.rem {C : Nat} {m : Int → Int} {x : Int} {b : Bool} {t : List (Int × Bool)} : ∀ {l1 : List (Int × Bool)} {p : Int}, 0 ≤ p → xE C m p false (l1 ++ (x, b) :: t) → (∀ y ∈ l1, y.2 = false) → (p :: nms (l1 ++ (x, b) :: t)).Nodup → xE C (updW m (yZ 2 (qN p l1)) (2 * hd t)) p false (l1 ++ t)
  | [], p, hp, h, _, hnd => by
    obtain ⟨h1, h2, h3⟩ := h
    have hnd : (p :: x :: nms t).Nodup := hnd
    have hpt : p ∉ nms t := fun e => (List.nodup_cons.1 hnd).1 (List.mem_cons_of_mem _ e)
    have hpo := h3.pos
    show xE C (updW m (yZ 2 p) (2 * hd t)) p false t
    cases t with
    | nil => exact updW_at _ _ _
    | cons y t =>
      obtain ⟨y, c⟩ := y
      refine ⟨(updW_at _ _ _).trans (by show 2 * y = 2 * y + 0; omega), h3.2.1, h3.2.2.keep fun q hq => wJ _ _ fun e => ?_⟩
      have hq2 : q ∈ nms ((y, c) :: t) := by
        rcases hq with rfl | hq
        · exact List.mem_cons_self ..
        · exact List.mem_cons_of_mem _ hq
      have e2 := nx_injV (by have := hpo q hq2; omega) hp e
      subst e2
      exact hpt hq2
  | (y, c) :: l1, p, hp, h, hu, hnd => by
    have hc : c = false := hu (y, c) (List.mem_cons_self ..)
    subst hc
    obtain ⟨h1, h2, h3⟩ := h
    have h3 : xE C m y false (l1 ++ (x, b) :: t) := h3
    have hnd : (p :: y :: nms (l1 ++ (x, b) :: t)).Nodup := hnd
    have ih := xE.rem (l1 := l1) (p := y) (by omega) h3 (fun z hz => hu z (List.mem_cons_of_mem _ hz)) (List.nodup_cons.1 hnd).2
    show xE C (updW m (yZ 2 (qN y l1)) (2 * hd t)) p false ((y, false) :: (l1 ++ t))
    refine ⟨(wJ _ _ fun e => ?_).trans h1, h2, ih⟩
    have hl : qN y l1 ∈ y :: nms (l1 ++ (x, b) :: t) := by
      rcases lastN_in l1 y with h | h
      · rw [h]; exact List.mem_cons_self ..
      · rw [y8]; exact List.mem_cons_of_mem _ (List.mem_append_left _ h)
    have hl0 : 0 ≤ qN y l1 := by
      rcases List.mem_cons.1 hl with h | h
      · omega
      · have := h3.pos _ h; omega
    have e2 := nx_injV hp hl0 e
    exact (List.nodup_cons.1 hnd).1 (e2 ▸ hl)
theorem refW_ofV {x : Int} {b : Bool} (h : 0 ≤ x ∧ x ≤ 100000) : xQ (2 * x + bI b) = x := refW_of h.1 h.2
theorem nms_rem {x : Int} {b : Bool} {l1 t : List (Int × Bool)} (h : (nms (l1 ++ (x, b) :: t)).Nodup) : (nms (l1 ++ t)).Nodup ∧ x ∉ nms (l1 ++ t) := by
  rw [y8] at h
  have h : (nms l1 ++ x :: nms t).Nodup := h
  obtain ⟨a, b2, c⟩ := List.nodup_append.1 h
  obtain ⟨d, e⟩ := List.nodup_cons.1 b2
  rw [y8]
  refine ⟨List.nodup_append.2 ⟨a, e, fun x hx y hy => c x hx y (List.mem_cons_of_mem _ hy)⟩, fun hx => ?_⟩
  rcases List.mem_append.1 hx with hx | hx
  · exact c x hx x (List.mem_cons_self ..) rfl
  · exact d hx
section
variable {C me : Nat} {M : Mm} {L : List (Int × Bool)} {P : List Int} {B : Int → List Int} {o : Int → Int}
theorem StV.nd0 (h : StV C M L P B o) : (0 :: nms L).Nodup := List.nodup_cons.2 ⟨fun e => by have := h.pos 0 e; omega, h.nl⟩
/-- what is marked, and whose death is durable, is taken out, and waits -/
theorem StV.take {x p w : Int} {l1 t : List (Int × Bool)} (h : StV C M (l1 ++ (x, true) :: t) P B o) (hC : C ≤ 100000) (hu : ∀ y ∈ l1, y.2 = false) (hp : p = qN 0 l1) (hw : w = 2 * hd t + 1) (hf : qJ (M.m (zQ 2 x 2)) 2 = true) :
    ∃ M', RnV C me (tookP 2 p x w) M (endW p (hd t)) M' 6 ∧ StV C M' (l1 ++ t) P (fun i => if i = yB (M.m 3) then x :: B i else B i) (updW o x (yB (M.m 3))) ∧ M'.d = M.d ∧ FkV M.m M'.m := by
  have e0 := h.e0
  have hx : 1 ≤ x ∧ x ≤ C := h.pos x (by rw [y8]; exact List.mem_append_right _ (List.mem_cons_self ..))
  have hox : o x = 0 := h.ol x (by rw [y8]; exact List.mem_append_right _ (List.mem_cons_self ..))
  have hpl : p = 0 ∨ p ∈ nms l1 := by rw [hp]; exact lastN_in l1 0
  have hpb : 0 ≤ p ∧ p ≤ C := by
    rcases hpl with e | e
    · omega
    · have := h.pos p (by rw [y8]; exact List.mem_append_left _ e); omega
  have h1 : M.m (yZ 2 p) = 2 * x := by rw [hp]; exact h.lk.cutw hu
  have ht : 0 ≤ hd t ∧ hd t ≤ C := by
    cases t with
    | nil => exact ⟨Int.le_refl _, by show (0 : Int) ≤ C; omega⟩
    | cons y t =>
      have := h.pos y.1 (by rw [y8]; exact List.mem_append_right _ (List.mem_cons_of_mem _ (List.mem_cons_self ..)))
      exact ⟨by show 0 ≤ y.1; omega, this.2⟩
  have hr : xQ w = hd t := by rw [hw]; exact refW_ofV (b := true) (by omega)
  obtain ⟨nd1, nd2⟩ := nms_rem h.nl
  generalize hq : yB (M.m 3) = q
  have q4 : 4 ≤ q ∧ q ≤ 6 := by rw [← hq]; unfold yB; omega
  have hnp := nx_cases p hpb.1
  have hin : InV C (yZ 2 p) := by rcases hnp with e | e <;> exact ⟨by omega, by omega⟩
  have a3 : (M.up (yZ 2 p) (2 * hd t)).m 3 = M.m 3 := Mm.yC _ _ (by omega)
  have aq : (M.up (yZ 2 p) (2 * hd t)).m q = M.m q := Mm.yC _ _ (by omega)
  have hrt := RnV.retire (me := me) (M := M.up (yZ 2 p) (2 * hd t)) hx (by rw [a3]; exact e0)
  rw [a3, hq, aq] at hrt
  have hk : ∀ c : Int, c ≠ yZ 2 p → c ≠ zQ 2 x 7 → c ≠ q → (((M.up (yZ 2 p) (2 * hd t)).up (zQ 2 x 7) (M.m q)).up q x).m c = M.m c := fun c a b d => by rw [Mm.yC _ _ d, Mm.yC _ _ b, Mm.yC _ _ a]
  have hnx : ∀ r, 0 ≤ r → (((M.up (yZ 2 p) (2 * hd t)).up (zQ 2 x 7) (M.m q)).up q x).m (yZ 2 r) = updW M.m (yZ 2 p) (2 * hd t) (yZ 2 r) := fun r hr => by
    rw [Mm.yC _ _ (by rcases nx_cases r hr with e | e <;> omega), Mm.yC _ _ (by rw [fv]; rcases nx_cases r hr with e | e <;> omega)]
    rfl
  have h7 : ∀ y, 1 ≤ y → y ≠ x → (((M.up (yZ 2 p) (2 * hd t)).up (zQ 2 x 7) (M.m q)).up q x).m (zQ 2 y 7) = M.m (zQ 2 y 7) := fun y h1 h2 => hk _ (by rw [fv]; omega) (fun e => h2 (f7_inj e)) (by rw [fv]; omega)
  have hne : ∀ r, o r ≠ 0 → r ≠ x := fun r hr e => hr (e ▸ hox)
  refine ⟨((M.up (yZ 2 p) (2 * hd t)).up (zQ 2 x 7) (M.m q)).up q x, ?_, ⟨?_, ?_, fun i a b => ?_, fun r hr => ?_, fun r hr => ?_, fun i a b r hr => ?_, nd1, h.np, fun i a b => ?_, fun r a b => ?_, ?_⟩, rfl, ⟨fun r f a b c => hk _ ?_ ?_ ?_, hk _ ?_ ?_ ?_, hk _ ?_ ?_ ?_, hk _ ?_ ?_ ?_, fun j a => hk _ ?_ ?_ ?_⟩⟩
  · unfold tookP takeP
    refine RnV.bind (a := 6) (b := 0) (x := .done) (M1 := ((M.up (yZ 2 p) (2 * hd t)).up (zQ 2 x 7) (M.m q)).up q x) (RnV.bind (a := 1) (b := 5) (M2 := ((M.up (yZ 2 p) (2 * hd t)).up (zQ 2 x 7) (M.m q)).up q x) (RnV.saved hx hf) ?_) ?_
    · rw [cond_true, hr]
      refine RnV.bind (a := 1) (b := 4) (RnV.cas hin h1) ?_
      rw [cond_true]
      exact hrt.bind (b := 0) (RnV.ret _)
    · unfold tookR
      rw [hr]
      exact RnV.ret _
  · rw [hp] at hnx
    have := xE.rem (l1 := l1) (Int.le_refl 0) h.lk hu h.nd0
    refine this.keep fun r hr => ?_
    have hr0 : 0 ≤ r := by
      rcases hr with rfl | hr
      · omega
      · have := this.pos r hr; omega
    rw [hp]
    exact hnx r hr0
  · rw [hk 1 (by omega) (by rw [fv]; omega) (by omega)]
    exact h.po.keep fun y hy => h7 y (h.po.bnd y hy).1 (hne y (by rw [h.op y hy]; decide))
  · have hi := h.li i a b
    have hc : ChV C (((M.up (yZ 2 p) (2 * hd t)).up (zQ 2 x 7) (M.m q)).up q x).m (M.m i) (B i) := hi.keep fun y hy => h7 y (hi.bnd y hy).1 (hne y (by rw [h.ob i a b y hy]; omega))
    by_cases e : i = q
    · subst e
      rw [if_pos rfl, Mm.up_at]
      refine ⟨rfl, hx, ?_⟩
      rw [Mm.yC _ _ (by rw [fv]; omega), Mm.up_at]
      exact hc
    · rw [if_neg e, hk i (by omega) (by rw [fv]; omega) e]
      exact hc
  · rw [wJ _ _ (fun e : r = x => nd2 (e ▸ hr))]
    refine h.ol r ?_
    rw [y8] at hr ⊢
    rcases List.mem_append.1 hr with hr | hr
    · exact List.mem_append_left _ hr
    · exact List.mem_append_right _ (List.mem_cons_of_mem _ hr)
  · rw [wJ _ _ (hne r (by rw [h.op r hr]; decide))]
    exact h.op r hr
  · have hmem : ∀ r, r ∈ B i → updW o x q r = i := fun r hr => by
      rw [wJ _ _ (hne r (by rw [h.ob i a b r hr]; omega))]
      exact h.ob i a b r hr
    by_cases e : i = q
    · subst e
      rw [if_pos rfl] at hr
      rcases List.mem_cons.1 hr with rfl | hr
      · exact updW_at _ _ _
      · exact hmem r hr
    · rw [if_neg e] at hr
      exact hmem r hr
  · by_cases e : i = q
    · rw [if_pos e]
      exact List.nodup_cons.2 ⟨fun hb => by have := h.ob i a b x hb; omega, h.nb i a b⟩
    · rw [if_neg e]; exact h.nb i a b
  · by_cases e : r = x
    · subst e
      exact .inr (.inr (.inr ⟨q, q4.1, q4.2, by rw [if_pos rfl]; exact List.mem_cons_self ..⟩))
    · rw [wJ _ _ e]
      rcases h.al r a b with h | h | h | ⟨i, h1, h2, h3⟩
      · exact .inl h
      · refine .inr (.inl ?_)
        rw [y8] at h ⊢
        rcases List.mem_append.1 h with h | h
        · exact List.mem_append_left _ h
        · rcases List.mem_cons.1 (show r ∈ x :: nms t from h) with h | h
          · exact absurd h e
          · exact List.mem_append_right _ h
      · exact .inr (.inr (.inl h))
      · refine .inr (.inr (.inr ⟨i, h1, h2, ?_⟩))
        split
        · exact List.mem_cons_of_mem _ h3
        · exact h3
  · rw [hk 3 (by omega) (by rw [fv]; omega) (by omega)]; exact e0
  all_goals first
    | omega
    | (rw [fv]; omega)
    | (rw [fv, fv]; omega)
/-- a search of a list without marks -/
theorem search_fromV (hC : C ≤ 100000) (k : Int) : ∀ {l : List (Int × Bool)} {p : Int} {n : Nat}, xE C M.m p false l → 0 ≤ p → (∀ y ∈ l, y.2 = false) → l.length ≤ n → RnV C me (contL 2 (xX 2 k) n p (hd l)) M (srch (fun r => M.m (zQ 2 r 1)) k p l) M (2 * l.length)
  | [], p, n, h, hp, hu, hn => RnV.ret _
  | (x, b) :: l, p, 0, h, hp, hu, hn => absurd hn (by simp)
  | (x, b) :: l, p, n + 1, h, hp, hu, hn => by
    have hb : b = false := hu (x, b) (List.mem_cons_self ..)
    subst hb
    obtain ⟨h1, hx, h2⟩ := h
    have hle := h2.hd_le
    have ew : M.m (zQ 2 x 0) = 2 * hd l + bI false := by rw [← nx_posV hx.1]; exact h2.word
    have hr : xQ (2 * hd l + bI false) = hd l := refW_ofV (by omega)
    have e0 : contL 2 (xX 2 k) (n + 1) p (hd ((x, false) :: l)) = Pr.loop (yX 2 (xX 2 k)) (n + 1) (some (p, x)) := by
      show (bif decide (x = 0) then _ else _) = _
      rw [decide_eq_false (show ¬ x = 0 by omega)]; rfl
    rw [e0]
    have rd : RnV C me (yX 2 (xX 2 k) (some (p, x))) M (bif decide (k ≤ M.m (zQ 2 x 1)) then .inr ⟨p, x, decide (M.m (zQ 2 x 1) = k), true⟩ else endW x (hd l)) M 2 := by
      show RnV C me ((xD (zQ 2 x 0)).bind fun w => bif decide (w % 2 = 1) then tookP 2 p x w else xX 2 k p x w) M _ M 2
      refine (RnV.load (inV hx (by decide))).bind (b := 1) ?_
      rw [ew, odd_of, cond_false]
      unfold xX
      refine (RnV.load (inV hx (by decide))).bind (b := 0) ?_
      rw [hr]
      cases decide (k ≤ M.m (zQ 2 x 1))
      · exact RnV.ret _
      · exact RnV.ret _
    show RnV C me _ M (bif decide (k ≤ M.m (zQ 2 x 1)) then (⟨p, x, decide (M.m (zQ 2 x 1) = k), true⟩ : wZ) else srch (fun r => M.m (zQ 2 r 1)) k x l) M _
    cases e : decide (k ≤ M.m (zQ 2 x 1)) with
    | true =>
      rw [e, cond_true] at rd
      exact (RnV.loop (b := 0) rd (RnV.ret _)).le (by simp; omega)
    | false =>
      rw [e, cond_false] at rd
      refine (RnV.loop (a := 2) (b := 2 * l.length) rd ?_).le (by simp; omega)
      rw [qY]
      exact search_fromV hC k h2 (by omega) (fun y hy => hu y (List.mem_cons_of_mem _ hy)) (by simp at hn; omega)
theorem StV.search (h : StV C M L P B o) (hC : C ≤ 100000) (hu : ∀ y ∈ L, y.2 = false) (k : Int) : RnV C me (vI 2 k) M (srch (fun r => M.m (zQ 2 r 1)) k 0 L) M (1 + 2 * L.length) := by
  have hl : L.length ≤ C := by have := nd_len h.nl h.pos; simpa [nms] using this
  have e := search_fromV (me := me) hC k (n := 1000000) h.lk (Int.le_refl 0) hu (by omega)
  have hb := h.lk.hd_le
  unfold vI
  refine RnV.bind (a := 1 + 2 * L.length) (b := 0) (x := srch (fun r => M.m (zQ 2 r 1)) k 0 L) (M1 := M) ?_ ?_
  · show RnV C me (Pr.loop (yX 2 (xX 2 k)) (1000000 + 1) none) M _ M _
    refine RnV.loop (r := endW 0 (hd L)) (M1 := M) ?_ (by rw [qY]; exact e)
    refine (RnV.load (c := 0) ⟨by decide, by omega⟩).bind (b := 0) ?_
    have hw : M.m 0 = 2 * hd L + bI false := h.lk.word
    rw [hw, refW_ofV (by omega)]
    exact RnV.ret _
  · rw [srch_ok, cond_true]
    exact RnV.ret _
/-- a seek from the beginning -/
theorem seek_fromV (hC : C ≤ 100000) (k : Int) : ∀ {l : List (Int × Bool)} {p : Int} {b : Bool} {n : Nat}, xE C M.m p b l → l.length ≤ n → RnV C me (contS 2 k n (hd l)) M (sekN (fun r => M.m (zQ 2 r 1)) k l) M (2 * l.length)
  | [], p, b, n, h, hn => RnV.ret _
  | (x, b) :: l, p, b0, 0, h, hn => absurd hn (by simp)
  | (x, b) :: l, p, b0, n + 1, h, hn => by
    obtain ⟨h1, hx, h2⟩ := h
    have hle := h2.hd_le
    have ew : M.m (zQ 2 x 0) = 2 * hd l + bI b := by rw [← nx_posV hx.1]; exact h2.word
    have e0 : contS 2 k (n + 1) (hd ((x, b) :: l)) = Pr.loop (wG 2 k) (n + 1) x := by
      show (bif decide (x = 0) then _ else _) = _
      rw [decide_eq_false (show ¬ x = 0 by omega)]; rfl
    rw [e0]
    show RnV C me _ M (bif decide (k ≤ M.m (zQ 2 x 1)) then (x, decide (M.m (zQ 2 x 1) = k)) else sekN (fun r => M.m (zQ 2 r 1)) k l) M _
    cases e : decide (k ≤ M.m (zQ 2 x 1)) with
    | true =>
      refine (RnV.loop (a := 1) (b := 0) (r := .inr (x, decide (M.m (zQ 2 x 1) = k))) ?_ (RnV.ret _)).le (by simp; omega)
      unfold wG
      refine (RnV.load (inV hx (by decide))).bind (b := 0) ?_
      rw [e, cond_true]
      exact RnV.ret _
    | false =>
      refine (RnV.loop (a := 2) (b := 2 * l.length) (r := endS (hd l)) (M1 := M) ?_ ?_).le (by simp; omega)
      · unfold wG
        refine (RnV.load (inV hx (by decide))).bind (b := 1) ?_
        rw [e, cond_false]
        refine (RnV.load (inV hx (by decide))).bind (b := 0) ?_
        rw [ew, refW_ofV (by omega)]
        exact RnV.ret _
      · rw [contS_eq]
        exact seek_fromV hC k h2 (by simp at hn; omega)
theorem StV.seek (h : StV C M L P B o) (hC : C ≤ 100000) (k : Int) : RnV C me (seekP 2 0 k) M (sekN (fun r => M.m (zQ 2 r 1)) k L) M (1 + 2 * L.length) := by
  have hl : L.length ≤ C := by have := nd_len h.nl h.pos; simpa [nms] using this
  have hb := h.lk.hd_le
  have hw : M.m (yZ 2 0) = 2 * hd L + bI false := h.lk.word
  unfold seekP
  refine (RnV.load (c := yZ 2 0) ⟨by decide, by show (0 : Int) < _; omega⟩).bind ?_
  rw [hw, refW_ofV (by omega)]
  have e := seek_fromV (me := me) hC k (n := many) h.lk (by have : many = 1000001 := rfl; omega)
  unfold contS at e
  exact e
/-- a record that was in somebody's hands is linked -/
theorem StV.link {l1 l2 : List (Int × Bool)} {p x r : Int} (h : StV C M (l1 ++ l2) P B o) (hu : ∀ y ∈ l1, y.2 = false) (hp : p = qN 0 l1) (hx : x = hd l2) (hr : 1 ≤ r ∧ r ≤ C) (hor : o r = 2) :
    ∃ M', RnV C me (linkP 2 p x r) M true M' 2 ∧ StV C M' (l1 ++ (r, false) :: l2) P B (updW o r 0) ∧ M'.d = M.d ∧ FkV M.m M'.m := by
  have hr0 : r ∉ nms (l1 ++ l2) := fun e => by have := h.ol r e; omega
  have hpl : p = 0 ∨ p ∈ nms l1 := by rw [hp]; exact lastN_in l1 0
  have hpb : 0 ≤ p ∧ p ≤ C := by
    rcases hpl with e | e
    · omega
    · have := h.pos p (by rw [y8]; exact List.mem_append_left _ e); omega
  have hpr : p ≠ r := fun e => by
    rcases hpl with h1 | h1
    · omega
    · exact hr0 (by rw [y8, ← e]; exact List.mem_append_left _ h1)
  have hw : M.m (yZ 2 p) = 2 * x := by rw [hp, hx]; exact h.lk.cutw hu
  have hnp := nx_cases p hpb.1
  have hnr : yZ 2 r = 8 * r + 2 := by rw [nx_posV hr.1, fv]; omega
  have hk : ∀ c : Int, c ≠ yZ 2 r → c ≠ yZ 2 p → ((M.up (yZ 2 r) (2 * x)).up (yZ 2 p) (2 * r)).m c = M.m c := fun c a b => by rw [Mm.yC _ _ b, Mm.yC _ _ a]
  have h7 : ∀ y, 1 ≤ y → ((M.up (yZ 2 r) (2 * x)).up (yZ 2 p) (2 * r)).m (zQ 2 y 7) = M.m (zQ 2 y 7) := fun y hy => hk _ (by rw [fv]; omega) (by rw [fv]; omega)
  have hne : ∀ y, o y ≠ 2 → y ≠ r := fun y hy e => hy (e ▸ hor)
  refine ⟨(M.up (yZ 2 r) (2 * x)).up (yZ 2 p) (2 * r), ?_, ⟨?_, ?_, fun i a b => ?_, fun y hy => ?_, fun y hy => ?_, fun i a b y hy => ?_, nd_ins h.nl hr0, h.np, h.nb, fun y a b => ?_, ?_⟩, rfl, ⟨fun y f a b c => hk _ ?_ ?_, hk _ ?_ ?_, hk _ ?_ ?_, hk _ ?_ ?_, fun j a => hk _ ?_ ?_⟩⟩
  · unfold linkP
    refine RnV.bind (a := 1) (b := 1) (RnV.store ⟨by omega, by omega⟩) ?_
    refine RnV.cas ⟨by omega, by omega⟩ ?_
    rw [Mm.yC _ _ (by omega), hw]
  · rw [hp, hx]
    exact xE.ins hr (Int.le_refl _) h.lk hu h.nd0 (fun e => by
      rcases List.mem_cons.1 e with e | e
      · omega
      · exact hr0 e)
  · rw [hk 1 (by omega) (by omega)]
    exact h.po.keep fun y hy => h7 y (h.po.bnd y hy).1
  · rw [hk i (by omega) (by omega)]
    exact (h.li i a b).keep fun y hy => h7 y ((h.li i a b).bnd y hy).1
  · rcases mem_ins.1 hy with rfl | hy
    · exact updW_at _ _ _
    · rw [wJ _ _ (hne y (by rw [h.ol y hy]; decide))]; exact h.ol y hy
  · rw [wJ _ _ (hne y (by rw [h.op y hy]; decide))]; exact h.op y hy
  · rw [wJ _ _ (hne y (by rw [h.ob i a b y hy]; omega))]; exact h.ob i a b y hy
  · by_cases e : y = r
    · exact .inr (.inl (mem_ins.2 (.inl e)))
    · rw [wJ _ _ e]
      rcases h.al y a b with h | h | h
      · exact .inl h
      · exact .inr (.inl (mem_ins.2 (.inr h)))
      · exact .inr (.inr h)
  · rw [hk 3 (by omega) (by omega)]; exact h.e0
  all_goals first
    | omega
    | (rw [fv]; omega)
/-- a record is marked -/
theorem StV.mark {l1 t : List (Int × Bool)} {x : Int} (h : StV C M (l1 ++ (x, false) :: t) P B o) :
    ∃ M', RnV C me (markP 2 x) M true M' 2 ∧ StV C M' (l1 ++ (x, true) :: t) P B o ∧ M'.d = M.d ∧ FkV M.m M'.m := by
  obtain ⟨h1, hx⟩ := h.lk.even
  have hnx : yZ 2 x = 8 * x + 2 := by rw [nx_posV hx.1, fv]; omega
  have hi : InV C (yZ 2 x) := ⟨by omega, by omega⟩
  have hk : ∀ c : Int, c ≠ yZ 2 x → (M.up (yZ 2 x) (M.m (yZ 2 x) + 1)).m c = M.m c := fun c a => Mm.yC _ _ a
  have hnn : nms (l1 ++ (x, true) :: t) = nms (l1 ++ (x, false) :: t) := by rw [y8, y8]; rfl
  refine ⟨M.up (yZ 2 x) (M.m (yZ 2 x) + 1), ?_, ⟨h.lk.mrk (Int.le_refl _) h.nd0, ?_, fun i a b => ?_, by rw [hnn]; exact h.ol, h.op, h.ob, by rw [hnn]; exact h.nl, h.np, h.nb, by rw [hnn]; exact h.al, ?_⟩, rfl, ⟨fun y f a b c => hk _ ?_, hk _ ?_, hk _ ?_, hk _ ?_, fun j a => hk _ ?_⟩⟩
  · unfold markP
    refine RnV.bind (a := 1) (b := 1) (RnV.load hi) ?_
    rw [h1, cond_false]
    exact RnV.cas hi rfl
  · rw [hk 1 (by omega)]
    exact h.po.keep fun y hy => hk _ (by rw [fv]; omega)
  · rw [hk i (by omega)]
    exact (h.li i a b).keep fun y hy => hk _ (by rw [fv]; omega)
  · rw [hk 3 (by omega)]; exact h.e0
  all_goals first
    | omega
    | (rw [fv]; omega)
/-- words of a record are written that no list and no chain hangs on -/
theorem StV.put {x f v : Int} (h : StV C M L P B o) (hx : 1 ≤ x) (hf : 1 ≤ f ∧ f ≤ 6) : StV C (M.up (zQ 2 x f) v) L P B o := by
  have hk : ∀ c : Int, c ≠ zQ 2 x f → (M.up (zQ 2 x f) v).m c = M.m c := fun c a => Mm.yC _ _ a
  refine ⟨h.lk.keep fun r hr => hk _ ?_, ?_, fun i a b => ?_, h.ol, h.op, h.ob, h.nl, h.np, h.nb, h.al, ?_⟩
  · have : 0 ≤ r := by
      rcases hr with rfl | hr
      · omega
      · have := h.pos r hr; omega
    rw [fv]
    rcases nx_cases r this with e | e <;> omega
  · rw [hk 1 (by rw [fv]; omega)]
    exact h.po.keep fun y hy => hk _ (by rw [fv, fv]; omega)
  · rw [hk i (by rw [fv]; omega)]
    exact (h.li i a b).keep fun y hy => hk _ (by rw [fv, fv]; omega)
  · rw [hk 3 (by rw [fv]; omega)]; exact h.e0
theorem StV.dsk (h : StV C M L P B o) (i : Nat) (b : List Int) : StV C (M.ap i b) L P B o := ⟨h.lk, h.po, h.li, h.ol, h.op, h.ob, h.nl, h.np, h.nb, h.al, h.e0⟩
theorem StV.cnt (h : StV C M L P B o) (v : Int) : StV C (M.up 2 v) L P B o := by
  have hk : ∀ c : Int, c ≠ 2 → (M.up 2 v).m c = M.m c := fun c a => Mm.yC _ _ a
  refine ⟨h.lk.keep fun r hr => hk _ ?_, ?_, fun i a b => ?_, h.ol, h.op, h.ob, h.nl, h.np, h.nb, h.al, by rw [hk 3 (by decide)]; exact h.e0⟩
  · have : 0 ≤ r := by
      rcases hr with rfl | hr
      · omega
      · have := h.pos r hr; omega
    rcases nx_cases r this with e | e <;> omega
  · rw [hk 1 (by decide)]
    exact h.po.keep fun y hy => hk _ (by rw [fv]; have := h.po.bnd y hy; omega)
  · rw [hk i (by omega)]
    exact (h.li i a b).keep fun y hy => hk _ (by rw [fv]; have := (h.li i a b).bnd y hy; omega)
end
end Go.Proofs.YtmfbamiciieooaaGreatDoor
/- Vertices: what adding, removing, and asking do, alone, in a world of two threads. Generic over the program. -/
namespace Go.Proofs.YtmfbamiciieooaaGreatDoor
set_option maxRecDepth 100000
set_option maxHeartbeats 16000000
open Go Go.RowKit
set_option linter.unusedSimpArgs false
set_option linter.unusedVariables false
/-- records, none of them marked -/
def cl (R : List Int) : List (Int × Bool) := R.map fun r => (r, false)
theorem cl_nms (R : List Int) : nms (cl R) = R := by simp [nms, cl, Function.comp_def]
theorem cl_u (R : List Int) : ∀ y ∈ cl R, y.2 = false := fun y hy => by
  obtain ⟨r, _, rfl⟩ := List.mem_map.1 hy
  rfl
theorem cl_app (R S : List Int) : cl (R ++ S) = cl R ++ cl S := List.map_append
theorem cl_len (R : List Int) : (cl R).length = R.length := List.length_map _
theorem cl_mem {R : List Int} {y : Int × Bool} (h : y ∈ cl R) : y.1 ∈ R := by
  obtain ⟨r, h2, rfl⟩ := List.mem_map.1 h
  exact h2
theorem lastN_snoc (x : Int) (b : Bool) : ∀ (l : List (Int × Bool)) (p : Int), qN p (l ++ [(x, b)]) = x
  | [], _ => rfl
  | (y, c) :: l, p => lastN_snoc x b l y
theorem flt_app (l k : List (Int × Bool)) : (l ++ k).filter (fun y => !y.2) = l.filter (fun y => !y.2) ++ k.filter (fun y => !y.2) := List.filter_append ..
theorem flt_cl (R : List Int) : (cl R).filter (fun y => !y.2) = cl R := List.filter_eq_self.2 fun y hy => by rw [cl_u R y hy]; rfl
/-- where a key is, or would be -/
def atK (key : Int → Int) (k : Int) : List Int → Bool
  | [] => false
  | y :: _ => decide (key y = k)
theorem srch_split {key : Int → Int} {k : Int} {R1 R2 : List Int} (h1 : ∀ y ∈ R1, key y < k) (h2 : ∀ y ∈ R2, k ≤ key y) : srch key k 0 (cl (R1 ++ R2)) = ⟨qN 0 (cl R1), hd (cl R2), atK key k R2, true⟩ := by
  rw [cl_app, (srch_low key k (cl R2) fun y hy => ⟨cl_u R1 y hy, h1 _ (cl_mem hy)⟩).1]
  cases R2 with
  | nil => rfl
  | cons y t =>
    show (bif decide (k ≤ key y) then (⟨_, y, decide (key y = k), true⟩ : wZ) else _) = _
    rw [decide_eq_true (h2 y (List.mem_cons_self ..))]
    rfl
theorem key_split (key : Int → Int) (k : Int) : ∀ (R : List Int), (R.map key).Pairwise (· < ·) → ∃ R1 R2, R = R1 ++ R2 ∧ (∀ y ∈ R1, key y < k) ∧ (∀ y ∈ R2, k ≤ key y)
  | [], _ => ⟨[], [], rfl, (fun y h => by cases h), fun y h => by cases h⟩
  | r :: R, h => by
    obtain ⟨h1, h2⟩ := List.pairwise_cons.1 (show (key r :: R.map key).Pairwise (· < ·) from h)
    by_cases c : key r < k
    · obtain ⟨R1, R2, e, a, b⟩ := key_split key k R h2
      exact ⟨r :: R1, R2, by rw [e]; rfl, (fun y hy => by
        rcases List.mem_cons.1 hy with rfl | hy
        · exact c
        · exact a y hy), b⟩
    · exact ⟨[], r :: R, rfl, (fun y h => by cases h), fun y hy => by
        rcases List.mem_cons.1 hy with rfl | hy
        · omega
        · have := h1 (key y) (List.mem_map_of_mem hy); omega⟩
theorem atK_mem {key : Int → Int} {k : Int} {R1 R2 : List Int} (hs : ((R1 ++ R2).map key).Pairwise (· < ·)) (h1 : ∀ y ∈ R1, key y < k) (h2 : ∀ y ∈ R2, k ≤ key y) : atK key k R2 = true ↔ k ∈ (R1 ++ R2).map key := by
  rw [List.map_append, List.mem_append]
  constructor
  · intro h
    cases R2 with
    | nil => cases h
    | cons y t => exact .inr (by rw [← of_decide_eq_true h]; exact List.mem_map_of_mem (List.mem_cons_self ..))
  · rintro (h | h)
    · obtain ⟨y, hy, e⟩ := List.mem_map.1 h
      have := h1 y hy; omega
    · obtain ⟨y, hy, e⟩ := List.mem_map.1 h
      cases R2 with
      | nil => cases hy
      | cons z t =>
        rcases List.mem_cons.1 hy with rfl | hy
        · exact decide_eq_true e
        · have a := h2 z (List.mem_cons_self ..)
          rw [List.map_append] at hs
          have hs2 := (List.pairwise_append.1 hs).2.1
          have b := (List.pairwise_cons.1 (show (key z :: t.map key).Pairwise (· < ·) from hs2)).1 (key y) (List.mem_map_of_mem hy)
          omega
theorem has1_flag (s : Int) : qJ (qI s 0) 1 = false ∧ qJ (qI s 0) 2 = false ∧ qJ (qI s 0 + 1) 1 = true ∧ qJ (qI s 0 + 1) 2 = false ∧ qI s 0 / 4 = s % 4611686018427387904 ∧ (qI s 0 + 1) / 4 = s % 4611686018427387904 := by
  unfold qJ qI
  simp
  omega
section
variable {C me : Nat} {M : Mm} {P : List Int} {B : Int → List Int} {o : Int → Int}
/-- a sweep takes out what is marked, and no vertex else -/
theorem sweepV_from (hC : C ≤ 100000) (s : Int) : ∀ (l : List (Int × Bool)) {l1 : List (Int × Bool)} {M : Mm} {B : Int → List Int} {o : Int → Int} {p : Int} {n : Nat}, StV C M (l1 ++ l) P B o → (∀ y ∈ l1, y.2 = false) → p = qN 0 l1 →
    (∀ y ∈ l, y.2 = true → qJ (M.m (zQ 2 y.1 2)) 2 = true) → (∀ y ∈ l, y.2 = false → M.m (zQ 2 y.1 1) % 2147483648 = 0) → l.length ≤ n →
    ∃ r M' B' o', RnV C me (contL 2 (xH 2 s) n p (hd l)) M r M' (7 * l.length) ∧ r.ok = true ∧ StV C M' (l1 ++ l.filter (fun y => !y.2)) P B' o' ∧ M'.d = M.d ∧ FkV M.m M'.m ∧ ∀ y, o' y = 2 → o y = 2
  | [], l1, M, B, o, p, n, h, hu, hp, hm, hv, hn => ⟨_, M, B, o, RnV.ret _, rfl, h, rfl, FkV.refl _, fun _ h => h⟩
  | (x, b) :: l, l1, M, B, o, p, 0, h, hu, hp, hm, hv, hn => absurd hn (by simp)
  | (x, b) :: l, l1, M, B, o, p, n + 1, h, hu, hp, hm, hv, hn => by
    have hn' : l.length ≤ n := by simp at hn; omega
    have hx : 1 ≤ x ∧ x ≤ C := h.pos x (by rw [y8]; exact List.mem_append_right _ (List.mem_cons_self ..))
    have hl2 : 0 ≤ hd l ∧ hd l ≤ C := by
      cases l with
      | nil => exact ⟨Int.le_refl _, by show (0 : Int) ≤ C; omega⟩
      | cons y t =>
        have := h.pos y.1 (by rw [y8]; exact List.mem_append_right _ (List.mem_cons_of_mem _ (List.mem_cons_self ..)))
        exact ⟨by show 0 ≤ y.1; omega, this.2⟩
    have ew : M.m (zQ 2 x 0) = 2 * hd l + bI b := by
      have : ∀ {l1 : List (Int × Bool)} {q : Int} {k : Bool}, xE C M.m q k (l1 ++ (x, b) :: l) → M.m (yZ 2 x) = 2 * hd l + bI b := fun {l1} => by
        induction l1 with
        | nil => exact fun h => h.2.2.word
        | cons y t ih => exact fun h => ih h.2.2
      rw [← nx_posV hx.1]
      exact this h.lk
    have e0 : contL 2 (xH 2 s) (n + 1) p (hd ((x, b) :: l)) = Pr.loop (yX 2 (xH 2 s)) (n + 1) (some (p, x)) := by
      show (bif decide (x = 0) then _ else _) = _
      rw [decide_eq_false (show ¬ x = 0 by omega)]; rfl
    rw [e0]
    cases b with
    | true =>
      obtain ⟨M1, t1, t2, t3, t4⟩ := h.take (me := me) hC hu hp (w := 2 * hd l + 1) rfl (hm (x, true) (List.mem_cons_self ..) rfl)
      have hq4 : 4 ≤ yB (M.m 3) ∧ yB (M.m 3) ≤ 6 := by unfold yB; omega
      have hb := fun y (hy : y ∈ l) => h.pos y.1 (by rw [y8]; exact List.mem_append_right _ (List.mem_cons_of_mem _ (List.mem_map_of_mem hy)))
      obtain ⟨r, M', B', o', r1, r2, r3, r4, r5, r6⟩ := sweepV_from hC s l (n := n) t2 hu hp (fun y hy ht => by rw [t4.f _ _ (hb y hy).1 (by decide) (by decide)]; exact hm y (List.mem_cons_of_mem _ hy) ht) (fun y hy ht => by rw [t4.f _ _ (hb y hy).1 (by decide) (by decide)]; exact hv y (List.mem_cons_of_mem _ hy) ht) hn'
      refine ⟨r, M', B', o', (RnV.loop (a := 7) (b := 7 * l.length) (r := endW p (hd l)) (M1 := M1) ?_ (by rw [qY]; exact r1)).le (by simp; omega), r2, r3, r4.trans t3, t4.trans r5, fun y hy => ?_⟩
      · show RnV C me ((xD (zQ 2 x 0)).bind fun w => bif decide (w % 2 = 1) then tookP 2 p x w else xH 2 s p x w) M _ M1 7
        refine (RnV.load (inV hx (by decide))).bind (b := 6) ?_
        rw [ew, odd_of, cond_true]
        exact t1
      · have := r6 y hy
        unfold updW at this
        split at this
        · omega
        · exact this
    | false =>
      have e1 : l1 ++ (x, false) :: l = (l1 ++ [(x, false)]) ++ l := by simp
      have hr : xQ (2 * hd l + bI false) = hd l := refW_ofV (by omega)
      obtain ⟨r, M', B', o', r1, r2, r3, r4, r5, r6⟩ := sweepV_from hC s l (l1 := l1 ++ [(x, false)]) (p := x) (n := n) (e1 ▸ h) (fun y hy => by
        rcases List.mem_append.1 hy with hy | hy
        · exact hu y hy
        · rw [List.mem_singleton.1 hy]) (lastN_snoc x false l1 0).symm (fun y hy => hm y (List.mem_cons_of_mem _ hy)) (fun y hy => hv y (List.mem_cons_of_mem _ hy)) hn'
      refine ⟨r, M', B', o', (RnV.loop (a := 2) (b := 7 * l.length) (r := endW x (hd l)) (M1 := M) ?_ (by rw [qY]; exact r1)).le (by simp; omega), r2, ?_, r4, r5, r6⟩
      · show RnV C me ((xD (zQ 2 x 0)).bind fun w => bif decide (w % 2 = 1) then tookP 2 p x w else xH 2 s p x w) M _ M 2
        refine (RnV.load (inV hx (by decide))).bind (b := 1) ?_
        rw [ew, odd_of, cond_false]
        unfold xH sweepIn
        refine RnV.bind (a := 1) (b := 0) (x := false) (M1 := M) ((RnV.load (inV hx (by decide))).bind (b := 0) ?_) ?_
        · rw [decide_eq_true (hv (x, false) (List.mem_cons_self ..) rfl), cond_true]
          exact RnV.ret _
        · rw [cond_false, hr]
          exact RnV.ret _
      · have e2 : l1 ++ ((x, false) :: l).filter (fun y => !y.2) = (l1 ++ [(x, false)]) ++ l.filter (fun y => !y.2) := by simp
        rw [e2]
        exact r3
theorem StV.sweepV {l : List (Int × Bool)} (h : StV C M l P B o) (hC : C ≤ 100000) (s : Int) (hm : ∀ y ∈ l, y.2 = true → qJ (M.m (zQ 2 y.1 2)) 2 = true) (hv : ∀ y ∈ l, y.2 = false → M.m (zQ 2 y.1 1) % 2147483648 = 0) :
    ∃ M' B' o', RnV C me (kJ 2 s) M true M' (1 + 7 * l.length) ∧ StV C M' (l.filter (fun y => !y.2)) P B' o' ∧ M'.d = M.d ∧ FkV M.m M'.m ∧ ∀ y, o' y = 2 → o y = 2 := by
  have hl : l.length ≤ C := by have := nd_len h.nl h.pos; simpa [nms] using this
  obtain ⟨r, M', B', o', r1, r2, r3, r4, r5, r6⟩ := sweepV_from (me := me) hC s l (l1 := []) (n := 1000000) h (fun y hy => by cases hy) rfl hm hv (by omega)
  have hb := h.lk.hd_le
  refine ⟨M', B', o', ?_, r3, r4, r5, r6⟩
  unfold kJ sweepL
  refine RnV.bind (a := 1 + 7 * l.length) (b := 0) (x := r) (M1 := M') ?_ (by rw [r2]; exact RnV.ret _)
  show RnV C me (Pr.loop (yX 2 (xH 2 s)) (1000000 + 1) none) M _ M' _
  refine RnV.loop (r := endW 0 (hd l)) (M1 := M) ?_ (by rw [qY]; exact r1)
  refine (RnV.load (c := 0) ⟨by decide, by omega⟩).bind (b := 0) ?_
  have hw : M.m 0 = 2 * hd l + bI false := h.lk.word
  rw [hw, refW_ofV (by omega)]
  exact RnV.ret _
theorem stores_run {r : Int} (hr : 1 ≤ r ∧ r ≤ C) : ∀ (l : List (Int × Int)) {M : Mm}, (∀ p ∈ l, 0 ≤ p.1 ∧ p.1 ≤ 7) → RnV C me (wK 2 r l) M () (l.foldl (fun M p => M.up (zQ 2 r p.1) p.2) M) l.length
  | [], M, _ => RnV.ret _
  | p :: l, M, h => (RnV.bind (a := 1) (b := l.length) (RnV.store (inV hr (h p (List.mem_cons_self ..)))) (stores_run hr l fun q hq => h q (List.mem_cons_of_mem _ hq))).le (by simp; omega)
/-- a record is made -/
def stM (M : Mm) : Int := IntKind.u64.wrap (M.m 2 + 1)
def mkM (M : Mm) (r k : Int) : Mm := ((((((M.up 2 (stM M)).up (zQ 2 r 2) (qI (stM M) 0)).up (zQ 2 r 1) k).up (zQ 2 r 3) 0).up (zQ 2 r 4) 0).up (zQ 2 r 5) 0).up (zQ 2 r 6) 0
theorem make_run {r k : Int} (hr : 1 ≤ r ∧ r ≤ C) : RnV C me (makeP 2 r k 0 0 0 0) M (stM M) (mkM M r k) 7 := by
  unfold makeP
  refine RnV.bind (a := 1) (b := 6) (RnV.add (c := 2) ⟨by decide, by omega⟩) ?_
  refine RnV.bind (a := 6) (b := 0) (stores_run hr (wX (IntKind.u64.wrap (M.m 2 + 1)) k 0 0 0 0) (M := M.up 2 (stM M)) fun p hp => ?_) (RnV.ret _)
  simp only [wX, List.mem_cons, List.not_mem_nil, or_false] at hp
  rcases hp with rfl | rfl | rfl | rfl | rfl | rfl <;> exact ⟨by dsimp only; omega, by dsimp only; omega⟩
theorem mkM_ne {r k c : Int} (h2 : c ≠ 2) (hf : ∀ f : Int, 1 ≤ f → f ≤ 6 → c ≠ zQ 2 r f) : (mkM M r k).m c = M.m c := by
  unfold mkM
  rw [Mm.yC _ _ (hf 6 (by decide) (by decide)), Mm.yC _ _ (hf 5 (by decide) (by decide)), Mm.yC _ _ (hf 4 (by decide) (by decide)), Mm.yC _ _ (hf 3 (by decide) (by decide)), Mm.yC _ _ (hf 1 (by decide) (by decide)), Mm.yC _ _ (hf 2 (by decide) (by decide)), Mm.yC _ _ h2]
theorem fn_neV {r f g : Int} (h : f ≠ g) : zQ 2 r f ≠ zQ 2 r g := by rw [fv, fv]; omega
structure MkV (M M' : Mm) (r k : Int) : Prop where
  k : M'.m (zQ 2 r 1) = k
  g : M'.m (zQ 2 r 2) = qI (stM M) 0
  f4 : M'.m (zQ 2 r 4) = 0
  f5 : M'.m (zQ 2 r 5) = 0
  f6 : M'.m (zQ 2 r 6) = 0
  s : M'.m 2 = stM M
theorem mkM_at {r k : Int} (hr : 1 ≤ r) : MkV M (mkM M r k) r k := by
  refine ⟨?_, ?_, ?_, ?_, ?_, ?_⟩ <;> unfold mkM
  · rw [Mm.yC _ _ (fn_neV (by decide)), Mm.yC _ _ (fn_neV (by decide)), Mm.yC _ _ (fn_neV (by decide)), Mm.yC _ _ (fn_neV (by decide)), Mm.up_at]
  · rw [Mm.yC _ _ (fn_neV (by decide)), Mm.yC _ _ (fn_neV (by decide)), Mm.yC _ _ (fn_neV (by decide)), Mm.yC _ _ (fn_neV (by decide)), Mm.yC _ _ (fn_neV (by decide)), Mm.up_at]
  · rw [Mm.yC _ _ (fn_neV (by decide)), Mm.yC _ _ (fn_neV (by decide)), Mm.up_at]
  · rw [Mm.yC _ _ (fn_neV (by decide)), Mm.up_at]
  · rw [Mm.up_at]
  · rw [Mm.yC _ _ (by rw [fv]; omega), Mm.yC _ _ (by rw [fv]; omega), Mm.yC _ _ (by rw [fv]; omega), Mm.yC _ _ (by rw [fv]; omega), Mm.yC _ _ (by rw [fv]; omega), Mm.yC _ _ (by rw [fv]; omega), Mm.up_at]
theorem StV.made {L : List (Int × Bool)} {r k : Int} (h : StV C M L P B o) (hr : 1 ≤ r) : StV C (mkM M r k) L P B o := by
  unfold mkM
  exact ((((((h.cnt _).put hr (by decide)).put hr (by decide)).put hr (by decide)).put hr (by decide)).put hr (by decide)).put hr (by decide)
/-- a store of vertices, nobody's hands on it -/
structure VI (C : Nat) (M : Mm) (R P : List Int) (B : Int → List Int) (o : Int → Int) : Prop where
  st : StV C M (cl R) P B o
  ho : ∀ r, o r ≠ 2
  fl : ∀ r ∈ R, qJ (M.m (zQ 2 r 2)) 1 = true ∧ qJ (M.m (zQ 2 r 2)) 2 = false
  so : (R.map fun r => M.m (zQ 2 r 1)).Pairwise (· < ·)
  vk : ∀ r ∈ R, M.m (zQ 2 r 1) % 2147483648 = 0
theorem VI.rng {R : List Int} (h : VI C M R P B o) : ∀ r ∈ R, 1 ≤ r ∧ r ≤ C := fun r hr => h.st.pos r (by rw [cl_nms]; exact hr)
theorem VI.nd {R : List Int} (h : VI C M R P B o) : R.Nodup := by have := h.st.nl; rwa [cl_nms] at this
theorem VI.len {R : List Int} (h : VI C M R P B o) : R.length ≤ C := nd_len h.nd h.rng
/-- what an operation keeps -/
structure OpK (me : Nat) (M M' : Mm) : Prop where
  z : M'.m 7 = M.m 7
  e : M.m 3 ≤ M'.m 3 ∧ M'.m 3 ≤ M.m 3 + 3
  p : ∀ j : Nat, j < 2 → j ≠ me → M'.m (8 + j) = M.m (8 + j)
theorem OpK.refl (me : Nat) (M : Mm) : OpK me M M := ⟨rfl, ⟨Int.le_refl _, by omega⟩, fun _ _ _ => rfl⟩
/-- what adding does -/
inductive AddR (C me : Nat) (M M' : Mm) (R R' : List Int) (k : Int) (x : OutB) : Prop where
  | old (hk : k ∈ R.map fun r => M.m (zQ 2 r 1)) (e : x = ⟨0, false, true, false⟩) (hR : R' = R) (hd : M'.d = M.d) (hs : M'.m 2 = M.m 2)
  | full (hk : k ∉ R.map fun r => M.m (zQ 2 r 1)) (hn : R.length = C) (e : x = ⟨3, false, true, false⟩) (hR : R' = R) (hd : M'.d = M.d) (hs : M'.m 2 = M.m 2)
  | new (R1 R2 : List Int) (r : Int) (hk : k ∉ R.map fun r => M.m (zQ 2 r 1)) (hn : R.length < C) (e : x = ⟨0, true, true, true⟩) (hR : R = R1 ++ R2) (hR' : R' = R1 ++ r :: R2) (hr : r ∉ R) (hkr : M'.m (zQ 2 r 1) = k) (hf : M'.m (zQ 2 r 2) = qI (stM M) 0 + 1) (hd : M'.d = (M.ap me (vS 1 (stM M % 4611686018427387904) k 0 0 0)).d) (hs : M'.m 2 = stM M)
/-- what is told of records stays -/
def SamV (M M' : Mm) (R : List Int) : Prop := ∀ y ∈ R, M'.m (zQ 2 y 1) = M.m (zQ 2 y 1) ∧ M'.m (zQ 2 y 2) = M.m (zQ 2 y 2)
theorem SamV.keys {M M' : Mm} {R : List Int} (h : SamV M M' R) : (R.map fun r => M'.m (zQ 2 r 1)) = R.map fun r => M.m (zQ 2 r 1) := List.map_congr_left fun y hy => (h y hy).1
theorem SamV.sub {M M' : Mm} {R S : List Int} (h : SamV M M' R) (hs : ∀ y ∈ S, y ∈ R) : SamV M M' S := fun y hy => h y (hs y hy)
theorem told_saved {x : Int} {is : Bool} {b : Int} (hx : 1 ≤ x ∧ x ≤ C) (h : qJ (M.m (zQ 2 x 2)) b = true) : RnV C me (toldP 2 x b is) M ⟨0, is, true, is⟩ M 1 := by
  unfold toldP
  exact (RnV.saved hx h).bind (b := 0) (RnV.ret _)
theorem VI.add {R : List Int} (h : VI C M R P B o) (hC : C ≤ 100000) (hme : me < 2) (he : M.m 3 + 5 < 18446744073709551616) (hp : ∀ j : Nat, j < 2 → j ≠ me → M.m (8 + j) = 0) {k : Int} (hk : k % 2147483648 = 0) :
    ∃ x M' R' P' B' o', RnV C me (vaddP 2 me k) M x M' (53 + 8 * C) ∧ VI C M' R' P' B' o' ∧ OpK me M M' ∧ SamV M M' R ∧ AddR C me M M' R R' k x := by
  have hlen := h.len
  obtain ⟨R1, R2, rfl, k1, k2⟩ := key_split (fun r => M.m (zQ 2 r 1)) k R h.so
  have hmem := atK_mem h.so k1 k2
  have s1 := h.st.search (me := me) hC (cl_u _) k
  rw [cl_len, srch_split k1 k2] at s1
  have hb : ∀ y ∈ R1 ++ R2, 1 ≤ y ∧ y ≤ C := h.rng
  cases ha : atK (fun r => M.m (zQ 2 r 1)) k R2 with
  | true =>
    rw [ha] at s1
    cases hR2 : R2 with
    | nil => rw [hR2] at ha; cases ha
    | cons y t =>
      have hy : y ∈ R1 ++ R2 := by rw [hR2]; simp
      refine ⟨⟨0, false, true, false⟩, M, R1 ++ R2, P, B, o, ?_, h, OpK.refl _ _, fun y hy => ⟨rfl, rfl⟩, ?_⟩
      · unfold vaddP
        refine (s1.bind (b := 1) ?_).le (by omega)
        rw [cond_true, cond_true, hR2]
        exact told_saved (hb y hy) (h.fl y hy).1
      · rw [← hR2]
        exact .old (hmem.1 ha) rfl rfl rfl rfl
  | false =>
    rw [ha] at s1 hmem
    have hno : k ∉ (R1 ++ R2).map fun r => M.m (zQ 2 r 1) := fun e => by have := hmem.2 e; cases this
    obtain ⟨r, M1, P1, B1, o1, a1, a2, a3, a4, a5, a6⟩ := h.st.alloc hC hme h.ho he hp
    rcases a6 with ⟨rfl, b1, b2, b3⟩ | ⟨b1, b2⟩
    · have hfull : (R1 ++ R2).length = C := by
        refine Nat.le_antisymm hlen ?_
        have := nd_sub (recs_nd C) (l' := R1 ++ R2) fun x hx => by
          have hx := recs_mem.1 hx
          rcases a2.al x hx.1 hx.2 with e | e | e | ⟨i, i1, i2, e⟩
          · exact absurd e (b1 x)
          · rwa [cl_nms] at e
          · rw [b2] at e; cases e
          · rw [b3 i i1 i2] at e; cases e
        rwa [recs_len] at this
      have hsame : SamV M M1 (R1 ++ R2) := fun y hy => ⟨a5.f y 1 (hb y hy).1 (by decide) (by decide), a5.f y 2 (hb y hy).1 (by decide) (by decide)⟩
      refine ⟨⟨3, false, true, false⟩, M1, R1 ++ R2, P1, B1, o1, ?_, ⟨a2, b1, fun y hy => ?_, ?_, fun y hy => ?_⟩, ⟨a5.z, a4, a5.p⟩, hsame, .full hno hfull rfl rfl a3 a5.s⟩
      · unfold vaddP
        refine (s1.bind (b := 33 + 4 * C + 0) ?_).le (by omega)
        rw [cond_true, cond_false]
        exact a1.bind (b := 0) (RnV.ret _)
      · rw [(hsame y hy).2]; exact h.fl y hy
      · rw [hsame.keys]; exact h.so
      · rw [(hsame y hy).1]; exact h.vk y hy
    · have hor : o1 r = 2 := (b2 r).2 rfl
      have hrR : r ∉ R1 ++ R2 := fun e => by have := a2.ol r (by rw [cl_nms]; exact e); omega
      have hlt : (R1 ++ R2).length < C := by
        have := nd_len (C := C) (l := r :: (R1 ++ R2)) (List.nodup_cons.2 ⟨hrR, h.nd⟩) fun x hx => by
          rcases List.mem_cons.1 hx with rfl | hx
          · exact b1
          · exact hb x hx
        simp only [List.length_cons] at this
        omega
      have a7 := a2.made (k := k) b1.1
      have m7 := mkM_at (M := M1) (r := r) (k := k) b1.1
      have n7 : ∀ y f : Int, 1 ≤ y → y ≠ r → 1 ≤ f → f ≤ 6 → (mkM M1 r k).m (zQ 2 y f) = M.m (zQ 2 y f) := fun y f h1 h2 h3 h4 => by
        rw [mkM_ne (by rw [fv]; omega) (fun g g1 g2 => by rw [fv, fv]; omega)]
        exact a5.f y f h1 (by omega) h4
      have hst : stM M1 = stM M := by unfold stM; rw [a5.s]
      generalize hM2 : mkM M1 r k = M2 at *
      have d2 : M2.d = M.d := by rw [← hM2]; exact a3
      have hyr : ∀ y ∈ R1 ++ R2, y ≠ r := fun y hy e => hrR (e ▸ hy)
      have kk : ∀ y ∈ R1 ++ R2, M2.m (zQ 2 y 1) = M.m (zQ 2 y 1) := fun y hy => n7 y 1 (hb y hy).1 (hyr y hy) (by decide) (by decide)
      have s2 := a7.search (me := me) hC (cl_u _) k
      rw [cl_len, srch_split (R1 := R1) (R2 := R2) (fun y hy => by rw [kk y (List.mem_append_left _ hy)]; exact k1 y hy) (fun y hy => by rw [kk y (List.mem_append_right _ hy)]; exact k2 y hy)] at s2
      have ha2 : atK (fun r => M2.m (zQ 2 r 1)) k R2 = false := by
        cases hR2 : R2 with
        | nil => rfl
        | cons y t =>
          rw [hR2] at ha
          show decide (M2.m (zQ 2 y 1) = k) = false
          rw [kk y (by rw [hR2]; simp)]
          exact ha
      rw [ha2] at s2
      obtain ⟨M3, l1, l2, l3, l4⟩ := StV.link (me := me) (l1 := cl R1) (l2 := cl R2) (p := qN 0 (cl R1)) (x := hd (cl R2)) (r := r) (by rw [← cl_app]; exact a7) (cl_u R1) rfl rfl b1 hor
      have g3 : M3.m (zQ 2 r 2) = qI (stM M) 0 := by rw [l4.f r 2 b1.1 (by decide) (by decide), m7.g, hst]
      obtain ⟨f1, f2, f3, f4, f5, f6⟩ := has1_flag (stM M)
      have sv := RnV.save1 (me := me) (M := M3) hme b1 (by rw [g3]; exact f1)
      have e4 : M3.m (zQ 2 r 2) / 4 = stM M % 4611686018427387904 := by rw [g3]; exact f5
      rw [e4, l4.f r 1 b1.1 (by decide) (by decide), l4.f r 4 b1.1 (by decide) (by decide), l4.f r 5 b1.1 (by decide) (by decide), l4.f r 6 b1.1 (by decide) (by decide), m7.k, m7.f4, m7.f5, m7.f6, g3] at sv
      generalize hM4 : (M3.ap me (vS 1 (stM M % 4611686018427387904) k 0 0 0)).up (zQ 2 r 2) (qI (stM M) 0 + 1) = M4 at sv
      have d4 : M4.d = (M.ap me (vS 1 (stM M % 4611686018427387904) k 0 0 0)).d := by
        rw [← hM4]
        show (M3.ap me _).d = _
        unfold Mm.ap
        dsimp only
        rw [l3, d2]
      have q4 : ∀ c : Int, c ≠ zQ 2 r 2 → M4.m c = M3.m c := fun c hc => by rw [← hM4]; exact Mm.yC _ _ hc
      have q2 : ∀ y f : Int, 1 ≤ y → y ≠ r → 1 ≤ f → f ≤ 6 → M4.m (zQ 2 y f) = M.m (zQ 2 y f) := fun y f h1 h2 h3 h4 => by
        rw [q4 _ (by rw [fv, fv]; omega), l4.f y f h1 h3 h4, n7 y f h1 h2 h3 h4]
      have hsame : SamV M M4 (R1 ++ R2) := fun y hy => ⟨q2 y 1 (hb y hy).1 (hyr y hy) (by decide) (by decide), q2 y 2 (hb y hy).1 (hyr y hy) (by decide) (by decide)⟩
      have kr : M4.m (zQ 2 r 1) = k := by rw [q4 _ (fn_neV (by decide)), l4.f r 1 b1.1 (by decide) (by decide), m7.k]
      have fr : M4.m (zQ 2 r 2) = qI (stM M) 0 + 1 := by rw [← hM4]; exact Mm.up_at _ _ _
      have hcl : cl (R1 ++ r :: R2) = cl R1 ++ (r, false) :: cl R2 := by rw [cl_app]; rfl
      have o7 : ∀ c : Int, (c = 3 ∨ c = 7 ∨ ∃ j : Nat, j < 2 ∧ c = 8 + j) → M4.m c = M1.m c := fun c hc => by
        have e1 : M2.m c = M1.m c := by
          rw [← hM2]
          refine mkM_ne ?_ fun f g1 g2 => ?_
          · rcases hc with rfl | rfl | ⟨j, hj, rfl⟩ <;> omega
          · rw [fv]
            rcases hc with rfl | rfl | ⟨j, hj, rfl⟩ <;> omega
        rw [q4 c (by rw [fv]; rcases hc with rfl | rfl | ⟨j, hj, rfl⟩ <;> omega), ← e1]
        rcases hc with rfl | rfl | ⟨j, hj, rfl⟩
        · exact l4.e
        · exact l4.z
        · exact l4.p j hj
      have hmem' : ∀ y ∈ R1 ++ r :: R2, y = r ∨ y ∈ R1 ++ R2 := fun y hy => by
        rcases List.mem_append.1 hy with hy | hy
        · exact .inr (List.mem_append_left _ hy)
        · rcases List.mem_cons.1 hy with hy | hy
          · exact .inl hy
          · exact .inr (List.mem_append_right _ hy)
      refine ⟨⟨0, true, true, true⟩, M4, R1 ++ r :: R2, P1, B1, updW o1 r 0, ?_, ⟨?_, fun y => ?_, fun y hy => ?_, ?_, fun y hy => ?_⟩, ⟨?_, ?_, fun j hj hn => ?_⟩, hsame, .new R1 R2 r hno hlt rfl rfl rfl hrR kr fr d4 ?_⟩
      · unfold vaddP
        refine (s1.bind (b := 33 + 4 * C + (7 + (1 + 2 * (R1 ++ R2).length + (2 + 9)))) ?_).le (by omega)
        rw [cond_true, cond_false]
        refine a1.bind ?_
        rw [decide_eq_false (show ¬ r = 0 by omega), cond_false]
        refine RnV.bind (a := 7) (M1 := M2) (by rw [← hM2]; exact make_run b1) ?_
        refine RnV.loop (f := 1000000) (r := .inr (⟨0, true, true, true⟩ : OutB)) (a := 1 + 2 * (R1 ++ R2).length + (2 + 9)) (b := 0) (M1 := M4) ?_ (RnV.ret _)
        unfold qX
        refine s2.bind ?_
        rw [cond_true, cond_false]
        refine l1.bind ?_
        rw [cond_true]
        refine RnV.bind (a := 9) (b := 0) (x := ⟨0, true, true, true⟩) (M1 := M4) ?_ (RnV.ret _)
        unfold toldP
        exact sv.bind (b := 0) (RnV.ret _)
      · rw [hcl, ← hM4]
        exact (l2.dsk _ _).put b1.1 (by decide)
      · unfold updW
        split
        · decide
        · next hy => exact fun e => hy ((b2 y).1 e)
      · rcases hmem' y hy with rfl | hy
        · rw [fr]; exact ⟨f3, f4⟩
        · rw [(hsame y hy).2]; exact h.fl y hy
      · have hs := h.so
        rw [List.map_append] at hs ⊢
        obtain ⟨p1, p2, p3⟩ := List.pairwise_append.1 hs
        rw [(hsame.sub fun y hy => List.mem_append_left _ hy : SamV M M4 R1).keys]
        rw [List.map_cons, (hsame.sub fun y hy => List.mem_append_right _ hy : SamV M M4 R2).keys, kr]
        refine List.pairwise_append.2 ⟨p1, List.pairwise_cons.2 ⟨fun z hz => ?_, p2⟩, fun z hz w hw => ?_⟩
        · obtain ⟨y, hy, rfl⟩ := List.mem_map.1 hz
          have a := k2 y hy
          have b : k ≠ M.m (zQ 2 y 1) := fun e => hno (by rw [List.map_append]; exact List.mem_append_right _ (List.mem_map.2 ⟨y, hy, e.symm⟩))
          omega
        · rcases List.mem_cons.1 hw with rfl | hw
          · obtain ⟨y, hy, rfl⟩ := List.mem_map.1 hz
            exact k1 y hy
          · exact p3 z hz w hw
      · rcases hmem' y hy with rfl | hy
        · rw [kr]; exact hk
        · rw [(hsame y hy).1]; exact h.vk y hy
      · rw [o7 7 (.inr (.inl rfl))]; exact a5.z
      · rw [o7 3 (.inl rfl)]; exact a4
      · rw [o7 _ (.inr (.inr ⟨j, hj, rfl⟩))]; exact a5.p j hj hn
      · rw [q4 2 (by rw [fv]; omega), l4.s, m7.s, hst]
end
end Go.Proofs.YtmfbamiciieooaaGreatDoor
