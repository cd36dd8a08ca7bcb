/- Of a sealed store each operation of a vertex that may be is answered so, by one access, and turns nothing; one of a key that may not be by none. (Part 8 of 9.) -/
import Derived.Test.YtmfbamiciieooaaGreatDoorVs7
/- Worlds: an access made: contracts. -/
namespace Go.Proofs.YtmfbamiciieooaaGreatDoor
set_option maxRecDepth 100000
set_option maxHeartbeats 16000000
open Go Go.RowKit
set_option linter.unusedSimpArgs false
attribute [local irreducible] zY zZ Step zX Sub zD zF Fn
/-- a world; a result that tells that the disk failed -/
def xK (t c : Int) (ws : List Int) (root : Int) (r0 r1 : List (List Int × Int)) : PV := .agg [.val (.int .i64 t), .val (.int .i64 c), .sl (wds ws), .val (.int .u64 root), .sl (strs r0), .sl (strs r1)]
def resF : PV := .agg [.val (.int .u64 0), .val (.slice none 0 0), .val (.bool true)]
theorem streams50_fn (root : Int) (r0 r1 : List (List Int × Int)) (i : Nat) (d : List Int) (s p q r : Int) (bs : List Int) (h0 : 0 ≤ root) (hr : root % 2 = 0) (hi : r0[i]? = some (d, s)) (h1 : r0.length ≤ 1000000) (h2 : d.length + bs.length ≤ 100000000) :
    Fn Tryz.prog 34 [wE root r0 r1, .val (.int .i64 i), accV 5 p q r (.sl (byts bs))] (.tup [wE root (r0.set i (d ++ bs, s)) r1, resN 0]) := by
  have c0 : Fn Tryz.prog 66 [wE root r0 r1] (.p (.val (.int .i64 0))) := hr ▸ row_fn root (.sl (strs r0)) (.sl (strs r1)) h0
  have c1 := diskApp0_fn root r0 r1 i d s bs hi h1 h2
  refine z8 Tryz.func34 rfl Tryz.ntmps34 (Nat.le_of_ble_eq_true rfl) ?_
  repeat' (first | (refine zY.is ?_; first | refine zY.nil ?_ | (refine zY.at_ 16 rfl ?_; refine zY.rc (.v wQ (.v yV (.v yV (.w zR .e)))) ?_) | (refine zY.at_ 8 rfl ?_; refine zY.rc (.v zK .e) ?_) | (refine zY.in_ [11] rfl ?_; refine zY.v rfl rfl (zL (c0) rfl rfl rfl (by decide)) ?_) | (refine zY.in_ [22] rfl ?_; refine zY.v rfl rfl (yS (c1) rfl rfl rfl (by decide)) ?_)) | (refine zZ.is ?_; first | refine zZ.seq ?_ | (refine zZ.isR (id := 0) ?_; refine zZ.rc [0, 1, 2] [3, 5, 6, 7, 9] (r := (.m yD (.m yD (.m zS (.m zS .e))))) (h := ?_)) | (refine zZ.isR (id := 1) ?_; refine zZ.rc [1, 3, 5, 6, 7] [3, 5, 6, 7, 9] (r := (.v yU .e)) (h := ?_)) | (refine zZ.isR (id := 2) ?_; refine zZ.rc [1, 3, 5, 6, 7, 8] [3, 5, 6, 7, 9] (r := (.m zS .e)) (h := ?_)) | (refine zZ.isR (id := 3) ?_; refine zZ.rc [1, 3, 5, 6, 7, 8, 9] [3, 5, 6, 7, 9] (r := (.v zH (.v zN .e))) (h := ?_)) | (refine zZ.isR (id := 4) ?_; refine zZ.rc [1, 3, 5, 6, 7, 8, 9, 13] [3, 5, 6, 7, 9] (r := (.v v41_4 (.v zK .e))) (h := ?_)) | (refine zZ.isR (id := 5) ?_; refine zZ.rc [1, 3, 5, 6, 7, 8, 9, 13] [3, 5, 6, 7, 9] (r := (.v yU (.v zV (.v zV (.v zH (.v zN .e)))))) (h := ?_)) | (refine zZ.iq 20 ?_; refine zZ.rqb _ K_18 K_19 (zZ.drawAll (by kernel_rfl) ?_); repeat' (first | refine qE.many (by rfl) ?_ | refine zI.cons ?_ ?_ | exact zI.nil | refine DOne.v rfl rfl rfl (yM rfl rfl rfl (by rfl) (by rfl) rfl (by decide)) ?_ | refine DOne.w rfl rfl (by exact yT rfl rfl rfl rfl rfl (by rfl) (by exact Nat.le_of_ble_eq_true rfl) rfl rfl) ?_ | refine qE.fin (by rfl) ?_)) | refine zZ.yF rfl bA ?_ | refine zZ.block ?_ | refine zZ.ret ?_))
  all_goals exact ⟨by first | exact .inl rfl | exact .inr rfl, _, Sub.refl _, .tup (rs := [.cell 6 31, .cell 7 55]) (l := [wE root (r0.set i (d ++ bs, s)) r1, resN 0]) rfl (by decide) (.cons (.cellN rfl rfl (by rfl) (by rfl)) (.cons (.cellN rfl rfl (by rfl) (by rfl)) .nil))⟩
theorem doFail5_fn (t c p q r me root : Int) (ws : List Int) (d : PV) (r0 r1 : List (List Int × Int)) :
    Fn Tryz.prog 13 [xK t c ws root r0 r1, .val (.int .i64 me), accV 5 p q r d, .val (.bool true)] (.tup [xK t c ws root r0 r1, resF]) := by
  have c0 : Fn Tryz.prog 33 [.val (.int .i64 5)] (.p (.val (.bool true))) := isDisk_fn 5
  refine z8 Tryz.func13 rfl Tryz.ntmps13 (Nat.le_of_ble_eq_true rfl) ?_
  repeat' (first | (refine zY.is ?_; first | refine zY.nil ?_ | (refine zY.at_ 23 rfl ?_; refine zY.rc (.v zV (.gY zV (.v y8 (.v zK .e)))) ?_) | (refine zY.in_ [22] rfl ?_; refine zY.v rfl rfl (zL (c0) rfl rfl rfl (by decide)) ?_)) | (refine zZ.is ?_; first | refine zZ.seq ?_ | (refine zZ.isR (id := 0) ?_; refine zZ.rc [0, 1, 2, 3] [4, 6, 8, 9, 10] (r := (.m yD (.m yD (.m zS (.m zS .e))))) (h := ?_)) | (refine zZ.isR (id := 1) ?_; refine zZ.rc [1, 3, 4, 6, 8, 9] [4, 6, 8, 9, 10] (r := (.m zS .e)) (h := ?_)) | (refine zZ.isR (id := 3) ?_; refine zZ.rc [1, 3, 4, 6, 8, 9, 10] [4, 6, 8, 9, 10] (r := (.v zH (.v zN .e))) (h := ?_)) | (refine zZ.isR (id := 4) ?_; refine zZ.rc [1, 4, 6, 8, 9, 10] [4, 6, 8, 9, 10] (r := (.v zH (.w zR .e))) (h := ?_)) | (refine zZ.iq 10 ?_; refine zZ.rqb _ K_a K_b (zZ.drawAll (by kernel_rfl) ?_); repeat' (first | refine qE.many (by rfl) ?_ | refine zI.cons ?_ ?_ | exact zI.nil | refine DOne.v rfl rfl rfl (yM rfl rfl rfl (by rfl) (by rfl) rfl (by decide)) ?_ | refine DOne.w rfl rfl (by exact yT rfl rfl rfl rfl rfl (by rfl) (by exact Nat.le_of_ble_eq_true rfl) rfl rfl) ?_ | refine qE.fin (by rfl) ?_)) | refine zZ.yF rfl bA ?_ | refine zZ.block ?_ | refine zZ.ret ?_))
  all_goals exact ⟨by first | exact .inl rfl | exact .inr rfl, _, Sub.refl _, .tup (rs := [.cell 8 33, .cell 9 55]) (l := [xK t c ws root r0 r1, resF]) rfl (by decide) (.cons (.cellN rfl rfl (by rfl) (by rfl)) (.cons (.cellN rfl rfl (by rfl) (by rfl)) .nil))⟩
theorem doDisk50_fn (t c p q r root : Int) (ws : List Int) (r0 r1 : List (List Int × Int)) (i : Nat) (d : List Int) (s : Int) (bs : List Int) (h0 : 0 ≤ root) (hr : root % 2 = 0) (hi : r0[i]? = some (d, s)) (h1 : r0.length ≤ 1000000) (h2 : d.length + bs.length ≤ 100000000) :
    Fn Tryz.prog 13 [xK t c ws root r0 r1, .val (.int .i64 i), accV 5 p q r (.sl (byts bs)), .val (.bool false)] (.tup [xK t c ws root (r0.set i (d ++ bs, s)) r1, resN 0]) := by
  have c0 : Fn Tryz.prog 33 [.val (.int .i64 5)] (.p (.val (.bool true))) := isDisk_fn 5
  have c1 := streams50_fn root r0 r1 i d s p q r bs h0 hr hi h1 h2
  refine z8 Tryz.func13 rfl Tryz.ntmps13 (Nat.le_of_ble_eq_true rfl) ?_
  repeat' (first | (refine zY.is ?_; first | refine zY.nil ?_ | (refine zY.at_ 23 rfl ?_; refine zY.rc (.v zV (.gY zV (.v y8 (.v zK .e)))) ?_) | (refine zY.at_ 27 rfl ?_; refine zY.rc (.v zK .e) ?_) | (refine zY.at_ 31 rfl ?_; refine zY.rc (.v wQ (.v yV (.v yV (.v zH (.w zR (.w zR .e)))))) ?_) | (refine zY.in_ [22, 30] rfl ?_; refine zY.v rfl rfl (zL (c0) rfl rfl rfl (by decide)) ?_) | (refine zY.in_ [36] rfl ?_; refine zY.v rfl rfl (yS (c1) rfl rfl rfl (by decide)) ?_)) | (refine zZ.is ?_; first | refine zZ.seq ?_ | (refine zZ.isR (id := 0) ?_; refine zZ.rc [0, 1, 2, 3] [4, 6, 8, 9, 10] (r := (.m yD (.m yD (.m zS (.m zS .e))))) (h := ?_)) | (refine zZ.isR (id := 1) ?_; refine zZ.rc [1, 3, 4, 6, 8, 9] [4, 6, 8, 9, 10] (r := (.m zS .e)) (h := ?_)) | (refine zZ.isR (id := 3) ?_; refine zZ.rc [1, 3, 4, 6, 8, 9, 10] [4, 6, 8, 9, 10] (r := (.v zH (.v zN .e))) (h := ?_)) | (refine zZ.isR (id := 5) ?_; refine zZ.rc [1, 4, 6, 8, 9, 10] [4, 6, 8, 9, 10] (r := (.v zH (.v zN .e))) (h := ?_)) | (refine zZ.isR (id := 6) ?_; refine zZ.rc [1, 4, 6, 8, 9, 10] [4, 6, 8, 9, 10] (r := (.v zH (.v yU (.v zV (.v yU .e))))) (h := ?_)) | (refine zZ.iq 10 ?_; refine zZ.rqb _ K_a K_b (zZ.drawAll (by kernel_rfl) ?_); repeat' (first | refine qE.many (by rfl) ?_ | refine zI.cons ?_ ?_ | exact zI.nil | refine DOne.v rfl rfl rfl (yM rfl rfl rfl (by rfl) (by rfl) rfl (by decide)) ?_ | refine DOne.w rfl rfl (by exact yT rfl rfl rfl rfl rfl (by rfl) (by exact Nat.le_of_ble_eq_true rfl) rfl rfl) ?_ | refine qE.fin (by rfl) ?_)) | refine zZ.yF rfl bA ?_ | refine zZ.yH rfl bA ?_ | refine zZ.block ?_ | refine zZ.ret ?_))
  all_goals exact ⟨by first | exact .inl rfl | exact .inr rfl, _, Sub.refl _, .tup (rs := [.cell 8 33, .cell 9 55]) (l := [xK t c ws root (r0.set i (d ++ bs, s)) r1, resN 0]) rfl (by decide) (.cons (.cellN rfl rfl (by rfl) (by rfl)) (.cons (.cellN rfl rfl (by rfl) (by rfl)) .nil))⟩
theorem streams60_fn (root : Int) (r0 r1 : List (List Int × Int)) (i : Nat) (d : List Int) (s p q r : Int) (x : PV) (h0 : 0 ≤ root) (hr : root % 2 = 0) (hi : r0[i]? = some (d, s)) (h1 : r0.length ≤ 1000000) :
    Fn Tryz.prog 34 [wE root r0 r1, .val (.int .i64 i), accV 6 p q r (x)] (.tup [wE root (r0.set i (d, d.length)) r1, resN 0]) := by
  have c0 : Fn Tryz.prog 66 [wE root r0 r1] (.p (.val (.int .i64 0))) := hr ▸ row_fn root (.sl (strs r0)) (.sl (strs r1)) h0
  have c1 := diskSync0_fn root r0 r1 i d s hi h1
  refine z8 Tryz.func34 rfl Tryz.ntmps34 (Nat.le_of_ble_eq_true rfl) ?_
  repeat' (first | (refine zY.is ?_; first | refine zY.nil ?_ | (refine zY.at_ 27 rfl ?_; refine zY.rc (.v wQ (.v yV (.v yV (.w zR .e)))) ?_) | (refine zY.at_ 8 rfl ?_; refine zY.rc (.v zK .e) ?_) | (refine zY.in_ [11] rfl ?_; refine zY.v rfl rfl (zL (c0) rfl rfl rfl (by decide)) ?_) | (refine zY.in_ [31] rfl ?_; refine zY.v rfl rfl (yS (c1) rfl rfl rfl (by decide)) ?_)) | (refine zZ.is ?_; first | refine zZ.seq ?_ | (refine zZ.isR (id := 0) ?_; refine zZ.rc [0, 1, 2] [3, 5, 6, 7, 9] (r := (.m yD (.m yD (.m zS (.m zS .e))))) (h := ?_)) | (refine zZ.isR (id := 1) ?_; refine zZ.rc [1, 3, 5, 6, 7] [3, 5, 6, 7, 9] (r := (.v yU .e)) (h := ?_)) | (refine zZ.isR (id := 2) ?_; refine zZ.rc [1, 3, 5, 6, 7, 8] [3, 5, 6, 7, 9] (r := (.m zS .e)) (h := ?_)) | (refine zZ.isR (id := 3) ?_; refine zZ.rc [1, 3, 5, 6, 7, 8, 9] [3, 5, 6, 7, 9] (r := (.v zH (.v zN .e))) (h := ?_)) | (refine zZ.isR (id := 4) ?_; refine zZ.rc [1, 3, 5, 6, 7, 8, 9, 13] [3, 5, 6, 7, 9] (r := (.v v41_5 (.v zK .e))) (h := ?_)) | (refine zZ.isR (id := 6) ?_; refine zZ.rc [1, 3, 5, 6, 7, 8, 9, 13] [3, 5, 6, 7, 9] (r := (.v v41_4 (.v zK .e))) (h := ?_)) | (refine zZ.isR (id := 7) ?_; refine zZ.rc [1, 3, 5, 6, 7, 8, 9, 13] [3, 5, 6, 7, 9] (r := (.v yU (.v zV (.v zV .e)))) (h := ?_)) | (refine zZ.iq 20 ?_; refine zZ.rqb _ K_18 K_19 (zZ.drawAll (by kernel_rfl) ?_); repeat' (first | refine qE.many (by rfl) ?_ | refine zI.cons ?_ ?_ | exact zI.nil | refine DOne.v rfl rfl rfl (yM rfl rfl rfl (by rfl) (by rfl) rfl (by decide)) ?_ | refine DOne.w rfl rfl (by exact yT rfl rfl rfl rfl rfl (by rfl) (by exact Nat.le_of_ble_eq_true rfl) rfl rfl) ?_ | refine qE.fin (by rfl) ?_)) | refine zZ.yF rfl bA ?_ | refine zZ.yH rfl bA ?_ | refine zZ.block ?_ | refine zZ.ret ?_))
  all_goals exact ⟨by first | exact .inl rfl | exact .inr rfl, _, Sub.refl _, .tup (rs := [.cell 6 31, .cell 7 55]) (l := [wE root (r0.set i (d, d.length)) r1, resN 0]) rfl (by decide) (.cons (.cellN rfl rfl (by rfl) (by rfl)) (.cons (.cellN rfl rfl (by rfl) (by rfl)) .nil))⟩
theorem doFail6_fn (t c p q r me root : Int) (ws : List Int) (d : PV) (r0 r1 : List (List Int × Int)) :
    Fn Tryz.prog 13 [xK t c ws root r0 r1, .val (.int .i64 me), accV 6 p q r d, .val (.bool true)] (.tup [xK t c ws root r0 r1, resF]) := by
  have c0 : Fn Tryz.prog 33 [.val (.int .i64 6)] (.p (.val (.bool true))) := isDisk_fn 6
  refine z8 Tryz.func13 rfl Tryz.ntmps13 (Nat.le_of_ble_eq_true rfl) ?_
  repeat' (first | (refine zY.is ?_; first | refine zY.nil ?_ | (refine zY.at_ 23 rfl ?_; refine zY.rc (.v zV (.gY zV (.v y8 (.v zK .e)))) ?_) | (refine zY.in_ [22] rfl ?_; refine zY.v rfl rfl (zL (c0) rfl rfl rfl (by decide)) ?_)) | (refine zZ.is ?_; first | refine zZ.seq ?_ | (refine zZ.isR (id := 0) ?_; refine zZ.rc [0, 1, 2, 3] [4, 6, 8, 9, 10] (r := (.m yD (.m yD (.m zS (.m zS .e))))) (h := ?_)) | (refine zZ.isR (id := 1) ?_; refine zZ.rc [1, 3, 4, 6, 8, 9] [4, 6, 8, 9, 10] (r := (.m zS .e)) (h := ?_)) | (refine zZ.isR (id := 3) ?_; refine zZ.rc [1, 3, 4, 6, 8, 9, 10] [4, 6, 8, 9, 10] (r := (.v zH (.v zN .e))) (h := ?_)) | (refine zZ.isR (id := 4) ?_; refine zZ.rc [1, 4, 6, 8, 9, 10] [4, 6, 8, 9, 10] (r := (.v zH (.w zR .e))) (h := ?_)) | (refine zZ.iq 10 ?_; refine zZ.rqb _ K_a K_b (zZ.drawAll (by kernel_rfl) ?_); repeat' (first | refine qE.many (by rfl) ?_ | refine zI.cons ?_ ?_ | exact zI.nil | refine DOne.v rfl rfl rfl (yM rfl rfl rfl (by rfl) (by rfl) rfl (by decide)) ?_ | refine DOne.w rfl rfl (by exact yT rfl rfl rfl rfl rfl (by rfl) (by exact Nat.le_of_ble_eq_true rfl) rfl rfl) ?_ | refine qE.fin (by rfl) ?_)) | refine zZ.yF rfl bA ?_ | refine zZ.block ?_ | refine zZ.ret ?_))
  all_goals exact ⟨by first | exact .inl rfl | exact .inr rfl, _, Sub.refl _, .tup (rs := [.cell 8 33, .cell 9 55]) (l := [xK t c ws root r0 r1, resF]) rfl (by decide) (.cons (.cellN rfl rfl (by rfl) (by rfl)) (.cons (.cellN rfl rfl (by rfl) (by rfl)) .nil))⟩
theorem doDisk60_fn (t c p q r root : Int) (ws : List Int) (r0 r1 : List (List Int × Int)) (i : Nat) (d : List Int) (s : Int) (x : PV) (h0 : 0 ≤ root) (hr : root % 2 = 0) (hi : r0[i]? = some (d, s)) (h1 : r0.length ≤ 1000000) :
    Fn Tryz.prog 13 [xK t c ws root r0 r1, .val (.int .i64 i), accV 6 p q r (x), .val (.bool false)] (.tup [xK t c ws root (r0.set i (d, d.length)) r1, resN 0]) := by
  have c0 : Fn Tryz.prog 33 [.val (.int .i64 6)] (.p (.val (.bool true))) := isDisk_fn 6
  have c1 := streams60_fn root r0 r1 i d s p q r x h0 hr hi h1
  refine z8 Tryz.func13 rfl Tryz.ntmps13 (Nat.le_of_ble_eq_true rfl) ?_
  repeat' (first | (refine zY.is ?_; first | refine zY.nil ?_ | (refine zY.at_ 23 rfl ?_; refine zY.rc (.v zV (.gY zV (.v y8 (.v zK .e)))) ?_) | (refine zY.at_ 27 rfl ?_; refine zY.rc (.v zK .e) ?_) | (refine zY.at_ 31 rfl ?_; refine zY.rc (.v wQ (.v yV (.v yV (.v zH (.w zR (.w zR .e)))))) ?_) | (refine zY.in_ [22, 30] rfl ?_; refine zY.v rfl rfl (zL (c0) rfl rfl rfl (by decide)) ?_) | (refine zY.in_ [36] rfl ?_; refine zY.v rfl rfl (yS (c1) rfl rfl rfl (by decide)) ?_)) | (refine zZ.is ?_; first | refine zZ.seq ?_ | (refine zZ.isR (id := 0) ?_; refine zZ.rc [0, 1, 2, 3] [4, 6, 8, 9, 10] (r := (.m yD (.m yD (.m zS (.m zS .e))))) (h := ?_)) | (refine zZ.isR (id := 1) ?_; refine zZ.rc [1, 3, 4, 6, 8, 9] [4, 6, 8, 9, 10] (r := (.m zS .e)) (h := ?_)) | (refine zZ.isR (id := 3) ?_; refine zZ.rc [1, 3, 4, 6, 8, 9, 10] [4, 6, 8, 9, 10] (r := (.v zH (.v zN .e))) (h := ?_)) | (refine zZ.isR (id := 5) ?_; refine zZ.rc [1, 4, 6, 8, 9, 10] [4, 6, 8, 9, 10] (r := (.v zH (.v zN .e))) (h := ?_)) | (refine zZ.isR (id := 6) ?_; refine zZ.rc [1, 4, 6, 8, 9, 10] [4, 6, 8, 9, 10] (r := (.v zH (.v yU (.v zV (.v yU .e))))) (h := ?_)) | (refine zZ.iq 10 ?_; refine zZ.rqb _ K_a K_b (zZ.drawAll (by kernel_rfl) ?_); repeat' (first | refine qE.many (by rfl) ?_ | refine zI.cons ?_ ?_ | exact zI.nil | refine DOne.v rfl rfl rfl (yM rfl rfl rfl (by rfl) (by rfl) rfl (by decide)) ?_ | refine DOne.w rfl rfl (by exact yT rfl rfl rfl rfl rfl (by rfl) (by exact Nat.le_of_ble_eq_true rfl) rfl rfl) ?_ | refine qE.fin (by rfl) ?_)) | refine zZ.yF rfl bA ?_ | refine zZ.yH rfl bA ?_ | refine zZ.block ?_ | refine zZ.ret ?_))
  all_goals exact ⟨by first | exact .inl rfl | exact .inr rfl, _, Sub.refl _, .tup (rs := [.cell 8 33, .cell 9 55]) (l := [xK t c ws root (r0.set i (d, d.length)) r1, resN 0]) rfl (by decide) (.cons (.cellN rfl rfl (by rfl) (by rfl)) (.cons (.cellN rfl rfl (by rfl) (by rfl)) .nil))⟩
theorem doWord_fn (t c kd a b old me root : Int) (hkd : 0 ≤ kd ∧ kd ≤ 4) (i : Nat) (ws : List Int) (d : PV) (r0 r1 : List (List Int × Int)) (fails : Bool) (hi : ws[i]? = some old) (h1 : ws.length ≤ 1000000) :
    Fn Tryz.prog 13 [xK t c ws root r0 r1, .val (.int .i64 me), accV kd i a b d, .val (.bool fails)] (.tup [xK t c (ws.set i (turnR kd old a b).2) root r0 r1, resN (turnR kd old a b).1]) := by
  have c0 : Fn Tryz.prog 33 [.val (.int .i64 kd)] (.p (.val (.bool false))) := by
    have e : (decide (5 ≤ kd) && decide (kd ≤ 12)) = false := by rw [decide_eq_false (show ¬5 ≤ kd by omega)]; rfl
    exact e ▸ isDisk_fn kd
  have c1 := words_fn t c kd a b old hkd i ws d hi h1
  have g1 : decide (kd = 13) = false := decide_eq_false (by omega)
  refine z8 Tryz.func13 rfl Tryz.ntmps13 (Nat.le_of_ble_eq_true rfl) ?_
  repeat' (first | (refine zY.is ?_; first | refine zY.nil ?_ | (refine zY.at_ 11 rfl ?_; refine zY.rc (.v wQ (.v yV (.v yV (.v zH (.w zR (.w zR .e)))))) ?_) | (refine zY.at_ 23 rfl ?_; refine zY.rc (.v zV (.gT (.v xC (.v zK .e)))) ?_) | (refine zY.at_ 27 rfl ?_; refine zY.rc (.v zK .e) ?_) | (refine zY.in_ [22, 30] rfl ?_; refine zY.v rfl rfl (zL (c0) rfl rfl rfl (by decide)) ?_) | (refine zY.in_ [15] rfl ?_; refine zY.v rfl rfl (yS (c1) rfl rfl rfl (by decide)) ?_)) | (refine zZ.is ?_; first | refine zZ.seq ?_ | (refine zZ.isR (id := 0) ?_; refine zZ.rc [0, 1, 2, 3] [4, 6, 8, 9, 10] (r := (.m yD (.m yD (.m zS (.m zS .e))))) (h := ?_)) | (refine zZ.isR (id := 1) ?_; refine zZ.rc [1, 3, 4, 6, 8, 9] [4, 6, 8, 9, 10] (r := (.m zS .e)) (h := ?_)) | (refine zZ.isR (id := 3) ?_; refine zZ.rc [1, 3, 4, 6, 8, 9, 10] [4, 6, 8, 9, 10] (r := (.v zH (.v zN .e))) (h := ?_)) | (refine zZ.isR (id := 5) ?_; refine zZ.rc [1, 4, 6, 8, 9, 10] [4, 6, 8, 9, 10] (r := (.v zH (.v zN .e))) (h := ?_)) | (refine zZ.isR (id := 7) ?_; refine zZ.rc [4, 6, 8, 9, 10] [4, 6, 8, 9, 10] (r := (.v zH (.v zN (.v v41_0 (.v zK .e))))) (h := ?_)) | (refine zZ.isR (id := 2) ?_; refine zZ.rc [4, 6, 8, 9, 10] [4, 6, 8, 9, 10] (r := (.v zH (.v yU (.v yU .e)))) (h := ?_)) | (refine zZ.iq 10 ?_; refine zZ.rqb _ K_a K_b (zZ.drawAll (by kernel_rfl) ?_); repeat' (first | refine qE.many (by rfl) ?_ | refine zI.cons ?_ ?_ | exact zI.nil | refine DOne.v rfl rfl rfl (yM rfl rfl rfl (by rfl) (by rfl) rfl (by decide)) ?_ | refine DOne.w rfl rfl (by exact yT rfl rfl rfl rfl rfl (by rfl) (by exact Nat.le_of_ble_eq_true rfl) rfl rfl) ?_ | refine qE.fin (by rfl) ?_)) | refine zZ.yH rfl bA ?_ | refine zZ.block ?_ | refine zZ.ret ?_))
  all_goals exact ⟨by first | exact .inl rfl | exact .inr rfl, _, Sub.refl _, .tup (rs := [.cell 8 33, .cell 9 55]) (l := [xK t c (ws.set i (turnR kd old a b).2) root r0 r1, resN (turnR kd old a b).1]) rfl (by decide) (.cons (.cellN rfl rfl (by rfl) (by rfl)) (.cons (.cellN rfl rfl (by rfl) (by rfl)) .nil))⟩
theorem doOut_fn (t c kd cell a b me root : Int) (hkd : 0 ≤ kd ∧ kd ≤ 4) (ws : List Int) (d : PV) (r0 r1 : List (List Int × Int)) (fails : Bool) (hi : cell < 0 ∨ (ws.length : Int) ≤ cell) :
    Fn Tryz.prog 13 [xK t c ws root r0 r1, .val (.int .i64 me), accV kd cell a b d, .val (.bool fails)] (.tup [xK t c ws root r0 r1, resN 0]) := by
  have c0 : Fn Tryz.prog 33 [.val (.int .i64 kd)] (.p (.val (.bool false))) := by
    have e : (decide (5 ≤ kd) && decide (kd ≤ 12)) = false := by rw [decide_eq_false (show ¬5 ≤ kd by omega)]; rfl
    exact e ▸ isDisk_fn kd
  have c1 := wordsOut_fn t c kd cell a b ws d hi
  have g1 : decide (kd = 13) = false := decide_eq_false (by omega)
  refine z8 Tryz.func13 rfl Tryz.ntmps13 (Nat.le_of_ble_eq_true rfl) ?_
  repeat' (first | (refine zY.is ?_; first | refine zY.nil ?_ | (refine zY.at_ 11 rfl ?_; refine zY.rc (.v wQ (.v yV (.v yV (.v zH (.w zR (.w zR .e)))))) ?_) | (refine zY.at_ 23 rfl ?_; refine zY.rc (.v zV (.gT (.v xC (.v zK .e)))) ?_) | (refine zY.at_ 27 rfl ?_; refine zY.rc (.v zK .e) ?_) | (refine zY.in_ [22, 30] rfl ?_; refine zY.v rfl rfl (zL (c0) rfl rfl rfl (by decide)) ?_) | (refine zY.in_ [15] rfl ?_; refine zY.v rfl rfl (yS (c1) rfl rfl rfl (by decide)) ?_)) | (refine zZ.is ?_; first | refine zZ.seq ?_ | (refine zZ.isR (id := 0) ?_; refine zZ.rc [0, 1, 2, 3] [4, 6, 8, 9, 10] (r := (.m yD (.m yD (.m zS (.m zS .e))))) (h := ?_)) | (refine zZ.isR (id := 1) ?_; refine zZ.rc [1, 3, 4, 6, 8, 9] [4, 6, 8, 9, 10] (r := (.m zS .e)) (h := ?_)) | (refine zZ.isR (id := 3) ?_; refine zZ.rc [1, 3, 4, 6, 8, 9, 10] [4, 6, 8, 9, 10] (r := (.v zH (.v zN .e))) (h := ?_)) | (refine zZ.isR (id := 5) ?_; refine zZ.rc [1, 4, 6, 8, 9, 10] [4, 6, 8, 9, 10] (r := (.v zH (.v zN .e))) (h := ?_)) | (refine zZ.isR (id := 7) ?_; refine zZ.rc [4, 6, 8, 9, 10] [4, 6, 8, 9, 10] (r := (.v zH (.v zN (.v v41_0 (.v zK .e))))) (h := ?_)) | (refine zZ.isR (id := 2) ?_; refine zZ.rc [4, 6, 8, 9, 10] [4, 6, 8, 9, 10] (r := (.v zH (.v yU (.v yU .e)))) (h := ?_)) | (refine zZ.iq 10 ?_; refine zZ.rqb _ K_a K_b (zZ.drawAll (by kernel_rfl) ?_); repeat' (first | refine qE.many (by rfl) ?_ | refine zI.cons ?_ ?_ | exact zI.nil | refine DOne.v rfl rfl rfl (yM rfl rfl rfl (by rfl) (by rfl) rfl (by decide)) ?_ | refine DOne.w rfl rfl (by exact yT rfl rfl rfl rfl rfl (by rfl) (by exact Nat.le_of_ble_eq_true rfl) rfl rfl) ?_ | refine qE.fin (by rfl) ?_)) | refine zZ.yH rfl bA ?_ | refine zZ.block ?_ | refine zZ.ret ?_))
  all_goals exact ⟨by first | exact .inl rfl | exact .inr rfl, _, Sub.refl _, .tup (rs := [.cell 8 33, .cell 9 55]) (l := [xK t c ws root r0 r1, resN 0]) rfl (by decide) (.cons (.cellN rfl rfl (by rfl) (by rfl)) (.cons (.cellN rfl rfl (by rfl) (by rfl)) .nil))⟩
end Go.Proofs.YtmfbamiciieooaaGreatDoor
/- Contracts made weaker: nil is an empty slice. Generic over the program. -/
namespace Go.Proofs.YtmfbamiciieooaaGreatDoor
set_option maxRecDepth 100000
set_option maxHeartbeats 16000000
open Go Go.RowKit
/-- y says no more than x -/
inductive PLe0 : PV → PV → Prop
  | refl (x : PV) : PLe0 x x
  | nil : PLe0 (.val (.slice none 0 0)) (.sl [])
inductive PL0s : List PV → List PV → Prop
  | nil : PL0s [] []
  | cons {x y : PV} {xs ys : List PV} (h : PLe0 x y) (hs : PL0s xs ys) : PL0s (x :: xs) (y :: ys)
inductive PLe1 : PV → PV → Prop
  | refl (x : PV) : PLe1 x x
  | nil : PLe1 (.val (.slice none 0 0)) (.sl [])
  | sl {xs ys : List PV} (hl : xs.length = ys.length) (h : PL0s (flat xs) (flat ys)) : PLe1 (.sl xs) (.sl ys)
inductive PLes : List PV → List PV → Prop
  | nil : PLes [] []
  | cons {x y : PV} {xs ys : List PV} (h : PLe1 x y) (hs : PLes xs ys) : PLes (x :: xs) (y :: ys)
inductive PLe : PV → PV → Prop
  | one {x y : PV} (h : PLe1 x y) : PLe x y
  | agg {xs ys : List PV} (h : PLes xs ys) : PLe (.agg xs) (.agg ys)
inductive PLet : List PV → List PV → Prop
  | nil : PLet [] []
  | cons {x y : PV} {xs ys : List PV} (h : PLe x y) (hs : PLet xs ys) : PLet (x :: xs) (y :: ys)
theorem PLe0.rep {x y : PV} (h : PLe0 x y) {M : Nat → Nat → Prop} {w : World} {v : Value} (hr : Rep M w x v) : Rep M w y v := by
  cases h with
  | refl => exact hr
  | nil => cases hr; exact .nil
theorem PL0s.at_ {xs ys : List PV} (h : PL0s xs ys) : xs.length = ys.length ∧ ∀ (i : Nat) y, ys[i]? = some y → ∃ x, xs[i]? = some x ∧ PLe0 x y := by
  induction h with
  | nil => exact ⟨rfl, fun i y h => by simp at h⟩
  | cons h hs ih =>
    refine ⟨by simp [ih.1], fun i y hy => ?_⟩
    cases i with
    | zero => simp at hy; subst hy; exact ⟨_, rfl, h⟩
    | succ i => exact ih.2 i y hy
theorem PLe1.rep {x y : PV} (h : PLe1 x y) {M : Nat → Nat → Prop} {w : World} {v : Value} (hr : Rep M w x v) : Rep M w y v := by
  cases h with
  | refl => exact hr
  | nil => cases hr; exact .nil
  | sl hl h =>
    obtain ⟨hfl, hat⟩ := h.at_
    rcases rep_sl hr with ⟨⟨b, rfl⟩, h0⟩ | ⟨g, off, cap, us, rfl, hl2, hcell, hM, hg, hcap, hm⟩
    · subst h0
      have : _ = [] := List.eq_nil_of_length_eq_zero hl.symm
      subst this
      exact .nil
    · rw [hl] at hcap ⊢
      exact .sl _ g off _ cap us rfl (hl2.len.trans hfl) hcell (fun j c y hc hy => by
        obtain ⟨x, hx, hle⟩ := hat j c hc
        exact hle.rep (hl2.each j x y hx hy)) hl2.one hM hg hcap hm
theorem PLes.at_ {xs ys : List PV} (h : PLes xs ys) : xs.length = ys.length ∧ ∀ (i : Nat) y, ys[i]? = some y → ∃ x, xs[i]? = some x ∧ PLe1 x y := by
  induction h with
  | nil => exact ⟨rfl, fun i y h => by simp at h⟩
  | cons h hs ih =>
    refine ⟨by simp [ih.1], fun i y hy => ?_⟩
    cases i with
    | zero => simp at hy; subst hy; exact ⟨_, rfl, h⟩
    | succ i => exact ih.2 i y hy
theorem PLe.rep {x y : PV} (h : PLe x y) {M : Nat → Nat → Prop} {w : World} {v : Value} (hr : Rep M w x v) : Rep M w y v := by
  cases h with
  | one h => exact h.rep hr
  | agg h =>
    obtain ⟨hl, hat⟩ := h.at_
    cases hr with
    | agg cs vs hl2 h2 h1 => exact .agg _ vs (hl2.trans hl) (fun i c u hc hu => by
        obtain ⟨x, hx, hxy⟩ := hat i c hc
        exact hxy.rep (h2 i x u hx hu)) h1
theorem PLet.at_ {xs ys : List PV} (h : PLet xs ys) : xs.length = ys.length ∧ ∀ (i : Nat) y, ys[i]? = some y → ∃ x, xs[i]? = some x ∧ PLe x y := by
  induction h with
  | nil => exact ⟨rfl, fun i y h => by simp at h⟩
  | cons h hs ih =>
    refine ⟨by simp [ih.1], fun i y hy => ?_⟩
    cases i with
    | zero => simp at hy; subst hy; exact ⟨_, rfl, h⟩
    | succ i => exact ih.2 i y hy
theorem PLe.refl (x : PV) : PLe x x := .one (.refl x)
section
variable {P : Program} {f : FuncId}
theorem Fn.weakT {args l l' : List PV} (h : Fn P f args (.tup l)) (hl : PLet l l') : Fn P f args (.tup l') :=
  fun M w vs a b c d => (h M w vs a b c d).mono fun e w' ⟨v, e1, ⟨us, e2, e3, e4⟩, e5⟩ => ⟨v, e1, ⟨us, e2, e3.trans hl.at_.1, fun i x u hx hu => by
    obtain ⟨y, hy, hle⟩ := hl.at_.2 i x hx
    exact hle.rep (e4 i y u hy hu)⟩, e5⟩
end
end Go.Proofs.YtmfbamiciieooaaGreatDoor
/- Worlds: an access made, as a function of all accesses that programs ask; its contract. -/
namespace Go.Proofs.YtmfbamiciieooaaGreatDoor
set_option maxRecDepth 100000
set_option maxHeartbeats 16000000
open Go Go.RowKit
set_option linter.unusedSimpArgs false
set_option linter.unusedVariables false
attribute [local irreducible] zY zZ Step zX Sub zD zF Fn
structure Wd where
  t : Int
  c : Int
  ws : List Int
  root : Int
  r0 : List (List Int × Int)
  r1 : List (List Int × Int)
def Wd.pv (w : Wd) : PV := xK w.t w.c w.ws w.root w.r0 w.r1
def bytOf : PV → List Int
  | .val (.int _ n) => [n]
  | _ => []
def qY : PV → List Int
  | .sl es => es.flatMap bytOf
  | _ => []
theorem bytsOf_byts (bs : List Int) : qY (.sl (byts bs)) = bs := by
  show (byts bs).flatMap bytOf = bs
  induction bs with
  | nil => rfl
  | cons b r ih => show bytOf _ ++ (byts r).flatMap bytOf = _; rw [ih]; rfl
/-- a stream, behind an access of it -/
def strX (kind : Int) (bs : List Int) (p : List Int × Int) : List Int × Int := bif decide (kind = 5) then (p.1 ++ bs, p.2) else (p.1, (p.1.length : Int))
/-- an access made -/
def doX (W : Wd) (me : Nat) (q : Ned) (fails : Bool) : Wd × xM :=
  bif decide (q.kind = 5) || decide (q.kind = 6) then
    bif fails then (W, ⟨0, xQ, true⟩) else ({ W with r0 := match W.r0[me]? with
      | some p => W.r0.set me (strX q.kind (qY q.d) p)
      | none => W.r0 }, ⟨0, xQ, false⟩)
  else match (bif decide (q.cell < 0) then none else W.ws[q.cell.toNat]?) with
    | some old => ({ W with ws := W.ws.set q.cell.toNat (turnR q.kind old q.a q.b).2 }, ⟨(turnR q.kind old q.a q.b).1, xQ, false⟩)
    | none => (W, ⟨0, xQ, false⟩)
/-- a world that is right, its streams no longer than so -/
structure WdOK (b : Nat) (W : Wd) : Prop where
  ws : ∀ x ∈ W.ws, U x
  len : W.ws.length ≤ 1000000
  root : W.root = 0
  rows : W.r0.length ≤ 1000000
  str : ∀ p ∈ W.r0, p.1.length ≤ b
theorem WdOK.le {b c : Nat} {W : Wd} (h : WdOK b W) (hc : b ≤ c) : WdOK c W := ⟨h.ws, h.len, h.root, h.rows, fun p hp => Nat.le_trans (h.str p hp) hc⟩
theorem turnR_U {kind old a b : Int} (h : U old) (ha : U a) (hb : U b) : U (turnR kind old a b).1 ∧ U (turnR kind old a b).2 := by
  have z : U 0 := U.zero
  have z1 : U 1 := by unfold U; decide
  unfold turnR
  split
  · exact ⟨h, h⟩
  · split
    · exact ⟨z, ha⟩
    · split
      · split
        · exact ⟨z1, hb⟩
        · exact ⟨z, h⟩
      · split
        · exact ⟨h, by rw [wrapU]; unfold U; omega⟩
        · exact ⟨h, ha⟩
theorem Asked.len {q : Ned} (h : Asked q) : (qY q.d).length ≤ 1000 := by
  rcases h.d with h | ⟨_, bs, _, h1, e⟩
  · rw [h.2]; exact Nat.zero_le _
  · rw [e, bytsOf_byts]; exact h1
theorem doX_ok {b : Nat} {W : Wd} {q : Ned} (h : WdOK b W) (hq : Asked q) (me : Nat) (f : Bool) : WdOK (b + 1000) (doX W me q f).1 ∧ U (doX W me q f).2.n := by
  have h0 := h.le (Nat.le_add_right b 1000)
  have z : U 0 := U.zero
  have hl := hq.len
  unfold doX
  cases decide (q.kind = 5) || decide (q.kind = 6)
  · rw [cond_false]
    cases e : (bif decide (q.cell < 0) then none else W.ws[q.cell.toNat]?) with
    | none => exact ⟨h0, z⟩
    | some old =>
      have ho : U old := by
        cases hd : decide (q.cell < 0) <;> rw [hd] at e
        · exact h.ws _ (List.mem_of_getElem? e)
        · cases e
      obtain ⟨h1, h2⟩ := turnR_U (kind := q.kind) ho hq.a hq.b
      refine ⟨⟨fun x hx => ?_, by simpa using h.len, h.root, h.rows, h0.str⟩, h1⟩
      rcases List.mem_or_eq_of_mem_set hx with hx | rfl
      · exact h.ws x hx
      · exact h2
  · rw [cond_true]
    cases f
    · rw [cond_false]
      cases e : W.r0[me]? with
      | none => exact ⟨h0, z⟩
      | some p =>
        refine ⟨⟨h.ws, h.len, h.root, by simpa using h.rows, fun x hx => ?_⟩, z⟩
        rcases List.mem_or_eq_of_mem_set hx with hx | rfl
        · exact h0.str x hx
        · have hp := h.str p (List.mem_of_getElem? e)
          unfold strX
          cases decide (q.kind = 5)
          · exact Nat.le_trans hp (Nat.le_add_right _ _)
          · show (p.1 ++ qY q.d).length ≤ _
            rw [List.length_append]
            omega
    · exact ⟨h0, z⟩
theorem doX_keeps (W : Wd) (me : Nat) (q : Ned) (f : Bool) : (doX W me q f).1.t = W.t ∧ (doX W me q f).1.c = W.c ∧ (doX W me q f).1.r0.length = W.r0.length ∧ (doX W me q f).1.ws.length = W.ws.length ∧ (doX W me q f).1.r1 = W.r1 := by
  unfold doX
  cases decide (q.kind = 5) || decide (q.kind = 6)
  · rw [cond_false]
    cases (bif decide (q.cell < 0) then none else W.ws[q.cell.toNat]?) with
    | none => exact ⟨rfl, rfl, rfl, rfl, rfl⟩
    | some old => exact ⟨rfl, rfl, rfl, by simp, rfl⟩
  · rw [cond_true]
    cases f
    · rw [cond_false]
      cases W.r0[me]? with
      | none => exact ⟨rfl, rfl, rfl, rfl, rfl⟩
      | some p => exact ⟨rfl, rfl, by simp, rfl, rfl⟩
    · exact ⟨rfl, rfl, rfl, rfl, rfl⟩
theorem resN_le (n : Int) (fl : Bool) : PLe (.agg [.val (.int .u64 n), .val (.slice none 0 0), .val (.bool fl)]) (qN ⟨n, xQ, fl⟩) := .refl _
theorem doX_fn {b : Nat} {W : Wd} {q : Ned} (h : WdOK b W) (hb : b ≤ 90000000) (hq : Asked q) {me : Nat} (hme : me < W.r0.length) (f : Bool) :
    Fn Tryz.prog 13 [W.pv, .val (.int .i64 me), accV q.kind q.cell q.a q.b (.sl (byts (qY q.d))), .val (.bool f)] (.tup [(doX W me q f).1.pv, qN (doX W me q f).2]) := by
  obtain ⟨t, c, ws, root, r0, r1⟩ := W
  obtain ⟨kind, cell, a, b', d, w⟩ := q
  obtain rfl : root = 0 := h.root
  have hd : (0 ≤ kind ∧ kind ≤ 4) ∨ kind = 5 ∨ kind = 6 := by
    rcases hq.d with ⟨h, _⟩ | ⟨h, _⟩
    · rcases h with h | h
      · exact .inl h
      · exact .inr (.inr h)
    · exact .inr (.inl h)
  have hl : (qY d).length ≤ 1000 := hq.len
  rcases hd with hk | hk
  · have e : (decide (kind = 5) || decide (kind = 6)) = false := by rw [decide_eq_false (show ¬kind = 5 by omega), decide_eq_false (show ¬kind = 6 by omega)]; rfl
    unfold doX
    dsimp only
    rw [e, cond_false]
    by_cases hc : cell < 0
    · rw [decide_eq_true hc, cond_true]
      exact (doOut_fn t c kind cell a b' me 0 hk ws (.sl (byts (qY d))) r0 r1 f (.inl hc)).weakT (.cons (.refl _) (.cons (resN_le _ false) .nil))
    · rw [decide_eq_false hc, cond_false]
      cases ho : ws[cell.toNat]? with
      | none =>
        refine (doOut_fn t c kind cell a b' me 0 hk ws (.sl (byts (qY d))) r0 r1 f (.inr ?_)).weakT (.cons (.refl _) (.cons (resN_le _ false) .nil))
        have := List.getElem?_eq_none_iff.1 ho
        omega
      | some old =>
        obtain ⟨i, rfl⟩ : ∃ i : Nat, cell = (i : Int) := ⟨cell.toNat, by omega⟩
        rw [Int.toNat_natCast] at ho ⊢
        exact (doWord_fn t c kind a b' old me 0 hk i ws (.sl (byts (qY d))) r0 r1 f ho h.len).weakT (.cons (.refl _) (.cons (resN_le _ false) .nil))
  · have hme' : me < r0.length := hme
    have hr : r0[me]? = some r0[me] := List.getElem?_eq_getElem hme'
    have hs := h.str r0[me] (List.getElem_mem hme')
    generalize r0[me] = p at hr hs
    obtain ⟨x, s⟩ := p
    have hs : x.length ≤ b := hs
    unfold doX
    dsimp only
    rcases hk with rfl | rfl
    · cases f
      · simp only [hr, decide_true, Bool.true_or, cond_true, cond_false]
        exact (doDisk50_fn t c cell a b' 0 ws r0 r1 me x s (qY d) (by decide) rfl hr h.rows (by omega)).weakT (.cons (.refl _) (.cons (resN_le 0 false) .nil))
      · exact (doFail5_fn t c cell a b' me 0 ws (.sl (byts (qY d))) r0 r1).weakT (.cons (.refl _) (.cons (resN_le 0 true) .nil))
    · cases f
      · simp only [hr, decide_true, Bool.or_true, cond_true, cond_false]
        exact (doDisk60_fn t c cell a b' 0 ws r0 r1 me x s (.sl (byts (qY d))) (by decide) rfl hr h.rows).weakT (.cons (.refl _) (.cons (resN_le 0 false) .nil))
      · exact (doFail6_fn t c cell a b' me 0 ws (.sl (byts (qY d))) r0 r1).weakT (.cons (.refl _) (.cons (resN_le 0 true) .nil))
/-! ### A world's answers -/
def wSt (me : Nat) (fail : Nat → Bool) (s : Wd × Nat) (q : Ned) : Ans (Wd × Nat) := .ret (doX s.1 me q (fail s.2)).2 ((doX s.1 me q (fail s.2)).1, s.2 + 1)
theorem wSt_le {α : Type} {me : Nat} {fail : Nat → Bool} : ∀ {p : Pr α} {s : Wd × Nat} {x : α} {s' : Wd × Nat}, p.run (wSt me fail) s = .done x s' → s.2 ≤ s'.2
  | .ret _, _, _, _, h => by cases h; exact Nat.le_refl _
  | .stuck, _, _, _, h => by cases h
  | .ask q k, s, _, s', h => by
    rw [run_ask] at h
    have h2 := wSt_le (p := k _) h
    exact Nat.le_trans (Nat.le_succ _) h2
/-- what is left of a program behind a log -/
def Pr.after {α : Type} : Pr α → List xM → Option (Pr α)
  | p, [] => some p
  | .ask _ k, r :: L => (k r).after L
  | _, _ :: _ => none
theorem after_snoc {α : Type} {q : Ned} {k : xM → Pr α} (r : xM) : ∀ {L : List xM} {p : Pr α}, p.after L = some (.ask q k) → p.after (L ++ [r]) = some (k r)
  | [], p, h => by
    have : p = .ask q k := by cases p <;> exact Option.some.inj h
    subst this
    show (k r).after [] = some (k r)
    cases k r <;> rfl
  | x :: L, .ask q' k', h => after_snoc r (L := L) (p := k' x) h
  | x :: L, .ret _, h => by cases h
  | x :: L, .stuck, h => by cases h
theorem after_run {α : Type} {p' : Pr α} : ∀ {L L0 : List xM} {p : Pr α}, p.after L = some p' → p.run (wP (L0 ++ L)) L0.length = p'.run (wP (L0 ++ L)) (L0.length + L.length)
  | [], L0, p, h => by
    have : p = p' := by cases p <;> exact Option.some.inj h
    subst this
    simp
  | x :: L, L0, .ask q k, h => by
    have e : wP (L0 ++ x :: L) L0.length q = .ret x (L0.length + 1) := by unfold wP; simp
    rw [run_ask, e]
    have := after_run (L := L) (L0 := L0 ++ [x]) (p := k x) h
    simp only [List.append_assoc, List.singleton_append, List.length_append, List.length_cons, List.length_nil, Nat.zero_add] at this ⊢
    rw [this]
    congr 1
    omega
  | x :: L, _, .ret _, h => by cases h
  | x :: L, _, .stuck, h => by cases h
theorem after_need {α : Type} {p : Pr α} {L : List xM} {q : Ned} {k : xM → Pr α} (h : p.after L = some (.ask q k)) : p.run (wP L) 0 = .need q L.length := by
  have := after_run (L0 := []) h
  simp only [List.nil_append, List.length_nil, Nat.zero_add] at this
  rw [this, run_ask]
  have e : wP L L.length q = .need q L.length := by unfold wP; simp
  rw [e]
theorem after_done {α : Type} {p : Pr α} {L : List xM} {x : α} (h : p.after L = some (.ret x)) : p.run (wP L) 0 = .done x L.length := by
  have := after_run (L0 := []) h
  simp only [List.nil_append, List.length_nil, Nat.zero_add] at this
  rw [this, zC]
end Go.Proofs.YtmfbamiciieooaaGreatDoor
/- An operation that steps alone (law 15), as a tree in a world: contract. -/
namespace Go.Proofs.YtmfbamiciieooaaGreatDoor
set_option maxRecDepth 100000
set_option maxHeartbeats 16000000
open Go Go.RowKit
set_option linter.unusedSimpArgs false
set_option linter.unusedVariables false
attribute [local irreducible] zY zZ Step zX Sub zD zF Fn zB zP
structure AlSt where
  n : Nat
  W : Wd
  L : List xM
  p : Pr OutN
def noFail (_ : Nat) : Bool := false
end Go.Proofs.YtmfbamiciieooaaGreatDoor
/- An operation that steps alone (law 16), as a tree in a world: contract. -/
namespace Go.Proofs.YtmfbamiciieooaaGreatDoor
set_option maxRecDepth 100000
set_option maxHeartbeats 16000000
open Go Go.RowKit
set_option linter.unusedSimpArgs false
set_option linter.unusedVariables false
attribute [local irreducible] zY zZ Step zX Sub zD zF Fn zB zP
def aloneVS (me : Nat) (k u v w : Int) (most : Int) (s : AlSt) : AS :=
  { t := [(1, .p (.val (.int .i64 me))), (3, .p (.val (.int .i64 most))), (4, .ptr 4 0), (6, .ptr 6 0), (8, .ptr 8 0), (9, .ptr 9 0), (10, .p (.val (.bool false))), (11, .own 11), (12, .p (.val (.int .i64 (s.n : Nat))))],
    s := [(4, .box 33 (s.W.pv.cells.map AV.p)), (6, .box 37 ((opV k u v w).cells.map AV.p)), (8, .box 33 ([.val (.int .i64 0), .val (.int .i64 0), xQ, .val (.int .u64 0), xQ, xQ].map AV.p)),
      (9, .box 41 ((outV 0 false 0 0).cells.map AV.p)), (11, lentV 55 3 (s.L.map qN))] }
theorem nextV_needW (L : List xM) (hL : LogOK L) {t me : Int} (c : Int) {k u v w : Int} (ht : Small t) (h0 : 0 ≤ t) (hm : Small me) {q : Ned} {j : Nat} (hr : (vM t me k u).run (wP L) 0 = .need q j) (hq : Asked q) :
    Fn Tryz.prog 12 [.val (.int .i64 t), .val (.int .i64 c), .val (.int .i64 me), opV k u v w, logV L] (.tup [accV q.kind q.cell q.a q.b (.sl (byts (qY q.d))), outV 0 false 0 0, .val (.bool false)]) := by
  refine (nextV_need L hL c (v := v) (w := w) ht h0 hm hr).weakT (.cons (.agg (.cons (.refl _) (.cons (.refl _) (.cons (.refl _) (.cons (.refl _) (.cons ?_ (.cons (.refl _) .nil))))))) (.cons (.refl _) (.cons (.refl _) .nil)))
  rcases hq.d with ⟨_, e⟩ | ⟨_, bs, _, _, e⟩
  · rw [e]; exact .nil
  · rw [e, bytsOf_byts]; exact .refl _
theorem aloneV_fn (B : Nat) (W W' : Wd) (me : Nat) (k u v w : Int) (most : Nat) (m : Nat) (o : OutN) (hW : WdOK B W) (ht0 : Small W.t) (h0t : 0 ≤ W.t) (hme : me < W.r0.length)
    (hr : (vM W.t me k u).run (wSt me noFail) (W, 0) = .done o (W', m)) (hmm : m ≤ most) (h1000 : most ≤ 1000) (hB : B ≤ 70000000) (hB2 : B + 1000 * most ≤ 90000000) :
    Fn Tryz.prog 10 [W.pv, .val (.int .i64 me), opV k u v w, .val (.int .i64 most)] (.tup [W'.pv, outV o.e o.is o.n o.w, .val (.bool true)]) := by
  have hfine := fine_vop W.t me k u
  obtain ⟨t, c, ws, root, r0, r1⟩ := W
  have hme : me < r0.length := hme
  have ht0 : Small t := ht0
  have h0t : 0 ≤ t := h0t
  have hms : Small ((me : Nat) : Int) := ⟨by omega, by have h1 : r0.length ≤ 1000000 := hW.rows; omega⟩
  refine z8 Tryz.func10 rfl Tryz.ntmps10 (Nat.le_of_ble_eq_true rfl) ?_
  repeat' (first | (refine zY.nil ?_) | (refine zZ.is ?_; first | refine zZ.seq ?_ | (refine zZ.isR (id := 0) ?_; refine zZ.rc [0, 1, 2, 3] [4, 6, 8, 9, 11, 13, 14, 16, 17, 50] (r := (.m yD (.m yD (.m zS (.m zS (.v zK .e)))))) (h := ?_)) | (refine zZ.isR (id := 1) ?_; refine zZ.rc [1, 3, 4, 6, 8, 9, 10] [4, 6, 8, 9, 11, 13, 14, 16, 17, 50] (r := (.v zK .e)) (h := ?_)) | (refine zZ.isR (id := 2) ?_; refine zZ.rc [1, 3, 4, 6, 8, 9, 10, 11] [4, 6, 8, 9, 11, 13, 14, 16, 17, 50] (r := (.v zK .e)) (h := ?_)) | refine zZ.block ?_) | refine zB.n ?_)
  refine zZ.loop (fun s => aloneVS me k u v w most s) (fun s => s.n ≤ m ∧ s.W.t = t ∧ s.W.r0.length = r0.length ∧ WdOK (B + 1000 * s.n) s.W ∧ s.L.length = s.n ∧ (∀ r ∈ s.L, U r.n) ∧ (vM t me k u).after s.L = some s.p ∧ s.p.wD yes (many - s.n) ∧ s.p.run (wSt me noFail) (s.W, s.n) = .done o (W', m)) (fun s => most + 1 - s.n) ⟨0, ⟨t, c, ws, root, r0, r1⟩, [], vM t me k u⟩ ?h0
    ⟨Nat.zero_le _, rfl, rfl, hW, rfl, (fun r h => by simp at h), (by cases vM t me k u <;> rfl), hfine, hr⟩ ?rd
  case h0 =>
    refine (sub_adopt (d := 11) (id := 11) (ty := 55) (sz := 3) (by decide) rfl).trans ?_
    refine (vX (id := 11) (b := .row 55 3 0 []) (b' := qF 55 3 []) (by rfl) (qG 55 3 [])).sub.trans ?_
    refine (sub_lend (id := 11) (e := 55) (sz := 3) (es := []) (by rfl)).trans ?_
    exact zT K_j K_k
  case rd =>
    rintro ⟨n, W, L, p⟩ ⟨hn, ht, hrl, hok, hl, hru, haf, hfi, hrun⟩
    dsimp only at hn ht hrl hok hl hru haf hfi hrun
    obtain ⟨t', c', ws', root', r0', r1'⟩ := W
    have ht : t' = t := ht
    subst ht
    change zZ _ _ _ (aloneVS me k u v w most ⟨n, ⟨t', c', ws', root', r0', r1'⟩, L, p⟩) _
    unfold aloneVS
    dsimp only
    have g1 : decide ((n : Int) ≤ most) = true := decide_eq_true (by omega)
    repeat' (first | (refine zY.nil ?_) | (refine zZ.is ?_; first | refine zZ.seq ?_ | (refine zZ.isR (id := 3) ?_; refine zZ.rc [1, 3, 4, 6, 8, 9, 10, 11, 12, 13, 14, 15, 16, 17, 20, 37] [4, 6, 8, 9, 11, 13, 14, 16, 17, 50] (r := (.v zV (.v zV (.v v44_0 .e)))) (h := ?_)) | (refine zZ.isR (id := 5) ?_; refine zZ.rc [1, 3, 4, 6, 8, 9, 10, 11, 12, 13, 14, 15, 16, 17, 20, 37] [4, 6, 8, 9, 11, 13, 14, 16, 17, 50] (r := (.v zH (.v zH (.v zN (.v zH (.v zH (.v zN (.v zV (.v yU (.v v0_1 .e)))))))))) (h := ?_)) | refine zZ.yF rfl bA ?_ | refine zZ.skip ?_ | refine zZ.block ?_) | refine zB.n ?_)
    refine zY.sub (sub_view (d := 32) (id := 11) (e := 55) (sz := 3) (es := L.map qN) rfl rfl) ?_
    have hL : LogOK L := ⟨by omega, hru⟩
    cases p with
    | stuck => cases hrun
    | ret o' =>
      rw [zC] at hrun
      injection hrun with e1 e2
      injection e2 with e2 e3
      subst e1 e2
      have c1 := nextV_done L hL c' (v := v) (w := w) ht0 h0t hms (after_done haf)
      repeat' (first | (refine zY.is ?_; first | refine zY.nil ?_ | (refine zY.at_ 23 rfl ?_; refine zY.rc (.v wQ (.v yV (.v yV (.v yV (.m zS (.m zS (.w zR (.w zR (.v zK .e))))))))) ?_) | (refine zY.in_ [33] rfl ?_; refine zY.v rfl rfl (yS (c1) rfl rfl rfl (by decide)) ?_)) | (refine zZ.is ?_; first | refine zZ.seq ?_ | (refine zZ.isR (id := 6) ?_; refine zZ.rc [1, 3, 4, 6, 8, 9, 10, 11, 12, 13, 14, 15, 16, 17, 20, 37] [4, 6, 8, 9, 11, 13, 14, 16, 17, 50] (r := (.v zV .e)) (h := ?_)) | (refine zZ.isR (id := 7) ?_; refine zZ.rk [1, 3, 4, 6, 8, 9, 10, 11, 12, 13, 14, 15, 16, 17, 20, 37] [4, 6, 8, 9, 11, 13, 14, 16, 17, 50] ?_; refine zZ.drawGo (by kernel_rfl) ?_) | refine zZ.yF rfl bA ?_ | refine zZ.ret ?_) | refine zB.n ?_ | refine zB.r ?_ | refine zP.r ?_ | (refine DGo.at_ [] ?_; refine DGo.all [0, 1] (by kernel_rfl) ?_) | (refine DGo.at_ [1] ?_; refine DGo.all [0] (by kernel_rfl) ?_) | (refine DGo.at_ [0, 1] ?_; refine DGo.all [2] (by kernel_rfl) ?_) | (refine DGo.at_ [2, 0, 1] ?_; refine DGo.all [3] (by kernel_rfl) ?_) | (refine DGo.at_ [3, 2, 0, 1] ?_; refine DGo.fr 4 ?_) | (refine DGo.at_ [4, 3, 2, 0, 1] ?_; refine DGo.fin (by kernel_rfl) ?_) | (refine DGo.at_ [0] ?_; refine DGo.all [1, 2] (by kernel_rfl) ?_) | (refine DGo.at_ [2, 0] ?_; refine DGo.all [1] (by kernel_rfl) ?_) | (refine DGo.at_ [1, 2, 0] ?_; refine DGo.all [3] (by kernel_rfl) ?_) | (refine DGo.at_ [3, 1, 2, 0] ?_; refine DGo.fr 4 ?_) | (refine DGo.at_ [4, 3, 1, 2, 0] ?_; refine DGo.fin (by kernel_rfl) ?_) | (refine DGo.at_ [1, 0] ?_; refine DGo.all [2] (by kernel_rfl) ?_) | (refine DGo.at_ [2, 1, 0] ?_; refine DGo.all [3] (by kernel_rfl) ?_) | (refine DGo.at_ [3, 2, 1, 0] ?_; refine DGo.fr 4 ?_) | (refine DGo.at_ [4, 3, 2, 1, 0] ?_; refine DGo.fin (by kernel_rfl) ?_) | refine zI.cons ?_ ?_ | exact zI.nil | (refine zM.at_ 0 ?_; refine zM.v rfl rfl rfl (yM rfl rfl rfl (by rfl) (by rfl) rfl (by decide)) ?_) | (refine zM.at_ 1 ?_; refine zM.v rfl rfl rfl (yM rfl rfl rfl (by rfl) (by rfl) rfl (by decide)) ?_) | (refine zM.at_ 2 ?_; refine zM.w rfl rfl (by exact yT rfl rfl rfl rfl rfl (by rfl) (by exact Nat.le_of_ble_eq_true rfl) rfl rfl) ?_) | (refine zM.at_ 3 ?_; refine zM.w rfl rfl (by exact yT rfl rfl rfl rfl rfl (by rfl) (by exact Nat.le_of_ble_eq_true rfl) rfl rfl) ?_))
      all_goals exact ⟨by first | exact .inl rfl | exact .inr rfl, _, Sub.refl _, .tup (rs := [.cell 8 33, .cell 9 41, .tmp 10]) (l := [Wd.pv ⟨t', c', ws', root', r0', r1'⟩, outV o'.e o'.is o'.n o'.w, .val (.bool true)]) rfl (by decide) (.cons (.cellN rfl rfl (by rfl) (by rfl)) (.cons (.cellN rfl rfl (by rfl) (by rfl)) (.cons (.tmp rfl) .nil)))⟩
    | ask q kq =>
      have hq : Asked q := hfi.1
      rw [run_ask] at hrun
      have hrun2 : (kq (doX ⟨t', c', ws', root', r0', r1'⟩ me q false).2).run (wSt me noFail) ((doX ⟨t', c', ws', root', r0', r1'⟩ me q false).1, n + 1) = .done o (W', m) := hrun
      have hle := wSt_le hrun2
      dsimp only at hle
      have c1 := nextV_needW L hL c' (v := v) (w := w) ht0 h0t hms (after_need haf) hq
      have hdo := doX_ok hok hq me false
      have hkeep := doX_keeps ⟨t', c', ws', root', r0', r1'⟩ me q false
      have hme' : me < r0'.length := by have : r0'.length = r0.length := hrl; omega
      have c2 := doX_fn hok (by omega) hq (me := me) hme' false
      have haf2 := after_snoc (doX ⟨t', c', ws', root', r0', r1'⟩ me q false).2 haf
      generalize hde : doX ⟨t', c', ws', root', r0', r1'⟩ me q false = dd at *
      obtain ⟨W2, r⟩ := dd
      dsimp only at hrun2 hle c2 hdo hkeep haf2
      have g3 : IntKind.i64.wrap ((n : Int) + 1) = ((n + 1 : Nat) : Int) := by rw [wrap_i64 _ (by omega)]; omega
      have g4 : ∀ e ∈ L.map qN, e.cells.length = 3 := resV_cells L
      have g5 : ∀ e ∈ [qN r], e.cells.length = 3 := fun e he => by simp at he; subst he; rfl
      have g10 : ((L.map qN).length + ([qN r] : List PV).length) * 40 ≤ 140737488355328 ∧ (L.map qN).length + ([qN r] : List PV).length ≤ maxLen := by
        simp only [List.length_map, List.length_cons, List.length_nil, maxLen]
        omega
      have hnext : n + 1 ≤ m ∧ W2.t = t' ∧ W2.r0.length = r0.length ∧ WdOK (B + 1000 * (n + 1)) W2 ∧ (L ++ [r]).length = n + 1 ∧ (∀ x ∈ L ++ [r], U x.n) ∧ (vM t' me k u).after (L ++ [r]) = some (kq r) ∧ (kq r).wD yes (many - (n + 1)) ∧ (kq r).run (wSt me noFail) (W2, n + 1) = .done o (W', m) :=
        ⟨hle, hkeep.1, hkeep.2.2.1.trans hrl, hdo.1.le (by omega), by simp [hl], (fun x hx => by
          rcases List.mem_append.1 hx with hx | hx
          · exact hru x hx
          · simp at hx; subst hx; exact hdo.2), haf2, Pr.wD.le (by omega) (hfi.2 r hdo.2), hrun2⟩
      have ps_ := trivial
      repeat' (first | (refine zY.is ?_; first | refine zY.nil ?_ | (refine zY.at_ 23 rfl ?_; refine zY.rc (.v wQ (.v yV (.v yV (.v yV (.m zS (.m zS (.w zR (.w zR (.v zK .e))))))))) ?_) | (refine zY.at_ 40 rfl ?_; refine zY.rc (.v wQ (.v yV (.v yV (.m zS (.m zS (.w zR (.w zR .e))))))) ?_) | (refine zY.in_ [33] rfl ?_; refine zY.v rfl rfl (yS (c1) rfl rfl rfl (by decide)) ?_) | (refine zY.in_ [44] rfl ?_; refine zY.v rfl rfl (yS (c2) rfl rfl rfl (by decide)) ?_)) | (refine zZ.is ?_; first | refine zZ.seq ?_ | (refine zZ.isR (id := 6) ?_; refine zZ.rc [1, 3, 4, 6, 8, 9, 10, 11, 12, 13, 14, 15, 16, 17, 20, 37] [4, 6, 8, 9, 11, 13, 14, 16, 17, 50] (r := (.v zV .e)) (h := ?_)) | (refine zZ.isR (id := 8) ?_; refine zZ.rc [1, 3, 4, 6, 8, 9, 10, 11, 12, 13, 14, 15, 16, 17, 20, 37] [4, 6, 8, 9, 11, 13, 14, 16, 17, 50] (r := (.v yU (.v zV (.v yU .e)))) (h := ?_)) | (refine zZ.isR (id := 9) ?_; refine zZ.rc [1, 3, 4, 6, 8, 9, 10, 11, 12, 13, 14, 15, 16, 17, 20, 37] [4, 6, 8, 9, 11, 13, 14, 16, 17, 50] (r := (.v yU (.w zR .e))) (h := ?_)) | (refine zZ.isR (id := 10) ?_; refine zZ.rc [1, 3, 4, 6, 8, 9, 10, 11, 12, 13, 14, 15, 16, 17, 20, 37] [4, 6, 8, 9, 11, 13, 14, 16, 17, 50] (r := (.v v0_1 (.v yU (.v v20_0 (.w w55_3 (.v v1_1 .e)))))) (h := ?_)) | (refine zZ.isR (id := 4) ?_; refine zZ.rc [1, 3, 4, 6, 8, 9, 10, 11, 12, 13, 14, 15, 16, 17, 20, 37] [4, 6, 8, 9, 11, 13, 14, 16, 17, 50] (r := (.v zV (.v wC (.v zK .e)))) (h := ?_)) | refine zZ.yH rfl bA ?_ | refine zZ.skip ?_) | refine zB.n ?_ | refine zP.n ?_)
      all_goals
        refine ⟨⟨n + 1, W2, L ++ [r], kq r⟩, ?_, hnext, by dsimp only; omega⟩
        show Sub _ (aloneVS me k u v w most ⟨n + 1, W2, L ++ [r], kq r⟩)
        unfold aloneVS
        dsimp only
        rw [List.map_append]
        exact zT K_j K_k
end Go.Proofs.YtmfbamiciieooaaGreatDoor
/- New disks (reference): contract. -/
namespace Go.Proofs.YtmfbamiciieooaaGreatDoor
set_option maxRecDepth 100000
set_option maxHeartbeats 16000000
open Go Go.RowKit
set_option linter.unusedSimpArgs false
attribute [local irreducible] zY zZ Step zX Sub zD zF Fn
def zStr : PV := .agg [.val (.slice none 0 0), .val (.int .i64 0)]
theorem flat_zs : ∀ t : Nat, PL0s (flat (List.replicate t zStr)) (flat (strs (List.replicate t ([], 0))))
  | 0 => .nil
  | t + 1 => .cons .nil (.cons (.refl _) (flat_zs t))
theorem zStr_cells (t : Nat) : ∀ e ∈ List.replicate t zStr, e.cells.length = 2 := fun e he => by
  rw [List.eq_of_mem_replicate he]
  rfl
theorem new7_fn (t : Nat) (h1 : 1 ≤ t) (h64 : t ≤ 64) : Fn Tryz.prog 24 [.val (.int .i64 t)] (.tup [wE 0 (List.replicate t ([], 0)) (List.replicate t ([], 0)), .val (.int .i64 0)]) := by
  have g1 : decide ((t : Int) < 1) = false := decide_eq_false (by omega)
  have g2 : decide ((64 : Int) < t) = false := decide_eq_false (by omega)
  have g3 : t * 2 ≤ 16777216 ∧ 32 * t ≤ 281474976710656 ∧ t ≤ maxLen := by simp only [maxLen]; omega
  have g4 := zStr_cells t
  refine Fn.weakT (l := [.agg [.val (.int .u64 0), .sl (List.replicate t zStr), .sl (List.replicate t zStr)], .val (.int .i64 0)]) ?_ (.cons (.agg (.cons (.refl _) (.cons (.sl (by simp [strs]) (flat_zs t)) (.cons (.sl (by simp [strs]) (flat_zs t)) .nil)))) (.cons (.refl _) .nil))
  refine z8 Tryz.func24 rfl Tryz.ntmps24 (Nat.le_of_ble_eq_true rfl) ?_
  repeat' ((refine zZ.is ?_; first | refine zZ.seq ?_ | (refine zZ.iq 0 ?_; refine zZ.rqe _ K_q K_g ?_; (refine zY.m rfl rfl (w_alloc rfl (by decide) rfl (by decide)) ?_); (refine zY.v rfl rfl (yB rfl rfl rfl (by decide)) ?_); refine zY.nil ?_) | (refine zZ.iq 1 ?_; refine zZ.rqc _ K_1a K_g ?_; all_goals (refine zY.v rfl rfl (yE rfl rfl rfl (by decide)) ?_); all_goals (refine zY.v rfl rfl (by exact r_lss rfl rfl rfl (by exact g1) rfl (by decide)) ?_); all_goals (refine zY.v rfl rfl (yE rfl rfl rfl (by decide)) ?_); all_goals (refine zY.gY rfl rfl (by decide) rfl (by with_reducible rfl) rfl (by decide) (yE rfl rfl rfl (by decide)) ?_); all_goals (refine zY.gY rfl rfl (by decide) rfl (by with_reducible rfl) rfl (by decide) (by exact r_gtr rfl rfl rfl (by exact g2) rfl (by decide)) ?_); all_goals (refine zY.v rfl rfl (by exact w_pickN rfl rfl (by with_reducible rfl) rfl rfl (by decide)) ?_); all_goals (refine zY.nil ?_)) | (refine zZ.iq 3 ?_; refine zZ.rqc _ K_1a K_g ?_; (refine zY.m rfl rfl (w_alloc rfl (by decide) rfl (by decide)) ?_); refine zY.nil ?_) | (refine zZ.iq 4 ?_; refine zZ.rqc _ K_1m K_g ?_; (refine zY.v rfl rfl (yE rfl rfl rfl (by decide)) ?_); (refine zY.m rfl rfl (by exact w_makeVN rfl rfl rfl (by exact g3) rfl (by decide) (by rfl) rfl (by decide)) ?_); (refine zY.v rfl rfl (yN rfl rfl rfl (by decide)) ?_); (refine zY.v rfl rfl (by exact w_idxArr rfl rfl rfl (by omega) rfl (by decide)) ?_); (refine zY.w rfl (by exact w_storeO rfl rfl rfl rfl rfl rfl (by exact Nat.le_of_ble_eq_true rfl) rfl rfl) ?_); refine zY.nil ?_) | (refine zZ.isR (id := 5) ?_; refine zZ.xW [0, 2, 3, 4] [2, 4, 13, 17] (by repeat' first | exact zG.nil | apply zG.p rfl | apply zG.ptr rfl) (by repeat' first | exact zO.nil | apply zO.boxP rfl rfl | apply zO.some rfl | apply zO.skip) ?_; (refine zY.v rfl rfl (yE rfl rfl rfl (by decide)) ?_); (refine zY.m rfl rfl (by exact w_makeVN rfl rfl rfl (by exact g3) rfl (by decide) (by rfl) rfl (by decide)) ?_); (refine zY.v rfl rfl (yN rfl rfl rfl (by decide)) ?_); (refine zY.v rfl rfl (by exact w_idxArr rfl rfl rfl (by omega) rfl (by decide)) ?_); (refine zY.w rfl (by exact w_storeO rfl rfl rfl rfl rfl rfl (by exact Nat.le_of_ble_eq_true rfl) rfl rfl) ?_); refine zY.nil ?_) | (refine zZ.isR (id := 6) ?_; refine zZ.sub (sub_frz (id := 13) rfl) ?_; refine zZ.sub (sub_frz (id := 17) rfl) ?_; refine zZ.rqc _ K_c K_g ?_; (refine zY.v rfl rfl (yM rfl rfl rfl (by rfl) (by rfl) rfl (by decide)) ?_); (refine zY.w rfl (by exact yT rfl rfl rfl rfl rfl (by rfl) (by exact Nat.le_of_ble_eq_true rfl) rfl rfl) ?_); (refine zY.v rfl rfl (yB rfl rfl rfl (by decide)) ?_); refine zY.nil ?_) | refine zZ.yH rfl (by first | assumption | with_reducible rfl) ?_ | refine zZ.skip ?_ | refine zZ.ret ?_))
  all_goals exact ⟨by first | exact .inl rfl | exact .inr rfl, _, Sub.refl _, .tup (rs := [.cell 2 31, .tmp 3]) (l := [.agg [.val (.int .u64 0), .sl (List.replicate t zStr), .sl (List.replicate t zStr)], .val (.int .i64 0)]) rfl (by decide) (.cons (.cellN rfl rfl (by rfl) (by rfl)) (.cons (.tmp rfl) .nil))⟩
end Go.Proofs.YtmfbamiciieooaaGreatDoor
/- New worlds (reference), that their callers may write into: contracts. -/
namespace Go.Proofs.YtmfbamiciieooaaGreatDoor
set_option maxRecDepth 100000
set_option maxHeartbeats 16000000
open Go Go.RowKit
set_option linter.unusedSimpArgs false
attribute [local irreducible] zY zZ Step zX Sub zD zF Fn
/-- the free list's words -/
def freeW (t : Nat) : Nat → List Int → List Int
  | 0, l => l
  | k + 1, l => (freeW t k l).set (8 + t + 8 * k + 7) ((k : Int) + 2)
theorem freeW_len (t : Nat) (l : List Int) : ∀ k, (freeW t k l).length = l.length
  | 0 => rfl
  | k + 1 => by rw [freeW, List.length_set, freeW_len t l k]
def newW (t c : Nat) : List Int := freeW t (c - 1) ((List.replicate (8 + t + 8 * c) 0).set 1 1)
def newS (t c : Nat) (k : Nat) : AS :=
  { t := [(0, .p (.val (.int .i64 (t : Nat)))), (1, .p (.val (.int .i64 (c : Nat)))), (4, .ptr 4 0), (5, .p (.val (.int .i64 0))), (6, .ptr 6 0), (7, .p (.val (.int .i64 ((k + 1 : Nat) : Int))))],
    s := [(4, .box 26 ([.val (.int .i64 0), .val (.int .i64 0), .val (.slice none 0 0)].map AV.p)), (6, .box 26 [.p (.val (.int .i64 (t : Nat))), .p (.val (.int .i64 (c : Nat))), .own 30]), (30, qF 27 1 (wds (freeW t k ((List.replicate (8 + t + 8 * c) 0).set 1 1))))] }
theorem new9A_fn (t c : Nat) (h1 : 1 ≤ t) (h64 : t ≤ 64) (hc1 : 1 ≤ c) (hc : c ≤ 65536) : FnAg Tryz.prog 23 [.val (.int .i64 t), .val (.int .i64 c)] [.p (.val (.int .i64 t)), .p (.val (.int .i64 c)), .o 0] 27 1 (wds (newW t c)) (some (.int .i64 0)) := by
  have g1 : decide ((t : Int) < 1) = false := decide_eq_false (by omega)
  have g2 : decide ((64 : Int) < t) = false := decide_eq_false (by omega)
  have f1 : decide ((c : Int) < 0) = false := decide_eq_false (by omega)
  have f2 : decide ((65536 : Int) < c) = false := decide_eq_false (by omega)
  have g3 : (8 + t + 8 * c) * 1 ≤ 16777216 ∧ 8 * (8 + t + 8 * c) ≤ 281474976710656 ∧ 8 + t + 8 * c ≤ maxLen := by simp only [maxLen]; omega
  have g4 : IntKind.i64.wrap (8 + (t : Int)) = 8 + (t : Int) := wrap_i64 _ (by omega)
  have g4b : IntKind.i64.wrap (8 * (c : Int)) = 8 * (c : Int) := wrap_i64 _ (by omega)
  have g5 : IntKind.i64.wrap (8 + (t : Int) + 8 * (c : Int)) = ((8 + t + 8 * c : Nat) : Int) := by rw [wrap_i64 _ (by omega)]; omega
  have g6 : ∀ e ∈ List.replicate (8 + t + 8 * c) (PV.val (.int .u64 0)), e.cells.length = 1 := fun e he => by rw [List.eq_of_mem_replicate he]; rfl
  have g7 : (0 : Int) ≤ 1 ∧ (1 : Int) < (List.replicate (8 + t + 8 * c) (PV.val (.int .u64 0))).length := by simp; omega
  have g8 : (1 : Int).toNat < (List.replicate (8 + t + 8 * c) (PV.val (.int .u64 0))).length := by simp; omega
  have g9 : decide ((0 : Int) < c) = true := decide_eq_true (by omega)
  refine fn_ofAg Tryz.func23 rfl Tryz.ntmps23 (Nat.le_of_ble_eq_true rfl) ?_
  repeat' (first | (refine zY.at_ 31 rfl ?_; refine zY.v rfl rfl (w_buildAg 30 rfl (by rfl) (by rfl) rfl rfl (by rfl) (by rfl) rfl (by decide)) ?_) | (refine zY.is ?_; first | refine zY.nil ?_ | (refine zY.at_ 6 rfl ?_; refine zY.rc (.m zS (.w zR .e)) ?_)) | (refine zZ.is ?_; first | refine zZ.seq ?_ | (refine zZ.isR (id := 0) ?_; refine zZ.rc [0, 1] [4, 6, 30] (r := (.m zS (.v zK .e))) (h := ?_)) | (refine zZ.isR (id := 1) ?_; refine zZ.rc [0, 1, 4, 5] [4, 6, 30] (r := (.v zV (.v xY (.v zV (.gY zV (.gY v45_0 (.v xC (.v zV (.gY zV (.gY xY (.v xC (.v zV (.gY zV (.gY v45_0 (.v xC .e))))))))))))))) (h := ?_)) | (refine zZ.isR (id := 3) ?_; refine zZ.rc [0, 1, 4, 5] [4, 6, 30] (r := (.v zV (.v zV (.v zV (.v wC (.v zV (.v v32_0 (.v wC (.m m21_0 .e))))))))) (h := ?_)) | (refine zZ.isR (id := 4) ?_; refine zZ.rc [0, 1, 4, 5, 6] [4, 6, 30] (r := (.v zV (.v v45_0 .e))) (h := ?_)) | (refine zZ.isR (id := 5) ?_; refine zZ.rc [0, 1, 4, 5, 6] [4, 6, 30] (r := (.v zH (.v v2_8 (.v v7_38 (.w w24_1 .e))))) (h := ?_)) | (refine zZ.isR (id := 6) ?_; refine zZ.rc [0, 1, 4, 5, 6] [4, 6, 30] (r := (.v zK .e)) (h := ?_)) | refine zZ.yF rfl bA ?_ | refine zZ.yH rfl bA ?_ | refine zZ.skip ?_ | refine zZ.block ?_))
  refine zZ.loop (newS t c) (fun k => k + 1 ≤ c) (fun k => c - k) 0 ?h0 (by omega) ?rd
  case h0 =>
    have e0 : wds (freeW t 0 ((List.replicate (8 + t + 8 * c) 0).set 1 1)) = (List.replicate (8 + t + 8 * c) (PV.val (.int .u64 0))).set (1 : Int).toNat (.val (.int .u64 1)) := by simp [wds, freeW, List.map_set]
    unfold newS
    rw [e0]
    exact yL K_1b K_1c
  case rd =>
    rintro k hk
    have hfl : (freeW t k ((List.replicate (8 + t + 8 * c) 0).set 1 1)).length = 8 + t + 8 * c := by rw [freeW_len]; simp
    unfold newS
    by_cases hkc : k + 1 < c
    case pos =>
      have f3 : decide (((k + 1 : Nat) : Int) < c) = true := decide_eq_true (by omega)
      have c3 : Fn Tryz.prog 22 [.val (.int .i64 (t : Nat)), .val (.int .i64 ((k + 1 : Nat) : Int)), .val (.int .i64 7)] (.p (.val (.int .i64 ((8 + t + 8 * k + 7 : Nat) : Int)))) := by
        have h := fieldRef_fn t ((k + 1 : Nat) : Int) 7 (by unfold Small; omega) (by omega) (by unfold Small; omega)
        have e : yK t ((k + 1 : Nat) : Int) 7 = ((8 + t + 8 * k + 7 : Nat) : Int) := by unfold yK; omega
        rw [← e]; exact h
      have g10 : IntKind.i64.wrap (((k + 1 : Nat) : Int) + 1) = ((k + 2 : Nat) : Int) := by rw [wrap_i64 _ (by omega)]; omega
      have g11 : IntKind.u64.wrap ((k + 2 : Nat) : Int) = (k : Int) + 2 := by rw [wrap_u64 _ (by omega)]; omega
      have g12 := wds_cells (freeW t k ((List.replicate (8 + t + 8 * c) 0).set 1 1))
      have g13 : (0 : Int) ≤ ((8 + t + 8 * k + 7 : Nat) : Int) ∧ ((8 + t + 8 * k + 7 : Nat) : Int) < (wds (freeW t k ((List.replicate (8 + t + 8 * c) 0).set 1 1))).length := by rw [vS, hfl]; omega
      have g14 : ((8 + t + 8 * k + 7 : Nat) : Int).toNat < (wds (freeW t k ((List.replicate (8 + t + 8 * c) 0).set 1 1))).length := by rw [vS, hfl]; omega
      repeat' (first | (refine zY.nil ?_) | (refine zZ.is ?_; first | refine zZ.seq ?_ | (refine zZ.isR (id := 7) ?_; refine zZ.rc [0, 1, 4, 5, 6, 7, 39] [4, 6, 30] (r := (.v zV (.v zV (.v xY .e)))) (h := ?_)) | (refine zZ.isR (id := 9) ?_; refine zZ.rk [0, 1, 4, 5, 6, 7, 39] [4, 6, 30] ?_; refine zZ.draws ?_) | (refine zZ.isR (id := 8) ?_; refine zZ.rc [0, 1, 4, 5, 6, 7, 39] [4, 6, 30] (r := (.v zV (.v wC (.v zK .e)))) (h := ?_)) | refine zZ.yF rfl bA ?_ | refine zZ.skip ?_ | refine zZ.block ?_) | refine zB.n ?_ | (refine Draws.is ?_; first | refine Draws.rc (.v zV (.v wC (.v v6_0 (.v v7_38 .e)))) ?_ | refine Draws.rc (.v zH (.v v2_8 (.v zV (.v zV .e)))) ?_ | (refine Draws.in_ [46] rfl ?_; refine Draws.v rfl rfl (zL (c3) rfl rfl rfl (by decide)) ?_) | refine Draws.done (by kernel_rfl) (by kernel_rfl) (by kernel_rfl) ?_) | (refine zD.is ?_; first | refine zD.nil ?_ | refine zD.rc (.w w24_1 .e) ?_))
      refine ⟨k + 1, ?_, by omega, by omega⟩
      have e1 : wds (freeW t (k + 1) ((List.replicate (8 + t + 8 * c) 0).set 1 1)) = (wds (freeW t k ((List.replicate (8 + t + 8 * c) 0).set 1 1))).set ((8 + t + 8 * k + 7 : Nat) : Int).toNat (.val (.int .u64 ((k : Int) + 2))) := by rw [wds_set, Int.toNat_natCast]; rfl
      show Sub _ (newS t c (k + 1))
      unfold newS
      rw [e1]
      exact yL K_1b K_1c
    case neg =>
      obtain rfl : k = c - 1 := by omega
      have f3 : decide (((c - 1 + 1 : Nat) : Int) < c) = false := decide_eq_false (by omega)
      repeat' (first | (refine zY.nil ?_) | (refine zZ.is ?_; first | refine zZ.seq ?_ | (refine zZ.isR (id := 7) ?_; refine zZ.rc [0, 1, 4, 5, 6, 7, 39] [4, 6, 30] (r := (.v zV (.v zV (.v xY .e)))) (h := ?_)) | (refine zZ.isR (id := 10) ?_; refine zZ.rc [4, 5, 6] [4, 6, 30] (r := (.v v2_19 (.w zR (.v zK .e)))) (h := ?_)) | refine zZ.yH rfl bA ?_ | refine zZ.exit ?_ | refine zZ.ret ?_))
      all_goals exact ⟨by first | exact .inl rfl | exact .inr rfl, .two (k := 30) rfl rfl rfl (by rfl) (by rfl) rfl rfl⟩
theorem new10A_fn (t c : Nat) (h1 : 1 ≤ t) (h64 : t ≤ 64) (hc1 : 1 ≤ c) (hc : c ≤ 65536) : FnAg Tryz.prog 9 [.val (.int .i64 t), .val (.int .i64 c)] ([.p (.val (.int .i64 t)), .p (.val (.int .i64 c)), .o 0] ++ (wE 0 (List.replicate t ([], 0)) (List.replicate t ([], 0))).cells.map .p) 27 1 (wds (newW t c)) none := by
  have c1 := new9A_fn t c h1 h64 hc1 hc
  have c2 := new7_fn t h1 h64
  refine fn_ofAg Tryz.func9 rfl Tryz.ntmps9 (Nat.le_of_ble_eq_true rfl) ?_
  repeat' (first | (refine zY.is ?_; first | refine zY.nil ?_ | (refine zY.at_ 15 rfl ?_; refine zY.rc (.v wQ (.v yV (.v yV (.m zS (.w zR (.v zK .e)))))) ?_) | (refine zY.at_ 9 rfl ?_; refine zY.rc (.v wQ (.v v9_2 (.v yV (.m zS (.w zR (.v zK .e)))))) ?_) | (refine zY.in_ [17] rfl ?_; refine zY.v rfl rfl (yS (c2) rfl rfl rfl (by decide)) ?_) | (refine zY.in_ [12] rfl ?_; refine zY.m rfl rfl (w_callAg c1 rfl rfl rfl (by decide)) ?_)) | (refine zZ.is ?_; first | refine zZ.seq ?_ | (refine zZ.isR (id := 0) ?_; refine zZ.rc [0, 1] [4, 5, 7, 12, 17] (r := (.m zS .e)) (h := ?_)) | (refine zZ.isR (id := 1) ?_; refine zZ.rc [0, 1, 4] [4, 5, 7, 12, 17] (r := (.v zV (.v zV .e))) (h := ?_)) | (refine zZ.isR (id := 2) ?_; refine zZ.rc [0, 4, 5] [4, 5, 7, 12, 17] (r := (.v zV .e)) (h := ?_)) | (refine zZ.isR (id := 3) ?_; refine zZ.rc [4, 5, 7] [4, 5, 7, 12, 17] (r := (.v v2_19 (.v yU (.v v10_2 (.w zR .e))))) (h := ?_)) | refine zZ.ret ?_))
  all_goals exact ⟨by first | exact .inl rfl | exact .inr rfl, .one (k := 12) rfl rfl rfl (by rfl) (by rfl) rfl⟩
end Go.Proofs.YtmfbamiciieooaaGreatDoor
/- The list's example: by evaluation, and its contracts. -/
namespace Go.Proofs.YtmfbamiciieooaaGreatDoor
set_option maxRecDepth 100000
set_option maxHeartbeats 16000000
open Go Go.RowKit
set_option linter.unusedSimpArgs false
theorem run_keeps {α : Type} {good : α → Prop} {me : Nat} {f : Nat → Bool} : ∀ {p : Pr α} {n b i j : Nat} {W W' : Wd} {x : α}, p.wD good n → WdOK b W → p.run (wSt me f) (W, i) = .done x (W', j) →
    i ≤ j ∧ WdOK (b + 1000 * (j - i)) W' ∧ W'.t = W.t ∧ W'.c = W.c ∧ W'.r0.length = W.r0.length ∧ W'.ws.length = W.ws.length ∧ good x
  | .ret _, n, b, i, j, W, W', x, hf, h, hr => by
    rw [zC] at hr
    injection hr with e1 e2
    injection e2 with e2 e3
    subst e1 e2 e3
    exact ⟨Nat.le_refl _, h.le (by omega), rfl, rfl, rfl, rfl, hf⟩
  | .stuck, _, _, _, _, _, _, _, _, _, hr => by cases hr
  | .ask q k, n, b, i, j, W, W', x, hf, h, hr => by
    rw [run_ask] at hr
    have hr2 : (k (doX W me q (f i)).2).run (wSt me f) ((doX W me q (f i)).1, i + 1) = .done x (W', j) := hr
    obtain ⟨h1, h2⟩ := doX_ok h hf.1 me (f i)
    obtain ⟨k1, k2, k3, k4, _⟩ := doX_keeps W me q (f i)
    obtain ⟨a1, a2, a3, a4, a5, a6, a7⟩ := run_keeps (hf.2 _ h2) h1 hr2
    exact ⟨by omega, a2.le (by omega), a3.trans k1, a4.trans k2, a5.trans k3, a6.trans k4, a7⟩
def wd0 : Wd := ⟨0, 0, [], 0, [], []⟩
structure ResN where
  o : OutN
  W : Wd
  m : Nat
/-- what an operation answers, that steps alone -/
def rsN (p : Pr OutN) (me : Nat) (W : Wd) : ResN := match p.run (wSt me noFail) (W, 0) with
  | .done o s => ⟨o, s.1, s.2⟩
  | _ => ⟨⟨0, false, 0, 0⟩, wd0, 1000⟩
theorem freeW_U (t : Nat) {l : List Int} (hl : ∀ x ∈ l, U x) : ∀ k, k ≤ 65536 → ∀ x ∈ freeW t k l, U x
  | 0, _, x, hx => hl x hx
  | k + 1, hk, x, hx => by
    rw [freeW] at hx
    rcases List.mem_or_eq_of_mem_set hx with hx | rfl
    · exact freeW_U t hl k (by omega) x hx
    · unfold U; omega
theorem newW_U {t c : Nat} (h2 : c ≤ 65536) : ∀ x ∈ newW t c, U x := freeW_U t (fun x hx => by
    rcases List.mem_or_eq_of_mem_set hx with hx | rfl
    · rw [List.eq_of_mem_replicate hx]; exact U.zero
    · unfold U; decide) _ (by omega)
theorem newW_len (t c : Nat) : (newW t c).length = 8 + t + 8 * c := by rw [newW, freeW_len]; simp
end Go.Proofs.YtmfbamiciieooaaGreatDoor
/- An operation on vertices alone in a sealed store: contract. -/
namespace Go.Proofs.YtmfbamiciieooaaGreatDoor
set_option maxRecDepth 100000
set_option maxHeartbeats 16000000
open Go Go.RowKit
set_option linter.unusedSimpArgs false
set_option linter.unusedVariables false
attribute [local irreducible] zY zZ Step zX Sub zD zF Fn zB zP
/-- an error that a sealed store answers with -/
def seE (u : Int) : Int := bif vOK u then 6 else 4
def seL (b : Nat) : List xM := if b = 0 then [] else [⟨1, xQ, false⟩]
theorem seOK (b : Nat) : LogOK (seL b) := by
  unfold seL
  split
  · exact ⟨by decide, fun r h => by cases h⟩
  · exact ⟨by decide, fun r h => by rw [List.mem_singleton.1 h]; exact ⟨by decide, by decide⟩⟩
theorem seRun0 {t me k u : Int} (hk : k = 11 ∨ k = 12 ∨ k = 13) (hu : vOK u = false) : (vM t me k u).run (wP []) 0 = .done ⟨4, false, 0, 0⟩ 0 := by
  have hop : (decide (k = 11) || (decide (k = 12) || decide (k = 13))) = true := by
    rcases hk with rfl | rfl | rfl <;> rfl
  unfold vM
  rw [hop, hu, cond_true, cond_false, zC]
theorem seRun1 {t me k u : Int} (hk : k = 11 ∨ k = 12 ∨ k = 13) (hu : vOK u = true) : (vM t me k u).run (wP []) 0 = .need (qR 0 7 0 0 xQ) 0 ∧ (vM t me k u).run (wP (seL 1)) 0 = .done ⟨6, false, 0, 0⟩ 1 := by
  have hop : (decide (k = 11) || (decide (k = 12) || decide (k = 13))) = true := by
    rcases hk with rfl | rfl | rfl <;> rfl
  unfold vM
  rw [hop, hu, cond_true, cond_true]
  exact ⟨rfl, rfl⟩
theorem aloneS_fn {t c root : Int} {ws : List Int} {r0 r1 : List (List Int × Int)} {k u : Int} (ht : Small t) (h0 : 0 ≤ t) (h7 : ws[7]? = some 1) (hl : ws.length ≤ 1000000) (hk : k = 11 ∨ k = 12 ∨ k = 13) :
    Fn Tryz.prog 10 [xK t c ws root r0 r1, .val (.int .i64 (0 : Nat)), opV k u 0 0, .val (.int .i64 (1 : Nat))] (.tup [xK t c ws root r0 r1, outV (seE u) false 0 0, .val (.bool true)]) := by
  have hms : Small (0 : Int) := ⟨by decide, by decide⟩
  have hws : ws.set 7 1 = ws := by
    obtain ⟨h1, h2⟩ := List.getElem?_eq_some_iff.1 h7
    rw [← h2]
    exact List.set_getElem_self h1
  refine z8 Tryz.func10 rfl Tryz.ntmps10 (Nat.le_of_ble_eq_true rfl) ?_
  repeat' (first | (refine zY.nil ?_) | (refine zZ.is ?_; first | refine zZ.seq ?_ | (refine zZ.isR (id := 0) ?_; refine zZ.rc [0, 1, 2, 3] [4, 6, 8, 9, 11, 13, 14, 16, 17, 50] (r := (.m yD (.m yD (.m zS (.m zS (.v zK .e)))))) (h := ?_)) | (refine zZ.isR (id := 1) ?_; refine zZ.rc [1, 3, 4, 6, 8, 9, 10] [4, 6, 8, 9, 11, 13, 14, 16, 17, 50] (r := (.v zK .e)) (h := ?_)) | (refine zZ.isR (id := 2) ?_; refine zZ.rc [1, 3, 4, 6, 8, 9, 10, 11] [4, 6, 8, 9, 11, 13, 14, 16, 17, 50] (r := (.v zK .e)) (h := ?_)) | refine zZ.block ?_) | refine zB.n ?_)
  refine zZ.loop (fun b : Nat => aloneVS 0 k u 0 0 (1 : Nat) ⟨b, ⟨t, c, ws, root, r0, r1⟩, seL b, .stuck⟩) (fun b => b = 0 ∨ b = 1 ∧ vOK u = true) (fun b => 1 - b) 0 ?h0 (.inl rfl) ?rd
  case h0 =>
    refine (sub_adopt (d := 11) (id := 11) (ty := 55) (sz := 3) (by decide) rfl).trans ?_
    refine (vX (id := 11) (b := .row 55 3 0 []) (b' := qF 55 3 []) (by rfl) (qG 55 3 [])).sub.trans ?_
    refine (sub_lend (id := 11) (e := 55) (sz := 3) (es := []) (by rfl)).trans ?_
    exact zT K_j K_k
  case rd =>
    intro b hb
    change zZ _ _ _ (aloneVS 0 k u 0 0 (1 : Nat) ⟨b, ⟨t, c, ws, root, r0, r1⟩, seL b, .stuck⟩) _
    unfold aloneVS
    dsimp only
    have g1 : decide ((b : Int) ≤ (1 : Nat)) = true := decide_eq_true (by omega)
    repeat' (first | (refine zY.nil ?_) | (refine zZ.is ?_; first | refine zZ.seq ?_ | (refine zZ.isR (id := 3) ?_; refine zZ.rc [1, 3, 4, 6, 8, 9, 10, 11, 12, 13, 14, 15, 16, 17, 20, 37] [4, 6, 8, 9, 11, 13, 14, 16, 17, 50] (r := (.v zV (.v zV (.v v44_0 .e)))) (h := ?_)) | (refine zZ.isR (id := 5) ?_; refine zZ.rc [1, 3, 4, 6, 8, 9, 10, 11, 12, 13, 14, 15, 16, 17, 20, 37] [4, 6, 8, 9, 11, 13, 14, 16, 17, 50] (r := (.v zH (.v zH (.v zN (.v zH (.v zH (.v zN (.v zV (.v yU (.v v0_1 .e)))))))))) (h := ?_)) | refine zZ.yF rfl bA ?_ | refine zZ.skip ?_ | refine zZ.block ?_) | refine zB.n ?_)
    refine zY.sub (sub_view (d := 32) (id := 11) (e := 55) (sz := 3) (es := (seL b).map qN) rfl rfl) ?_
    have hL := seOK b
    have hfin : ∀ {j : Nat} {e : Int}, (vM t 0 k u).run (wP (seL b)) 0 = .done ⟨e, false, 0, 0⟩ j → e = seE u → Fn Tryz.prog 12 [.val (.int .i64 t), .val (.int .i64 c), .val (.int .i64 (0 : Nat)), opV k u 0 0, logV (seL b)] (.tup [accV 0 0 0 0 xQ, outV (seE u) false 0 0, .val (.bool true)]) := fun hr he => by
      subst he
      exact nextV_done (seL b) hL c ht h0 hms hr
    rcases hb with rfl | ⟨rfl, hu⟩
    · cases hu : vOK u with
      | false =>
        have c1 := hfin (seRun0 hk hu) (by unfold seE; rw [hu]; rfl)
        repeat' (first | (refine zY.is ?_; first | refine zY.nil ?_ | (refine zY.at_ 23 rfl ?_; refine zY.rc (.v wQ (.v yV (.v yV (.v yV (.m zS (.m zS (.w zR (.w zR (.v zK .e))))))))) ?_) | (refine zY.in_ [33] rfl ?_; refine zY.v rfl rfl (yS (c1) rfl rfl rfl (by decide)) ?_)) | (refine zZ.is ?_; first | refine zZ.seq ?_ | (refine zZ.isR (id := 6) ?_; refine zZ.rc [1, 3, 4, 6, 8, 9, 10, 11, 12, 13, 14, 15, 16, 17, 20, 37] [4, 6, 8, 9, 11, 13, 14, 16, 17, 50] (r := (.v zV .e)) (h := ?_)) | (refine zZ.isR (id := 7) ?_; refine zZ.regionD [1, 3, 4, 6, 8, 9, 10, 11, 12, 13, 14, 15, 16, 17, 20, 37] [4, 6, 8, 9, 11, 13, 14, 16, 17, 50] (by repeat' first | exact zG.nil | apply zG.p rfl | apply zG.ptr rfl | apply zG.own rfl | apply zG.skip) (by repeat' first | exact zO.nil | apply zO.boxP rfl rfl | apply zO.some rfl | apply zO.skip) (zZ.drawAll (by kernel_rfl) ?_); repeat' (first | refine qE.many (by rfl) ?_ | refine zI.cons ?_ ?_ | exact zI.nil | refine DOne.v rfl rfl rfl (by first | exact yB rfl rfl rfl (by decide) | exact yM rfl rfl rfl (by rfl) (by rfl) rfl (by decide)) ?_ | refine DOne.w rfl rfl (by exact yT rfl rfl rfl rfl rfl (by rfl) (by exact Nat.le_of_ble_eq_true rfl) rfl rfl) ?_ | refine qE.fin (by rfl) ?_)) | refine zZ.yF rfl bA ?_ | refine zZ.ret ?_) | refine zB.n ?_ | refine zB.r ?_ | refine zP.r ?_)
        all_goals exact ⟨by first | exact .inl rfl | exact .inr rfl, _, Sub.refl _, .tup (rs := [.cell 8 33, .cell 9 41, .tmp 10]) (l := [xK t c ws root r0 r1, outV (seE u) false 0 0, .val (.bool true)]) rfl (by decide) (.cons (.cellN rfl rfl (by rfl) (by rfl)) (.cons (.cellN rfl rfl (by rfl) (by rfl)) (.cons (.tmp rfl) .nil)))⟩
      | true =>
        have c1 := nextV_needW (seL 0) hL c (v := 0) (w := 0) ht h0 hms (seRun1 (t := t) (me := 0) hk hu).1 (by exact ⟨rfl, U.zero, U.zero, .inl ⟨.inl ⟨by decide, by decide⟩, rfl⟩⟩)
        have c2 : Fn Tryz.prog 13 [xK t c ws root r0 r1, .val (.int .i64 (0 : Nat)), accV 0 7 0 0 (.sl (byts (qY xQ))), .val (.bool false)] (.tup [xK t c ws root r0 r1, qN ⟨1, xQ, false⟩]) := by
          have := doWord_fn t c 0 0 0 1 (0 : Nat) root ⟨by decide, by decide⟩ 7 ws (.sl (byts (qY xQ))) r0 r1 false h7 hl
          rw [show (turnR 0 1 0 0).2 = 1 from rfl, show (turnR 0 1 0 0).1 = 1 from rfl, hws] at this
          exact this.weakT (.cons (.refl _) (.cons (resN_le _ false) .nil))
        have g3 : IntKind.i64.wrap (((0 : Nat) : Int) + 1) = ((1 : Nat) : Int) := rfl
        have g4 : ∀ e ∈ (seL 0).map qN, e.cells.length = 3 := resV_cells (seL 0)
        have g5 : ∀ e ∈ [qN ⟨1, xQ, false⟩], e.cells.length = 3 := fun e he => by simp at he; subst he; rfl
        have g10 : (((seL 0).map qN).length + ([qN ⟨1, xQ, false⟩] : List PV).length) * 40 ≤ 140737488355328 ∧ ((seL 0).map qN).length + ([qN ⟨1, xQ, false⟩] : List PV).length ≤ maxLen := by
          simp [seL, maxLen]
        have ps_ := trivial
        repeat' (first | (refine zY.is ?_; first | refine zY.nil ?_ | (refine zY.at_ 23 rfl ?_; refine zY.rc (.v wQ (.v yV (.v yV (.v yV (.m zS (.m zS (.w zR (.w zR (.v zK .e))))))))) ?_) | (refine zY.at_ 40 rfl ?_; refine zY.rc (.v wQ (.v yV (.v yV (.m zS (.m zS (.w zR (.w zR .e))))))) ?_) | (refine zY.in_ [33] rfl ?_; refine zY.v rfl rfl (yS (c1) rfl rfl rfl (by decide)) ?_) | (refine zY.in_ [44] rfl ?_; refine zY.v rfl rfl (yS (c2) rfl rfl rfl (by decide)) ?_)) | (refine zZ.is ?_; first | refine zZ.seq ?_ | (refine zZ.isR (id := 6) ?_; refine zZ.rc [1, 3, 4, 6, 8, 9, 10, 11, 12, 13, 14, 15, 16, 17, 20, 37] [4, 6, 8, 9, 11, 13, 14, 16, 17, 50] (r := (.v zV .e)) (h := ?_)) | (refine zZ.isR (id := 8) ?_; refine zZ.rc [1, 3, 4, 6, 8, 9, 10, 11, 12, 13, 14, 15, 16, 17, 20, 37] [4, 6, 8, 9, 11, 13, 14, 16, 17, 50] (r := (.v yU (.v zV (.v yU .e)))) (h := ?_)) | (refine zZ.isR (id := 9) ?_; refine zZ.rc [1, 3, 4, 6, 8, 9, 10, 11, 12, 13, 14, 15, 16, 17, 20, 37] [4, 6, 8, 9, 11, 13, 14, 16, 17, 50] (r := (.v yU (.w zR .e))) (h := ?_)) | (refine zZ.isR (id := 10) ?_; refine zZ.rc [1, 3, 4, 6, 8, 9, 10, 11, 12, 13, 14, 15, 16, 17, 20, 37] [4, 6, 8, 9, 11, 13, 14, 16, 17, 50] (r := (.v v0_1 (.v yU (.v v20_0 (.w w55_3 (.v v1_1 .e)))))) (h := ?_)) | (refine zZ.isR (id := 4) ?_; refine zZ.rc [1, 3, 4, 6, 8, 9, 10, 11, 12, 13, 14, 15, 16, 17, 20, 37] [4, 6, 8, 9, 11, 13, 14, 16, 17, 50] (r := (.v zV (.v wC (.v zK .e)))) (h := ?_)) | refine zZ.yH rfl bA ?_ | refine zZ.skip ?_) | refine zB.n ?_ | refine zP.n ?_)
        all_goals
          refine ⟨1, ?_, .inr ⟨rfl, by first | exact hu | rfl⟩, by omega⟩
          show Sub _ (aloneVS 0 k u 0 0 (1 : Nat) ⟨1, ⟨t, c, ws, root, r0, r1⟩, seL 1, .stuck⟩)
          unfold aloneVS
          dsimp only
          have e1 : (seL 1).map qN = (seL 0).map qN ++ [qN ⟨1, xQ, false⟩] := rfl
          rw [e1]
          exact zT K_j K_k
    · have c1 := hfin (seRun1 hk hu).2 (by unfold seE; rw [hu]; rfl)
      repeat' (first | (refine zY.is ?_; first | refine zY.nil ?_ | (refine zY.at_ 23 rfl ?_; refine zY.rc (.v wQ (.v yV (.v yV (.v yV (.m zS (.m zS (.w zR (.w zR (.v zK .e))))))))) ?_) | (refine zY.in_ [33] rfl ?_; refine zY.v rfl rfl (yS (c1) rfl rfl rfl (by decide)) ?_)) | (refine zZ.is ?_; first | refine zZ.seq ?_ | (refine zZ.isR (id := 6) ?_; refine zZ.rc [1, 3, 4, 6, 8, 9, 10, 11, 12, 13, 14, 15, 16, 17, 20, 37] [4, 6, 8, 9, 11, 13, 14, 16, 17, 50] (r := (.v zV .e)) (h := ?_)) | (refine zZ.isR (id := 7) ?_; refine zZ.regionD [1, 3, 4, 6, 8, 9, 10, 11, 12, 13, 14, 15, 16, 17, 20, 37] [4, 6, 8, 9, 11, 13, 14, 16, 17, 50] (by repeat' first | exact zG.nil | apply zG.p rfl | apply zG.ptr rfl | apply zG.own rfl | apply zG.skip) (by repeat' first | exact zO.nil | apply zO.boxP rfl rfl | apply zO.some rfl | apply zO.skip) (zZ.drawAll (by kernel_rfl) ?_); repeat' (first | refine qE.many (by rfl) ?_ | refine zI.cons ?_ ?_ | exact zI.nil | refine DOne.v rfl rfl rfl (by first | exact yB rfl rfl rfl (by decide) | exact yM rfl rfl rfl (by rfl) (by rfl) rfl (by decide)) ?_ | refine DOne.w rfl rfl (by exact yT rfl rfl rfl rfl rfl (by rfl) (by exact Nat.le_of_ble_eq_true rfl) rfl rfl) ?_ | refine qE.fin (by rfl) ?_)) | refine zZ.yF rfl bA ?_ | refine zZ.ret ?_) | refine zB.n ?_ | refine zB.r ?_ | refine zP.r ?_)
      all_goals exact ⟨by first | exact .inl rfl | exact .inr rfl, _, Sub.refl _, .tup (rs := [.cell 8 33, .cell 9 41, .tmp 10]) (l := [xK t c ws root r0 r1, outV (seE u) false 0 0, .val (.bool true)]) rfl (by decide) (.cons (.cellN rfl rfl (by rfl) (by rfl)) (.cons (.cellN rfl rfl (by rfl) (by rfl)) (.cons (.tmp rfl) .nil)))⟩
end Go.Proofs.YtmfbamiciieooaaGreatDoor
/- Is a world right, and small? (reference): contracts. Written by gen_sml.py. -/
namespace Go.Proofs.YtmfbamiciieooaaGreatDoor
set_option maxRecDepth 100000
set_option maxHeartbeats 16000000
open Go Go.RowKit
set_option linter.unusedSimpArgs false
set_option linter.unusedVariables false
attribute [local irreducible] zY zZ Step zX Sub zD zF Fn zB zP
theorem right9_fn (t c : Int) (ws : List Int) : ∃ b, Fn Tryz.prog 73 [.agg [.val (.int .i64 t), .val (.int .i64 c), .sl (wds ws)]] (.p (.val (.bool b))) ∧ (b = true → 1 ≤ t ∧ t ≤ 64 ∧ 0 ≤ c ∧ c ≤ 65536 ∧ ((wds ws).length : Int) = 8 + t + 8 * c) := by
  by_cases p0 : 1 ≤ t
  case neg =>
    have w1 := True.intro
    have w2 := True.intro
    have w3 := True.intro
    have d0 : decide (1 ≤ t) = false := decide_eq_false p0
    refine ⟨false, ?_, fun h => (by cases h)⟩
    refine z8 Tryz.func73 rfl Tryz.ntmps73 (Nat.le_of_ble_eq_true rfl) ?_
    repeat' (first | (refine zY.nil ?_) | (refine zZ.is ?_; first | refine zZ.seq ?_ | (refine zZ.isR (id := 0) ?_; refine zZ.rc [0] [1] (r := (.m yD (.v zK .e))) (h := ?_)) | (refine zZ.isR (id := 1) ?_; refine zZ.rc [1, 2] [1] (r := (.v zH (.v zN (.v vT (.v zV (.gT (.gT (.gT (.v xC (.v zV (.gT (.gT (.gT (.v xC (.v zV (.gT (.gT (.gT (.v xC (.v zV (.gT (.gT (.gT (.gT (.gT (.gT (.gT (.gT (.gT (.gT (.gT (.v xC (.v zK .e))))))))))))))))))))))))))))))))) (h := ?_)) | refine zZ.ret ?_) | refine zB.n ?_)
    all_goals exact ⟨by first | exact .inl rfl | exact .inr rfl, _, Sub.refl _, .p rfl (.tmp rfl)⟩
  case pos =>
    by_cases p1 : t ≤ 64
    case neg =>
      have w1 := True.intro
      have w2 := True.intro
      have w3 := True.intro
      have d0 : decide (1 ≤ t) = true := decide_eq_true p0
      have d1 : decide (t ≤ 64) = false := decide_eq_false p1
      refine ⟨false, ?_, fun h => (by cases h)⟩
      refine z8 Tryz.func73 rfl Tryz.ntmps73 (Nat.le_of_ble_eq_true rfl) ?_
      repeat' (first | (refine zY.nil ?_) | (refine zZ.is ?_; first | refine zZ.seq ?_ | (refine zZ.isR (id := 0) ?_; refine zZ.rc [0] [1] (r := (.m yD (.v zK .e))) (h := ?_)) | (refine zZ.isR (id := 1) ?_; refine zZ.rc [1, 2] [1] (r := (.v zH (.v zN (.v vT (.v zV (.gY zH (.gY zN (.gY v44_0 (.v y8 (.v zV (.gT (.gT (.gT (.v xC (.v zV (.gT (.gT (.gT (.v xC (.v zV (.gT (.gT (.gT (.gT (.gT (.gT (.gT (.gT (.gT (.gT (.gT (.v xC (.v zK .e))))))))))))))))))))))))))))))))) (h := ?_)) | refine zZ.ret ?_) | refine zB.n ?_)
      all_goals exact ⟨by first | exact .inl rfl | exact .inr rfl, _, Sub.refl _, .p rfl (.tmp rfl)⟩
    case pos =>
      by_cases p2 : 0 ≤ c
      case neg =>
        have w1 := True.intro
        have w2 := True.intro
        have w3 := True.intro
        have d0 : decide (1 ≤ t) = true := decide_eq_true p0
        have d1 : decide (t ≤ 64) = true := decide_eq_true p1
        have d2 : decide (0 ≤ c) = false := decide_eq_false p2
        refine ⟨false, ?_, fun h => (by cases h)⟩
        refine z8 Tryz.func73 rfl Tryz.ntmps73 (Nat.le_of_ble_eq_true rfl) ?_
        repeat' (first | (refine zY.nil ?_) | (refine zZ.is ?_; first | refine zZ.seq ?_ | (refine zZ.isR (id := 0) ?_; refine zZ.rc [0] [1] (r := (.m yD (.v zK .e))) (h := ?_)) | (refine zZ.isR (id := 1) ?_; refine zZ.rc [1, 2] [1] (r := (.v zH (.v zN (.v vT (.v zV (.gY zH (.gY zN (.gY v44_0 (.v y8 (.v zV (.gY zH (.gY zN (.gY vT (.v y8 (.v zV (.gT (.gT (.gT (.v xC (.v zV (.gT (.gT (.gT (.gT (.gT (.gT (.gT (.gT (.gT (.gT (.gT (.v xC (.v zK .e))))))))))))))))))))))))))))))))) (h := ?_)) | refine zZ.ret ?_) | refine zB.n ?_)
        all_goals exact ⟨by first | exact .inl rfl | exact .inr rfl, _, Sub.refl _, .p rfl (.tmp rfl)⟩
      case pos =>
        by_cases p3 : c ≤ 65536
        case neg =>
          have w1 := True.intro
          have w2 := True.intro
          have w3 := True.intro
          have d0 : decide (1 ≤ t) = true := decide_eq_true p0
          have d1 : decide (t ≤ 64) = true := decide_eq_true p1
          have d2 : decide (0 ≤ c) = true := decide_eq_true p2
          have d3 : decide (c ≤ 65536) = false := decide_eq_false p3
          refine ⟨false, ?_, fun h => (by cases h)⟩
          refine z8 Tryz.func73 rfl Tryz.ntmps73 (Nat.le_of_ble_eq_true rfl) ?_
          repeat' (first | (refine zY.nil ?_) | (refine zZ.is ?_; first | refine zZ.seq ?_ | (refine zZ.isR (id := 0) ?_; refine zZ.rc [0] [1] (r := (.m yD (.v zK .e))) (h := ?_)) | (refine zZ.isR (id := 1) ?_; refine zZ.rc [1, 2] [1] (r := (.v zH (.v zN (.v vT (.v zV (.gY zH (.gY zN (.gY v44_0 (.v y8 (.v zV (.gY zH (.gY zN (.gY vT (.v y8 (.v zV (.gY zH (.gY zN (.gY v44_0 (.v y8 (.v zV (.gT (.gT (.gT (.gT (.gT (.gT (.gT (.gT (.gT (.gT (.gT (.v xC (.v zK .e))))))))))))))))))))))))))))))))) (h := ?_)) | refine zZ.ret ?_) | refine zB.n ?_)
          all_goals exact ⟨by first | exact .inl rfl | exact .inr rfl, _, Sub.refl _, .p rfl (.tmp rfl)⟩
        case pos =>
          by_cases p4 : ((wds ws).length : Int) = 8 + t + 8 * c
          case neg =>
            have w1 : IntKind.i64.wrap (8 + t) = 8 + t := wrap_i64 _ (by omega)
            have w2 : IntKind.i64.wrap (8 * c) = 8 * c := wrap_i64 _ (by omega)
            have w3 : IntKind.i64.wrap (8 + t + 8 * c) = 8 + t + 8 * c := wrap_i64 _ (by omega)
            have d0 : decide (1 ≤ t) = true := decide_eq_true p0
            have d1 : decide (t ≤ 64) = true := decide_eq_true p1
            have d2 : decide (0 ≤ c) = true := decide_eq_true p2
            have d3 : decide (c ≤ 65536) = true := decide_eq_true p3
            have d4 : decide (((wds ws).length : Int) = 8 + t + 8 * c) = false := decide_eq_false p4
            refine ⟨false, ?_, fun h => (by cases h)⟩
            refine z8 Tryz.func73 rfl Tryz.ntmps73 (Nat.le_of_ble_eq_true rfl) ?_
            repeat' (first | (refine zY.nil ?_) | (refine zZ.is ?_; first | refine zZ.seq ?_ | (refine zZ.isR (id := 0) ?_; refine zZ.rc [0] [1] (r := (.m yD (.v zK .e))) (h := ?_)) | (refine zZ.isR (id := 1) ?_; refine zZ.rc [1, 2] [1] (r := (.v zH (.v zN (.v vT (.v zV (.gY zH (.gY zN (.gY v44_0 (.v y8 (.v zV (.gY zH (.gY zN (.gY vT (.v y8 (.v zV (.gY zH (.gY zN (.gY v44_0 (.v y8 (.v zV (.gY zH (.gY zN (.gY wO (.gY zH (.gY zN (.gY wC (.gY zH (.gY zN (.gY v32_0 (.gY wC (.gY v41_0 (.v y8 (.v zK .e))))))))))))))))))))))))))))))))) (h := ?_)) | refine zZ.ret ?_) | refine zB.n ?_)
            all_goals exact ⟨by first | exact .inl rfl | exact .inr rfl, _, Sub.refl _, .p rfl (.tmp rfl)⟩
          case pos =>
            have w1 : IntKind.i64.wrap (8 + t) = 8 + t := wrap_i64 _ (by omega)
            have w2 : IntKind.i64.wrap (8 * c) = 8 * c := wrap_i64 _ (by omega)
            have w3 : IntKind.i64.wrap (8 + t + 8 * c) = 8 + t + 8 * c := wrap_i64 _ (by omega)
            have d0 : decide (1 ≤ t) = true := decide_eq_true p0
            have d1 : decide (t ≤ 64) = true := decide_eq_true p1
            have d2 : decide (0 ≤ c) = true := decide_eq_true p2
            have d3 : decide (c ≤ 65536) = true := decide_eq_true p3
            have d4 : decide (((wds ws).length : Int) = 8 + t + 8 * c) = true := decide_eq_true p4
            refine ⟨true, ?_, fun _ => ⟨p0, p1, p2, p3, p4⟩⟩
            refine z8 Tryz.func73 rfl Tryz.ntmps73 (Nat.le_of_ble_eq_true rfl) ?_
            repeat' (first | (refine zY.nil ?_) | (refine zZ.is ?_; first | refine zZ.seq ?_ | (refine zZ.isR (id := 0) ?_; refine zZ.rc [0] [1] (r := (.m yD (.v zK .e))) (h := ?_)) | (refine zZ.isR (id := 1) ?_; refine zZ.rc [1, 2] [1] (r := (.v zH (.v zN (.v vT (.v zV (.gY zH (.gY zN (.gY v44_0 (.v y8 (.v zV (.gY zH (.gY zN (.gY vT (.v y8 (.v zV (.gY zH (.gY zN (.gY v44_0 (.v y8 (.v zV (.gY zH (.gY zN (.gY wO (.gY zH (.gY zN (.gY wC (.gY zH (.gY zN (.gY v32_0 (.gY wC (.gY v41_0 (.v y8 (.v zK .e))))))))))))))))))))))))))))))))) (h := ?_)) | refine zZ.ret ?_) | refine zB.n ?_)
            all_goals exact ⟨by first | exact .inl rfl | exact .inr rfl, _, Sub.refl _, .p rfl (.tmp rfl)⟩
/-! ### Few streams, of few bytes -/
def lenW : Int → List (List Int × Int) → Int
  | n, [] => n
  | n, p :: l => lenW (IntKind.i64.wrap (n + (p.1.length : Nat))) l
theorem lenW_snoc (p : List Int × Int) : ∀ (l : List (List Int × Int)) (n : Int), lenW n (l ++ [p]) = IntKind.i64.wrap (lenW n l + (p.1.length : Nat))
  | [], n => rfl
  | q :: l, n => lenW_snoc p l _
def fwS (root : Int) (r0 r1 : List (List Int × Int)) (k n : Int) : AS := { t := [(1, .ptr 1 0), (3, .p (.val (.int .i64 n))), (4, .p (.val (.int .i64 k)))], s := [(1, .box 31 [.p (.val (.int .u64 root)), .p (.sl (strs r0)), .p (.sl (strs r1))])] }
def fwI (root : Int) (r0 r1 : List (List Int × Int)) (k n : Int) (i : Nat) : AS := { t := [(1, .ptr 1 0), (3, .p (.val (.int .i64 n))), (4, .p (.val (.int .i64 k))), (5, .p (.val (.int .i64 (i : Nat))))], s := [(1, .box 31 [.p (.val (.int .u64 root)), .p (.sl (strs r0)), .p (.sl (strs r1))])] }
def fwK (k : Nat) : Int := match k with | 0 => 0 | 1 => 1 | _ => 2
def fwN (r0 r1 : List (List Int × Int)) (k : Nat) : Int := match k with | 0 => 0 | 1 => lenW 0 r0 | _ => lenW (lenW 0 r0) r1
theorem few7_fn (root : Int) (r0 r1 : List (List Int × Int)) : ∃ b, Fn Tryz.prog 37 [wE root r0 r1] (.p (.val (.bool b))) ∧ (b = true → r0.length ≤ 8 ∧ r1.length ≤ 8) := by
  have l0 := wF r0
  have l1 := wF r1
  have z0 := vO r0
  have z1 := vO r1
  by_cases p0 : r0.length ≤ 8
  case neg =>
    have d0 : decide ((8 : Int) < ((strs r0).length : Nat)) = true := decide_eq_true (by omega)
    refine ⟨false, ?_, fun h => (by cases h)⟩
    refine z8 Tryz.func37 rfl Tryz.ntmps37 (Nat.le_of_ble_eq_true rfl) ?_
    repeat' (first | (refine zY.nil ?_) | (refine zZ.is ?_; first | refine zZ.seq ?_ | (refine zZ.isR (id := 0) ?_; refine zZ.rc [0] [1] (r := (.m yD (.v zK .e))) (h := ?_)) | (refine zZ.isR (id := 1) ?_; refine zZ.rc [1, 2] [1] (r := (.v zH (.v wY (.v zN (.v wO (.v v45_0 (.v zV (.gF (.gF (.gF (.gF (.gF (.v y8 .e))))))))))))) (h := ?_)) | (refine zZ.isR (id := 2) ?_; refine zZ.rc [1, 2] [1] (r := (.v zK .e)) (h := ?_)) | refine zZ.yF rfl bA ?_ | refine zZ.ret ?_) | refine zB.n ?_ | refine zB.r ?_)
    all_goals exact ⟨by first | exact .inl rfl | exact .inr rfl, _, Sub.refl _, .p rfl (.tmp rfl)⟩
  case pos =>
    have d0 : decide ((8 : Int) < ((strs r0).length : Nat)) = false := decide_eq_false (by omega)
    by_cases p1 : r1.length ≤ 8
    case neg =>
      have d1 : decide ((8 : Int) < ((strs r1).length : Nat)) = true := decide_eq_true (by omega)
      refine ⟨false, ?_, fun h => (by cases h)⟩
      refine z8 Tryz.func37 rfl Tryz.ntmps37 (Nat.le_of_ble_eq_true rfl) ?_
      repeat' (first | (refine zY.nil ?_) | (refine zZ.is ?_; first | refine zZ.seq ?_ | (refine zZ.isR (id := 0) ?_; refine zZ.rc [0] [1] (r := (.m yD (.v zK .e))) (h := ?_)) | (refine zZ.isR (id := 1) ?_; refine zZ.rc [1, 2] [1] (r := (.v zH (.v wY (.v zN (.v wO (.v v45_0 (.v zV (.gY zH (.gY wY (.gY zN (.gY wO (.gY v45_0 (.v xC .e))))))))))))) (h := ?_)) | (refine zZ.isR (id := 2) ?_; refine zZ.rc [1, 2] [1] (r := (.v zK .e)) (h := ?_)) | refine zZ.yF rfl bA ?_ | refine zZ.ret ?_) | refine zB.n ?_ | refine zB.r ?_)
      all_goals exact ⟨by first | exact .inl rfl | exact .inr rfl, _, Sub.refl _, .p rfl (.tmp rfl)⟩
    case pos =>
      have d1 : decide ((8 : Int) < ((strs r1).length : Nat)) = false := decide_eq_false (by omega)
      refine ⟨decide (lenW (lenW 0 r0) r1 ≤ 4000), ?_, fun _ => ⟨p0, p1⟩⟩
      refine z8 Tryz.func37 rfl Tryz.ntmps37 (Nat.le_of_ble_eq_true rfl) ?_
      repeat' (first | (refine zY.nil ?_) | (refine zZ.is ?_; first | refine zZ.seq ?_ | (refine zZ.isR (id := 0) ?_; refine zZ.rc [0] [1] (r := (.m yD (.v zK .e))) (h := ?_)) | (refine zZ.isR (id := 1) ?_; refine zZ.rc [1, 2] [1] (r := (.v zH (.v wY (.v zN (.v wO (.v v45_0 (.v zV (.gY zH (.gY wY (.gY zN (.gY wO (.gY v45_0 (.v xC .e))))))))))))) (h := ?_)) | (refine zZ.isR (id := 3) ?_; refine zZ.rc [1, 2] [1] (r := (.v zK .e)) (h := ?_)) | (refine zZ.isR (id := 4) ?_; refine zZ.rc [1, 2, 3] [1] (r := (.v zK .e)) (h := ?_)) | refine zZ.yH rfl bA ?_ | refine zZ.skip ?_ | refine zZ.block ?_) | refine zB.n ?_)
      refine zZ.loop (fun k : Nat => fwS root r0 r1 (fwK k) (fwN r0 r1 k)) (fun k => k ≤ 2) (fun k => 2 - k) 0 ?h0 (by omega) ?rd
      case h0 =>
        unfold fwS
        exact zT K_d K_1
      case rd =>
        intro k hk
        match k, hk with
        | 0, _ =>
          show zZ _ _ _ (fwS root r0 r1 0 0) _
          unfold fwS
          repeat' (first | (refine zY.nil ?_) | (refine zZ.is ?_; first | refine zZ.seq ?_ | (refine zZ.isR (id := 5) ?_; refine zZ.rc [1, 2, 3, 4, 5, 19, 28] [1] (r := (.v zV (.v v43_4 .e))) (h := ?_)) | (refine zZ.isR (id := 7) ?_; refine zZ.rc [1, 2, 3, 4, 5, 19, 28] [1] (r := (.v zK .e)) (h := ?_)) | refine zZ.yF rfl bA ?_ | refine zZ.skip ?_ | refine zZ.block ?_) | refine zB.n ?_)
          refine zZ.loop (fun i : Nat => fwI root r0 r1 0 (lenW 0 (r0.take i)) i) (fun i => i ≤ r0.length) (fun i => r0.length - i) 0 ?h1 (Nat.zero_le _) ?rd1
          case h1 =>
            show Sub _ (fwI root r0 r1 0 0 0)
            unfold fwI
            exact zT K_5 K_1
          case rd1 =>
            intro i hi
            unfold fwI
            by_cases hlt : i < r0.length
            case pos =>
              obtain ⟨⟨d, z⟩, hx⟩ : ∃ p, r0[i]? = some p := ⟨_, List.getElem?_eq_getElem hlt⟩
              have htk : lenW 0 (r0.take (i + 1)) = IntKind.i64.wrap (lenW 0 (r0.take i) + (d.length : Nat)) := by rw [List.take_add_one, hx]; exact lenW_snoc (d, z) _ _
              have f1 : decide ((i : Int) < ((strs r0).length : Nat)) = true := decide_eq_true (by omega)
              have g2 : (0 : Int) ≤ (i : Int) ∧ (i : Int) < ((strs r0).length : Nat) := by omega
              have g3 : (strs r0)[i]? = some (strV d z) := strs_at hx
              have g5 : IntKind.i64.wrap ((i : Int) + 1) = ((i + 1 : Nat) : Int) := by rw [wrap_i64 _ (by omega)]; omega
              repeat' (first | (refine zY.nil ?_) | (refine zZ.is ?_; first | refine zZ.seq ?_ | (refine zZ.isR (id := 8) ?_; refine zZ.rc [1, 2, 3, 4, 5, 19, 28] [1] (r := (.v zV (.v zV (.v zH (.v wY (.v zN (.v wO (.v xY .e)))))))) (h := ?_)) | (refine zZ.isR (id := 10) ?_; refine zZ.rc [1, 2, 3, 4, 5, 19, 28] [1] (r := (.v zV (.v zV (.v zH (.v wY (.v zN (.v zV (.v v7_18 (.v v3_1 (.v v2_1 (.v v57_0 (.v v30_6 (.v zK .e))))))))))))) (h := ?_)) | (refine zZ.isR (id := 9) ?_; refine zZ.rc [1, 2, 3, 4, 5, 19, 28] [1] (r := (.v zV (.v wC (.v zK .e)))) (h := ?_)) | refine zZ.yF rfl bA ?_ | refine zZ.skip ?_ | refine zZ.block ?_) | refine zB.n ?_ | refine zP.n ?_)
              all_goals
                refine ⟨i + 1, ?_, hlt, by omega⟩
                rw [htk]
                exact zT K_5 K_1
            case neg =>
              have f1 : decide ((i : Int) < ((strs r0).length : Nat)) = false := decide_eq_false (by omega)
              have e : r0.take i = r0 := List.take_of_length_le (by omega)
              rw [e]
              repeat' (first | (refine zY.nil ?_) | (refine zZ.is ?_; first | refine zZ.seq ?_ | (refine zZ.isR (id := 8) ?_; refine zZ.rc [1, 2, 3, 4, 5, 19, 28] [1] (r := (.v zV (.v zV (.v zH (.v wY (.v zN (.v wO (.v xY .e)))))))) (h := ?_)) | (refine zZ.isR (id := 6) ?_; refine zZ.rc [1, 2, 3, 4, 5, 19, 28] [1] (r := (.v zV (.v v30_4 (.v zK .e)))) (h := ?_)) | refine zZ.yH rfl bA ?_ | refine zZ.exit ?_) | refine zB.n ?_ | refine zP.n ?_ | refine zP.eY ?_ | refine zB.e ?_)
              all_goals
                refine ⟨1, ?_, by omega, by omega⟩
                show Sub _ (fwS root r0 r1 1 (lenW 0 r0))
                unfold fwS
                exact zT K_d K_1
        | 1, _ =>
          show zZ _ _ _ (fwS root r0 r1 1 (lenW 0 r0)) _
          unfold fwS
          repeat' (first | (refine zY.nil ?_) | (refine zZ.is ?_; first | refine zZ.seq ?_ | (refine zZ.isR (id := 5) ?_; refine zZ.rc [1, 2, 3, 4, 5, 19, 28] [1] (r := (.v zV (.v v43_4 .e))) (h := ?_)) | (refine zZ.isR (id := 7) ?_; refine zZ.rc [1, 2, 3, 4, 5, 19, 28] [1] (r := (.v zK .e)) (h := ?_)) | refine zZ.yF rfl bA ?_ | refine zZ.skip ?_ | refine zZ.block ?_) | refine zB.n ?_)
          refine zZ.loop (fun i : Nat => fwI root r0 r1 1 (lenW (lenW 0 r0) (r1.take i)) i) (fun i => i ≤ r1.length) (fun i => r1.length - i) 0 ?h2 (Nat.zero_le _) ?rd2
          case h2 =>
            show Sub _ (fwI root r0 r1 1 (lenW 0 r0) 0)
            unfold fwI
            exact zT K_5 K_1
          case rd2 =>
            intro i hi
            unfold fwI
            by_cases hlt : i < r1.length
            case pos =>
              obtain ⟨⟨d, z⟩, hx⟩ : ∃ p, r1[i]? = some p := ⟨_, List.getElem?_eq_getElem hlt⟩
              have htk : lenW (lenW 0 r0) (r1.take (i + 1)) = IntKind.i64.wrap (lenW (lenW 0 r0) (r1.take i) + (d.length : Nat)) := by rw [List.take_add_one, hx]; exact lenW_snoc (d, z) _ _
              have f1 : decide ((i : Int) < ((strs r1).length : Nat)) = true := decide_eq_true (by omega)
              have g2 : (0 : Int) ≤ (i : Int) ∧ (i : Int) < ((strs r1).length : Nat) := by omega
              have g3 : (strs r1)[i]? = some (strV d z) := strs_at hx
              have g5 : IntKind.i64.wrap ((i : Int) + 1) = ((i + 1 : Nat) : Int) := by rw [wrap_i64 _ (by omega)]; omega
              repeat' (first | (refine zY.nil ?_) | (refine zZ.is ?_; first | refine zZ.seq ?_ | (refine zZ.isR (id := 8) ?_; refine zZ.rc [1, 2, 3, 4, 5, 19, 28] [1] (r := (.v zV (.v zV (.v zH (.v wY (.v zN (.v wO (.v xY .e)))))))) (h := ?_)) | (refine zZ.isR (id := 10) ?_; refine zZ.rc [1, 2, 3, 4, 5, 19, 28] [1] (r := (.v zV (.v zV (.v zH (.v wY (.v zN (.v zV (.v v7_18 (.v v3_1 (.v v2_1 (.v v57_0 (.v v30_6 (.v zK .e))))))))))))) (h := ?_)) | (refine zZ.isR (id := 9) ?_; refine zZ.rc [1, 2, 3, 4, 5, 19, 28] [1] (r := (.v zV (.v wC (.v zK .e)))) (h := ?_)) | refine zZ.yF rfl bA ?_ | refine zZ.skip ?_ | refine zZ.block ?_) | refine zB.n ?_ | refine zP.n ?_)
              all_goals
                refine ⟨i + 1, ?_, hlt, by omega⟩
                rw [htk]
                exact zT K_5 K_1
            case neg =>
              have f1 : decide ((i : Int) < ((strs r1).length : Nat)) = false := decide_eq_false (by omega)
              have e : r1.take i = r1 := List.take_of_length_le (by omega)
              rw [e]
              repeat' (first | (refine zY.nil ?_) | (refine zZ.is ?_; first | refine zZ.seq ?_ | (refine zZ.isR (id := 8) ?_; refine zZ.rc [1, 2, 3, 4, 5, 19, 28] [1] (r := (.v zV (.v zV (.v zH (.v wY (.v zN (.v wO (.v xY .e)))))))) (h := ?_)) | (refine zZ.isR (id := 6) ?_; refine zZ.rc [1, 2, 3, 4, 5, 19, 28] [1] (r := (.v zV (.v v30_4 (.v zK .e)))) (h := ?_)) | refine zZ.yH rfl bA ?_ | refine zZ.exit ?_) | refine zB.n ?_ | refine zP.n ?_ | refine zP.eY ?_ | refine zB.e ?_)
              all_goals
                refine ⟨2, ?_, by omega, by omega⟩
                show Sub _ (fwS root r0 r1 2 (lenW (lenW 0 r0) r1))
                unfold fwS
                exact zT K_d K_1
        | 2, _ =>
          show zZ _ _ _ (fwS root r0 r1 2 (lenW (lenW 0 r0) r1)) _
          unfold fwS
          repeat' (first | (refine zY.nil ?_) | (refine zZ.is ?_; first | refine zZ.seq ?_ | (refine zZ.isR (id := 5) ?_; refine zZ.rc [1, 2, 3, 4, 5, 19, 28] [1] (r := (.v zV (.v v43_5 .e))) (h := ?_)) | (refine zZ.isR (id := 11) ?_; refine zZ.rc [2, 3] [1] (r := (.v zV (.v v44_8 (.v zK .e)))) (h := ?_)) | refine zZ.yH rfl bA ?_ | refine zZ.exit ?_ | refine zZ.ret ?_) | refine zB.n ?_ | refine zP.eY ?_ | refine zB.e ?_)
          all_goals exact ⟨by first | exact .inl rfl | exact .inr rfl, _, Sub.refl _, .p rfl (.tmp rfl)⟩
        | k + 3, h => omega
/-! ### Is a disk right? -/
def r6B (p : List Int × Int) : Bool := decide (0 ≤ p.2 ∧ p.2 ≤ (p.1.length : Nat))
theorem right6B_fn (d : List Int) (z : Int) : Fn Tryz.prog 111 [strV d z] (.p (.val (.bool (r6B (d, z))))) := by
  by_cases p0 : 0 ≤ z
  case neg =>
    have d0 : decide (0 ≤ z) = false := decide_eq_false p0
    rw [show r6B (d, z) = false from decide_eq_false fun h => p0 h.1]
    refine z8 Tryz.func111 rfl Tryz.ntmps111 (Nat.le_of_ble_eq_true rfl) ?_
    repeat' (first | (refine zY.nil ?_) | (refine zZ.is ?_; first | refine zZ.seq ?_ | (refine zZ.isR (id := 0) ?_; refine zZ.rc [0] [1] (r := (.m yD (.v zK .e))) (h := ?_)) | (refine zZ.isR (id := 1) ?_; refine zZ.rc [1, 2] [1] (r := (.v zH (.v zN (.v vT (.v zV (.gT (.gT (.gT (.gT (.gT (.gT (.v xC (.v zK .e))))))))))))) (h := ?_)) | refine zZ.ret ?_) | refine zB.n ?_)
    all_goals exact ⟨by first | exact .inl rfl | exact .inr rfl, _, Sub.refl _, .p rfl (.tmp rfl)⟩
  case pos =>
    have d0 : decide (0 ≤ z) = true := decide_eq_true p0
    by_cases p1 : z ≤ (d.length : Nat)
    case neg =>
      have d1 : decide (z ≤ (d.length : Nat)) = false := decide_eq_false p1
      rw [show r6B (d, z) = false from decide_eq_false fun h => p1 h.2]
      refine z8 Tryz.func111 rfl Tryz.ntmps111 (Nat.le_of_ble_eq_true rfl) ?_
      repeat' (first | (refine zY.nil ?_) | (refine zZ.is ?_; first | refine zZ.seq ?_ | (refine zZ.isR (id := 0) ?_; refine zZ.rc [0] [1] (r := (.m yD (.v zK .e))) (h := ?_)) | (refine zZ.isR (id := 1) ?_; refine zZ.rc [1, 2] [1] (r := (.v zH (.v zN (.v vT (.v zV (.gY zH (.gY zN (.gY zH (.gY zN (.gY v57_0 (.gY v44_0 (.v y8 (.v zK .e))))))))))))) (h := ?_)) | refine zZ.ret ?_) | refine zB.n ?_)
      all_goals exact ⟨by first | exact .inl rfl | exact .inr rfl, _, Sub.refl _, .p rfl (.tmp rfl)⟩
    case pos =>
      have d1 : decide (z ≤ (d.length : Nat)) = true := decide_eq_true p1
      rw [show r6B (d, z) = true from decide_eq_true ⟨p0, p1⟩]
      refine z8 Tryz.func111 rfl Tryz.ntmps111 (Nat.le_of_ble_eq_true rfl) ?_
      repeat' (first | (refine zY.nil ?_) | (refine zZ.is ?_; first | refine zZ.seq ?_ | (refine zZ.isR (id := 0) ?_; refine zZ.rc [0] [1] (r := (.m yD (.v zK .e))) (h := ?_)) | (refine zZ.isR (id := 1) ?_; refine zZ.rc [1, 2] [1] (r := (.v zH (.v zN (.v vT (.v zV (.gY zH (.gY zN (.gY zH (.gY zN (.gY v57_0 (.gY v44_0 (.v y8 (.v zK .e))))))))))))) (h := ?_)) | refine zZ.ret ?_) | refine zB.n ?_)
      all_goals exact ⟨by first | exact .inl rfl | exact .inr rfl, _, Sub.refl _, .p rfl (.tmp rfl)⟩
def rtS (root : Int) (r0 r1 : List (List Int × Int)) (k : Int) : AS := { t := [(1, .ptr 1 0), (3, .p (.val (.int .i64 (r0.length : Nat)))), (4, .p (.val (.int .i64 k)))], s := [(1, .box 31 [.p (.val (.int .u64 root)), .p (.sl (strs r0)), .p (.sl (strs r1))])] }
def rtI (root : Int) (r0 r1 : List (List Int × Int)) (k : Int) (i : Nat) : AS := { t := [(1, .ptr 1 0), (3, .p (.val (.int .i64 (r0.length : Nat)))), (4, .p (.val (.int .i64 k))), (5, .p (.val (.int .i64 (i : Nat))))], s := [(1, .box 31 [.p (.val (.int .u64 root)), .p (.sl (strs r0)), .p (.sl (strs r1))])] }
theorem all_take {f : List Int × Int → Bool} {l : List (List Int × Int)} {i : Nat} {p : List Int × Int} (hp : l[i]? = some p) (h : (l.take i).all f = true) (hf : f p = true) : (l.take (i + 1)).all f = true := by
  rw [List.take_add_one, hp, List.all_append, h]
  simp [hf]
theorem all_no {f : List Int × Int → Bool} {l : List (List Int × Int)} {i : Nat} {p : List Int × Int} (hp : l[i]? = some p) (hf : f p = false) : l.all f = false := by
  rw [List.all_eq_false]
  exact ⟨p, List.mem_of_getElem? hp, by rw [hf]; decide⟩
theorem right7_fn (root : Int) (r0 r1 : List (List Int × Int)) : ∃ b, Fn Tryz.prog 74 [wE root r0 r1] (.p (.val (.bool b))) ∧ (b = true → (1 ≤ r0.length ∧ r0.length ≤ 64) ∧ r1.length = r0.length) := by
  have l0 := wF r0
  have l1 := wF r1
  have z0 := vO r0
  have z1 := vO r1
  by_cases p0 : 1 ≤ r0.length
  case neg =>
    have d0 : decide (((strs r0).length : Int) < 1) = true := decide_eq_true (by omega)
    refine ⟨false, ?_, fun h => (by cases h)⟩
    refine z8 Tryz.func74 rfl Tryz.ntmps74 (Nat.le_of_ble_eq_true rfl) ?_
    repeat' (first | (refine zY.nil ?_) | (refine zZ.is ?_; first | refine zZ.seq ?_ | (refine zZ.isR (id := 0) ?_; refine zZ.rc [0] [1] (r := (.m yD (.v zK .e))) (h := ?_)) | (refine zZ.isR (id := 1) ?_; refine zZ.rc [1, 2] [1] (r := (.v zH (.v wY (.v zN (.v wO (.v zK .e)))))) (h := ?_)) | (refine zZ.isR (id := 2) ?_; refine zZ.rc [1, 2, 3] [1] (r := (.v zV (.v xY (.v zV (.gF (.gF (.v y8 (.v zV (.gF (.gF (.gF (.gF (.gF (.gF (.v y8 .e))))))))))))))) (h := ?_)) | (refine zZ.isR (id := 3) ?_; refine zZ.rc [1, 2, 3] [1] (r := (.v zK .e)) (h := ?_)) | refine zZ.yF rfl bA ?_ | refine zZ.ret ?_) | refine zB.n ?_ | refine zB.r ?_)
    all_goals exact ⟨by first | exact .inl rfl | exact .inr rfl, _, Sub.refl _, .p rfl (.tmp rfl)⟩
  case pos =>
    have d0 : decide (((strs r0).length : Int) < 1) = false := decide_eq_false (by omega)
    by_cases p1 : r0.length ≤ 64
    case neg =>
      have d1 : decide ((64 : Int) < ((strs r0).length : Nat)) = true := decide_eq_true (by omega)
      refine ⟨false, ?_, fun h => (by cases h)⟩
      refine z8 Tryz.func74 rfl Tryz.ntmps74 (Nat.le_of_ble_eq_true rfl) ?_
      repeat' (first | (refine zY.nil ?_) | (refine zZ.is ?_; first | refine zZ.seq ?_ | (refine zZ.isR (id := 0) ?_; refine zZ.rc [0] [1] (r := (.m yD (.v zK .e))) (h := ?_)) | (refine zZ.isR (id := 1) ?_; refine zZ.rc [1, 2] [1] (r := (.v zH (.v wY (.v zN (.v wO (.v zK .e)))))) (h := ?_)) | (refine zZ.isR (id := 2) ?_; refine zZ.rc [1, 2, 3] [1] (r := (.v zV (.v xY (.v zV (.gY zV (.gY v45_0 (.v xC (.v zV (.gF (.gF (.gF (.gF (.gF (.gF (.v y8 .e))))))))))))))) (h := ?_)) | (refine zZ.isR (id := 3) ?_; refine zZ.rc [1, 2, 3] [1] (r := (.v zK .e)) (h := ?_)) | refine zZ.yF rfl bA ?_ | refine zZ.ret ?_) | refine zB.n ?_ | refine zB.r ?_)
      all_goals exact ⟨by first | exact .inl rfl | exact .inr rfl, _, Sub.refl _, .p rfl (.tmp rfl)⟩
    case pos =>
      have d1 : decide ((64 : Int) < ((strs r0).length : Nat)) = false := decide_eq_false (by omega)
      by_cases p2 : r1.length = r0.length
      case neg =>
        have d2 : (!decide (((strs r1).length : Int) = ((strs r0).length : Nat))) = true := by rw [decide_eq_false (show ¬ ((strs r1).length : Int) = ((strs r0).length : Nat) by omega)]; rfl
        refine ⟨false, ?_, fun h => (by cases h)⟩
        refine z8 Tryz.func74 rfl Tryz.ntmps74 (Nat.le_of_ble_eq_true rfl) ?_
        repeat' (first | (refine zY.nil ?_) | (refine zZ.is ?_; first | refine zZ.seq ?_ | (refine zZ.isR (id := 0) ?_; refine zZ.rc [0] [1] (r := (.m yD (.v zK .e))) (h := ?_)) | (refine zZ.isR (id := 1) ?_; refine zZ.rc [1, 2] [1] (r := (.v zH (.v wY (.v zN (.v wO (.v zK .e)))))) (h := ?_)) | (refine zZ.isR (id := 2) ?_; refine zZ.rc [1, 2, 3] [1] (r := (.v zV (.v xY (.v zV (.gY zV (.gY v45_0 (.v xC (.v zV (.gY zH (.gY wY (.gY zN (.gY wO (.gY zV (.gY v42_0 (.v xC .e))))))))))))))) (h := ?_)) | (refine zZ.isR (id := 3) ?_; refine zZ.rc [1, 2, 3] [1] (r := (.v zK .e)) (h := ?_)) | refine zZ.yF rfl bA ?_ | refine zZ.ret ?_) | refine zB.n ?_ | refine zB.r ?_)
        all_goals exact ⟨by first | exact .inl rfl | exact .inr rfl, _, Sub.refl _, .p rfl (.tmp rfl)⟩
      case pos =>
        have d2 : (!decide (((strs r1).length : Int) = ((strs r0).length : Nat))) = false := by rw [decide_eq_true (show ((strs r1).length : Int) = ((strs r0).length : Nat) by omega)]; rfl
        refine ⟨r0.all r6B && r1.all r6B, ?_, fun _ => ⟨⟨p0, p1⟩, p2⟩⟩
        generalize hB : (r0.all r6B && r1.all r6B) = b
        refine z8 Tryz.func74 rfl Tryz.ntmps74 (Nat.le_of_ble_eq_true rfl) ?_
        repeat' (first | (refine zY.nil ?_) | (refine zZ.is ?_; first | refine zZ.seq ?_ | (refine zZ.isR (id := 0) ?_; refine zZ.rc [0] [1] (r := (.m yD (.v zK .e))) (h := ?_)) | (refine zZ.isR (id := 1) ?_; refine zZ.rc [1, 2] [1] (r := (.v zH (.v wY (.v zN (.v wO (.v zK .e)))))) (h := ?_)) | (refine zZ.isR (id := 2) ?_; refine zZ.rc [1, 2, 3] [1] (r := (.v zV (.v xY (.v zV (.gY zV (.gY v45_0 (.v xC (.v zV (.gY zH (.gY wY (.gY zN (.gY wO (.gY zV (.gY v42_0 (.v xC .e))))))))))))))) (h := ?_)) | (refine zZ.isR (id := 4) ?_; refine zZ.rc [1, 2, 3] [1] (r := (.v zK .e)) (h := ?_)) | refine zZ.yH rfl bA ?_ | refine zZ.skip ?_ | refine zZ.block ?_) | refine zB.n ?_)
        refine zZ.loop (fun k : Nat => rtS root r0 r1 (fwK k)) (fun k => k ≤ 2 ∧ (1 ≤ k → r0.all r6B = true) ∧ (2 ≤ k → r1.all r6B = true)) (fun k => 2 - k) 0 ?h0 ⟨by omega, fun h => absurd h (by omega), fun h => absurd h (by omega)⟩ ?rd
        case h0 =>
          show Sub _ (rtS root r0 r1 0)
          unfold rtS
          rw [← l0]
          exact zT K_d K_1
        case rd =>
          intro k hk
          match k, hk with
          | 0, _ =>
            show zZ _ _ _ (rtS root r0 r1 0) _
            unfold rtS
            repeat' (first | (refine zY.nil ?_) | (refine zZ.is ?_; first | refine zZ.seq ?_ | (refine zZ.isR (id := 5) ?_; refine zZ.rc [1, 2, 3, 4, 5, 6, 26, 31, 43] [1] (r := (.v zV (.v v43_4 .e))) (h := ?_)) | (refine zZ.isR (id := 7) ?_; refine zZ.rc [1, 2, 3, 4, 5, 6, 26, 31, 43] [1] (r := (.v zK .e)) (h := ?_)) | refine zZ.yF rfl bA ?_ | refine zZ.skip ?_ | refine zZ.block ?_) | refine zB.n ?_)
            refine zZ.loop (fun i : Nat => rtI root r0 r1 0 i) (fun i => i ≤ r0.length ∧ (r0.take i).all r6B = true) (fun i => r0.length - i) 0 ?h1 ⟨Nat.zero_le _, rfl⟩ ?rd1
            case h1 =>
              unfold rtI
              exact zT K_5 K_1
            case rd1 =>
              rintro i ⟨hi, hta⟩
              unfold rtI
              by_cases hlt : i < r0.length
              case pos =>
                obtain ⟨⟨d, z⟩, hx⟩ : ∃ p, r0[i]? = some p := ⟨_, List.getElem?_eq_getElem hlt⟩
                have f1 : decide ((i : Int) < (r0.length : Nat)) = true := decide_eq_true (by omega)
                have g2 : (0 : Int) ≤ (i : Int) ∧ (i : Int) < ((strs r0).length : Nat) := by omega
                have g3 : (strs r0)[i]? = some (strV d z) := strs_at hx
                have g5 : IntKind.i64.wrap ((i : Int) + 1) = ((i + 1 : Nat) : Int) := by rw [wrap_i64 _ (by omega)]; omega
                have c6 := right6B_fn d z
                cases hr : r6B (d, z) with
                | false =>
                  rw [hr] at c6
                  have hb : b = false := by rw [← hB, all_no (l := r0) hx hr]; simp
                  subst hb
                  repeat' (first | (refine zY.is ?_; first | refine zY.nil ?_ | (refine zY.at_ 6 rfl ?_; refine zY.rc (.v zK .e) ?_) | (refine zY.in_ [41] rfl ?_; refine zY.v rfl rfl (zL (c6) rfl rfl rfl (by decide)) ?_)) | (refine zZ.is ?_; first | refine zZ.seq ?_ | (refine zZ.isR (id := 8) ?_; refine zZ.rc [1, 2, 3, 4, 5, 6, 26, 31, 43] [1] (r := (.v zV (.v zV (.v xY .e)))) (h := ?_)) | (refine zZ.isR (id := 10) ?_; refine zZ.rc [1, 2, 3, 4, 5, 6, 26, 31, 43] [1] (r := (.v zV (.v zH (.v wY (.v zN (.v zV (.v v7_18 (.v v2_7 .e)))))))) (h := ?_)) | (refine zZ.isR (id := 11) ?_; refine zZ.rc [1, 2, 3, 4, 5, 6, 26, 31, 43] [1] (r := (.v zV (.v v52_4 .e))) (h := ?_)) | (refine zZ.isR (id := 12) ?_; refine zZ.rc [1, 2, 3, 4, 5, 6, 26, 31, 43] [1] (r := (.v zK .e)) (h := ?_)) | refine zZ.yF rfl bA ?_ | refine zZ.skip ?_ | refine zZ.block ?_ | refine zZ.ret ?_) | refine zB.n ?_ | refine zB.r ?_ | refine zP.r ?_)
                  all_goals exact ⟨by first | exact .inl rfl | exact .inr rfl, _, Sub.refl _, .p rfl (.tmp rfl)⟩
                | true =>
                  rw [hr] at c6
                  repeat' (first | (refine zY.is ?_; first | refine zY.nil ?_ | (refine zY.at_ 6 rfl ?_; refine zY.rc (.v zK .e) ?_) | (refine zY.in_ [41] rfl ?_; refine zY.v rfl rfl (zL (c6) rfl rfl rfl (by decide)) ?_)) | (refine zZ.is ?_; first | refine zZ.seq ?_ | (refine zZ.isR (id := 8) ?_; refine zZ.rc [1, 2, 3, 4, 5, 6, 26, 31, 43] [1] (r := (.v zV (.v zV (.v xY .e)))) (h := ?_)) | (refine zZ.isR (id := 10) ?_; refine zZ.rc [1, 2, 3, 4, 5, 6, 26, 31, 43] [1] (r := (.v zV (.v zH (.v wY (.v zN (.v zV (.v v7_18 (.v v2_7 .e)))))))) (h := ?_)) | (refine zZ.isR (id := 11) ?_; refine zZ.rc [1, 2, 3, 4, 5, 6, 26, 31, 43] [1] (r := (.v zV (.v qI .e))) (h := ?_)) | (refine zZ.isR (id := 9) ?_; refine zZ.rc [1, 2, 3, 4, 5, 6, 26, 31, 43] [1] (r := (.v zV (.v wC (.v zK .e)))) (h := ?_)) | refine zZ.yF rfl bA ?_ | refine zZ.yH rfl bA ?_ | refine zZ.skip ?_ | refine zZ.block ?_) | refine zB.n ?_ | refine zP.n ?_)
                  all_goals
                    refine ⟨i + 1, ?_, ⟨hlt, all_take hx hta hr⟩, by omega⟩
                    exact zT K_5 K_1
              case neg =>
                have f1 : decide ((i : Int) < (r0.length : Nat)) = false := decide_eq_false (by omega)
                rw [List.take_of_length_le (by omega)] at hta
                repeat' (first | (refine zY.nil ?_) | (refine zZ.is ?_; first | refine zZ.seq ?_ | (refine zZ.isR (id := 8) ?_; refine zZ.rc [1, 2, 3, 4, 5, 6, 26, 31, 43] [1] (r := (.v zV (.v zV (.v xY .e)))) (h := ?_)) | (refine zZ.isR (id := 6) ?_; refine zZ.rc [1, 2, 3, 4, 5, 6, 26, 31, 43] [1] (r := (.v zV (.v v30_4 (.v zK .e)))) (h := ?_)) | refine zZ.yH rfl bA ?_ | refine zZ.exit ?_) | refine zB.n ?_ | refine zP.n ?_ | refine zP.eY ?_ | refine zB.e ?_)
                all_goals
                  refine ⟨1, ?_, ⟨by omega, fun _ => hta, fun h => absurd h (by omega)⟩, by omega⟩
                  show Sub _ (rtS root r0 r1 1)
                  unfold rtS
                  exact zT K_d K_1
          | 1, hk =>
            have ha0 := hk.2.1 (by omega)
            show zZ _ _ _ (rtS root r0 r1 1) _
            unfold rtS
            repeat' (first | (refine zY.nil ?_) | (refine zZ.is ?_; first | refine zZ.seq ?_ | (refine zZ.isR (id := 5) ?_; refine zZ.rc [1, 2, 3, 4, 5, 6, 26, 31, 43] [1] (r := (.v zV (.v v43_4 .e))) (h := ?_)) | (refine zZ.isR (id := 7) ?_; refine zZ.rc [1, 2, 3, 4, 5, 6, 26, 31, 43] [1] (r := (.v zK .e)) (h := ?_)) | refine zZ.yF rfl bA ?_ | refine zZ.skip ?_ | refine zZ.block ?_) | refine zB.n ?_)
            refine zZ.loop (fun i : Nat => rtI root r0 r1 1 i) (fun i => i ≤ r1.length ∧ (r1.take i).all r6B = true) (fun i => r1.length - i) 0 ?h2 ⟨Nat.zero_le _, rfl⟩ ?rd2
            case h2 =>
              unfold rtI
              exact zT K_5 K_1
            case rd2 =>
              rintro i ⟨hi, hta⟩
              unfold rtI
              by_cases hlt : i < r1.length
              case pos =>
                obtain ⟨⟨d, z⟩, hx⟩ : ∃ p, r1[i]? = some p := ⟨_, List.getElem?_eq_getElem hlt⟩
                have f1 : decide ((i : Int) < (r0.length : Nat)) = true := decide_eq_true (by omega)
                have g2 : (0 : Int) ≤ (i : Int) ∧ (i : Int) < ((strs r1).length : Nat) := by omega
                have g3 : (strs r1)[i]? = some (strV d z) := strs_at hx
                have g5 : IntKind.i64.wrap ((i : Int) + 1) = ((i + 1 : Nat) : Int) := by rw [wrap_i64 _ (by omega)]; omega
                have c6 := right6B_fn d z
                cases hr : r6B (d, z) with
                | false =>
                  rw [hr] at c6
                  have hb : b = false := by rw [← hB, all_no (l := r1) hx hr]; simp
                  subst hb
                  repeat' (first | (refine zY.is ?_; first | refine zY.nil ?_ | (refine zY.at_ 6 rfl ?_; refine zY.rc (.v zK .e) ?_) | (refine zY.in_ [41] rfl ?_; refine zY.v rfl rfl (zL (c6) rfl rfl rfl (by decide)) ?_)) | (refine zZ.is ?_; first | refine zZ.seq ?_ | (refine zZ.isR (id := 8) ?_; refine zZ.rc [1, 2, 3, 4, 5, 6, 26, 31, 43] [1] (r := (.v zV (.v zV (.v xY .e)))) (h := ?_)) | (refine zZ.isR (id := 10) ?_; refine zZ.rc [1, 2, 3, 4, 5, 6, 26, 31, 43] [1] (r := (.v zV (.v zH (.v wY (.v zN (.v zV (.v v7_18 (.v v2_7 .e)))))))) (h := ?_)) | (refine zZ.isR (id := 11) ?_; refine zZ.rc [1, 2, 3, 4, 5, 6, 26, 31, 43] [1] (r := (.v zV (.v v52_4 .e))) (h := ?_)) | (refine zZ.isR (id := 12) ?_; refine zZ.rc [1, 2, 3, 4, 5, 6, 26, 31, 43] [1] (r := (.v zK .e)) (h := ?_)) | refine zZ.yF rfl bA ?_ | refine zZ.skip ?_ | refine zZ.block ?_ | refine zZ.ret ?_) | refine zB.n ?_ | refine zB.r ?_ | refine zP.r ?_)
                  all_goals exact ⟨by first | exact .inl rfl | exact .inr rfl, _, Sub.refl _, .p rfl (.tmp rfl)⟩
                | true =>
                  rw [hr] at c6
                  repeat' (first | (refine zY.is ?_; first | refine zY.nil ?_ | (refine zY.at_ 6 rfl ?_; refine zY.rc (.v zK .e) ?_) | (refine zY.in_ [41] rfl ?_; refine zY.v rfl rfl (zL (c6) rfl rfl rfl (by decide)) ?_)) | (refine zZ.is ?_; first | refine zZ.seq ?_ | (refine zZ.isR (id := 8) ?_; refine zZ.rc [1, 2, 3, 4, 5, 6, 26, 31, 43] [1] (r := (.v zV (.v zV (.v xY .e)))) (h := ?_)) | (refine zZ.isR (id := 10) ?_; refine zZ.rc [1, 2, 3, 4, 5, 6, 26, 31, 43] [1] (r := (.v zV (.v zH (.v wY (.v zN (.v zV (.v v7_18 (.v v2_7 .e)))))))) (h := ?_)) | (refine zZ.isR (id := 11) ?_; refine zZ.rc [1, 2, 3, 4, 5, 6, 26, 31, 43] [1] (r := (.v zV (.v qI .e))) (h := ?_)) | (refine zZ.isR (id := 9) ?_; refine zZ.rc [1, 2, 3, 4, 5, 6, 26, 31, 43] [1] (r := (.v zV (.v wC (.v zK .e)))) (h := ?_)) | refine zZ.yF rfl bA ?_ | refine zZ.yH rfl bA ?_ | refine zZ.skip ?_ | refine zZ.block ?_) | refine zB.n ?_ | refine zP.n ?_)
                  all_goals
                    refine ⟨i + 1, ?_, ⟨hlt, all_take hx hta hr⟩, by omega⟩
                    exact zT K_5 K_1
              case neg =>
                have f1 : decide ((i : Int) < (r0.length : Nat)) = false := decide_eq_false (by omega)
                rw [List.take_of_length_le (by omega)] at hta
                repeat' (first | (refine zY.nil ?_) | (refine zZ.is ?_; first | refine zZ.seq ?_ | (refine zZ.isR (id := 8) ?_; refine zZ.rc [1, 2, 3, 4, 5, 6, 26, 31, 43] [1] (r := (.v zV (.v zV (.v xY .e)))) (h := ?_)) | (refine zZ.isR (id := 6) ?_; refine zZ.rc [1, 2, 3, 4, 5, 6, 26, 31, 43] [1] (r := (.v zV (.v v30_4 (.v zK .e)))) (h := ?_)) | refine zZ.yH rfl bA ?_ | refine zZ.exit ?_) | refine zB.n ?_ | refine zP.n ?_ | refine zP.eY ?_ | refine zB.e ?_)
                all_goals
                  refine ⟨2, ?_, ⟨by omega, fun _ => ha0, fun h => hta⟩, by omega⟩
                  show Sub _ (rtS root r0 r1 2)
                  unfold rtS
                  exact zT K_d K_1
          | 2, hk =>
            have hb : b = true := by rw [← hB, hk.2.1 (by omega), hk.2.2 (by omega)]; rfl
            subst hb
            show zZ _ _ _ (rtS root r0 r1 2) _
            unfold rtS
            repeat' (first | (refine zY.nil ?_) | (refine zZ.is ?_; first | refine zZ.seq ?_ | (refine zZ.isR (id := 5) ?_; refine zZ.rc [1, 2, 3, 4, 5, 6, 26, 31, 43] [1] (r := (.v zV (.v v43_5 .e))) (h := ?_)) | (refine zZ.isR (id := 13) ?_; refine zZ.rc [2] [1] (r := (.v zK .e)) (h := ?_)) | refine zZ.yH rfl bA ?_ | refine zZ.exit ?_ | refine zZ.ret ?_) | refine zB.n ?_ | refine zP.eY ?_ | refine zB.e ?_)
            all_goals exact ⟨by first | exact .inl rfl | exact .inr rfl, _, Sub.refl _, .p rfl (.tmp rfl)⟩
          | k + 3, h => exact absurd h.1 (by omega)
/-! ### A world -/
theorem right10_fn (t c root : Int) (ws : List Int) (r0 r1 : List (List Int × Int)) : ∃ b, Fn Tryz.prog 38 [xK t c ws root r0 r1] (.p (.val (.bool b))) ∧ (b = true → 1 ≤ t ∧ t ≤ 64 ∧ 0 ≤ c ∧ ((wds ws).length : Int) = 8 + t + 8 * c) := by
  obtain ⟨b1, c1, h1⟩ := right9_fn t c ws
  obtain ⟨b2, c2, h2⟩ := right7_fn root r0 r1
  cases b1 with
  | false =>
    refine ⟨false, ?_, fun h => (by cases h)⟩
    refine z8 Tryz.func38 rfl Tryz.ntmps38 (Nat.le_of_ble_eq_true rfl) ?_
    repeat' (first | (refine zY.is ?_; first | refine zY.nil ?_ | (refine zY.at_ 3 rfl ?_; refine zY.rc (.v zK .e) ?_) | (refine zY.at_ 4 rfl ?_; refine zY.rc (.v zK .e) ?_) | (refine zY.in_ [7] rfl ?_; refine zY.v rfl rfl (zL (c1) rfl rfl rfl (by decide)) ?_) | (refine zY.in_ [10] rfl ?_; refine zY.v rfl rfl (zL (c2) rfl rfl rfl (by decide)) ?_)) | (refine zZ.is ?_; first | refine zZ.seq ?_ | (refine zZ.isR (id := 0) ?_; refine zZ.rc [0] [1] (r := (.m yD (.v zK .e))) (h := ?_)) | (refine zZ.isR (id := 1) ?_; refine zZ.rc [1, 2] [1] (r := (.v zH (.v yU .e))) (h := ?_)) | (refine zZ.isR (id := 2) ?_; refine zZ.rc [1, 2, 3] [1] (r := (.v zH (.v yU .e))) (h := ?_)) | (refine zZ.isR (id := 3) ?_; refine zZ.rc [1, 2, 3, 4] [1] (r := (.v zV (.v zV (.gT (.v xC (.v zV (.gT (.gT (.gT (.gT (.gT (.gT (.gT (.gT (.gT (.v xC (.v zK .e))))))))))))))))) (h := ?_)) | refine zZ.ret ?_) | refine zB.n ?_)
    all_goals exact ⟨by first | exact .inl rfl | exact .inr rfl, _, Sub.refl _, .p rfl (.tmp rfl)⟩
  | true =>
    obtain ⟨q1, q2, q3, _, q5⟩ := h1 rfl
    cases b2 with
    | false =>
      refine ⟨false, ?_, fun h => (by cases h)⟩
      refine z8 Tryz.func38 rfl Tryz.ntmps38 (Nat.le_of_ble_eq_true rfl) ?_
      repeat' (first | (refine zY.is ?_; first | refine zY.nil ?_ | (refine zY.at_ 3 rfl ?_; refine zY.rc (.v zK .e) ?_) | (refine zY.at_ 4 rfl ?_; refine zY.rc (.v zK .e) ?_) | (refine zY.in_ [7] rfl ?_; refine zY.v rfl rfl (zL (c1) rfl rfl rfl (by decide)) ?_) | (refine zY.in_ [10] rfl ?_; refine zY.v rfl rfl (zL (c2) rfl rfl rfl (by decide)) ?_)) | (refine zZ.is ?_; first | refine zZ.seq ?_ | (refine zZ.isR (id := 0) ?_; refine zZ.rc [0] [1] (r := (.m yD (.v zK .e))) (h := ?_)) | (refine zZ.isR (id := 1) ?_; refine zZ.rc [1, 2] [1] (r := (.v zH (.v yU .e))) (h := ?_)) | (refine zZ.isR (id := 2) ?_; refine zZ.rc [1, 2, 3] [1] (r := (.v zH (.v yU .e))) (h := ?_)) | (refine zZ.isR (id := 3) ?_; refine zZ.rc [1, 2, 3, 4] [1] (r := (.v zV (.v zV (.gY zV (.v y8 (.v zV (.gT (.gT (.gT (.gT (.gT (.gT (.gT (.gT (.gT (.v xC (.v zK .e))))))))))))))))) (h := ?_)) | refine zZ.ret ?_) | refine zB.n ?_)
      all_goals exact ⟨by first | exact .inl rfl | exact .inr rfl, _, Sub.refl _, .p rfl (.tmp rfl)⟩
    | true =>
      refine ⟨decide (((strs r0).length : Int) = t), ?_, fun _ => ⟨q1, q2, q3, q5⟩⟩
      refine z8 Tryz.func38 rfl Tryz.ntmps38 (Nat.le_of_ble_eq_true rfl) ?_
      repeat' (first | (refine zY.is ?_; first | refine zY.nil ?_ | (refine zY.at_ 3 rfl ?_; refine zY.rc (.v zK .e) ?_) | (refine zY.at_ 4 rfl ?_; refine zY.rc (.v zK .e) ?_) | (refine zY.in_ [7] rfl ?_; refine zY.v rfl rfl (zL (c1) rfl rfl rfl (by decide)) ?_) | (refine zY.in_ [10] rfl ?_; refine zY.v rfl rfl (zL (c2) rfl rfl rfl (by decide)) ?_)) | (refine zZ.is ?_; first | refine zZ.seq ?_ | (refine zZ.isR (id := 0) ?_; refine zZ.rc [0] [1] (r := (.m yD (.v zK .e))) (h := ?_)) | (refine zZ.isR (id := 1) ?_; refine zZ.rc [1, 2] [1] (r := (.v zH (.v yU .e))) (h := ?_)) | (refine zZ.isR (id := 2) ?_; refine zZ.rc [1, 2, 3] [1] (r := (.v zH (.v yU .e))) (h := ?_)) | (refine zZ.isR (id := 3) ?_; refine zZ.rc [1, 2, 3, 4] [1] (r := (.v zV (.v zV (.gY zV (.v y8 (.v zV (.gY zH (.gY zH (.gY wY (.gY zN (.gY wO (.gY zH (.gY zH (.gY zN (.gY v41_8 (.v y8 (.v zK .e))))))))))))))))) (h := ?_)) | refine zZ.ret ?_) | refine zB.n ?_)
      all_goals exact ⟨by first | exact .inl rfl | exact .inr rfl, _, Sub.refl _, .p rfl (.tmp rfl)⟩
structure SmlW (t c : Int) (ws : List Int) (r0 r1 : List (List Int × Int)) : Prop where
  ht : 1 ≤ t ∧ t ≤ 64
  hc : 0 ≤ c
  len : (ws.length : Int) = 8 + t + 8 * c
  le : ws.length ≤ 600
  s0 : r0.length ≤ 8
  s1 : r1.length ≤ 8
theorem small10_fn (t c root : Int) (ws : List Int) (r0 r1 : List (List Int × Int)) : ∃ b, Fn Tryz.prog 14 [xK t c ws root r0 r1, .val (.int .i64 0)] (.p (.val (.bool b))) ∧ (b = true → SmlW t c ws r0 r1) := by
  obtain ⟨b1, c1, h1⟩ := few7_fn root r0 r1
  obtain ⟨b2, c2, h2⟩ := right10_fn t c root ws r0 r1
  have lw := vS ws
  cases b1 with
  | false =>
    refine ⟨false, ?_, fun h => (by cases h)⟩
    refine z8 Tryz.func14 rfl Tryz.ntmps14 (Nat.le_of_ble_eq_true rfl) ?_
    repeat' (first | (refine zY.is ?_; first | refine zY.nil ?_ | (refine zY.at_ 5 rfl ?_; refine zY.rc (.v zK .e) ?_) | (refine zY.at_ 6 rfl ?_; refine zY.rc (.v zK .e) ?_) | (refine zY.in_ [9] rfl ?_; refine zY.v rfl rfl (zL (c1) rfl rfl rfl (by decide)) ?_) | (refine zY.in_ [11] rfl ?_; refine zY.v rfl rfl (zL (c2) rfl rfl rfl (by decide)) ?_)) | (refine zZ.is ?_; first | refine zZ.seq ?_ | (refine zZ.isR (id := 0) ?_; refine zZ.rc [0, 1] [2] (r := (.m yD (.v zK .e))) (h := ?_)) | (refine zZ.isR (id := 1) ?_; refine zZ.rc [1, 2, 4] [2] (r := (.v zH (.v yU .e))) (h := ?_)) | (refine zZ.isR (id := 2) ?_; refine zZ.rc [1, 2, 4, 5] [2] (r := (.v yU .e)) (h := ?_)) | (refine zZ.isR (id := 3) ?_; refine zZ.rc [1, 2, 4, 5, 6] [2] (r := (.v zV (.v zV (.gT (.v xC (.v zV (.gT (.gT (.gT (.gT (.gT (.v xC (.v zV (.gT (.gT (.v xC (.v zV (.gT (.gT (.gT (.gT (.gT (.v xC (.v zK .e)))))))))))))))))))))))) (h := ?_)) | refine zZ.ret ?_) | refine zB.n ?_)
    all_goals exact ⟨by first | exact .inl rfl | exact .inr rfl, _, Sub.refl _, .p rfl (.tmp rfl)⟩
  | true =>
    obtain ⟨s0, s1⟩ := h1 rfl
    cases b2 with
    | false =>
      refine ⟨false, ?_, fun h => (by cases h)⟩
      refine z8 Tryz.func14 rfl Tryz.ntmps14 (Nat.le_of_ble_eq_true rfl) ?_
      repeat' (first | (refine zY.is ?_; first | refine zY.nil ?_ | (refine zY.at_ 5 rfl ?_; refine zY.rc (.v zK .e) ?_) | (refine zY.at_ 6 rfl ?_; refine zY.rc (.v zK .e) ?_) | (refine zY.in_ [9] rfl ?_; refine zY.v rfl rfl (zL (c1) rfl rfl rfl (by decide)) ?_) | (refine zY.in_ [11] rfl ?_; refine zY.v rfl rfl (zL (c2) rfl rfl rfl (by decide)) ?_)) | (refine zZ.is ?_; first | refine zZ.seq ?_ | (refine zZ.isR (id := 0) ?_; refine zZ.rc [0, 1] [2] (r := (.m yD (.v zK .e))) (h := ?_)) | (refine zZ.isR (id := 1) ?_; refine zZ.rc [1, 2, 4] [2] (r := (.v zH (.v yU .e))) (h := ?_)) | (refine zZ.isR (id := 2) ?_; refine zZ.rc [1, 2, 4, 5] [2] (r := (.v yU .e)) (h := ?_)) | (refine zZ.isR (id := 3) ?_; refine zZ.rc [1, 2, 4, 5, 6] [2] (r := (.v zV (.v zV (.gY zV (.v y8 (.v zV (.gT (.gT (.gT (.gT (.gT (.v xC (.v zV (.gT (.gT (.v xC (.v zV (.gT (.gT (.gT (.gT (.gT (.v xC (.v zK .e)))))))))))))))))))))))) (h := ?_)) | refine zZ.ret ?_) | refine zB.n ?_)
      all_goals exact ⟨by first | exact .inl rfl | exact .inr rfl, _, Sub.refl _, .p rfl (.tmp rfl)⟩
    | true =>
      obtain ⟨q1, q2, q3, q5⟩ := h2 rfl
      rw [lw] at q5
      by_cases p0 : ws.length ≤ 600
      case neg =>
        have d0 : decide (((wds ws).length : Int) ≤ 600) = false := decide_eq_false (by omega)
        refine ⟨false, ?_, fun h => (by cases h)⟩
        refine z8 Tryz.func14 rfl Tryz.ntmps14 (Nat.le_of_ble_eq_true rfl) ?_
        repeat' (first | (refine zY.is ?_; first | refine zY.nil ?_ | (refine zY.at_ 5 rfl ?_; refine zY.rc (.v zK .e) ?_) | (refine zY.at_ 6 rfl ?_; refine zY.rc (.v zK .e) ?_) | (refine zY.in_ [9] rfl ?_; refine zY.v rfl rfl (zL (c1) rfl rfl rfl (by decide)) ?_) | (refine zY.in_ [11] rfl ?_; refine zY.v rfl rfl (zL (c2) rfl rfl rfl (by decide)) ?_)) | (refine zZ.is ?_; first | refine zZ.seq ?_ | (refine zZ.isR (id := 0) ?_; refine zZ.rc [0, 1] [2] (r := (.m yD (.v zK .e))) (h := ?_)) | (refine zZ.isR (id := 1) ?_; refine zZ.rc [1, 2, 4] [2] (r := (.v zH (.v yU .e))) (h := ?_)) | (refine zZ.isR (id := 2) ?_; refine zZ.rc [1, 2, 4, 5] [2] (r := (.v yU .e)) (h := ?_)) | (refine zZ.isR (id := 3) ?_; refine zZ.rc [1, 2, 4, 5, 6] [2] (r := (.v zV (.v zV (.gY zV (.v y8 (.v zV (.gY zH (.gY zH (.gY zN (.gY wO (.gY v44_0 (.v y8 (.v zV (.gT (.gT (.v xC (.v zV (.gT (.gT (.gT (.gT (.gT (.v xC (.v zK .e)))))))))))))))))))))))) (h := ?_)) | refine zZ.ret ?_) | refine zB.n ?_)
        all_goals exact ⟨by first | exact .inl rfl | exact .inr rfl, _, Sub.refl _, .p rfl (.tmp rfl)⟩
      case pos =>
        have d0 : decide (((wds ws).length : Int) ≤ 600) = true := decide_eq_true (by omega)
        have d1 : decide ((0 : Int) < t) = true := decide_eq_true (by omega)
        refine ⟨true, ?_, fun _ => ⟨⟨q1, q2⟩, q3, q5, p0, s0, s1⟩⟩
        refine z8 Tryz.func14 rfl Tryz.ntmps14 (Nat.le_of_ble_eq_true rfl) ?_
        repeat' (first | (refine zY.is ?_; first | refine zY.nil ?_ | (refine zY.at_ 5 rfl ?_; refine zY.rc (.v zK .e) ?_) | (refine zY.at_ 6 rfl ?_; refine zY.rc (.v zK .e) ?_) | (refine zY.in_ [9] rfl ?_; refine zY.v rfl rfl (zL (c1) rfl rfl rfl (by decide)) ?_) | (refine zY.in_ [11] rfl ?_; refine zY.v rfl rfl (zL (c2) rfl rfl rfl (by decide)) ?_)) | (refine zZ.is ?_; first | refine zZ.seq ?_ | (refine zZ.isR (id := 0) ?_; refine zZ.rc [0, 1] [2] (r := (.m yD (.v zK .e))) (h := ?_)) | (refine zZ.isR (id := 1) ?_; refine zZ.rc [1, 2, 4] [2] (r := (.v zH (.v yU .e))) (h := ?_)) | (refine zZ.isR (id := 2) ?_; refine zZ.rc [1, 2, 4, 5] [2] (r := (.v yU .e)) (h := ?_)) | (refine zZ.isR (id := 3) ?_; refine zZ.rc [1, 2, 4, 5, 6] [2] (r := (.v zV (.v zV (.gY zV (.v y8 (.v zV (.gY zH (.gY zH (.gY zN (.gY wO (.gY v44_0 (.v y8 (.v zV (.gY zV (.gY v46_4 (.v y8 (.v zV (.gY zV (.gY zH (.gY zH (.gY zN (.gY xY (.v y8 (.v zK .e)))))))))))))))))))))))) (h := ?_)) | refine zZ.ret ?_) | refine zB.n ?_)
        all_goals exact ⟨by first | exact .inl rfl | exact .inr rfl, _, Sub.refl _, .p rfl (.tmp rfl)⟩
end Go.Proofs.YtmfbamiciieooaaGreatDoor
/- Two worlds that are the same: contract. -/
namespace Go.Proofs.YtmfbamiciieooaaGreatDoor
set_option maxRecDepth 100000
set_option maxHeartbeats 16000000
open Go Go.RowKit
set_option linter.unusedSimpArgs false
set_option linter.unusedVariables false
attribute [local irreducible] zY zZ Step zX Sub zD zF Fn
def sameMS (v : PV) (i : Nat) : AS := { t := [(2, .ptr 2 0), (3, .ptr 3 0), (5, .p (.val (.int .i64 (i : Nat))))], s := [(2, .box 26 (v.cells.map AV.p)), (3, .box 26 (v.cells.map AV.p))] }
theorem memSame_fn (t c : Int) (ws : List Int) (hl : ws.length ≤ 1000000) : Fn Tryz.prog 39 [memV t c ws, memV t c ws] (.p (.val (.bool true))) := by
  have g1 : ∀ x : Int, (!decide (x = x)) = false := fun x => by simp
  refine z8 Tryz.func39 rfl Tryz.ntmps39 (Nat.le_of_ble_eq_true rfl) ?_
  repeat' ((refine zZ.is ?_; first | refine zZ.seq ?_ | (refine zZ.iq 0 ?_; refine zZ.rqe _ K_l K_2 ?_; (refine zY.m rfl rfl (w_boxA rfl rfl rfl (by decide)) ?_); (refine zY.m rfl rfl (w_boxA rfl rfl rfl (by decide)) ?_); (refine zY.v rfl rfl (yB rfl rfl rfl (by decide)) ?_); refine zY.nil ?_) | (refine zZ.iq 1 ?_; refine zZ.rqa _ K_c K_2 ?_; all_goals (refine zY.v rfl rfl (yN rfl rfl rfl (by decide)) ?_); all_goals (refine zY.v rfl rfl (yX rfl rfl rfl (by rfl) rfl (by decide)) ?_); all_goals (refine zY.v rfl rfl (yN rfl rfl rfl (by decide)) ?_); all_goals (refine zY.v rfl rfl (yX rfl rfl rfl (by rfl) rfl (by decide)) ?_); all_goals (refine zY.v rfl rfl (by exact r_neq rfl rfl rfl (by exact g1 _) rfl (by decide)) ?_); all_goals (refine zY.v rfl rfl (yE rfl rfl rfl (by decide)) ?_); all_goals (refine zY.gY rfl rfl (by decide) rfl (by with_reducible rfl) rfl (by decide) (yN rfl rfl rfl (by decide)) ?_); all_goals (refine zY.gY rfl rfl (by decide) rfl (by with_reducible rfl) rfl (by decide) (yX rfl rfl rfl (by rfl) rfl (by decide)) ?_); all_goals (refine zY.gY rfl rfl (by decide) rfl (by with_reducible rfl) rfl (by decide) (yN rfl rfl rfl (by decide)) ?_); all_goals (refine zY.gY rfl rfl (by decide) rfl (by with_reducible rfl) rfl (by decide) (yX rfl rfl rfl (by rfl) rfl (by decide)) ?_); all_goals (refine zY.gY rfl rfl (by decide) rfl (by with_reducible rfl) rfl (by decide) (by exact r_neq rfl rfl rfl (by exact g1 _) rfl (by decide)) ?_); all_goals (refine zY.v rfl rfl (by exact w_pickN rfl rfl (by with_reducible rfl) rfl rfl (by decide)) ?_); all_goals (refine zY.v rfl rfl (yE rfl rfl rfl (by decide)) ?_); all_goals (refine zY.gY rfl rfl (by decide) rfl (by with_reducible rfl) rfl (by decide) (yN rfl rfl rfl (by decide)) ?_); all_goals (refine zY.gY rfl rfl (by decide) rfl (by with_reducible rfl) rfl (by decide) (yX rfl rfl rfl (by rfl) rfl (by decide)) ?_); all_goals (refine zY.gY rfl rfl (by decide) rfl (by with_reducible rfl) rfl (by decide) (w_lenS rfl rfl rfl (by decide)) ?_); all_goals (refine zY.gY rfl rfl (by decide) rfl (by with_reducible rfl) rfl (by decide) (yN rfl rfl rfl (by decide)) ?_); all_goals (refine zY.gY rfl rfl (by decide) rfl (by with_reducible rfl) rfl (by decide) (yX rfl rfl rfl (by rfl) rfl (by decide)) ?_); all_goals (refine zY.gY rfl rfl (by decide) rfl (by with_reducible rfl) rfl (by decide) (w_lenS rfl rfl rfl (by decide)) ?_); all_goals (refine zY.gY rfl rfl (by decide) rfl (by with_reducible rfl) rfl (by decide) (by exact r_neq rfl rfl rfl (by exact g1 _) rfl (by decide)) ?_); all_goals (refine zY.v rfl rfl (by exact w_pickN rfl rfl (by with_reducible rfl) rfl rfl (by decide)) ?_); all_goals (refine zY.nil ?_)) | (refine zZ.iq 3 ?_; refine zZ.rqa _ K_c K_2 ?_; (refine zY.v rfl rfl (yB rfl rfl rfl (by decide)) ?_); refine zY.nil ?_) | refine zZ.yH rfl (by with_reducible rfl) ?_ | refine zZ.skip ?_ | refine zZ.block ?_))
  all_goals first | (exfalso; simp_all; done) | skip
  refine zZ.loop (sameMS (memV t c ws)) (fun i => i ≤ ws.length) (fun i => ws.length - i) 0 ?h0 (by omega) ?rd
  case h0 =>
    unfold sameMS
    exact yL K_1d K_2
  case rd =>
    intro i hi
    unfold sameMS
    by_cases hlt : i < ws.length
    case pos =>
      have f1 : decide ((i : Int) < ((wds ws).length : Nat)) = true := decide_eq_true (by rw [vS]; omega)
      have g2 : (0 : Int) ≤ (i : Int) ∧ (i : Int) < (wds ws).length := by rw [vS]; omega
      have g3 : (wds ws)[(i : Int).toNat]? = some (.val (.int .u64 (ws[i]'hlt))) := by rw [Int.toNat_natCast]; exact wds_at (List.getElem?_eq_getElem hlt)
      have g4 := wds_cells ws
      have g5 : IntKind.i64.wrap ((i : Int) + 1) = ((i + 1 : Nat) : Int) := by rw [wrap_i64 _ (by omega)]; omega
      repeat' (first | (refine zZ.is ?_; first | refine zZ.seq ?_ | (refine zZ.isR (id := 4) ?_; refine zZ.xW [2, 3, 4, 5, 31, 44] [2, 3] (by repeat' first | exact zG.nil | apply zG.p rfl | apply zG.ptr rfl | apply zG.skip) (by repeat' first | exact zO.nil | apply zO.boxP rfl rfl) ?_; (refine zY.v rfl rfl (yE rfl rfl rfl (by decide)) ?_); (refine zY.v rfl rfl (yN rfl rfl rfl (by decide)) ?_); (refine zY.v rfl rfl (yX rfl rfl rfl (by rfl) rfl (by decide)) ?_); (refine zY.v rfl rfl (w_lenS rfl rfl rfl (by decide)) ?_); (refine zY.v rfl rfl (by exact r_lss rfl rfl rfl (by exact f1) rfl (by decide)) ?_); refine zY.nil ?_) | (refine zZ.isR (id := 6) ?_; refine zZ.regionD [2, 3, 4, 5, 31, 44] [2, 3] (by repeat' first | exact zG.nil | apply zG.p rfl | apply zG.ptr rfl | apply zG.skip) (by repeat' first | exact zO.nil | apply zO.boxP rfl rfl) (zZ.draws ?_); all_goals (refine Draws.v rfl rfl (yN rfl rfl rfl (by decide)) ?_); all_goals (refine Draws.v rfl rfl (yX rfl rfl rfl (by rfl) rfl (by decide)) ?_); all_goals (refine Draws.v rfl rfl (yE rfl rfl rfl (by decide)) ?_); all_goals (refine Draws.v rfl rfl (by exact w_indexS rfl rfl rfl (by exact g4) (by exact g3) rfl (by decide)) ?_); all_goals (refine Draws.v rfl rfl (w_load1 rfl rfl rfl rfl (by decide)) ?_); all_goals (refine Draws.v rfl rfl (yN rfl rfl rfl (by decide)) ?_); all_goals (refine Draws.v rfl rfl (yX rfl rfl rfl (by rfl) rfl (by decide)) ?_); all_goals (refine Draws.v rfl rfl (yE rfl rfl rfl (by decide)) ?_); all_goals (refine Draws.v rfl rfl (by exact w_indexS rfl rfl rfl (by exact g4) (by exact g3) rfl (by decide)) ?_); all_goals (refine Draws.v rfl rfl (w_load1 rfl rfl rfl rfl (by decide)) ?_); all_goals (refine Draws.v rfl rfl (by exact r_neq rfl rfl rfl (by exact g1 _) rfl (by decide)) ?_); all_goals ((refine Draws.done (by kernel_rfl) (by kernel_rfl) (by kernel_rfl) ?_; refine zD.nil ?_))) | (refine zZ.isR (id := 5) ?_; refine zZ.xW [2, 3, 4, 5, 31, 44] [2, 3] (by repeat' first | exact zG.nil | apply zG.p rfl | apply zG.ptr rfl | apply zG.skip) (by repeat' first | exact zO.nil | apply zO.boxP rfl rfl) ?_; (refine zY.v rfl rfl (yE rfl rfl rfl (by decide)) ?_); (refine zY.v rfl rfl (by exact a_add rfl rfl rfl (by exact g5) rfl (by decide)) ?_); (refine zY.v rfl rfl (yB rfl rfl rfl (by decide)) ?_); refine zY.nil ?_) | refine zZ.yF rfl (by first | assumption | with_reducible rfl) ?_ | refine zZ.yH rfl (by with_reducible rfl) ?_ | refine zZ.skip ?_ | refine zZ.block ?_) | refine zB.n ?_)
      all_goals first | (exfalso; simp_all; done) | skip
      refine ⟨i + 1, ?_, by omega, by omega⟩
      show Sub _ (sameMS (memV t c ws) (i + 1))
      unfold sameMS
      exact yL K_1d K_2
    case neg =>
      have f1 : decide ((i : Int) < ((wds ws).length : Nat)) = false := decide_eq_false (by rw [vS]; omega)
      repeat' ((refine zZ.is ?_; first | refine zZ.seq ?_ | (refine zZ.isR (id := 4) ?_; refine zZ.xW [2, 3, 4, 5, 31, 44] [2, 3] (by repeat' first | exact zG.nil | apply zG.p rfl | apply zG.ptr rfl | apply zG.skip) (by repeat' first | exact zO.nil | apply zO.boxP rfl rfl) ?_; (refine zY.v rfl rfl (yE rfl rfl rfl (by decide)) ?_); (refine zY.v rfl rfl (yN rfl rfl rfl (by decide)) ?_); (refine zY.v rfl rfl (yX rfl rfl rfl (by rfl) rfl (by decide)) ?_); (refine zY.v rfl rfl (w_lenS rfl rfl rfl (by decide)) ?_); (refine zY.v rfl rfl (by exact r_lss rfl rfl rfl (by exact f1) rfl (by decide)) ?_); refine zY.nil ?_) | (refine zZ.isR (id := 8) ?_; refine zZ.xW [4] [2, 3] (by repeat' first | exact zG.nil | apply zG.skip) (by repeat' first | exact zO.nil | apply zO.boxP rfl rfl) ?_; (refine zY.v rfl rfl (yB rfl rfl rfl (by decide)) ?_); refine zY.nil ?_) | refine zZ.yH rfl (by first | assumption | with_reducible rfl) ?_ | refine zZ.exit ?_ | refine zZ.ret ?_))
      all_goals exact ⟨by first | exact .inl rfl | exact .inr rfl, _, Sub.refl _, .p rfl (.tmp rfl)⟩
theorem strSame_fn (d : List Int) (z : Int) : Fn Tryz.prog 112 [strV d z, strV d z] (.p (.val (.bool true))) := by
  have g1 : decide (z = z) = true := by simp
  have g2 : ∀ x : ByteArray, (x.toList == x.toList) = true := fun x => by simp
  refine z8 Tryz.func112 rfl Tryz.ntmps112 (Nat.le_of_ble_eq_true rfl) ?_
  repeat' ((refine zZ.is ?_; first | refine zZ.seq ?_ | (refine zZ.iq 0 ?_; refine zZ.rqe _ K_l K_2 ?_; (refine zY.m rfl rfl (w_boxA rfl rfl rfl (by decide)) ?_); (refine zY.m rfl rfl (w_boxA rfl rfl rfl (by decide)) ?_); (refine zY.v rfl rfl (yB rfl rfl rfl (by decide)) ?_); refine zY.nil ?_) | (refine zZ.iq 1 ?_; refine zZ.rqa _ K_c K_2 ?_; all_goals (refine zY.v rfl rfl (yN rfl rfl rfl (by decide)) ?_); all_goals (refine zY.v rfl rfl (yX rfl rfl rfl (by rfl) rfl (by decide)) ?_); all_goals (refine zY.v rfl rfl (w_str rfl rfl rfl (by decide)) ?_); all_goals (refine zY.v rfl rfl (yN rfl rfl rfl (by decide)) ?_); all_goals (refine zY.v rfl rfl (yX rfl rfl rfl (by rfl) rfl (by decide)) ?_); all_goals (refine zY.v rfl rfl (w_str rfl rfl rfl (by decide)) ?_); all_goals (refine zY.v rfl rfl (by exact r_eqlS rfl rfl rfl (by exact g2 _) rfl (by decide)) ?_); all_goals (refine zY.v rfl rfl (yE rfl rfl rfl (by decide)) ?_); all_goals (refine zY.gY rfl rfl (by decide) rfl (by with_reducible rfl) rfl (by decide) (yN rfl rfl rfl (by decide)) ?_); all_goals (refine zY.gY rfl rfl (by decide) rfl (by with_reducible rfl) rfl (by decide) (yX rfl rfl rfl (by rfl) rfl (by decide)) ?_); all_goals (refine zY.gY rfl rfl (by decide) rfl (by with_reducible rfl) rfl (by decide) (yN rfl rfl rfl (by decide)) ?_); all_goals (refine zY.gY rfl rfl (by decide) rfl (by with_reducible rfl) rfl (by decide) (yX rfl rfl rfl (by rfl) rfl (by decide)) ?_); all_goals (refine zY.gY rfl rfl (by decide) rfl (by with_reducible rfl) rfl (by decide) (by exact r_eql rfl rfl rfl (by exact g1) rfl (by decide)) ?_); all_goals (refine zY.v rfl rfl (by exact w_pickY rfl rfl (by with_reducible rfl) rfl rfl (by decide)) ?_); all_goals (refine zY.v rfl rfl (yB rfl rfl rfl (by decide)) ?_); all_goals (refine zY.nil ?_)) | refine zZ.ret ?_))
  all_goals exact ⟨by first | exact .inl rfl | exact .inr rfl, _, Sub.refl _, .p rfl (.tmp rfl)⟩
def sameRS (v : PV) (i : Nat) : AS := { t := [(0, .p v), (1, .p v), (5, .p (.val (.int .i64 (i : Nat))))], s := [] }
theorem rowSame_fn (l : List (List Int × Int)) (hl : l.length ≤ 1000000) : Fn Tryz.prog 75 [.sl (strs l), .sl (strs l)] (.p (.val (.bool true))) := by
  have g1 : ∀ x : Int, (!decide (x = x)) = false := fun x => by simp
  refine z8 Tryz.func75 rfl Tryz.ntmps75 (Nat.le_of_ble_eq_true rfl) ?_
  repeat' ((refine zZ.is ?_; first | refine zZ.seq ?_ | (refine zZ.isR (id := 0) ?_; refine zZ.xW [0, 1] [] (by repeat' first | exact zG.nil | apply zG.p rfl) (by repeat' exact zO.nil) ?_; (refine zY.v rfl rfl (yB rfl rfl rfl (by decide)) ?_); refine zY.nil ?_) | (refine zZ.isR (id := 1) ?_; refine zZ.xW [0, 1, 4] [] (by repeat' first | exact zG.nil | apply zG.p rfl) (by repeat' exact zO.nil) ?_; (refine zY.v rfl rfl (yE rfl rfl rfl (by decide)) ?_); (refine zY.v rfl rfl (w_lenS rfl rfl rfl (by decide)) ?_); (refine zY.v rfl rfl (yE rfl rfl rfl (by decide)) ?_); (refine zY.v rfl rfl (w_lenS rfl rfl rfl (by decide)) ?_); (refine zY.v rfl rfl (by exact r_neq rfl rfl rfl (by exact g1 _) rfl (by decide)) ?_); refine zY.nil ?_) | (refine zZ.isR (id := 3) ?_; refine zZ.xW [0, 1, 4] [] (by repeat' first | exact zG.nil | apply zG.p rfl) (by repeat' exact zO.nil) ?_; (refine zY.v rfl rfl (yB rfl rfl rfl (by decide)) ?_); refine zY.nil ?_) | refine zZ.yH rfl (by with_reducible rfl) ?_ | refine zZ.skip ?_ | refine zZ.block ?_))
  all_goals first | (exfalso; simp_all; done) | skip
  refine zZ.loop (sameRS (.sl (strs l))) (fun i => i ≤ l.length) (fun i => l.length - i) 0 ?h0 (by omega) ?rd
  case h0 =>
    unfold sameRS
    exact yL K_1e []
  case rd =>
    intro i hi
    unfold sameRS
    by_cases hlt : i < l.length
    case pos =>
      have f1 : decide ((i : Int) < ((strs l).length : Nat)) = true := decide_eq_true (by rw [wF]; omega)
      have g2 : (0 : Int) ≤ (i : Int) ∧ (i : Int) < (strs l).length := by rw [wF]; omega
      have g3 : (strs l)[(i : Int).toNat]? = some (strV (l[i]'hlt).1 (l[i]'hlt).2) := by rw [Int.toNat_natCast]; exact strs_at (List.getElem?_eq_getElem hlt)
      have g4 := vO l
      have g5 : IntKind.i64.wrap ((i : Int) + 1) = ((i + 1 : Nat) : Int) := by rw [wrap_i64 _ (by omega)]; omega
      have c1 := strSame_fn (l[i]'hlt).1 (l[i]'hlt).2
      repeat' (first | (refine zZ.is ?_; first | refine zZ.seq ?_ | (refine zZ.isR (id := 4) ?_; refine zZ.xW [0, 1, 4, 5, 6, 15, 28] [] (by repeat' first | exact zG.nil | apply zG.p rfl | apply zG.skip) (by repeat' exact zO.nil) ?_; (refine zY.v rfl rfl (yE rfl rfl rfl (by decide)) ?_); (refine zY.v rfl rfl (yE rfl rfl rfl (by decide)) ?_); (refine zY.v rfl rfl (w_lenS rfl rfl rfl (by decide)) ?_); (refine zY.v rfl rfl (by exact r_lss rfl rfl rfl (by exact f1) rfl (by decide)) ?_); refine zY.nil ?_) | (refine zZ.isR (id := 6) ?_; refine zZ.regionD [0, 1, 4, 5, 6, 15, 28] [] (by repeat' first | exact zG.nil | apply zG.p rfl | apply zG.skip) (by repeat' exact zO.nil) (zZ.draws ?_); all_goals (refine Draws.v rfl rfl (yE rfl rfl rfl (by decide)) ?_); all_goals (refine Draws.v rfl rfl (yE rfl rfl rfl (by decide)) ?_); all_goals (refine Draws.v rfl rfl (by exact w_indexS rfl rfl rfl (by exact g4) (by exact g3) rfl (by decide)) ?_); all_goals (refine Draws.v rfl rfl (by exact w_loadN rfl rfl (by exact Nat.le_of_ble_eq_true rfl) rfl (by decide)) ?_); all_goals (refine Draws.v rfl rfl (yE rfl rfl rfl (by decide)) ?_); all_goals (refine Draws.v rfl rfl (yE rfl rfl rfl (by decide)) ?_); all_goals (refine Draws.v rfl rfl (by exact w_indexS rfl rfl rfl (by exact g4) (by exact g3) rfl (by decide)) ?_); all_goals (refine Draws.v rfl rfl (by exact w_loadN rfl rfl (by exact Nat.le_of_ble_eq_true rfl) rfl (by decide)) ?_); all_goals (refine Draws.v rfl rfl (by exact zL (c1) rfl rfl rfl (by decide)) ?_); all_goals (refine Draws.v rfl rfl (yB rfl rfl rfl (by decide)) ?_); all_goals ((refine Draws.done (by kernel_rfl) (by kernel_rfl) (by kernel_rfl) ?_; refine zD.nil ?_))) | (refine zZ.isR (id := 7) ?_; refine zZ.xW [0, 1, 4, 5, 6, 15, 28] [] (by repeat' first | exact zG.nil | apply zG.p rfl | apply zG.skip) (by repeat' exact zO.nil) ?_; (refine zY.v rfl rfl (yE rfl rfl rfl (by decide)) ?_); (refine zY.v rfl rfl (by exact r_notB rfl rfl (by exact bF (by decide)) rfl (by decide)) ?_); refine zY.nil ?_) | (refine zZ.isR (id := 5) ?_; refine zZ.xW [0, 1, 4, 5, 6, 15, 28] [] (by repeat' first | exact zG.nil | apply zG.p rfl | apply zG.skip) (by repeat' exact zO.nil) ?_; (refine zY.v rfl rfl (yE rfl rfl rfl (by decide)) ?_); (refine zY.v rfl rfl (by exact a_add rfl rfl rfl (by exact g5) rfl (by decide)) ?_); (refine zY.v rfl rfl (yB rfl rfl rfl (by decide)) ?_); refine zY.nil ?_) | refine zZ.yF rfl (by first | assumption | with_reducible rfl) ?_ | refine zZ.yH rfl (by with_reducible rfl) ?_ | refine zZ.skip ?_ | refine zZ.block ?_) | refine zB.n ?_)
      all_goals first | (exfalso; simp_all; done) | skip
      refine ⟨i + 1, ?_, by omega, by omega⟩
      show Sub _ (sameRS (.sl (strs l)) (i + 1))
      unfold sameRS
      exact yL K_1e []
    case neg =>
      have f1 : decide ((i : Int) < ((strs l).length : Nat)) = false := decide_eq_false (by rw [wF]; omega)
      repeat' ((refine zZ.is ?_; first | refine zZ.seq ?_ | (refine zZ.isR (id := 4) ?_; refine zZ.xW [0, 1, 4, 5, 6, 15, 28] [] (by repeat' first | exact zG.nil | apply zG.p rfl | apply zG.skip) (by repeat' exact zO.nil) ?_; (refine zY.v rfl rfl (yE rfl rfl rfl (by decide)) ?_); (refine zY.v rfl rfl (yE rfl rfl rfl (by decide)) ?_); (refine zY.v rfl rfl (w_lenS rfl rfl rfl (by decide)) ?_); (refine zY.v rfl rfl (by exact r_lss rfl rfl rfl (by exact f1) rfl (by decide)) ?_); refine zY.nil ?_) | (refine zZ.isR (id := 9) ?_; refine zZ.xW [4] [] (by repeat' first | exact zG.nil | apply zG.skip) (by repeat' exact zO.nil) ?_; (refine zY.v rfl rfl (yB rfl rfl rfl (by decide)) ?_); refine zY.nil ?_) | refine zZ.yH rfl (by first | assumption | with_reducible rfl) ?_ | refine zZ.exit ?_ | refine zZ.ret ?_))
      all_goals exact ⟨by first | exact .inl rfl | exact .inr rfl, _, Sub.refl _, .p rfl (.tmp rfl)⟩
theorem diskSame_fn (root : Int) (r0 r1 : List (List Int × Int)) (h0 : r0.length ≤ 1000000) (h1 : r1.length ≤ 1000000) : Fn Tryz.prog 40 [wE root r0 r1, wE root r0 r1] (.p (.val (.bool true))) := by
  have g1 : decide (root = root) = true := by simp
  have c1 := rowSame_fn r0 h0
  have c2 := rowSame_fn r1 h1
  refine z8 Tryz.func40 rfl Tryz.ntmps40 (Nat.le_of_ble_eq_true rfl) ?_
  repeat' ((refine zZ.is ?_; first | refine zZ.seq ?_ | (refine zZ.iq 0 ?_; refine zZ.rqe _ K_l K_2 ?_; (refine zY.m rfl rfl (w_boxA rfl rfl rfl (by decide)) ?_); (refine zY.m rfl rfl (w_boxA rfl rfl rfl (by decide)) ?_); (refine zY.v rfl rfl (yB rfl rfl rfl (by decide)) ?_); refine zY.nil ?_) | (refine zZ.iq 1 ?_; refine zZ.rqa _ K_c K_2 ?_; (refine zY.v rfl rfl (yN rfl rfl rfl (by decide)) ?_); (refine zY.v rfl rfl (by exact w_idxArr rfl rfl rfl (by omega) rfl (by decide)) ?_); (refine zY.v rfl rfl (yX rfl rfl rfl (by rfl) rfl (by decide)) ?_); (refine zY.v rfl rfl (yN rfl rfl rfl (by decide)) ?_); (refine zY.v rfl rfl (by exact w_idxArr rfl rfl rfl (by omega) rfl (by decide)) ?_); (refine zY.v rfl rfl (yX rfl rfl rfl (by rfl) rfl (by decide)) ?_); (refine zY.v rfl rfl (by exact zL (c1) rfl rfl rfl (by decide)) ?_); (refine zY.v rfl rfl (yB rfl rfl rfl (by decide)) ?_); refine zY.nil ?_) | (refine zZ.iq 2 ?_; refine zZ.rqa _ K_i K_2 ?_; (refine zY.v rfl rfl (yN rfl rfl rfl (by decide)) ?_); (refine zY.v rfl rfl (by exact w_idxArr rfl rfl rfl (by omega) rfl (by decide)) ?_); (refine zY.v rfl rfl (yX rfl rfl rfl (by rfl) rfl (by decide)) ?_); (refine zY.v rfl rfl (yN rfl rfl rfl (by decide)) ?_); (refine zY.v rfl rfl (by exact w_idxArr rfl rfl rfl (by omega) rfl (by decide)) ?_); (refine zY.v rfl rfl (yX rfl rfl rfl (by rfl) rfl (by decide)) ?_); (refine zY.v rfl rfl (by exact zL (c2) rfl rfl rfl (by decide)) ?_); (refine zY.v rfl rfl (yB rfl rfl rfl (by decide)) ?_); refine zY.nil ?_) | (refine zZ.iq 3 ?_; refine zZ.rqa _ K_1n K_2 ?_; all_goals (refine zY.v rfl rfl (yN rfl rfl rfl (by decide)) ?_); all_goals (refine zY.v rfl rfl (yX rfl rfl rfl (by rfl) rfl (by decide)) ?_); all_goals (refine zY.v rfl rfl (yN rfl rfl rfl (by decide)) ?_); all_goals (refine zY.v rfl rfl (yX rfl rfl rfl (by rfl) rfl (by decide)) ?_); all_goals (refine zY.v rfl rfl (by exact r_eql rfl rfl rfl (by exact g1) rfl (by decide)) ?_); all_goals (refine zY.v rfl rfl (yE rfl rfl rfl (by decide)) ?_); all_goals (refine zY.gY rfl rfl (by decide) rfl (by with_reducible rfl) rfl (by decide) (yE rfl rfl rfl (by decide)) ?_); all_goals (refine zY.v rfl rfl (by exact w_pickY rfl rfl (by with_reducible rfl) rfl rfl (by decide)) ?_); all_goals (refine zY.v rfl rfl (yE rfl rfl rfl (by decide)) ?_); all_goals (refine zY.gY rfl rfl (by decide) rfl (by with_reducible rfl) rfl (by decide) (yE rfl rfl rfl (by decide)) ?_); all_goals (refine zY.v rfl rfl (by exact w_pickY rfl rfl (by with_reducible rfl) rfl rfl (by decide)) ?_); all_goals (refine zY.v rfl rfl (yB rfl rfl rfl (by decide)) ?_); all_goals (refine zY.nil ?_)) | refine zZ.ret ?_))
  all_goals exact ⟨by first | exact .inl rfl | exact .inr rfl, _, Sub.refl _, .p rfl (.tmp rfl)⟩
theorem worldSame_fn (W : Wd) (hl : W.ws.length ≤ 1000000) (h0 : W.r0.length ≤ 1000000) (h1 : W.r1.length ≤ 1000000) : Fn Tryz.prog 15 [W.pv, W.pv] (.p (.val (.bool true))) := by
  have c1 := memSame_fn W.t W.c W.ws hl
  have c2 := diskSame_fn W.root W.r0 W.r1 h0 h1
  refine z8 Tryz.func15 rfl Tryz.ntmps15 (Nat.le_of_ble_eq_true rfl) ?_
  repeat' ((refine zZ.is ?_; first | refine zZ.seq ?_ | (refine zZ.iq 0 ?_; refine zZ.rqe _ K_l K_2 ?_; (refine zY.m rfl rfl (w_boxA rfl rfl rfl (by decide)) ?_); (refine zY.m rfl rfl (w_boxA rfl rfl rfl (by decide)) ?_); (refine zY.v rfl rfl (yB rfl rfl rfl (by decide)) ?_); refine zY.nil ?_) | (refine zZ.iq 1 ?_; refine zZ.rqa _ K_c K_2 ?_; (refine zY.v rfl rfl (yN rfl rfl rfl (by decide)) ?_); (refine zY.v rfl rfl (yM rfl rfl rfl (by rfl) (by rfl) rfl (by decide)) ?_); (refine zY.v rfl rfl (yN rfl rfl rfl (by decide)) ?_); (refine zY.v rfl rfl (yM rfl rfl rfl (by rfl) (by rfl) rfl (by decide)) ?_); (refine zY.v rfl rfl (by exact zL (c1) rfl rfl rfl (by decide)) ?_); (refine zY.v rfl rfl (yB rfl rfl rfl (by decide)) ?_); refine zY.nil ?_) | (refine zZ.iq 2 ?_; refine zZ.rqa _ K_i K_2 ?_; (refine zY.v rfl rfl (yN rfl rfl rfl (by decide)) ?_); (refine zY.v rfl rfl (yM rfl rfl rfl (by rfl) (by rfl) rfl (by decide)) ?_); (refine zY.v rfl rfl (yN rfl rfl rfl (by decide)) ?_); (refine zY.v rfl rfl (yM rfl rfl rfl (by rfl) (by rfl) rfl (by decide)) ?_); (refine zY.v rfl rfl (by exact zL (c2) rfl rfl rfl (by decide)) ?_); (refine zY.v rfl rfl (yB rfl rfl rfl (by decide)) ?_); refine zY.nil ?_) | (refine zZ.isR (id := 3) ?_; refine zZ.xW [4, 5, 6] [2, 3] (by repeat' first | exact zG.nil | apply zG.p rfl) (by repeat' first | exact zO.nil | apply zO.boxP rfl rfl) ?_; all_goals (refine zY.v rfl rfl (yE rfl rfl rfl (by decide)) ?_); all_goals (refine zY.v rfl rfl (yE rfl rfl rfl (by decide)) ?_); all_goals (refine zY.gY rfl rfl (by decide) rfl (by with_reducible rfl) rfl (by decide) (yE rfl rfl rfl (by decide)) ?_); all_goals (refine zY.v rfl rfl (by exact w_pickY rfl rfl (by with_reducible rfl) rfl rfl (by decide)) ?_); all_goals (refine zY.v rfl rfl (yB rfl rfl rfl (by decide)) ?_); all_goals (refine zY.nil ?_)) | refine zZ.ret ?_))
  all_goals exact ⟨by first | exact .inl rfl | exact .inr rfl, _, Sub.refl _, .p rfl (.tmp rfl)⟩
end Go.Proofs.YtmfbamiciieooaaGreatDoor
/- Programs that step alone, on words as a function: what they answer, and what the words are behind them. Generic over the program. -/
namespace Go.Proofs.YtmfbamiciieooaaGreatDoor
set_option maxRecDepth 100000
set_option maxHeartbeats 16000000
open Go Go.RowKit
set_option linter.unusedSimpArgs false
set_option linter.unusedVariables false
/-- a world of one thread, its words as a function -/
structure MemW (C : Nat) (W : Wd) (m : Int → Int) : Prop where
  t : W.t = 1
  len : W.ws.length = 9 + 8 * C
  at_ : ∀ c : Nat, c < 9 + 8 * C → W.ws[c]? = some (m c)
  st : 0 < W.r0.length
/-- a word that there is -/
structure InW (C : Nat) (c : Int) : Prop where
  lo : 0 ≤ c
  hi : c < 9 + 8 * C
section
variable {α β : Type} {C : Nat} {m m1 m2 : Int → Int}
end
end Go.Proofs.YtmfbamiciieooaaGreatDoor
/- The list in a memory: what searches do, alone. Generic over the program. -/
namespace Go.Proofs.YtmfbamiciieooaaGreatDoor
set_option maxRecDepth 100000
set_option maxHeartbeats 16000000
open Go Go.RowKit
set_option linter.unusedSimpArgs false
set_option linter.unusedVariables false
def hd : List (Int × Bool) → Int
  | [] => 0
  | (x, _) :: _ => x
def bI (b : Bool) : Int := bif b then 1 else 0
/-- a list's records, and whether they are marked, from a record on -/
def Lnk (C : Nat) (m : Int → Int) : Int → Bool → List (Int × Bool) → Prop
  | p, k, [] => m (qW 1 p) = bI k
  | p, k, (x, b) :: l => m (qW 1 p) = 2 * x + bI k ∧ (1 ≤ x ∧ x ≤ C) ∧ Lnk C m x b l
/-- what turned: next words of S, flags of T -/
structure Aft (m m' : Int → Int) (S T : List Int) : Prop where
  f : ∀ r f : Int, 1 ≤ r → 1 ≤ f → f ≤ 6 → f ≠ 2 → m' (yK 1 r f) = m (yK 1 r f)
  g : ∀ r : Int, 1 ≤ r → m' (yK 1 r 2) = m (yK 1 r 2) + (if r ∈ T then 2 else 0)
  e : m' 3 = m 3
  n : ∀ r : Int, 0 ≤ r → r ∉ S → m' (qW 1 r) = m (qW 1 r)
end Go.Proofs.YtmfbamiciieooaaGreatDoor
/- The list in a memory: what seeks and sweeps do, alone. Generic over the program. -/
namespace Go.Proofs.YtmfbamiciieooaaGreatDoor
set_option maxRecDepth 100000
set_option maxHeartbeats 16000000
open Go Go.RowKit
set_option linter.unusedSimpArgs false
set_option linter.unusedVariables false
/-! ### A seek from the beginning -/
def sekN (key : Int → Int) (k : Int) : List (Int × Bool) → Int × Bool
  | [] => (0, false)
  | (x, _) :: l => bif decide (k ≤ key x) then (x, decide (key x = k)) else sekN key k l
/-! ### A sweep: what stays, and what is taken out -/
/-- is a record, that isn't marked, to go? -/
def gone (m : Int → Int) (s x : Int) : Bool := !decide (m (yK 1 x 1) % 2147483648 = 0) && (decide (m (yK 1 x 4) = s) || decide (m (yK 1 x 5) = s))
end Go.Proofs.YtmfbamiciieooaaGreatDoor
