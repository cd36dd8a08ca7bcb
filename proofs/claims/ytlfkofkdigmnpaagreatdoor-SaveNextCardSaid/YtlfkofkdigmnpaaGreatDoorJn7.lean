/- For every input SaveNext returns true, and leaves its argument as it was; tied: Rows.SaveNextCardSaid. Conditions: none beyond the given statement's own. (Part 7 of 8.) -/
import Derived.Test.YtlfkofkdigmnpaaGreatDoorJn6
/- Worlds: an access made: contracts. -/
namespace Go.Proofs.YtlfkofkdigmnpaaGreatDoor
set_option maxRecDepth 100000
set_option maxHeartbeats 16000000
open Go Go.RowKit
set_option linter.unusedSimpArgs false
attribute [local irreducible] zZ zX Step zG Sub zP zM Fn
/-- a world; a result that tells that the disk failed -/
def xH (t c : Int) (ws : List Int) (root : Int) (r0 r1 : List (List Int × Int)) : PV := .agg [.val (.int .i64 t), .val (.int .i64 c), .sl (wds ws), .val (.int .u64 root), .sl (strs r0), .sl (strs r1)]
def resF : PV := .agg [.val (.int .u64 0), .val (.slice none 0 0), .val (.bool true)]
theorem streams50_fn (root : Int) (r0 r1 : List (List Int × Int)) (i : Nat) (d : List Int) (s p q r : Int) (bs : List Int) (h0 : 0 ≤ root) (hr : root % 2 = 0) (hi : r0[i]? = some (d, s)) (h1 : r0.length ≤ 1000000) (h2 : d.length + bs.length ≤ 1000000) :
    Fn Tryz.prog 58 [wR root r0 r1, .val (.int .i64 i), xP 5 p q r (.sl (byts bs))] (.tup [wR root (r0.set i (d ++ bs, s)) r1, resN 0]) := by
  have c0 : Fn Tryz.prog 70 [wR root r0 r1] (.p (.val (.int .i64 0))) := hr ▸ row_fn root (.sl (strs r0)) (.sl (strs r1)) h0
  have c1 := diskApp0_fn root r0 r1 i d s bs hi h1 h2
  refine yI Tryz.func58 rfl Tryz.ntmps58 (Nat.le_of_ble_eq_true rfl) ?_
  repeat' ((refine zX.is ?_; first | refine zX.seq ?_ | (refine zX.isR (id := 0) ?_; refine zX.zV [0, 1, 2] [3, 5, 6, 7, 9] (by repeat' first | exact zY.nil | apply zY.p rfl) (by repeat' first | exact zW.nil | apply zW.skip) ?_; (refine zZ.m rfl rfl (z8 rfl rfl rfl (by decide)) ?_); (refine zZ.m rfl rfl (z8 rfl rfl rfl (by decide)) ?_); (refine zZ.m rfl rfl (zC rfl (by decide) rfl (by decide)) ?_); (refine zZ.m rfl rfl (zC rfl (by decide) rfl (by decide)) ?_); refine zZ.nil ?_) | (refine zX.isR (id := 1) ?_; refine zX.zV [1, 3, 5, 6, 7] [3, 5, 6, 7, 9] (by repeat' first | exact zY.nil | apply zY.p rfl | apply zY.ptr rfl) (by repeat' first | exact zW.nil | apply zW.boxP rfl rfl | apply zW.skip) ?_; (refine zZ.v rfl rfl (zI rfl rfl rfl (by rfl) (by rfl) rfl (by decide)) ?_); (refine zZ.v rfl rfl (by exact zL (c0) rfl rfl rfl (by decide)) ?_); (refine zZ.v rfl rfl (zK rfl rfl rfl (by decide)) ?_); refine zZ.nil ?_) | (refine zX.isR (id := 2) ?_; refine zX.zV [1, 3, 5, 6, 7, 8] [3, 5, 6, 7, 9] (by repeat' first | exact zY.nil | apply zY.p rfl | apply zY.ptr rfl) (by repeat' first | exact zW.nil | apply zW.boxP rfl rfl | apply zW.skip) ?_; (refine zZ.m rfl rfl (zC rfl (by decide) rfl (by decide)) ?_); refine zZ.nil ?_) | (refine zX.isR (id := 3) ?_; refine zX.zV [1, 3, 5, 6, 7, 8, 9] [3, 5, 6, 7, 9] (by repeat' first | exact zY.nil | apply zY.p rfl | apply zY.ptr rfl) (by repeat' first | exact zW.nil | apply zW.boxP rfl rfl) ?_; (refine zZ.v rfl rfl (zJ rfl rfl rfl (by decide)) ?_); (refine zZ.v rfl rfl (zA rfl rfl rfl rfl rfl (by decide)) ?_); refine zZ.nil ?_) | (refine zX.isR (id := 4) ?_; refine zX.zV [1, 3, 5, 6, 7, 8, 9, 13] [3, 5, 6, 7, 9] (by repeat' first | exact zY.nil | apply zY.p rfl | apply zY.ptr rfl) (by repeat' first | exact zW.nil | apply zW.boxP rfl rfl) ?_; (refine zZ.v rfl rfl (by exact yQ rfl rfl rfl (by exact bT (by decide)) rfl (by decide)) ?_); (refine zZ.v rfl rfl (zK rfl rfl rfl (by decide)) ?_); refine zZ.nil ?_) | (refine zX.isR (id := 5) ?_; refine zX.zV [1, 3, 5, 6, 7, 8, 9, 13] [3, 5, 6, 7, 9] (by repeat' first | exact zY.nil | apply zY.p rfl | apply zY.ptr rfl) (by repeat' first | exact zW.nil | apply zW.boxP rfl rfl) ?_; (refine zZ.v rfl rfl (zI rfl rfl rfl (by rfl) (by rfl) rfl (by decide)) ?_); (refine zZ.v rfl rfl (zQ rfl rfl rfl (by decide)) ?_); (refine zZ.v rfl rfl (zQ rfl rfl rfl (by decide)) ?_); (refine zZ.v rfl rfl (zJ rfl rfl rfl (by decide)) ?_); (refine zZ.v rfl rfl (zA rfl rfl rfl rfl rfl (by decide)) ?_); (refine zZ.v rfl rfl (by exact yU (c1) rfl rfl rfl (by decide)) ?_); (refine zZ.v rfl rfl (yO rfl rfl rfl (by decide)) ?_); (refine zZ.v rfl rfl (zF rfl rfl rfl rfl (by decide)) ?_); (refine zZ.v rfl rfl (zF rfl rfl rfl rfl (by decide)) ?_); (refine zZ.w rfl (by exact zB rfl rfl rfl rfl rfl (by rfl) (by exact Nat.le_of_ble_eq_true rfl) rfl rfl) ?_); refine zZ.nil ?_) | (refine zX.isR (id := 20) ?_; refine zX.yA [3, 6, 7, 9] [3, 5, 6, 7, 9] (by repeat' first | exact zY.nil | apply zY.ptr rfl) (by repeat' first | exact zW.nil | apply zW.boxP rfl rfl) (zX.w9 (by kernel_rfl) ?_); repeat' (first | refine xX.many (by rfl) ?_ | refine xK.cons ?_ ?_ | exact xK.nil | refine wB.v rfl rfl rfl (zI rfl rfl rfl (by rfl) (by rfl) rfl (by decide)) ?_ | refine wB.w rfl rfl (by exact zB rfl rfl rfl rfl rfl (by rfl) (by exact Nat.le_of_ble_eq_true rfl) rfl rfl) ?_ | refine xX.fin (by rfl) ?_)) | refine zX.yE rfl (by with_reducible rfl) ?_ | refine zX.block ?_ | refine zX.ret ?_))
  all_goals exact ⟨by first | exact .inl rfl | exact .inr rfl, _, Sub.refl _, .tup (rs := [.cell 6 50, .cell 7 85]) (l := [wR root (r0.set i (d ++ bs, s)) r1, resN 0]) rfl (by decide) (.cons (.cellN rfl rfl (by rfl) (by rfl)) (.cons (.cellN rfl rfl (by rfl) (by rfl)) .nil))⟩
theorem doFail5_fn (t c p q r me root : Int) (ws : List Int) (d : PV) (r0 r1 : List (List Int × Int)) :
    Fn Tryz.prog 29 [xH t c ws root r0 r1, .val (.int .i64 me), xP 5 p q r d, .val (.bool true)] (.tup [xH t c ws root r0 r1, resF]) := by
  have c0 : Fn Tryz.prog 57 [.val (.int .i64 5)] (.p (.val (.bool true))) := vL 5
  refine yI Tryz.func29 rfl Tryz.ntmps29 (Nat.le_of_ble_eq_true rfl) ?_
  repeat' ((refine zX.is ?_; first | refine zX.seq ?_ | (refine zX.isR (id := 0) ?_; refine zX.zV [0, 1, 2, 3] [4, 6, 8, 9, 10] (by repeat' first | exact zY.nil | apply zY.p rfl) (by repeat' first | exact zW.nil | apply zW.skip) ?_; (refine zZ.m rfl rfl (z8 rfl rfl rfl (by decide)) ?_); (refine zZ.m rfl rfl (z8 rfl rfl rfl (by decide)) ?_); (refine zZ.m rfl rfl (zC rfl (by decide) rfl (by decide)) ?_); (refine zZ.m rfl rfl (zC rfl (by decide) rfl (by decide)) ?_); refine zZ.nil ?_) | (refine zX.isR (id := 1) ?_; refine zX.zV [1, 3, 4, 6, 8, 9] [4, 6, 8, 9, 10] (by repeat' first | exact zY.nil | apply zY.p rfl | apply zY.ptr rfl) (by repeat' first | exact zW.nil | apply zW.boxP rfl rfl | apply zW.skip) ?_; (refine zZ.m rfl rfl (zC rfl (by decide) rfl (by decide)) ?_); refine zZ.nil ?_) | (refine zX.isR (id := 3) ?_; refine zX.zV [1, 3, 4, 6, 8, 9, 10] [4, 6, 8, 9, 10] (by repeat' first | exact zY.nil | apply zY.p rfl | apply zY.ptr rfl) (by repeat' first | exact zW.nil | apply zW.boxP rfl rfl) ?_; all_goals (refine zZ.v rfl rfl (zJ rfl rfl rfl (by decide)) ?_); all_goals (refine zZ.v rfl rfl (zA rfl rfl rfl rfl rfl (by decide)) ?_); all_goals (refine zZ.v rfl rfl (by exact zL (c0) rfl rfl rfl (by decide)) ?_); all_goals (refine zZ.v rfl rfl (zQ rfl rfl rfl (by decide)) ?_); all_goals (refine zZ.gY rfl rfl (by decide) rfl (by with_reducible rfl) rfl (by decide) (zQ rfl rfl rfl (by decide)) ?_); all_goals (refine zZ.v rfl rfl (by exact zT rfl rfl (by with_reducible rfl) rfl rfl (by decide)) ?_); all_goals (refine zZ.v rfl rfl (zK rfl rfl rfl (by decide)) ?_); all_goals (refine zZ.nil ?_)) | (refine zX.isR (id := 4) ?_; refine zX.zV [1, 4, 6, 8, 9, 10] [4, 6, 8, 9, 10] (by repeat' first | exact zY.nil | apply zY.p rfl | apply zY.ptr rfl) (by repeat' first | exact zW.nil | apply zW.boxP rfl rfl) ?_; (refine zZ.v rfl rfl (zJ rfl rfl rfl (by decide)) ?_); (refine zZ.w rfl (by exact zB rfl rfl rfl rfl rfl (by rfl) (by exact Nat.le_of_ble_eq_true rfl) rfl rfl) ?_); refine zZ.nil ?_) | (refine zX.isR (id := 10) ?_; refine zX.yA [4, 8, 9, 10] [4, 6, 8, 9, 10] (by repeat' first | exact zY.nil | apply zY.ptr rfl) (by repeat' first | exact zW.nil | apply zW.boxP rfl rfl) (zX.w9 (by kernel_rfl) ?_); repeat' (first | refine xX.many (by rfl) ?_ | refine xK.cons ?_ ?_ | exact xK.nil | refine wB.v rfl rfl rfl (zI rfl rfl rfl (by rfl) (by rfl) rfl (by decide)) ?_ | refine wB.w rfl rfl (by exact zB rfl rfl rfl rfl rfl (by rfl) (by exact Nat.le_of_ble_eq_true rfl) rfl rfl) ?_ | refine xX.fin (by rfl) ?_)) | refine zX.yE rfl (by with_reducible rfl) ?_ | refine zX.block ?_ | refine zX.ret ?_))
  all_goals exact ⟨by first | exact .inl rfl | exact .inr rfl, _, Sub.refl _, .tup (rs := [.cell 8 52, .cell 9 85]) (l := [xH t c ws root r0 r1, resF]) rfl (by decide) (.cons (.cellN rfl rfl (by rfl) (by rfl)) (.cons (.cellN rfl rfl (by rfl) (by rfl)) .nil))⟩
theorem doDisk50_fn (t c p q r root : Int) (ws : List Int) (r0 r1 : List (List Int × Int)) (i : Nat) (d : List Int) (s : Int) (bs : List Int) (h0 : 0 ≤ root) (hr : root % 2 = 0) (hi : r0[i]? = some (d, s)) (h1 : r0.length ≤ 1000000) (h2 : d.length + bs.length ≤ 1000000) :
    Fn Tryz.prog 29 [xH t c ws root r0 r1, .val (.int .i64 i), xP 5 p q r (.sl (byts bs)), .val (.bool false)] (.tup [xH t c ws root (r0.set i (d ++ bs, s)) r1, resN 0]) := by
  have c0 : Fn Tryz.prog 57 [.val (.int .i64 5)] (.p (.val (.bool true))) := vL 5
  have c1 := streams50_fn root r0 r1 i d s p q r bs h0 hr hi h1 h2
  refine yI Tryz.func29 rfl Tryz.ntmps29 (Nat.le_of_ble_eq_true rfl) ?_
  repeat' ((refine zX.is ?_; first | refine zX.seq ?_ | (refine zX.isR (id := 0) ?_; refine zX.zV [0, 1, 2, 3] [4, 6, 8, 9, 10] (by repeat' first | exact zY.nil | apply zY.p rfl) (by repeat' first | exact zW.nil | apply zW.skip) ?_; (refine zZ.m rfl rfl (z8 rfl rfl rfl (by decide)) ?_); (refine zZ.m rfl rfl (z8 rfl rfl rfl (by decide)) ?_); (refine zZ.m rfl rfl (zC rfl (by decide) rfl (by decide)) ?_); (refine zZ.m rfl rfl (zC rfl (by decide) rfl (by decide)) ?_); refine zZ.nil ?_) | (refine zX.isR (id := 1) ?_; refine zX.zV [1, 3, 4, 6, 8, 9] [4, 6, 8, 9, 10] (by repeat' first | exact zY.nil | apply zY.p rfl | apply zY.ptr rfl) (by repeat' first | exact zW.nil | apply zW.boxP rfl rfl | apply zW.skip) ?_; (refine zZ.m rfl rfl (zC rfl (by decide) rfl (by decide)) ?_); refine zZ.nil ?_) | (refine zX.isR (id := 3) ?_; refine zX.zV [1, 3, 4, 6, 8, 9, 10] [4, 6, 8, 9, 10] (by repeat' first | exact zY.nil | apply zY.p rfl | apply zY.ptr rfl) (by repeat' first | exact zW.nil | apply zW.boxP rfl rfl) ?_; all_goals (refine zZ.v rfl rfl (zJ rfl rfl rfl (by decide)) ?_); all_goals (refine zZ.v rfl rfl (zA rfl rfl rfl rfl rfl (by decide)) ?_); all_goals (refine zZ.v rfl rfl (by exact zL (c0) rfl rfl rfl (by decide)) ?_); all_goals (refine zZ.v rfl rfl (zQ rfl rfl rfl (by decide)) ?_); all_goals (refine zZ.gY rfl rfl (by decide) rfl (by with_reducible rfl) rfl (by decide) (zQ rfl rfl rfl (by decide)) ?_); all_goals (refine zZ.v rfl rfl (by exact zT rfl rfl (by with_reducible rfl) rfl rfl (by decide)) ?_); all_goals (refine zZ.v rfl rfl (zK rfl rfl rfl (by decide)) ?_); all_goals (refine zZ.nil ?_)) | (refine zX.isR (id := 5) ?_; refine zX.zV [1, 4, 6, 8, 9, 10] [4, 6, 8, 9, 10] (by repeat' first | exact zY.nil | apply zY.p rfl | apply zY.ptr rfl) (by repeat' first | exact zW.nil | apply zW.boxP rfl rfl) ?_; (refine zZ.v rfl rfl (zJ rfl rfl rfl (by decide)) ?_); (refine zZ.v rfl rfl (zA rfl rfl rfl rfl rfl (by decide)) ?_); (refine zZ.v rfl rfl (by exact zL (c0) rfl rfl rfl (by decide)) ?_); (refine zZ.v rfl rfl (zK rfl rfl rfl (by decide)) ?_); refine zZ.nil ?_) | (refine zX.isR (id := 6) ?_; refine zX.zV [1, 4, 6, 8, 9, 10] [4, 6, 8, 9, 10] (by repeat' first | exact zY.nil | apply zY.p rfl | apply zY.ptr rfl) (by repeat' first | exact zW.nil | apply zW.boxP rfl rfl) ?_; (refine zZ.v rfl rfl (zJ rfl rfl rfl (by decide)) ?_); (refine zZ.v rfl rfl (zI rfl rfl rfl (by rfl) (by rfl) rfl (by decide)) ?_); (refine zZ.v rfl rfl (zQ rfl rfl rfl (by decide)) ?_); (refine zZ.v rfl rfl (zI rfl rfl rfl (by rfl) (by rfl) rfl (by decide)) ?_); (refine zZ.v rfl rfl (by exact yU (c1) rfl rfl rfl (by decide)) ?_); (refine zZ.v rfl rfl (yO rfl rfl rfl (by decide)) ?_); (refine zZ.v rfl rfl (zF rfl rfl rfl rfl (by decide)) ?_); (refine zZ.v rfl rfl (zF rfl rfl rfl rfl (by decide)) ?_); (refine zZ.v rfl rfl (zJ rfl rfl rfl (by decide)) ?_); (refine zZ.w rfl (by exact zB rfl rfl rfl rfl rfl (by rfl) (by exact Nat.le_of_ble_eq_true rfl) rfl rfl) ?_); (refine zZ.w rfl (by exact zB rfl rfl rfl rfl rfl (by rfl) (by exact Nat.le_of_ble_eq_true rfl) rfl rfl) ?_); refine zZ.nil ?_) | (refine zX.isR (id := 10) ?_; refine zX.yA [4, 8, 9, 10] [4, 6, 8, 9, 10] (by repeat' first | exact zY.nil | apply zY.ptr rfl) (by repeat' first | exact zW.nil | apply zW.boxP rfl rfl) (zX.w9 (by kernel_rfl) ?_); repeat' (first | refine xX.many (by rfl) ?_ | refine xK.cons ?_ ?_ | exact xK.nil | refine wB.v rfl rfl rfl (zI rfl rfl rfl (by rfl) (by rfl) rfl (by decide)) ?_ | refine wB.w rfl rfl (by exact zB rfl rfl rfl rfl rfl (by rfl) (by exact Nat.le_of_ble_eq_true rfl) rfl rfl) ?_ | refine xX.fin (by rfl) ?_)) | refine zX.yE rfl (by with_reducible rfl) ?_ | refine zX.yG rfl (by with_reducible rfl) ?_ | refine zX.block ?_ | refine zX.ret ?_))
  all_goals exact ⟨by first | exact .inl rfl | exact .inr rfl, _, Sub.refl _, .tup (rs := [.cell 8 52, .cell 9 85]) (l := [xH t c ws root (r0.set i (d ++ bs, s)) r1, resN 0]) rfl (by decide) (.cons (.cellN rfl rfl (by rfl) (by rfl)) (.cons (.cellN rfl rfl (by rfl) (by rfl)) .nil))⟩
theorem streams60_fn (root : Int) (r0 r1 : List (List Int × Int)) (i : Nat) (d : List Int) (s p q r : Int) (x : PV) (h0 : 0 ≤ root) (hr : root % 2 = 0) (hi : r0[i]? = some (d, s)) (h1 : r0.length ≤ 1000000) :
    Fn Tryz.prog 58 [wR root r0 r1, .val (.int .i64 i), xP 6 p q r (x)] (.tup [wR root (r0.set i (d, d.length)) r1, resN 0]) := by
  have c0 : Fn Tryz.prog 70 [wR root r0 r1] (.p (.val (.int .i64 0))) := hr ▸ row_fn root (.sl (strs r0)) (.sl (strs r1)) h0
  have c1 := diskSync0_fn root r0 r1 i d s hi h1
  refine yI Tryz.func58 rfl Tryz.ntmps58 (Nat.le_of_ble_eq_true rfl) ?_
  repeat' ((refine zX.is ?_; first | refine zX.seq ?_ | (refine zX.isR (id := 0) ?_; refine zX.zV [0, 1, 2] [3, 5, 6, 7, 9] (by repeat' first | exact zY.nil | apply zY.p rfl) (by repeat' first | exact zW.nil | apply zW.skip) ?_; (refine zZ.m rfl rfl (z8 rfl rfl rfl (by decide)) ?_); (refine zZ.m rfl rfl (z8 rfl rfl rfl (by decide)) ?_); (refine zZ.m rfl rfl (zC rfl (by decide) rfl (by decide)) ?_); (refine zZ.m rfl rfl (zC rfl (by decide) rfl (by decide)) ?_); refine zZ.nil ?_) | (refine zX.isR (id := 1) ?_; refine zX.zV [1, 3, 5, 6, 7] [3, 5, 6, 7, 9] (by repeat' first | exact zY.nil | apply zY.p rfl | apply zY.ptr rfl) (by repeat' first | exact zW.nil | apply zW.boxP rfl rfl | apply zW.skip) ?_; (refine zZ.v rfl rfl (zI rfl rfl rfl (by rfl) (by rfl) rfl (by decide)) ?_); (refine zZ.v rfl rfl (by exact zL (c0) rfl rfl rfl (by decide)) ?_); (refine zZ.v rfl rfl (zK rfl rfl rfl (by decide)) ?_); refine zZ.nil ?_) | (refine zX.isR (id := 2) ?_; refine zX.zV [1, 3, 5, 6, 7, 8] [3, 5, 6, 7, 9] (by repeat' first | exact zY.nil | apply zY.p rfl | apply zY.ptr rfl) (by repeat' first | exact zW.nil | apply zW.boxP rfl rfl | apply zW.skip) ?_; (refine zZ.m rfl rfl (zC rfl (by decide) rfl (by decide)) ?_); refine zZ.nil ?_) | (refine zX.isR (id := 3) ?_; refine zX.zV [1, 3, 5, 6, 7, 8, 9] [3, 5, 6, 7, 9] (by repeat' first | exact zY.nil | apply zY.p rfl | apply zY.ptr rfl) (by repeat' first | exact zW.nil | apply zW.boxP rfl rfl) ?_; (refine zZ.v rfl rfl (zJ rfl rfl rfl (by decide)) ?_); (refine zZ.v rfl rfl (zA rfl rfl rfl rfl rfl (by decide)) ?_); refine zZ.nil ?_) | (refine zX.isR (id := 4) ?_; refine zX.zV [1, 3, 5, 6, 7, 8, 9, 13] [3, 5, 6, 7, 9] (by repeat' first | exact zY.nil | apply zY.p rfl | apply zY.ptr rfl) (by repeat' first | exact zW.nil | apply zW.boxP rfl rfl) ?_; (refine zZ.v rfl rfl (by exact yQ rfl rfl rfl (by exact bF (by decide)) rfl (by decide)) ?_); (refine zZ.v rfl rfl (zK rfl rfl rfl (by decide)) ?_); refine zZ.nil ?_) | (refine zX.isR (id := 6) ?_; refine zX.zV [1, 3, 5, 6, 7, 8, 9, 13] [3, 5, 6, 7, 9] (by repeat' first | exact zY.nil | apply zY.p rfl | apply zY.ptr rfl) (by repeat' first | exact zW.nil | apply zW.boxP rfl rfl) ?_; (refine zZ.v rfl rfl (by exact yQ rfl rfl rfl (by exact bT (by decide)) rfl (by decide)) ?_); (refine zZ.v rfl rfl (zK rfl rfl rfl (by decide)) ?_); refine zZ.nil ?_) | (refine zX.isR (id := 7) ?_; refine zX.zV [1, 3, 5, 6, 7, 8, 9, 13] [3, 5, 6, 7, 9] (by repeat' first | exact zY.nil | apply zY.p rfl | apply zY.ptr rfl) (by repeat' first | exact zW.nil | apply zW.boxP rfl rfl) ?_; (refine zZ.v rfl rfl (zI rfl rfl rfl (by rfl) (by rfl) rfl (by decide)) ?_); (refine zZ.v rfl rfl (zQ rfl rfl rfl (by decide)) ?_); (refine zZ.v rfl rfl (zQ rfl rfl rfl (by decide)) ?_); (refine zZ.v rfl rfl (by exact yU (c1) rfl rfl rfl (by decide)) ?_); (refine zZ.v rfl rfl (yO rfl rfl rfl (by decide)) ?_); (refine zZ.v rfl rfl (zF rfl rfl rfl rfl (by decide)) ?_); (refine zZ.v rfl rfl (zF rfl rfl rfl rfl (by decide)) ?_); (refine zZ.w rfl (by exact zB rfl rfl rfl rfl rfl (by rfl) (by exact Nat.le_of_ble_eq_true rfl) rfl rfl) ?_); refine zZ.nil ?_) | (refine zX.isR (id := 20) ?_; refine zX.yA [3, 6, 7, 9] [3, 5, 6, 7, 9] (by repeat' first | exact zY.nil | apply zY.ptr rfl) (by repeat' first | exact zW.nil | apply zW.boxP rfl rfl) (zX.w9 (by kernel_rfl) ?_); repeat' (first | refine xX.many (by rfl) ?_ | refine xK.cons ?_ ?_ | exact xK.nil | refine wB.v rfl rfl rfl (zI rfl rfl rfl (by rfl) (by rfl) rfl (by decide)) ?_ | refine wB.w rfl rfl (by exact zB rfl rfl rfl rfl rfl (by rfl) (by exact Nat.le_of_ble_eq_true rfl) rfl rfl) ?_ | refine xX.fin (by rfl) ?_)) | refine zX.yE rfl (by with_reducible rfl) ?_ | refine zX.yG rfl (by with_reducible rfl) ?_ | refine zX.block ?_ | refine zX.ret ?_))
  all_goals exact ⟨by first | exact .inl rfl | exact .inr rfl, _, Sub.refl _, .tup (rs := [.cell 6 50, .cell 7 85]) (l := [wR root (r0.set i (d, d.length)) r1, resN 0]) rfl (by decide) (.cons (.cellN rfl rfl (by rfl) (by rfl)) (.cons (.cellN rfl rfl (by rfl) (by rfl)) .nil))⟩
theorem doFail6_fn (t c p q r me root : Int) (ws : List Int) (d : PV) (r0 r1 : List (List Int × Int)) :
    Fn Tryz.prog 29 [xH t c ws root r0 r1, .val (.int .i64 me), xP 6 p q r d, .val (.bool true)] (.tup [xH t c ws root r0 r1, resF]) := by
  have c0 : Fn Tryz.prog 57 [.val (.int .i64 6)] (.p (.val (.bool true))) := vL 6
  refine yI Tryz.func29 rfl Tryz.ntmps29 (Nat.le_of_ble_eq_true rfl) ?_
  repeat' ((refine zX.is ?_; first | refine zX.seq ?_ | (refine zX.isR (id := 0) ?_; refine zX.zV [0, 1, 2, 3] [4, 6, 8, 9, 10] (by repeat' first | exact zY.nil | apply zY.p rfl) (by repeat' first | exact zW.nil | apply zW.skip) ?_; (refine zZ.m rfl rfl (z8 rfl rfl rfl (by decide)) ?_); (refine zZ.m rfl rfl (z8 rfl rfl rfl (by decide)) ?_); (refine zZ.m rfl rfl (zC rfl (by decide) rfl (by decide)) ?_); (refine zZ.m rfl rfl (zC rfl (by decide) rfl (by decide)) ?_); refine zZ.nil ?_) | (refine zX.isR (id := 1) ?_; refine zX.zV [1, 3, 4, 6, 8, 9] [4, 6, 8, 9, 10] (by repeat' first | exact zY.nil | apply zY.p rfl | apply zY.ptr rfl) (by repeat' first | exact zW.nil | apply zW.boxP rfl rfl | apply zW.skip) ?_; (refine zZ.m rfl rfl (zC rfl (by decide) rfl (by decide)) ?_); refine zZ.nil ?_) | (refine zX.isR (id := 3) ?_; refine zX.zV [1, 3, 4, 6, 8, 9, 10] [4, 6, 8, 9, 10] (by repeat' first | exact zY.nil | apply zY.p rfl | apply zY.ptr rfl) (by repeat' first | exact zW.nil | apply zW.boxP rfl rfl) ?_; all_goals (refine zZ.v rfl rfl (zJ rfl rfl rfl (by decide)) ?_); all_goals (refine zZ.v rfl rfl (zA rfl rfl rfl rfl rfl (by decide)) ?_); all_goals (refine zZ.v rfl rfl (by exact zL (c0) rfl rfl rfl (by decide)) ?_); all_goals (refine zZ.v rfl rfl (zQ rfl rfl rfl (by decide)) ?_); all_goals (refine zZ.gY rfl rfl (by decide) rfl (by with_reducible rfl) rfl (by decide) (zQ rfl rfl rfl (by decide)) ?_); all_goals (refine zZ.v rfl rfl (by exact zT rfl rfl (by with_reducible rfl) rfl rfl (by decide)) ?_); all_goals (refine zZ.v rfl rfl (zK rfl rfl rfl (by decide)) ?_); all_goals (refine zZ.nil ?_)) | (refine zX.isR (id := 4) ?_; refine zX.zV [1, 4, 6, 8, 9, 10] [4, 6, 8, 9, 10] (by repeat' first | exact zY.nil | apply zY.p rfl | apply zY.ptr rfl) (by repeat' first | exact zW.nil | apply zW.boxP rfl rfl) ?_; (refine zZ.v rfl rfl (zJ rfl rfl rfl (by decide)) ?_); (refine zZ.w rfl (by exact zB rfl rfl rfl rfl rfl (by rfl) (by exact Nat.le_of_ble_eq_true rfl) rfl rfl) ?_); refine zZ.nil ?_) | (refine zX.isR (id := 10) ?_; refine zX.yA [4, 8, 9, 10] [4, 6, 8, 9, 10] (by repeat' first | exact zY.nil | apply zY.ptr rfl) (by repeat' first | exact zW.nil | apply zW.boxP rfl rfl) (zX.w9 (by kernel_rfl) ?_); repeat' (first | refine xX.many (by rfl) ?_ | refine xK.cons ?_ ?_ | exact xK.nil | refine wB.v rfl rfl rfl (zI rfl rfl rfl (by rfl) (by rfl) rfl (by decide)) ?_ | refine wB.w rfl rfl (by exact zB rfl rfl rfl rfl rfl (by rfl) (by exact Nat.le_of_ble_eq_true rfl) rfl rfl) ?_ | refine xX.fin (by rfl) ?_)) | refine zX.yE rfl (by with_reducible rfl) ?_ | refine zX.block ?_ | refine zX.ret ?_))
  all_goals exact ⟨by first | exact .inl rfl | exact .inr rfl, _, Sub.refl _, .tup (rs := [.cell 8 52, .cell 9 85]) (l := [xH t c ws root r0 r1, resF]) rfl (by decide) (.cons (.cellN rfl rfl (by rfl) (by rfl)) (.cons (.cellN rfl rfl (by rfl) (by rfl)) .nil))⟩
theorem doDisk60_fn (t c p q r root : Int) (ws : List Int) (r0 r1 : List (List Int × Int)) (i : Nat) (d : List Int) (s : Int) (x : PV) (h0 : 0 ≤ root) (hr : root % 2 = 0) (hi : r0[i]? = some (d, s)) (h1 : r0.length ≤ 1000000) :
    Fn Tryz.prog 29 [xH t c ws root r0 r1, .val (.int .i64 i), xP 6 p q r (x), .val (.bool false)] (.tup [xH t c ws root (r0.set i (d, d.length)) r1, resN 0]) := by
  have c0 : Fn Tryz.prog 57 [.val (.int .i64 6)] (.p (.val (.bool true))) := vL 6
  have c1 := streams60_fn root r0 r1 i d s p q r x h0 hr hi h1
  refine yI Tryz.func29 rfl Tryz.ntmps29 (Nat.le_of_ble_eq_true rfl) ?_
  repeat' ((refine zX.is ?_; first | refine zX.seq ?_ | (refine zX.isR (id := 0) ?_; refine zX.zV [0, 1, 2, 3] [4, 6, 8, 9, 10] (by repeat' first | exact zY.nil | apply zY.p rfl) (by repeat' first | exact zW.nil | apply zW.skip) ?_; (refine zZ.m rfl rfl (z8 rfl rfl rfl (by decide)) ?_); (refine zZ.m rfl rfl (z8 rfl rfl rfl (by decide)) ?_); (refine zZ.m rfl rfl (zC rfl (by decide) rfl (by decide)) ?_); (refine zZ.m rfl rfl (zC rfl (by decide) rfl (by decide)) ?_); refine zZ.nil ?_) | (refine zX.isR (id := 1) ?_; refine zX.zV [1, 3, 4, 6, 8, 9] [4, 6, 8, 9, 10] (by repeat' first | exact zY.nil | apply zY.p rfl | apply zY.ptr rfl) (by repeat' first | exact zW.nil | apply zW.boxP rfl rfl | apply zW.skip) ?_; (refine zZ.m rfl rfl (zC rfl (by decide) rfl (by decide)) ?_); refine zZ.nil ?_) | (refine zX.isR (id := 3) ?_; refine zX.zV [1, 3, 4, 6, 8, 9, 10] [4, 6, 8, 9, 10] (by repeat' first | exact zY.nil | apply zY.p rfl | apply zY.ptr rfl) (by repeat' first | exact zW.nil | apply zW.boxP rfl rfl) ?_; all_goals (refine zZ.v rfl rfl (zJ rfl rfl rfl (by decide)) ?_); all_goals (refine zZ.v rfl rfl (zA rfl rfl rfl rfl rfl (by decide)) ?_); all_goals (refine zZ.v rfl rfl (by exact zL (c0) rfl rfl rfl (by decide)) ?_); all_goals (refine zZ.v rfl rfl (zQ rfl rfl rfl (by decide)) ?_); all_goals (refine zZ.gY rfl rfl (by decide) rfl (by with_reducible rfl) rfl (by decide) (zQ rfl rfl rfl (by decide)) ?_); all_goals (refine zZ.v rfl rfl (by exact zT rfl rfl (by with_reducible rfl) rfl rfl (by decide)) ?_); all_goals (refine zZ.v rfl rfl (zK rfl rfl rfl (by decide)) ?_); all_goals (refine zZ.nil ?_)) | (refine zX.isR (id := 5) ?_; refine zX.zV [1, 4, 6, 8, 9, 10] [4, 6, 8, 9, 10] (by repeat' first | exact zY.nil | apply zY.p rfl | apply zY.ptr rfl) (by repeat' first | exact zW.nil | apply zW.boxP rfl rfl) ?_; (refine zZ.v rfl rfl (zJ rfl rfl rfl (by decide)) ?_); (refine zZ.v rfl rfl (zA rfl rfl rfl rfl rfl (by decide)) ?_); (refine zZ.v rfl rfl (by exact zL (c0) rfl rfl rfl (by decide)) ?_); (refine zZ.v rfl rfl (zK rfl rfl rfl (by decide)) ?_); refine zZ.nil ?_) | (refine zX.isR (id := 6) ?_; refine zX.zV [1, 4, 6, 8, 9, 10] [4, 6, 8, 9, 10] (by repeat' first | exact zY.nil | apply zY.p rfl | apply zY.ptr rfl) (by repeat' first | exact zW.nil | apply zW.boxP rfl rfl) ?_; (refine zZ.v rfl rfl (zJ rfl rfl rfl (by decide)) ?_); (refine zZ.v rfl rfl (zI rfl rfl rfl (by rfl) (by rfl) rfl (by decide)) ?_); (refine zZ.v rfl rfl (zQ rfl rfl rfl (by decide)) ?_); (refine zZ.v rfl rfl (zI rfl rfl rfl (by rfl) (by rfl) rfl (by decide)) ?_); (refine zZ.v rfl rfl (by exact yU (c1) rfl rfl rfl (by decide)) ?_); (refine zZ.v rfl rfl (yO rfl rfl rfl (by decide)) ?_); (refine zZ.v rfl rfl (zF rfl rfl rfl rfl (by decide)) ?_); (refine zZ.v rfl rfl (zF rfl rfl rfl rfl (by decide)) ?_); (refine zZ.v rfl rfl (zJ rfl rfl rfl (by decide)) ?_); (refine zZ.w rfl (by exact zB rfl rfl rfl rfl rfl (by rfl) (by exact Nat.le_of_ble_eq_true rfl) rfl rfl) ?_); (refine zZ.w rfl (by exact zB rfl rfl rfl rfl rfl (by rfl) (by exact Nat.le_of_ble_eq_true rfl) rfl rfl) ?_); refine zZ.nil ?_) | (refine zX.isR (id := 10) ?_; refine zX.yA [4, 8, 9, 10] [4, 6, 8, 9, 10] (by repeat' first | exact zY.nil | apply zY.ptr rfl) (by repeat' first | exact zW.nil | apply zW.boxP rfl rfl) (zX.w9 (by kernel_rfl) ?_); repeat' (first | refine xX.many (by rfl) ?_ | refine xK.cons ?_ ?_ | exact xK.nil | refine wB.v rfl rfl rfl (zI rfl rfl rfl (by rfl) (by rfl) rfl (by decide)) ?_ | refine wB.w rfl rfl (by exact zB rfl rfl rfl rfl rfl (by rfl) (by exact Nat.le_of_ble_eq_true rfl) rfl rfl) ?_ | refine xX.fin (by rfl) ?_)) | refine zX.yE rfl (by with_reducible rfl) ?_ | refine zX.yG rfl (by with_reducible rfl) ?_ | refine zX.block ?_ | refine zX.ret ?_))
  all_goals exact ⟨by first | exact .inl rfl | exact .inr rfl, _, Sub.refl _, .tup (rs := [.cell 8 52, .cell 9 85]) (l := [xH t c ws root (r0.set i (d, d.length)) r1, resN 0]) rfl (by decide) (.cons (.cellN rfl rfl (by rfl) (by rfl)) (.cons (.cellN rfl rfl (by rfl) (by rfl)) .nil))⟩
theorem do0_fn (t c a b old me root : Int) (i : Nat) (ws : List Int) (d : PV) (r0 r1 : List (List Int × Int)) (fails : Bool) (hi : ws[i]? = some old) (h1 : ws.length ≤ 1000000) :
    Fn Tryz.prog 29 [xH t c ws root r0 r1, .val (.int .i64 me), xP 0 i a b d, .val (.bool fails)] (.tup [xH t c (ws.set i (wV 0 old a b).2) root r0 r1, resN (wV 0 old a b).1]) := by
  have c0 : Fn Tryz.prog 57 [.val (.int .i64 0)] (.p (.val (.bool false))) := vL 0
  have c1 := words0_fn t c a b old i ws d hi h1
  refine yI Tryz.func29 rfl Tryz.ntmps29 (Nat.le_of_ble_eq_true rfl) ?_
  repeat' ((refine zX.is ?_; first | refine zX.seq ?_ | (refine zX.isR (id := 0) ?_; refine zX.zV [0, 1, 2, 3] [4, 6, 8, 9, 10] (by repeat' first | exact zY.nil | apply zY.p rfl) (by repeat' first | exact zW.nil | apply zW.skip) ?_; (refine zZ.m rfl rfl (z8 rfl rfl rfl (by decide)) ?_); (refine zZ.m rfl rfl (z8 rfl rfl rfl (by decide)) ?_); (refine zZ.m rfl rfl (zC rfl (by decide) rfl (by decide)) ?_); (refine zZ.m rfl rfl (zC rfl (by decide) rfl (by decide)) ?_); refine zZ.nil ?_) | (refine zX.isR (id := 1) ?_; refine zX.zV [1, 3, 4, 6, 8, 9] [4, 6, 8, 9, 10] (by repeat' first | exact zY.nil | apply zY.p rfl | apply zY.ptr rfl) (by repeat' first | exact zW.nil | apply zW.boxP rfl rfl | apply zW.skip) ?_; (refine zZ.m rfl rfl (zC rfl (by decide) rfl (by decide)) ?_); refine zZ.nil ?_) | (refine zX.isR (id := 3) ?_; refine zX.zV [1, 3, 4, 6, 8, 9, 10] [4, 6, 8, 9, 10] (by repeat' first | exact zY.nil | apply zY.p rfl | apply zY.ptr rfl) (by repeat' first | exact zW.nil | apply zW.boxP rfl rfl) ?_; all_goals (refine zZ.v rfl rfl (zJ rfl rfl rfl (by decide)) ?_); all_goals (refine zZ.v rfl rfl (zA rfl rfl rfl rfl rfl (by decide)) ?_); all_goals (refine zZ.v rfl rfl (by exact zL (c0) rfl rfl rfl (by decide)) ?_); all_goals (refine zZ.v rfl rfl (zQ rfl rfl rfl (by decide)) ?_); all_goals (refine zZ.gnT rfl rfl (by decide) rfl (by with_reducible rfl) rfl (by decide) ?_); all_goals (refine zZ.v rfl rfl (by exact zR rfl rfl (by with_reducible rfl) rfl rfl (by decide)) ?_); all_goals (refine zZ.v rfl rfl (zK rfl rfl rfl (by decide)) ?_); all_goals (refine zZ.nil ?_)) | (refine zX.isR (id := 5) ?_; refine zX.zV [1, 4, 6, 8, 9, 10] [4, 6, 8, 9, 10] (by repeat' first | exact zY.nil | apply zY.p rfl | apply zY.ptr rfl) (by repeat' first | exact zW.nil | apply zW.boxP rfl rfl) ?_; (refine zZ.v rfl rfl (zJ rfl rfl rfl (by decide)) ?_); (refine zZ.v rfl rfl (zA rfl rfl rfl rfl rfl (by decide)) ?_); (refine zZ.v rfl rfl (by exact zL (c0) rfl rfl rfl (by decide)) ?_); (refine zZ.v rfl rfl (zK rfl rfl rfl (by decide)) ?_); refine zZ.nil ?_) | (refine zX.isR (id := 7) ?_; refine zX.zV [4, 6, 8, 9, 10] [4, 6, 8, 9, 10] (by repeat' first | exact zY.nil | apply zY.ptr rfl) (by repeat' first | exact zW.nil | apply zW.boxP rfl rfl) ?_; (refine zZ.v rfl rfl (zJ rfl rfl rfl (by decide)) ?_); (refine zZ.v rfl rfl (zA rfl rfl rfl rfl rfl (by decide)) ?_); (refine zZ.v rfl rfl (by exact yQ rfl rfl rfl (by exact bF (by decide)) rfl (by decide)) ?_); (refine zZ.v rfl rfl (zK rfl rfl rfl (by decide)) ?_); refine zZ.nil ?_) | (refine zX.isR (id := 2) ?_; refine zX.zV [4, 6, 8, 9, 10] [4, 6, 8, 9, 10] (by repeat' first | exact zY.nil | apply zY.ptr rfl) (by repeat' first | exact zW.nil | apply zW.boxP rfl rfl) ?_; (refine zZ.v rfl rfl (zJ rfl rfl rfl (by decide)) ?_); (refine zZ.v rfl rfl (zI rfl rfl rfl (by rfl) (by rfl) rfl (by decide)) ?_); (refine zZ.v rfl rfl (zI rfl rfl rfl (by rfl) (by rfl) rfl (by decide)) ?_); (refine zZ.v rfl rfl (by exact yU (c1) rfl rfl rfl (by decide)) ?_); (refine zZ.v rfl rfl (yO rfl rfl rfl (by decide)) ?_); (refine zZ.v rfl rfl (zF rfl rfl rfl rfl (by decide)) ?_); (refine zZ.v rfl rfl (zF rfl rfl rfl rfl (by decide)) ?_); (refine zZ.v rfl rfl (zJ rfl rfl rfl (by decide)) ?_); (refine zZ.w rfl (by exact zB rfl rfl rfl rfl rfl (by rfl) (by exact Nat.le_of_ble_eq_true rfl) rfl rfl) ?_); (refine zZ.w rfl (by exact zB rfl rfl rfl rfl rfl (by rfl) (by exact Nat.le_of_ble_eq_true rfl) rfl rfl) ?_); refine zZ.nil ?_) | (refine zX.isR (id := 10) ?_; refine zX.yA [4, 8, 9, 10] [4, 6, 8, 9, 10] (by repeat' first | exact zY.nil | apply zY.ptr rfl) (by repeat' first | exact zW.nil | apply zW.boxP rfl rfl) (zX.w9 (by kernel_rfl) ?_); repeat' (first | refine xX.many (by rfl) ?_ | refine xK.cons ?_ ?_ | exact xK.nil | refine wB.v rfl rfl rfl (zI rfl rfl rfl (by rfl) (by rfl) rfl (by decide)) ?_ | refine wB.w rfl rfl (by exact zB rfl rfl rfl rfl rfl (by rfl) (by exact Nat.le_of_ble_eq_true rfl) rfl rfl) ?_ | refine xX.fin (by rfl) ?_)) | refine zX.yG rfl (by with_reducible rfl) ?_ | refine zX.block ?_ | refine zX.ret ?_))
  all_goals exact ⟨by first | exact .inl rfl | exact .inr rfl, _, Sub.refl _, .tup (rs := [.cell 8 52, .cell 9 85]) (l := [xH t c (ws.set i (wV 0 old a b).2) root r0 r1, resN (wV 0 old a b).1]) rfl (by decide) (.cons (.cellN rfl rfl (by rfl) (by rfl)) (.cons (.cellN rfl rfl (by rfl) (by rfl)) .nil))⟩
theorem do1_fn (t c a b old me root : Int) (i : Nat) (ws : List Int) (d : PV) (r0 r1 : List (List Int × Int)) (fails : Bool) (hi : ws[i]? = some old) (h1 : ws.length ≤ 1000000) :
    Fn Tryz.prog 29 [xH t c ws root r0 r1, .val (.int .i64 me), xP 1 i a b d, .val (.bool fails)] (.tup [xH t c (ws.set i (wV 1 old a b).2) root r0 r1, resN (wV 1 old a b).1]) := by
  have c0 : Fn Tryz.prog 57 [.val (.int .i64 1)] (.p (.val (.bool false))) := vL 1
  have c1 := words1_fn t c a b old i ws d hi h1
  refine yI Tryz.func29 rfl Tryz.ntmps29 (Nat.le_of_ble_eq_true rfl) ?_
  repeat' ((refine zX.is ?_; first | refine zX.seq ?_ | (refine zX.isR (id := 0) ?_; refine zX.zV [0, 1, 2, 3] [4, 6, 8, 9, 10] (by repeat' first | exact zY.nil | apply zY.p rfl) (by repeat' first | exact zW.nil | apply zW.skip) ?_; (refine zZ.m rfl rfl (z8 rfl rfl rfl (by decide)) ?_); (refine zZ.m rfl rfl (z8 rfl rfl rfl (by decide)) ?_); (refine zZ.m rfl rfl (zC rfl (by decide) rfl (by decide)) ?_); (refine zZ.m rfl rfl (zC rfl (by decide) rfl (by decide)) ?_); refine zZ.nil ?_) | (refine zX.isR (id := 1) ?_; refine zX.zV [1, 3, 4, 6, 8, 9] [4, 6, 8, 9, 10] (by repeat' first | exact zY.nil | apply zY.p rfl | apply zY.ptr rfl) (by repeat' first | exact zW.nil | apply zW.boxP rfl rfl | apply zW.skip) ?_; (refine zZ.m rfl rfl (zC rfl (by decide) rfl (by decide)) ?_); refine zZ.nil ?_) | (refine zX.isR (id := 3) ?_; refine zX.zV [1, 3, 4, 6, 8, 9, 10] [4, 6, 8, 9, 10] (by repeat' first | exact zY.nil | apply zY.p rfl | apply zY.ptr rfl) (by repeat' first | exact zW.nil | apply zW.boxP rfl rfl) ?_; all_goals (refine zZ.v rfl rfl (zJ rfl rfl rfl (by decide)) ?_); all_goals (refine zZ.v rfl rfl (zA rfl rfl rfl rfl rfl (by decide)) ?_); all_goals (refine zZ.v rfl rfl (by exact zL (c0) rfl rfl rfl (by decide)) ?_); all_goals (refine zZ.v rfl rfl (zQ rfl rfl rfl (by decide)) ?_); all_goals (refine zZ.gnT rfl rfl (by decide) rfl (by with_reducible rfl) rfl (by decide) ?_); all_goals (refine zZ.v rfl rfl (by exact zR rfl rfl (by with_reducible rfl) rfl rfl (by decide)) ?_); all_goals (refine zZ.v rfl rfl (zK rfl rfl rfl (by decide)) ?_); all_goals (refine zZ.nil ?_)) | (refine zX.isR (id := 5) ?_; refine zX.zV [1, 4, 6, 8, 9, 10] [4, 6, 8, 9, 10] (by repeat' first | exact zY.nil | apply zY.p rfl | apply zY.ptr rfl) (by repeat' first | exact zW.nil | apply zW.boxP rfl rfl) ?_; (refine zZ.v rfl rfl (zJ rfl rfl rfl (by decide)) ?_); (refine zZ.v rfl rfl (zA rfl rfl rfl rfl rfl (by decide)) ?_); (refine zZ.v rfl rfl (by exact zL (c0) rfl rfl rfl (by decide)) ?_); (refine zZ.v rfl rfl (zK rfl rfl rfl (by decide)) ?_); refine zZ.nil ?_) | (refine zX.isR (id := 7) ?_; refine zX.zV [4, 6, 8, 9, 10] [4, 6, 8, 9, 10] (by repeat' first | exact zY.nil | apply zY.ptr rfl) (by repeat' first | exact zW.nil | apply zW.boxP rfl rfl) ?_; (refine zZ.v rfl rfl (zJ rfl rfl rfl (by decide)) ?_); (refine zZ.v rfl rfl (zA rfl rfl rfl rfl rfl (by decide)) ?_); (refine zZ.v rfl rfl (by exact yQ rfl rfl rfl (by exact bF (by decide)) rfl (by decide)) ?_); (refine zZ.v rfl rfl (zK rfl rfl rfl (by decide)) ?_); refine zZ.nil ?_) | (refine zX.isR (id := 2) ?_; refine zX.zV [4, 6, 8, 9, 10] [4, 6, 8, 9, 10] (by repeat' first | exact zY.nil | apply zY.ptr rfl) (by repeat' first | exact zW.nil | apply zW.boxP rfl rfl) ?_; (refine zZ.v rfl rfl (zJ rfl rfl rfl (by decide)) ?_); (refine zZ.v rfl rfl (zI rfl rfl rfl (by rfl) (by rfl) rfl (by decide)) ?_); (refine zZ.v rfl rfl (zI rfl rfl rfl (by rfl) (by rfl) rfl (by decide)) ?_); (refine zZ.v rfl rfl (by exact yU (c1) rfl rfl rfl (by decide)) ?_); (refine zZ.v rfl rfl (yO rfl rfl rfl (by decide)) ?_); (refine zZ.v rfl rfl (zF rfl rfl rfl rfl (by decide)) ?_); (refine zZ.v rfl rfl (zF rfl rfl rfl rfl (by decide)) ?_); (refine zZ.v rfl rfl (zJ rfl rfl rfl (by decide)) ?_); (refine zZ.w rfl (by exact zB rfl rfl rfl rfl rfl (by rfl) (by exact Nat.le_of_ble_eq_true rfl) rfl rfl) ?_); (refine zZ.w rfl (by exact zB rfl rfl rfl rfl rfl (by rfl) (by exact Nat.le_of_ble_eq_true rfl) rfl rfl) ?_); refine zZ.nil ?_) | (refine zX.isR (id := 10) ?_; refine zX.yA [4, 8, 9, 10] [4, 6, 8, 9, 10] (by repeat' first | exact zY.nil | apply zY.ptr rfl) (by repeat' first | exact zW.nil | apply zW.boxP rfl rfl) (zX.w9 (by kernel_rfl) ?_); repeat' (first | refine xX.many (by rfl) ?_ | refine xK.cons ?_ ?_ | exact xK.nil | refine wB.v rfl rfl rfl (zI rfl rfl rfl (by rfl) (by rfl) rfl (by decide)) ?_ | refine wB.w rfl rfl (by exact zB rfl rfl rfl rfl rfl (by rfl) (by exact Nat.le_of_ble_eq_true rfl) rfl rfl) ?_ | refine xX.fin (by rfl) ?_)) | refine zX.yG rfl (by with_reducible rfl) ?_ | refine zX.block ?_ | refine zX.ret ?_))
  all_goals exact ⟨by first | exact .inl rfl | exact .inr rfl, _, Sub.refl _, .tup (rs := [.cell 8 52, .cell 9 85]) (l := [xH t c (ws.set i (wV 1 old a b).2) root r0 r1, resN (wV 1 old a b).1]) rfl (by decide) (.cons (.cellN rfl rfl (by rfl) (by rfl)) (.cons (.cellN rfl rfl (by rfl) (by rfl)) .nil))⟩
theorem do2_fn (t c a b old me root : Int) (i : Nat) (ws : List Int) (d : PV) (r0 r1 : List (List Int × Int)) (fails : Bool) (hi : ws[i]? = some old) (h1 : ws.length ≤ 1000000) :
    Fn Tryz.prog 29 [xH t c ws root r0 r1, .val (.int .i64 me), xP 2 i a b d, .val (.bool fails)] (.tup [xH t c (ws.set i (wV 2 old a b).2) root r0 r1, resN (wV 2 old a b).1]) := by
  have c0 : Fn Tryz.prog 57 [.val (.int .i64 2)] (.p (.val (.bool false))) := vL 2
  have c1 := words2_fn t c a b old i ws d hi h1
  refine yI Tryz.func29 rfl Tryz.ntmps29 (Nat.le_of_ble_eq_true rfl) ?_
  repeat' ((refine zX.is ?_; first | refine zX.seq ?_ | (refine zX.isR (id := 0) ?_; refine zX.zV [0, 1, 2, 3] [4, 6, 8, 9, 10] (by repeat' first | exact zY.nil | apply zY.p rfl) (by repeat' first | exact zW.nil | apply zW.skip) ?_; (refine zZ.m rfl rfl (z8 rfl rfl rfl (by decide)) ?_); (refine zZ.m rfl rfl (z8 rfl rfl rfl (by decide)) ?_); (refine zZ.m rfl rfl (zC rfl (by decide) rfl (by decide)) ?_); (refine zZ.m rfl rfl (zC rfl (by decide) rfl (by decide)) ?_); refine zZ.nil ?_) | (refine zX.isR (id := 1) ?_; refine zX.zV [1, 3, 4, 6, 8, 9] [4, 6, 8, 9, 10] (by repeat' first | exact zY.nil | apply zY.p rfl | apply zY.ptr rfl) (by repeat' first | exact zW.nil | apply zW.boxP rfl rfl | apply zW.skip) ?_; (refine zZ.m rfl rfl (zC rfl (by decide) rfl (by decide)) ?_); refine zZ.nil ?_) | (refine zX.isR (id := 3) ?_; refine zX.zV [1, 3, 4, 6, 8, 9, 10] [4, 6, 8, 9, 10] (by repeat' first | exact zY.nil | apply zY.p rfl | apply zY.ptr rfl) (by repeat' first | exact zW.nil | apply zW.boxP rfl rfl) ?_; all_goals (refine zZ.v rfl rfl (zJ rfl rfl rfl (by decide)) ?_); all_goals (refine zZ.v rfl rfl (zA rfl rfl rfl rfl rfl (by decide)) ?_); all_goals (refine zZ.v rfl rfl (by exact zL (c0) rfl rfl rfl (by decide)) ?_); all_goals (refine zZ.v rfl rfl (zQ rfl rfl rfl (by decide)) ?_); all_goals (refine zZ.gnT rfl rfl (by decide) rfl (by with_reducible rfl) rfl (by decide) ?_); all_goals (refine zZ.v rfl rfl (by exact zR rfl rfl (by with_reducible rfl) rfl rfl (by decide)) ?_); all_goals (refine zZ.v rfl rfl (zK rfl rfl rfl (by decide)) ?_); all_goals (refine zZ.nil ?_)) | (refine zX.isR (id := 5) ?_; refine zX.zV [1, 4, 6, 8, 9, 10] [4, 6, 8, 9, 10] (by repeat' first | exact zY.nil | apply zY.p rfl | apply zY.ptr rfl) (by repeat' first | exact zW.nil | apply zW.boxP rfl rfl) ?_; (refine zZ.v rfl rfl (zJ rfl rfl rfl (by decide)) ?_); (refine zZ.v rfl rfl (zA rfl rfl rfl rfl rfl (by decide)) ?_); (refine zZ.v rfl rfl (by exact zL (c0) rfl rfl rfl (by decide)) ?_); (refine zZ.v rfl rfl (zK rfl rfl rfl (by decide)) ?_); refine zZ.nil ?_) | (refine zX.isR (id := 7) ?_; refine zX.zV [4, 6, 8, 9, 10] [4, 6, 8, 9, 10] (by repeat' first | exact zY.nil | apply zY.ptr rfl) (by repeat' first | exact zW.nil | apply zW.boxP rfl rfl) ?_; (refine zZ.v rfl rfl (zJ rfl rfl rfl (by decide)) ?_); (refine zZ.v rfl rfl (zA rfl rfl rfl rfl rfl (by decide)) ?_); (refine zZ.v rfl rfl (by exact yQ rfl rfl rfl (by exact bF (by decide)) rfl (by decide)) ?_); (refine zZ.v rfl rfl (zK rfl rfl rfl (by decide)) ?_); refine zZ.nil ?_) | (refine zX.isR (id := 2) ?_; refine zX.zV [4, 6, 8, 9, 10] [4, 6, 8, 9, 10] (by repeat' first | exact zY.nil | apply zY.ptr rfl) (by repeat' first | exact zW.nil | apply zW.boxP rfl rfl) ?_; (refine zZ.v rfl rfl (zJ rfl rfl rfl (by decide)) ?_); (refine zZ.v rfl rfl (zI rfl rfl rfl (by rfl) (by rfl) rfl (by decide)) ?_); (refine zZ.v rfl rfl (zI rfl rfl rfl (by rfl) (by rfl) rfl (by decide)) ?_); (refine zZ.v rfl rfl (by exact yU (c1) rfl rfl rfl (by decide)) ?_); (refine zZ.v rfl rfl (yO rfl rfl rfl (by decide)) ?_); (refine zZ.v rfl rfl (zF rfl rfl rfl rfl (by decide)) ?_); (refine zZ.v rfl rfl (zF rfl rfl rfl rfl (by decide)) ?_); (refine zZ.v rfl rfl (zJ rfl rfl rfl (by decide)) ?_); (refine zZ.w rfl (by exact zB rfl rfl rfl rfl rfl (by rfl) (by exact Nat.le_of_ble_eq_true rfl) rfl rfl) ?_); (refine zZ.w rfl (by exact zB rfl rfl rfl rfl rfl (by rfl) (by exact Nat.le_of_ble_eq_true rfl) rfl rfl) ?_); refine zZ.nil ?_) | (refine zX.isR (id := 10) ?_; refine zX.yA [4, 8, 9, 10] [4, 6, 8, 9, 10] (by repeat' first | exact zY.nil | apply zY.ptr rfl) (by repeat' first | exact zW.nil | apply zW.boxP rfl rfl) (zX.w9 (by kernel_rfl) ?_); repeat' (first | refine xX.many (by rfl) ?_ | refine xK.cons ?_ ?_ | exact xK.nil | refine wB.v rfl rfl rfl (zI rfl rfl rfl (by rfl) (by rfl) rfl (by decide)) ?_ | refine wB.w rfl rfl (by exact zB rfl rfl rfl rfl rfl (by rfl) (by exact Nat.le_of_ble_eq_true rfl) rfl rfl) ?_ | refine xX.fin (by rfl) ?_)) | refine zX.yG rfl (by with_reducible rfl) ?_ | refine zX.block ?_ | refine zX.ret ?_))
  all_goals exact ⟨by first | exact .inl rfl | exact .inr rfl, _, Sub.refl _, .tup (rs := [.cell 8 52, .cell 9 85]) (l := [xH t c (ws.set i (wV 2 old a b).2) root r0 r1, resN (wV 2 old a b).1]) rfl (by decide) (.cons (.cellN rfl rfl (by rfl) (by rfl)) (.cons (.cellN rfl rfl (by rfl) (by rfl)) .nil))⟩
theorem do3_fn (t c a b old me root : Int) (i : Nat) (ws : List Int) (d : PV) (r0 r1 : List (List Int × Int)) (fails : Bool) (hi : ws[i]? = some old) (h1 : ws.length ≤ 1000000) :
    Fn Tryz.prog 29 [xH t c ws root r0 r1, .val (.int .i64 me), xP 3 i a b d, .val (.bool fails)] (.tup [xH t c (ws.set i (wV 3 old a b).2) root r0 r1, resN (wV 3 old a b).1]) := by
  have c0 : Fn Tryz.prog 57 [.val (.int .i64 3)] (.p (.val (.bool false))) := vL 3
  have c1 := words3_fn t c a b old i ws d hi h1
  refine yI Tryz.func29 rfl Tryz.ntmps29 (Nat.le_of_ble_eq_true rfl) ?_
  repeat' ((refine zX.is ?_; first | refine zX.seq ?_ | (refine zX.isR (id := 0) ?_; refine zX.zV [0, 1, 2, 3] [4, 6, 8, 9, 10] (by repeat' first | exact zY.nil | apply zY.p rfl) (by repeat' first | exact zW.nil | apply zW.skip) ?_; (refine zZ.m rfl rfl (z8 rfl rfl rfl (by decide)) ?_); (refine zZ.m rfl rfl (z8 rfl rfl rfl (by decide)) ?_); (refine zZ.m rfl rfl (zC rfl (by decide) rfl (by decide)) ?_); (refine zZ.m rfl rfl (zC rfl (by decide) rfl (by decide)) ?_); refine zZ.nil ?_) | (refine zX.isR (id := 1) ?_; refine zX.zV [1, 3, 4, 6, 8, 9] [4, 6, 8, 9, 10] (by repeat' first | exact zY.nil | apply zY.p rfl | apply zY.ptr rfl) (by repeat' first | exact zW.nil | apply zW.boxP rfl rfl | apply zW.skip) ?_; (refine zZ.m rfl rfl (zC rfl (by decide) rfl (by decide)) ?_); refine zZ.nil ?_) | (refine zX.isR (id := 3) ?_; refine zX.zV [1, 3, 4, 6, 8, 9, 10] [4, 6, 8, 9, 10] (by repeat' first | exact zY.nil | apply zY.p rfl | apply zY.ptr rfl) (by repeat' first | exact zW.nil | apply zW.boxP rfl rfl) ?_; all_goals (refine zZ.v rfl rfl (zJ rfl rfl rfl (by decide)) ?_); all_goals (refine zZ.v rfl rfl (zA rfl rfl rfl rfl rfl (by decide)) ?_); all_goals (refine zZ.v rfl rfl (by exact zL (c0) rfl rfl rfl (by decide)) ?_); all_goals (refine zZ.v rfl rfl (zQ rfl rfl rfl (by decide)) ?_); all_goals (refine zZ.gnT rfl rfl (by decide) rfl (by with_reducible rfl) rfl (by decide) ?_); all_goals (refine zZ.v rfl rfl (by exact zR rfl rfl (by with_reducible rfl) rfl rfl (by decide)) ?_); all_goals (refine zZ.v rfl rfl (zK rfl rfl rfl (by decide)) ?_); all_goals (refine zZ.nil ?_)) | (refine zX.isR (id := 5) ?_; refine zX.zV [1, 4, 6, 8, 9, 10] [4, 6, 8, 9, 10] (by repeat' first | exact zY.nil | apply zY.p rfl | apply zY.ptr rfl) (by repeat' first | exact zW.nil | apply zW.boxP rfl rfl) ?_; (refine zZ.v rfl rfl (zJ rfl rfl rfl (by decide)) ?_); (refine zZ.v rfl rfl (zA rfl rfl rfl rfl rfl (by decide)) ?_); (refine zZ.v rfl rfl (by exact zL (c0) rfl rfl rfl (by decide)) ?_); (refine zZ.v rfl rfl (zK rfl rfl rfl (by decide)) ?_); refine zZ.nil ?_) | (refine zX.isR (id := 7) ?_; refine zX.zV [4, 6, 8, 9, 10] [4, 6, 8, 9, 10] (by repeat' first | exact zY.nil | apply zY.ptr rfl) (by repeat' first | exact zW.nil | apply zW.boxP rfl rfl) ?_; (refine zZ.v rfl rfl (zJ rfl rfl rfl (by decide)) ?_); (refine zZ.v rfl rfl (zA rfl rfl rfl rfl rfl (by decide)) ?_); (refine zZ.v rfl rfl (by exact yQ rfl rfl rfl (by exact bF (by decide)) rfl (by decide)) ?_); (refine zZ.v rfl rfl (zK rfl rfl rfl (by decide)) ?_); refine zZ.nil ?_) | (refine zX.isR (id := 2) ?_; refine zX.zV [4, 6, 8, 9, 10] [4, 6, 8, 9, 10] (by repeat' first | exact zY.nil | apply zY.ptr rfl) (by repeat' first | exact zW.nil | apply zW.boxP rfl rfl) ?_; (refine zZ.v rfl rfl (zJ rfl rfl rfl (by decide)) ?_); (refine zZ.v rfl rfl (zI rfl rfl rfl (by rfl) (by rfl) rfl (by decide)) ?_); (refine zZ.v rfl rfl (zI rfl rfl rfl (by rfl) (by rfl) rfl (by decide)) ?_); (refine zZ.v rfl rfl (by exact yU (c1) rfl rfl rfl (by decide)) ?_); (refine zZ.v rfl rfl (yO rfl rfl rfl (by decide)) ?_); (refine zZ.v rfl rfl (zF rfl rfl rfl rfl (by decide)) ?_); (refine zZ.v rfl rfl (zF rfl rfl rfl rfl (by decide)) ?_); (refine zZ.v rfl rfl (zJ rfl rfl rfl (by decide)) ?_); (refine zZ.w rfl (by exact zB rfl rfl rfl rfl rfl (by rfl) (by exact Nat.le_of_ble_eq_true rfl) rfl rfl) ?_); (refine zZ.w rfl (by exact zB rfl rfl rfl rfl rfl (by rfl) (by exact Nat.le_of_ble_eq_true rfl) rfl rfl) ?_); refine zZ.nil ?_) | (refine zX.isR (id := 10) ?_; refine zX.yA [4, 8, 9, 10] [4, 6, 8, 9, 10] (by repeat' first | exact zY.nil | apply zY.ptr rfl) (by repeat' first | exact zW.nil | apply zW.boxP rfl rfl) (zX.w9 (by kernel_rfl) ?_); repeat' (first | refine xX.many (by rfl) ?_ | refine xK.cons ?_ ?_ | exact xK.nil | refine wB.v rfl rfl rfl (zI rfl rfl rfl (by rfl) (by rfl) rfl (by decide)) ?_ | refine wB.w rfl rfl (by exact zB rfl rfl rfl rfl rfl (by rfl) (by exact Nat.le_of_ble_eq_true rfl) rfl rfl) ?_ | refine xX.fin (by rfl) ?_)) | refine zX.yG rfl (by with_reducible rfl) ?_ | refine zX.block ?_ | refine zX.ret ?_))
  all_goals exact ⟨by first | exact .inl rfl | exact .inr rfl, _, Sub.refl _, .tup (rs := [.cell 8 52, .cell 9 85]) (l := [xH t c (ws.set i (wV 3 old a b).2) root r0 r1, resN (wV 3 old a b).1]) rfl (by decide) (.cons (.cellN rfl rfl (by rfl) (by rfl)) (.cons (.cellN rfl rfl (by rfl) (by rfl)) .nil))⟩
end Go.Proofs.YtlfkofkdigmnpaaGreatDoor
/- Contracts made weaker: nil is an empty slice. Generic over the program. -/
namespace Go.Proofs.YtlfkofkdigmnpaaGreatDoor
set_option maxRecDepth 100000
set_option maxHeartbeats 16000000
open Go Go.RowKit
/-- y says no more than x -/
inductive PLe0 : PV → PV → Prop
  | refl (x : PV) : PLe0 x x
  | nil : PLe0 (.val (.slice none 0 0)) (.sl [])
inductive PL0s : List PV → List PV → Prop
  | nil : PL0s [] []
  | cons {x y : PV} {xs ys : List PV} (h : PLe0 x y) (hs : PL0s xs ys) : PL0s (x :: xs) (y :: ys)
inductive PLe1 : PV → PV → Prop
  | refl (x : PV) : PLe1 x x
  | nil : PLe1 (.val (.slice none 0 0)) (.sl [])
  | sl {xs ys : List PV} (hl : xs.length = ys.length) (h : PL0s (flat xs) (flat ys)) : PLe1 (.sl xs) (.sl ys)
inductive PLes : List PV → List PV → Prop
  | nil : PLes [] []
  | cons {x y : PV} {xs ys : List PV} (h : PLe1 x y) (hs : PLes xs ys) : PLes (x :: xs) (y :: ys)
inductive PLe : PV → PV → Prop
  | one {x y : PV} (h : PLe1 x y) : PLe x y
  | agg {xs ys : List PV} (h : PLes xs ys) : PLe (.agg xs) (.agg ys)
inductive PLet : List PV → List PV → Prop
  | nil : PLet [] []
  | cons {x y : PV} {xs ys : List PV} (h : PLe x y) (hs : PLet xs ys) : PLet (x :: xs) (y :: ys)
theorem PLe0.rep {x y : PV} (h : PLe0 x y) {M : Nat → Nat → Prop} {w : World} {v : Value} (hr : Rep M w x v) : Rep M w y v := by
  cases h with
  | refl => exact hr
  | nil => cases hr; exact .nil
theorem PL0s.at_ {xs ys : List PV} (h : PL0s xs ys) : xs.length = ys.length ∧ ∀ (i : Nat) y, ys[i]? = some y → ∃ x, xs[i]? = some x ∧ PLe0 x y := by
  induction h with
  | nil => exact ⟨rfl, fun i y h => by simp at h⟩
  | cons h hs ih =>
    refine ⟨by simp [ih.1], fun i y hy => ?_⟩
    cases i with
    | zero => simp at hy; subst hy; exact ⟨_, rfl, h⟩
    | succ i => exact ih.2 i y hy
theorem PL0s.append {xs ys xs' ys' : List PV} (h : PL0s xs ys) (h' : PL0s xs' ys') : PL0s (xs ++ xs') (ys ++ ys') := by
  induction h with
  | nil => exact h'
  | cons h _ ih => exact .cons h ih
theorem PLe1.rep {x y : PV} (h : PLe1 x y) {M : Nat → Nat → Prop} {w : World} {v : Value} (hr : Rep M w x v) : Rep M w y v := by
  cases h with
  | refl => exact hr
  | nil => cases hr; exact .nil
  | sl hl h =>
    obtain ⟨hfl, hat⟩ := h.at_
    rcases rep_sl hr with ⟨rfl, h0⟩ | ⟨g, off, cap, us, rfl, hl2, hcell, hM, hg, hcap, hm⟩
    · subst h0
      have : _ = [] := List.eq_nil_of_length_eq_zero hl.symm
      subst this
      exact .nil
    · rw [hl] at hcap ⊢
      exact .sl _ g off _ cap us rfl (hl2.len.trans hfl) hcell (fun j c y hc hy => by
        obtain ⟨x, hx, hle⟩ := hat j c hc
        exact hle.rep (hl2.each j x y hx hy)) hl2.one hM hg hcap hm
theorem PLes.refl : ∀ xs : List PV, PLes xs xs
  | [] => .nil
  | x :: xs => .cons (.refl x) (PLes.refl xs)
theorem PLes.at_ {xs ys : List PV} (h : PLes xs ys) : xs.length = ys.length ∧ ∀ (i : Nat) y, ys[i]? = some y → ∃ x, xs[i]? = some x ∧ PLe1 x y := by
  induction h with
  | nil => exact ⟨rfl, fun i y h => by simp at h⟩
  | cons h hs ih =>
    refine ⟨by simp [ih.1], fun i y hy => ?_⟩
    cases i with
    | zero => simp at hy; subst hy; exact ⟨_, rfl, h⟩
    | succ i => exact ih.2 i y hy
theorem PLe.rep {x y : PV} (h : PLe x y) {M : Nat → Nat → Prop} {w : World} {v : Value} (hr : Rep M w x v) : Rep M w y v := by
  cases h with
  | one h => exact h.rep hr
  | agg h =>
    obtain ⟨hl, hat⟩ := h.at_
    cases hr with
    | agg cs vs hl2 h2 h1 => exact .agg _ vs (hl2.trans hl) (fun i c u hc hu => by
        obtain ⟨x, hx, hxy⟩ := hat i c hc
        exact hxy.rep (h2 i x u hx hu)) h1
theorem PLet.at_ {xs ys : List PV} (h : PLet xs ys) : xs.length = ys.length ∧ ∀ (i : Nat) y, ys[i]? = some y → ∃ x, xs[i]? = some x ∧ PLe x y := by
  induction h with
  | nil => exact ⟨rfl, fun i y h => by simp at h⟩
  | cons h hs ih =>
    refine ⟨by simp [ih.1], fun i y hy => ?_⟩
    cases i with
    | zero => simp at hy; subst hy; exact ⟨_, rfl, h⟩
    | succ i => exact ih.2 i y hy
theorem PLe.refl (x : PV) : PLe x x := .one (.refl x)
section
variable {P : Program} {f : FuncId}
theorem Fn.weakT {args l l' : List PV} (h : Fn P f args (.tup l)) (hl : PLet l l') : Fn P f args (.tup l') :=
  fun M w vs a b c d => (h M w vs a b c d).mono fun e w' ⟨v, e1, ⟨us, e2, e3, e4⟩, e5⟩ => ⟨v, e1, ⟨us, e2, e3.trans hl.at_.1, fun i x u hx hu => by
    obtain ⟨y, hy, hle⟩ := hl.at_.2 i x hx
    exact hle.rep (e4 i y u hy hu)⟩, e5⟩
theorem Fn.weakA {args args' : List PV} {r : RV} (h : Fn P f args r) (hl : PLet args' args) : Fn P f args' r :=
  fun M w vs a b c d => h M w vs a b (c.trans hl.at_.1) fun i x v hx hv => by
    obtain ⟨y, hy, hle⟩ := hl.at_.2 i x hx
    exact hle.rep (d i y v hy hv)
end
end Go.Proofs.YtlfkofkdigmnpaaGreatDoor
/- Worlds: an access made, as a function; what an operation that steps alone does. -/
namespace Go.Proofs.YtlfkofkdigmnpaaGreatDoor
set_option maxRecDepth 100000
set_option maxHeartbeats 16000000
open Go Go.RowKit
set_option linter.unusedSimpArgs false
attribute [local irreducible] zZ zX Step zG Sub zP zM Fn
structure Wd where
  t : Int
  c : Int
  ws : List Int
  root : Int
  r0 : List (List Int × Int)
  r1 : List (List Int × Int)
def Wd.pv (w : Wd) : PV := xH w.t w.c w.ws w.root w.r0 w.r1
def bytOf : PV → List Int
  | .val (.int _ n) => [n]
  | _ => []
def bytsOf : PV → List Int
  | .sl es => es.flatMap bytOf
  | _ => []
theorem bytsOf_byts (bs : List Int) : bytsOf (.sl (byts bs)) = bs := by
  show (byts bs).flatMap bytOf = bs
  induction bs with
  | nil => rfl
  | cons b r ih => show bytOf _ ++ (byts r).flatMap bytOf = _; rw [ih]; rfl
/-- an access made; none where this says nothing of it -/
def doW (W : Wd) (me : Nat) (kind cell a b : Int) (bs : List Int) (fails : Bool) : Option (Wd × zO) :=
  if kind = 5 ∨ kind = 6 then
    if fails = true then some (W, ⟨0, yD, true⟩) else
      match W.r0[me]? with
      | some (d, s) => if W.root = 0 ∧ W.r0.length ≤ 1000000 ∧ d.length + bs.length ≤ 1000000 then
          some ({ W with r0 := W.r0.set me (if kind = 5 then (d ++ bs, s) else (d, (d.length : Int))) }, ⟨0, yD, false⟩) else none
      | none => none
  else if 0 ≤ kind ∧ kind < 4 ∧ 0 ≤ cell ∧ W.ws.length ≤ 1000000 then
    match W.ws[cell.toNat]? with
    | some old => if 0 ≤ (wV kind old a b).1 ∧ (wV kind old a b).1 < 18446744073709551616 then
        some ({ W with ws := W.ws.set cell.toNat (wV kind old a b).2 }, ⟨(wV kind old a b).1, yD, false⟩) else none
    | none => none
  else none
theorem resN_le (n : Int) (fl : Bool) : PLe (.agg [.val (.int .u64 n), .val (.slice none 0 0), .val (.bool fl)]) (resV ⟨n, yD, fl⟩) := .refl _
theorem doW_fn (W W' : Wd) (me : Nat) (kind cell a b : Int) (bs : List Int) (fails : Bool) (r : zO) (h : doW W me kind cell a b bs fails = some (W', r)) :
    Fn Tryz.prog 29 [W.pv, .val (.int .i64 me), xP kind cell a b (.sl (byts bs)), .val (.bool fails)] (.tup [W'.pv, resV r]) := by
  obtain ⟨t, c, ws, root, r0, r1⟩ := W
  unfold doW at h
  by_cases hk : kind = 5 ∨ kind = 6
  · rw [if_pos hk] at h
    cases fails with
    | true =>
      rw [if_pos rfl] at h
      injection h with h
      injection h with h1 h2
      subst h1 h2
      rcases hk with rfl | rfl
      · exact (doFail5_fn t c cell a b me root ws (.sl (byts bs)) r0 r1).weakT (.cons (.refl _) (.cons (resN_le 0 true) .nil))
      · exact (doFail6_fn t c cell a b me root ws (.sl (byts bs)) r0 r1).weakT (.cons (.refl _) (.cons (resN_le 0 true) .nil))
    | false =>
      rw [if_neg (by decide)] at h
      cases hr : r0[me]? with
      | none => rw [hr] at h; cases h
      | some p =>
        obtain ⟨d, s⟩ := p
        rw [hr] at h
        dsimp only at h
        split at h
        · next hc =>
          obtain ⟨hc0, hc1, hc2⟩ := hc
          injection h with h
          injection h with h1 h2
          subst h1 h2
          have e0 : root = 0 := hc0
          subst e0
          rcases hk with rfl | rfl
          · exact (doDisk50_fn t c cell a b 0 ws r0 r1 me d s bs (by decide) rfl hr hc1 hc2).weakT (.cons (.refl _) (.cons (resN_le 0 false) .nil))
          · exact (doDisk60_fn t c cell a b 0 ws r0 r1 me d s (.sl (byts bs)) (by decide) rfl hr hc1).weakT (.cons (.refl _) (.cons (resN_le 0 false) .nil))
        · cases h
  · rw [if_neg hk] at h
    split at h
    · next hc =>
      obtain ⟨hc0, hc1, hc2, hc3⟩ := hc
      cases hr : ws[cell.toNat]? with
      | none => rw [hr] at h; cases h
      | some old =>
        rw [hr] at h
        dsimp only at h
        split at h
        · injection h with h
          injection h with h1 h2
          subst h1 h2
          obtain ⟨i, rfl⟩ : ∃ i : Nat, cell = (i : Int) := ⟨cell.toNat, by omega⟩
          rw [Int.toNat_natCast] at hr
          have hk4 : kind = 0 ∨ kind = 1 ∨ kind = 2 ∨ kind = 3 := by omega
          rcases hk4 with rfl | rfl | rfl | rfl
          · exact (do0_fn t c a b old me root i ws (.sl (byts bs)) r0 r1 fails hr hc3).weakT (.cons (.refl _) (.cons (resN_le _ false) .nil))
          · exact (do1_fn t c a b old me root i ws (.sl (byts bs)) r0 r1 fails hr hc3).weakT (.cons (.refl _) (.cons (resN_le _ false) .nil))
          · exact (do2_fn t c a b old me root i ws (.sl (byts bs)) r0 r1 fails hr hc3).weakT (.cons (.refl _) (.cons (resN_le _ false) .nil))
          · exact (do3_fn t c a b old me root i ws (.sl (byts bs)) r0 r1 fails hr hc3).weakT (.cons (.refl _) (.cons (resN_le _ false) .nil))
        · cases h
    · cases h
theorem doW_keeps {W W' : Wd} {me : Nat} {kind cell a b : Int} {bs : List Int} {fails : Bool} {r : zO} (h : doW W me kind cell a b bs fails = some (W', r)) : W'.t = W.t ∧ W'.c = W.c ∧ 0 ≤ r.n ∧ r.n < 18446744073709551616 := by
  unfold doW at h
  split at h
  · split at h
    · injection h with h; injection h with h1 h2; subst h1 h2; exact ⟨rfl, rfl, by decide, by decide⟩
    · split at h
      · split at h
        · injection h with h; injection h with h1 h2; subst h1 h2; exact ⟨rfl, rfl, by decide, by decide⟩
        · cases h
      · cases h
  · split at h
    · split at h
      · split at h
        · next hc => injection h with h; injection h with h1 h2; subst h1 h2; exact ⟨rfl, rfl, hc.1, hc.2⟩
        · cases h
      · cases h
    · cases h
/-! ### What comes next, of a log that was told -/
theorem nextNeed_fn (L : List zO) (hL : yC L) (t c me k u v w : Int) (h : OpOK t k u v w) (q : Ned) (hq : opT t k u v w L 0 = .need q) :
    Fn Tryz.prog 7 [.val (.int .i64 t), .val (.int .i64 c), .val (.int .i64 me), opV k u v w, logV L] (.tup [xP q.kind q.cell q.a q.b (.sl (byts (bytsOf q.d))), outV 0 false 0 0, .val (.bool false)]) := by
  have h1 := saveNext_fn L hL t c me k u v w h
  rw [hq] at h1
  refine h1.weakT (.cons (.agg (.cons (.refl _) (.cons (.refl _) (.cons (.refl _) (.cons (.refl _) (.cons ?_ (.cons (.refl _) .nil))))))) (.cons (.refl _) (.cons (.refl _) .nil)))
  rcases (nice_op t k u v w L 0 q hq).2 with e | ⟨bs, e⟩
  · rw [e]; exact .nil
  · rw [e, bytsOf_byts]; exact .refl _
theorem nextDone_fn (L : List zO) (hL : yC L) (t c me k u v w : Int) (h : OpOK t k u v w) (o : OutI) (j : Nat) (hq : opT t k u v w L 0 = .done o j) :
    Fn Tryz.prog 7 [.val (.int .i64 t), .val (.int .i64 c), .val (.int .i64 me), opV k u v w, logV L] (.tup [xP 0 0 0 0 yD, outV o.e o.is 0 o.w, .val (.bool true)]) := by
  have h1 := saveNext_fn L hL t c me k u v w h
  rw [hq] at h1
  exact h1
/-! ### Stepping alone -/
def stepA (me : Nat) (k u v w : Int) (fail : List Bool) (i : Nat) (s : Wd × List zO) : Option (Wd × List zO) :=
  match opT s.1.t k u v w s.2 0 with
  | .need q => (doW s.1 me q.kind q.cell q.a q.b (bytsOf q.d) (fail.getD i false)).map fun p => (p.1, s.2 ++ [p.2])
  | .done _ _ => none
def seqA (W : Wd) (me : Nat) (k u v w : Int) (fail : List Bool) : Nat → Option (Wd × List zO)
  | 0 => some (W, [])
  | n + 1 => (seqA W me k u v w fail n).bind (stepA me k u v w fail n)
theorem stepA_keeps {me : Nat} {k u v w : Int} {fail : List Bool} {i : Nat} {s s' : Wd × List zO} (h : stepA me k u v w fail i s = some s') :
    ∃ q r, opT s.1.t k u v w s.2 0 = .need q ∧ doW s.1 me q.kind q.cell q.a q.b (bytsOf q.d) (fail.getD i false) = some (s'.1, r) ∧ s'.2 = s.2 ++ [r] := by
  unfold stepA at h
  cases ho : opT s.1.t k u v w s.2 0 with
  | done o j => rw [ho] at h; cases h
  | need q =>
    rw [ho] at h
    obtain ⟨p, hp, rfl⟩ := Option.map_eq_some_iff.1 h
    exact ⟨q, p.2, rfl, hp, rfl⟩
theorem seqA_keeps {W : Wd} {me : Nat} {k u v w : Int} {fail : List Bool} : ∀ {n : Nat} {s : Wd × List zO}, seqA W me k u v w fail n = some s → s.1.t = W.t ∧ s.1.c = W.c ∧ s.2.length = n ∧ ∀ r ∈ s.2, 0 ≤ r.n ∧ r.n < 18446744073709551616
  | 0, s, h => by
    injection h with h
    subst h
    exact ⟨rfl, rfl, rfl, fun r hr => by simp at hr⟩
  | n + 1, s, h => by
    unfold seqA at h
    obtain ⟨s1, h1, h2⟩ := Option.bind_eq_some_iff.1 h
    obtain ⟨ht, hc, hl, hr⟩ := seqA_keeps h1
    obtain ⟨q, r, _, hd, hs⟩ := stepA_keeps h2
    obtain ⟨h3, h4, h5, h6⟩ := doW_keeps hd
    refine ⟨h3.trans ht, h4.trans hc, by rw [hs, List.length_append, hl]; rfl, fun x hx => ?_⟩
    rw [hs] at hx
    rcases List.mem_append.1 hx with hx | hx
    · exact hr x hx
    · simp at hx; subst hx; exact ⟨h5, h6⟩
theorem seqA_some {W : Wd} {me : Nat} {k u v w : Int} {fail : List Bool} : ∀ {m : Nat} {s : Wd × List zO}, seqA W me k u v w fail m = some s → ∀ n, n ≤ m → ∃ s', seqA W me k u v w fail n = some s'
  | 0, s, h, n, hn => ⟨s, by rw [show n = 0 by omega]; exact h⟩
  | m + 1, s, h, n, hn => by
    rcases Nat.lt_or_ge m n with h1 | h1
    · exact ⟨s, by rw [show n = m + 1 by omega]; exact h⟩
    · have h' := h
      unfold seqA at h'
      obtain ⟨s1, h2, _⟩ := Option.bind_eq_some_iff.1 h'
      exact seqA_some h2 n h1
end Go.Proofs.YtlfkofkdigmnpaaGreatDoor
/- A region that draws its order, of which some operations may come late. Generic over the program. -/
namespace Go.Proofs.YtlfkofkdigmnpaaGreatDoor
set_option maxRecDepth 100000
set_option maxHeartbeats 16000000
open Go Go.RowKit
attribute [local semireducible] xX wB Draws
/-- as schedB; some of the first m may come behind others -/
def schedL (l : List Oper) (m : Nat) (bss : List (List Nat)) (late : List Nat) : Bool :=
  decide (m ≤ l.length) && ((List.range l.length).all fun i => match l[i]? with
    | some o => o.after.toList.all fun e => !Region.binds .any e || decide (e.on < i)
    | none => true) &&
  ((List.range m).all fun i => (List.range m).all fun j =>
    (i == j || y9 l i != y9 l j) && (y9 l i).isSome && (decide (i < j) || !(ord l i j)) &&
    (match y9 l j with
     | some t => (!(readsOf l i).contains t || i == j || (decide (j < i) && ord l j i) || (decide (i < j) && ord l i j)) && (!(bss.getD i []).contains t || (decide (j < i) && ord l j i))
     | none => true)) &&
  ((List.range l.length).all fun t => decide (t < m) || (List.range m).all fun j => ord l j t || late.contains j)
structure SchedL (l : List Oper) (xs : List AI) (late : List Nat) : Prop where
  len : xs.length ≤ l.length
  back : ∀ (i : Nat) (o : Oper), l[i]? = some o → ∀ e ∈ o.after.toList, Region.binds .any e = true → e.on < i
  one : ∀ i j, i < xs.length → j < xs.length → y9 l i = y9 l j → i = j
  has : ∀ i, i < xs.length → (y9 l i).isSome = true
  fwd : ∀ i j, i < xs.length → j < xs.length → ord l i j = true → i < j
  reads : ∀ i j t, i < xs.length → j < xs.length → y9 l j = some t → t ∈ readsOf l i → i = j ∨ (j < i ∧ ord l j i = true) ∨ (i < j ∧ ord l i j = true)
  blks : ∀ i j t x, i < xs.length → j < xs.length → y9 l j = some t → xs[i]? = some x → t ∈ x.bs → j < i ∧ ord l j i = true
  tail : ∀ t, xs.length ≤ t → t < l.length → ∀ j, j < xs.length → ord l j t = true ∨ late.contains j = true
theorem SchedL.of {l : List Oper} {xs : List AI} {late : List Nat} (h : schedL l xs.length (xs.map (·.bs)) late = true) : SchedL l xs late := by
  unfold schedL at h
  simp only [Bool.and_eq_true, List.all_eq_true, List.mem_range, decide_eq_true_eq, Bool.or_eq_true] at h
  obtain ⟨⟨⟨h1, h2⟩, h3⟩, h4⟩ := h
  refine ⟨h1, fun i o ho e he hb => ?_, fun i j hi hj he => ?_, fun i hi => ?_, fun i j hi hj ho => ?_, fun i j t hi hj hd ht => ?_, fun i j t x hi hj hd hx ht => ?_, fun t ht htl j hj => ?_⟩
  · have hi : i < l.length := (List.getElem?_eq_some_iff.1 ho).1
    have := h2 i hi
    rw [ho] at this
    simp only [List.all_eq_true, Bool.or_eq_true, decide_eq_true_eq, Bool.not_eq_true'] at this
    rcases this e he with h5 | h5
    · rw [hb] at h5; cases h5
    · exact h5
  · have := (h3 i hi j hj).1.1.1
    rcases this with h5 | h5
    · simpa using h5
    · simp [he] at h5
  · exact (h3 i hi i hi).1.1.2
  · rcases (h3 i hi j hj).1.2 with h5 | h5
    · exact h5
    · simp [ho] at h5
  · have := (h3 i hi j hj).2
    rw [hd] at this
    simp only [Bool.and_eq_true, Bool.or_eq_true, decide_eq_true_eq, beq_iff_eq] at this
    rcases this.1 with ((h5 | h5) | h5) | h5
    · simp [ht] at h5
    · exact .inl h5
    · exact .inr (.inl h5)
    · exact .inr (.inr h5)
  · have := (h3 i hi j hj).2
    rw [hd] at this
    simp only [Bool.and_eq_true, Bool.or_eq_true, decide_eq_true_eq, beq_iff_eq] at this
    rcases this.2 with h5 | h5
    · exfalso
      have e : (List.map (fun x : AI => x.bs) xs).getD i [] = x.bs := by simp [List.getD_eq_getElem?_getD, hx]
      rw [e] at h5
      simp [ht] at h5
    · exact h5
  · rcases h4 t htl with h5 | h5
    · omega
    · exact h5 j hj
theorem Apart.ofL {l : List Oper} {xs : List AI} {late : List Nat} {S0 : AS} (hs : SchedL l xs late) (h : madeB l xs S0 = true) : Apart l xs S0 := by
  have hd' : ∀ {i : Nat} {o : Oper}, l[i]? = some o → y9 l i = o.dst := fun {i o} ho => by simp [y9, ho]
  have hlt : ∀ {i : Nat} {x : AI}, xs[i]? = some x → i < xs.length := fun {i x} hx => (List.getElem?_eq_some_iff.1 hx).1
  have main : ∀ (i : Nat) (o : Oper) (x : AI) (d : Nat), l[i]? = some o → xs[i]? = some x → o.dst = some d → x.nb ≠ none → noRef d S0 = true ∧ ∀ (k : Nat) (x' : AI), xs[k]? = some x' →
      (ord l i k = true ∧ i ≠ k) ∨ ((i = k ∨ freeOf d x'.av = true) ∧ ∀ b, x'.nb = some b → freeOfB d b = true) := by
    intro i o x d ho hx hd hnb
    unfold madeB at h
    rw [List.all_eq_true] at h
    have h1 := h i (List.mem_range.2 (hlt hx))
    rw [hx, hd' ho, hd] at h1
    obtain ⟨b, hb⟩ := Option.ne_none_iff_exists'.1 hnb
    obtain ⟨bs, av, nb⟩ := x
    simp only at hb
    subst hb
    simp only [Bool.and_eq_true, List.all_eq_true, List.mem_range, Bool.or_eq_true] at h1
    refine ⟨h1.1, fun k x' hx' => ?_⟩
    have h2 := h1.2 k (hlt hx')
    rw [hx'] at h2
    rcases h2 with h2 | h2
    · exact .inl ⟨h2.1, by simpa using h2.2⟩
    · right
      simp only [Bool.and_eq_true, Bool.or_eq_true, beq_iff_eq] at h2
      refine ⟨h2.1, fun b' hb' => ?_⟩
      have h3 := h2.2
      rw [hb'] at h3
      exact h3
  refine ⟨fun i j o o' x x' d ho ho' hx hx' hd hd2 => hs.one i j (hlt hx) (hlt hx') (by rw [hd' ho, hd' ho', hd, hd2]), fun i k o x x' d ho hx hx' hd hnb => (main i o x d ho hx hd hnb).2 k x' hx', fun i o x d ho hx hd hnb => (main i o x d ho hx hd hnb).1, fun i o x ho hx => ?_⟩
  have := hs.has i (hlt hx)
  rw [hd' ho] at this
  exact Option.isSome_iff_exists.1 this
/-- What an operation that may come up reads is as it is where the text comes to it. -/
theorem Agr.readsL {l : List Oper} {xs : List AI} {late : List Nat} {S0 S2 Si : AS} {listed : Array Bool} (hs : SchedL l xs late) (hc : Closed l listed) {i : Nat} {x : AI} (hr : i ∈ Region.ready .any l.toArray listed)
    (hx : xs[i]? = some x) (h : Agr l xs S0 (Done listed) S2) (h' : Agr l xs S0 (fun k => k < i) Si) :
    (∀ t ∈ readsOf l i, S2.tmp t = Si.tmp t) ∧ ∀ id ∈ x.bs, S2.blk id = Si.blk id := by
  have hix : i < xs.length := (List.getElem?_eq_some_iff.1 hx).1
  have hnd := (yP hr).2.1
  have hil := (yP hr).1
  have hd' : ∀ {k : Nat} {ok : Oper}, l[k]? = some ok → y9 l k = ok.dst := fun {k ok} hk => by simp [y9, hk]
  refine ⟨fun t ht => ?_, fun id hid => ?_⟩
  · have iff : ∀ (k : Nat) (ok : Oper) (xk : AI), l[k]? = some ok → xs[k]? = some xk → ok.dst = some t → (Done listed k ↔ k < i) := by
      intro k ok xk h1 h2 h3
      have hkx : k < xs.length := (List.getElem?_eq_some_iff.1 h2).1
      rcases hs.reads i k t hix hkx (by rw [hd' h1, h3]) ht with h4 | ⟨h4, h5⟩ | ⟨h4, h5⟩
      · subst h4; exact ⟨fun h => (hnd h).elim, fun h => by omega⟩
      · exact ⟨fun _ => h4, fun _ => hc.ready_ord hr h5⟩
      · refine ⟨fun h => (hnd ?_).elim, fun h => by omega⟩
        exact hc.ord (k + 1) k i (by omega) (Nat.lt_of_lt_of_le hkx hs.len) h h5
    by_cases hex : ∃ (k : Nat) (ok : Oper) (xk : AI), l[k]? = some ok ∧ xs[k]? = some xk ∧ Done listed k ∧ ok.dst = some t
    · obtain ⟨k, ok, xk, h1, h2, h3, h4⟩ := hex
      rw [h.t1 k ok xk t h1 h2 h3 h4, h'.t1 k ok xk t h1 h2 ((iff k ok xk h1 h2 h4).1 h3) h4]
    · rw [h.t2 t fun k ok xk h1 h2 h3 h4 => hex ⟨k, ok, xk, h1, h2, h3, h4⟩, h'.t2 t fun k ok xk h1 h2 h3 h4 => hex ⟨k, ok, xk, h1, h2, (iff k ok xk h1 h2 h4).2 h3, h4⟩]
  · have iff : ∀ (k : Nat) (ok : Oper) (xk : AI), l[k]? = some ok → xs[k]? = some xk → ok.dst = some id → (Done listed k ∧ k < i) := by
      intro k ok xk h1 h2 h3
      have hkx : k < xs.length := (List.getElem?_eq_some_iff.1 h2).1
      obtain ⟨h4, h5⟩ := hs.blks i k id x hix hkx (by rw [hd' h1, h3]) hx hid
      exact ⟨hc.ready_ord hr h5, h4⟩
    by_cases hex : ∃ (k : Nat) (ok : Oper) (xk : AI), l[k]? = some ok ∧ xs[k]? = some xk ∧ xk.nb ≠ none ∧ ok.dst = some id
    · obtain ⟨k, ok, xk, h1, h2, h4, h5⟩ := hex
      obtain ⟨b, hb⟩ := Option.ne_none_iff_exists'.1 h4
      obtain ⟨h6, h7⟩ := iff k ok xk h1 h2 h5
      rw [h.b1 k ok xk id b h1 h2 h6 h5 hb, h'.b1 k ok xk id b h1 h2 h7 h5 hb]
    · rw [h.b2 id fun k ok xk h1 h2 _ h4 h5 => hex ⟨k, ok, xk, h1, h2, h4, h5⟩, h'.b2 id fun k ok xk h1 h2 _ h4 h5 => hex ⟨k, ok, xk, h1, h2, h4, h5⟩]
theorem ready_or_allL {l : List Oper} {xs : List AI} {late : List Nat} {listed : Array Bool} (hs : SchedL l xs late) (hc : Closed l listed) : Region.ready .any l.toArray listed ≠ [] ∨ ∀ i, i < l.length → Done listed i := by
  by_cases hall : ∀ i, i < l.length → Done listed i
  · exact .inr hall
  · left
    have hex : ∃ i, i < l.length ∧ ¬ Done listed i := by
      apply Classical.byContradiction
      intro h
      exact hall fun i hi => Classical.byContradiction fun hn => h ⟨i, hi, hn⟩
    -- the least that is not done may come up
    have least : ∃ i, i < l.length ∧ ¬ Done listed i ∧ ∀ j, j < i → Done listed j := by
      obtain ⟨i, hi, hn⟩ := hex
      induction i using Nat.strongRecOn with
      | _ i ih =>
        by_cases h : ∀ j, j < i → Done listed j
        · exact ⟨i, hi, hn, h⟩
        · obtain ⟨j, hj, hnj⟩ : ∃ j, j < i ∧ ¬ Done listed j := by
            apply Classical.byContradiction
            intro h2
            exact h fun j hj => Classical.byContradiction fun hn => h2 ⟨j, hj, hn⟩
          exact ih j hj (by omega) hnj
    obtain ⟨i, hi, hn, hlow⟩ := least
    intro hnil
    have : i ∈ Region.ready .any l.toArray listed := by
      unfold Region.ready
      simp only [List.size_toArray, List.mem_filter, List.mem_range, Bool.and_eq_true, Bool.not_eq_true']
      refine ⟨hi, ?_, ?_⟩
      · unfold Done at hn
        have hil : i < listed.size := by rw [hc.size]; exact hi
        simp [hil] at hn ⊢
        exact hn
      · simp only [List.getElem?_toArray, List.getElem?_eq_getElem hi, Option.map_some, Option.getD_some]
        rw [Array.all_eq_true']
        intro e he
        by_cases hb : Region.binds .any e = true
        · have := hlow e.on (hs.back i l[i] (List.getElem?_eq_getElem hi) e (by simpa using he) hb)
          unfold Done at this
          simp [hb, this]
        · simp [Bool.not_eq_true] at hb; simp [hb]
    rw [hnil] at this
    cases this
theorem runA_agrL {P : Program} {n : Nat} {l : List Oper} {xs : List AI} {late : List Nat} {S0 : AS} (hs : SchedL l xs late) (hA : Apart l xs S0) :
    ∀ (m : Nat) (S : AS), m ≤ xs.length → Agr l xs S0 (fun k => k < m) S → AChain P n l S (l.drop m) (xs.drop m) →
      (∀ (i : Nat) (o : Oper) (x : AI), m ≤ i → l[i]? = some o → xs[i]? = some x → ∃ Si, Agr l xs S0 (fun k => k < i) Si ∧ GStep P n l Si o x) ∧ Agr l xs S0 (fun k => k < xs.length) (runA S (l.drop m) (xs.drop m)) := by
  intro m
  generalize hd : xs.length - m = d
  induction d generalizing m with
  | zero =>
    intro S hm hagr _
    have e : xs.length = m := by omega
    refine ⟨fun i o x hi ho hx => ?_, ?_⟩
    · have := (List.getElem?_eq_some_iff.1 hx).1; omega
    · rw [List.drop_eq_nil_of_le (by omega : xs.length ≤ m)]
      have : runA S (l.drop m) [] = S := by cases l.drop m <;> rfl
      rw [this, e]
      exact hagr
  | succ d ih =>
    intro S hm hagr hc
    have hmx : m < xs.length := by omega
    have hml : m < l.length := Nat.lt_of_lt_of_le hmx hs.len
    rw [List.drop_eq_getElem_cons hmx, List.drop_eq_getElem_cons hml] at hc
    obtain ⟨hg, hc⟩ := hc
    have ho : l[m]? = some l[m] := List.getElem?_eq_getElem hml
    have hx : xs[m]? = some xs[m] := List.getElem?_eq_getElem hmx
    have hst := hagr.step hA ho hx (by omega) (fun k hk hok => by
      have := hs.fwd m k hmx (by omega) hok
      omega)
    have e : (fun k => k = m ∨ k < m) = (fun k => k < m + 1) := by funext k; apply propext; omega
    rw [e] at hst
    obtain ⟨r1, r2⟩ := ih (m + 1) (by omega) (S.out l[m].dst xs[m].av xs[m].nb) (by omega) hst hc
    refine ⟨fun i o x hi ho' hx' => ?_, ?_⟩
    · by_cases him : i = m
      · subst him
        rw [ho] at ho'; rw [hx] at hx'
        obtain rfl := Option.some.inj ho'
        obtain rfl := Option.some.inj hx'
        exact ⟨S, hagr, hg⟩
      · exact r1 i o x (by omega) ho' hx'
    · rw [List.drop_eq_getElem_cons hmx, List.drop_eq_getElem_cons hml]
      exact r2
section
variable {P : Program} {n : Nat} {S : AS}
theorem xX.any {l : List Oper} {K : Exit → AS → Prop} {M : Nat → Nat → Prop} {w0 : Home} {Q : Exit → Act → World → Prop} (hK : ∀ e S' ρ' a' w', K (bare e) S' → Sat M n w0 S' ρ' a' w' → ExOK M S' ρ' w' e → Q e a' w') :
    ∀ (m : Nat) (listed : Array Bool) (done : List Nat) (S : AS) (ρ : Nat → Value) (a : Act) (w : World), listed.size = l.length → (∀ i, listed.getD i false = done.contains i) → xX P n l K m done S → Sat M n w0 S ρ a w → wpAny P .any l.toArray Q m listed a w := by
  intro m
  induction m with
  | zero =>
    intro listed done S ρ a w hz hl hd hs
    refine ⟨List.eq_nil_iff_forall_not_mem.2 fun i hi => ?_, hK .normal S ρ a w hd.2 hs trivial⟩
    have := (readyD_iff hz hl i).1 hi
    rw [hd.1] at this
    simp at this
  | succ m ih =>
    intro listed done S ρ a w hz hl hd hs
    refine ⟨fun hnil => ?_, fun i hi => ?_⟩
    · obtain ⟨j, hj⟩ := List.exists_mem_of_ne_nil _ hd.1
      have := (readyD_iff hz hl j).2 hj
      rw [hnil] at this
      simp at this
    · obtain ⟨hil, _, _⟩ := yP hi
      obtain ⟨o, ho, hg, ht⟩ := hd.2 i ((readyD_iff hz hl i).1 hi)
      unfold wpOp
      simp only [List.getElem?_toArray, ho]
      rw [if_pos (by simp [Region.wanted, hg])]
      refine .inl (ht M w0 ρ a w _ Q hs (fun S1 ρ' a' w' hd1 hs' => ?_) hK)
      refine ih _ _ S1 ρ' a' w' (by simp [hz]) (fun k => ?_) hd1 hs'
      simp only [Array.getD_eq_getD_getElem?, Array.getElem?_setIfInBounds, List.contains_cons]
      by_cases hik : i = k
      · subst hik
        simp [hz, hil]
      · have : (k == i) = false := by simpa using fun e => hik e.symm
        rw [if_neg hik, this, Bool.false_or, ← hl k, Array.getD_eq_getD_getElem?]
def subs1 : List Nat → List (List Nat)
  | [] => []
  | a :: r => subs1 r ++ ([a] :: (subs1 r).map (a :: ·))
theorem filter_subs1 (p : Nat → Bool) : ∀ l : List Nat, l.filter p = [] ∨ l.filter p ∈ subs1 l
  | [] => .inl rfl
  | a :: r => by
    rw [List.filter_cons]
    by_cases h : p a = true
    · rw [if_pos h]
      right
      unfold subs1
      rcases filter_subs1 p r with h1 | h1
      · rw [h1]; exact List.mem_append.2 (.inr (List.mem_cons_self ..))
      · exact List.mem_append.2 (.inr (List.mem_cons_of_mem _ (List.mem_map.2 ⟨_, h1, rfl⟩)))
    · rw [if_neg h]
      rcases filter_subs1 p r with h1 | h1
      · exact .inl h1
      · right
        unfold subs1
        exact List.mem_append.2 (.inl h1)
/-- the frame behind the first operations, without some -/
def runX : Nat → List Nat → AS → List Oper → List AI → AS
  | i, X, S, o :: os, x :: xs => runX (i + 1) X (bif X.contains i then S else S.out o.dst x.av x.nb) os xs
  | _, _, S, _, _ => S
def vW (m : Nat) (X : List Nat) : List Nat := (List.range m).filter fun i => !X.contains i
def restX (l : List Oper) (done : List Nat) : List Nat := (List.range l.length).filter fun i => !done.contains i
theorem doneX_iff {m : Nat} {X : List Nat} {i : Nat} : i ∈ vW m X ↔ i < m ∧ X.contains i = false := by
  unfold vW
  rw [List.mem_filter, List.mem_range, Bool.not_eq_true']
theorem left_done {l : List Oper} {listed : Array Bool} {done : List Nat} (hz : listed.size = l.length) (h : ∀ i, listed.getD i false = done.contains i) : left listed = (restX l done).length := by
  unfold left restX
  rw [List.countP_eq_length_filter, hz]
  congr 1
  exact List.filter_congr fun i _ => by rw [h i]
theorem runX_agr {l : List Oper} {xs : List AI} {late : List Nat} {S0 : AS} (hs : SchedL l xs late) (hA : Apart l xs S0) (X : List Nat) :
    ∀ (m : Nat) (S : AS), m ≤ xs.length → Agr l xs S0 (fun k => k < m ∧ X.contains k = false) S → Agr l xs S0 (fun k => k < xs.length ∧ X.contains k = false) (runX m X S (l.drop m) (xs.drop m)) := by
  intro m
  generalize hd : xs.length - m = d
  induction d generalizing m with
  | zero =>
    intro S hm hagr
    have e : xs.length = m := by omega
    rw [List.drop_eq_nil_of_le (by omega : xs.length ≤ m)]
    have : runX m X S (l.drop m) [] = S := by cases l.drop m <;> rfl
    rw [this, e]
    exact hagr
  | succ d ih =>
    intro S hm hagr
    have hmx : m < xs.length := by omega
    have hml : m < l.length := Nat.lt_of_lt_of_le hmx hs.len
    rw [List.drop_eq_getElem_cons hmx, List.drop_eq_getElem_cons hml]
    have ho : l[m]? = some l[m] := List.getElem?_eq_getElem hml
    have hx : xs[m]? = some xs[m] := List.getElem?_eq_getElem hmx
    unfold runX
    refine ih (m + 1) (by omega) _ (by omega) ?_
    cases hX : X.contains m with
    | true =>
      have e : (fun k => k < m ∧ X.contains k = false) = (fun k => k < m + 1 ∧ X.contains k = false) := by
        funext k; apply propext
        constructor
        · rintro ⟨h1, h2⟩; exact ⟨by omega, h2⟩
        · rintro ⟨h1, h2⟩
          refine ⟨?_, h2⟩
          rcases Nat.lt_or_ge k m with h | h
          · exact h
          · have : k = m := by omega
            subst this
            rw [hX] at h2; cases h2
      rw [← e]
      exact hagr
    | false =>
      have hst := hagr.step hA ho hx (by omega) (fun k hk hok => by
        have := hs.fwd m k hmx (by omega) hok
        omega)
      have e : (fun k => k = m ∨ (k < m ∧ X.contains k = false)) = (fun k => k < m + 1 ∧ X.contains k = false) := by
        funext k; apply propext
        constructor
        · rintro (h | ⟨h1, h2⟩)
          · subst h; exact ⟨by omega, hX⟩
          · exact ⟨by omega, h2⟩
        · rintro ⟨h1, h2⟩
          rcases Nat.lt_or_ge k m with h | h
          · exact .inr ⟨h, h2⟩
          · exact .inl (by omega)
      rw [e] at hst
      exact hst
/-- A region that draws its order, of which some operations may come late. -/
theorem zX.drawL {id : Nat} {l : List Oper} {K : Exit → AS → Prop} (xs : List AI) (late : List Nat) (hm : P.follows .mixedOrders = true) (hsch : schedL l xs.length (xs.map (·.bs)) late = true) (hmade : madeB l xs S = true)
    (hch : AChain P n l S l xs) (h0 : xX P n l K (restX l (vW xs.length [])).length (vW xs.length []) (runA S l xs))
    (h1 : ∀ X ∈ subs1 late, xX P n l K (restX l (vW xs.length X)).length (vW xs.length X) (runX 0 X S l xs)) : zX P n (.region id l.toArray true) S K := by
  have hS := SchedL.of hsch
  have hA := Apart.ofL hS hmade
  intro M w0 ρ a w Q hs hK
  have start : Agr l xs S (fun k => k < 0) S := ⟨fun i o x d _ _ h => by omega, fun _ _ => rfl, fun i o x d b _ _ h => by omega, fun _ _ => rfl⟩
  have startX : ∀ X : List Nat, Agr l xs S (fun k => k < 0 ∧ X.contains k = false) S := fun X => ⟨fun i o x d _ _ h => by omega, fun _ _ => rfl, fun i o x d b _ _ h => by omega, fun _ _ => rfl⟩
  obtain ⟨hgs, hfin⟩ := runA_agrL hS hA 0 S (by omega) start hch
  have tailD : ∀ (fuel : Nat) (listed : Array Bool) (S2 : AS) (ρ : Nat → Value) (a : Act) (w : World), Closed l listed → (∀ i, xs.length ≤ i → i < l.length → ¬ Done listed i) → (∀ i, i < xs.length → Done listed i ∨ late.contains i = true) → Agr l xs S (Done listed) S2 → left listed = fuel →
      Sat M n w0 S2 ρ a w → wpAny P .any l.toArray Q fuel listed a w := by
    intro fuel listed S2 ρ a w hc htl hnl hagr hl hsat
    let X := late.filter fun i => !(listed.getD i false)
    have hX : ∀ i, i < xs.length → (Done listed i ↔ X.contains i = false) := by
      intro i hi
      have e : X.contains i = true ↔ late.contains i = true ∧ ¬ Done listed i := by
        simp only [X, List.contains_iff_mem, List.mem_filter, Bool.not_eq_true', Done]
        simp
      constructor
      · intro h
        apply Bool.eq_false_iff.2
        intro h2
        exact (e.1 h2).2 h
      · intro h
        rcases hnl i hi with h2 | h2
        · exact h2
        · apply Classical.byContradiction
          intro h3
          rw [e.2 ⟨h2, h3⟩] at h
          cases h
    have hlt : ∀ k, Done listed k → k < xs.length := by
      intro k hk
      apply Classical.byContradiction
      intro h
      rcases Nat.lt_or_ge k l.length with h2 | h2
      · exact htl k (by omega) h2 hk
      · unfold Done at hk
        simp [Array.getD_eq_getD_getElem?, Array.getElem?_eq_none (by rw [hc.size]; omega : listed.size ≤ k)] at hk
    have hdone : ∀ i, listed.getD i false = (vW xs.length X).contains i := by
      intro i
      have h2 : Done listed i ↔ i ∈ vW xs.length X := by
        rw [doneX_iff]
        exact ⟨fun h => ⟨hlt i h, (hX i (hlt i h)).1 h⟩, fun h => (hX i h.1).2 h.2⟩
      unfold Done at h2
      rw [Bool.eq_iff_iff, h2, List.contains_iff_mem]
    have eD : Done listed = fun k => k < xs.length ∧ X.contains k = false := by
      funext k; apply propext
      exact ⟨fun h => ⟨hlt k h, (hX k (hlt k h)).1 h⟩, fun h => (hX k h.1).2 h.2⟩
    have hfuel := left_done hc.size hdone
    rw [hl] at hfuel
    rw [hfuel]
    rcases filter_subs1 (fun i => !(listed.getD i false)) late with h | h
    · have eX : X = [] := h
      rw [eX] at eD hdone ⊢
      refine xX.any hK _ listed _ (runA S l xs) ρ a w hc.size hdone h0 (hsat.same (hagr.same ?_))
      rw [eD]
      have e : (fun k => k < xs.length) = (fun k => k < xs.length ∧ ([] : List Nat).contains k = false) := by
        funext k; apply propext; simp
      rw [← e]
      exact hfin
    · refine xX.any hK _ listed _ (runX 0 X S l xs) ρ a w hc.size hdone (h1 X h) (hsat.same (hagr.same ?_))
      rw [eD]
      exact runX_agr hS hA X 0 S (by omega) (startX X)
  have main1 : ∀ (fuel : Nat) (listed : Array Bool) (S2 : AS) (ρ : Nat → Value) (a : Act) (w : World), Closed l listed → (∀ i, xs.length ≤ i → i < l.length → ¬ Done listed i) → Agr l xs S (Done listed) S2 → left listed = fuel →
      Sat M n w0 S2 ρ a w → wpAny P .any l.toArray Q fuel listed a w := by
    intro fuel
    induction fuel with
    | zero =>
      intro listed S2 ρ a w hc htl hagr hl hsat
      refine tailD 0 listed S2 ρ a w hc htl (fun i hi => .inl ?_) hagr hl hsat
      apply Classical.byContradiction
      intro hn
      have := left_set (listed := listed) (by rw [hc.size]; exact Nat.lt_of_lt_of_le hi hS.len) hn
      omega
    | succ fuel ih =>
      intro listed S2 ρ a w hc htl hagr hl hsat
      by_cases hallA : ∀ i, i < xs.length → Done listed i ∨ late.contains i = true
      · exact tailD (fuel + 1) listed S2 ρ a w hc htl hallA hagr hl hsat
      · refine ⟨fun hnil => ?_, fun i hi => ?_⟩
        · rcases ready_or_allL hS hc with h | h
          · exact (h hnil).elim
          · exact (hallA fun i hi => .inl (h i (Nat.lt_of_lt_of_le hi hS.len))).elim
        · obtain ⟨hil, hnd, o, hoi, _⟩ := yP hi
          have hix : i < xs.length := by
            apply Classical.byContradiction
            intro h
            exact hallA fun j hj => (hS.tail i (by omega) hil j hj).imp (fun h2 => hc.ready_ord hi h2) (fun h2 => h2)
          have hx : xs[i]? = some xs[i] := List.getElem?_eq_getElem hix
          obtain ⟨Si, hagi, hgst⟩ := hgs i o xs[i] (by omega) hoi hx
          obtain ⟨hrt, hrb⟩ := Agr.readsL hS hc hi hx hagr hagi
          have hget : ∀ y ∈ o.op.operands.toList, S2.get y = Si.get y := by
            intro y hy
            cases y with
            | tmp t => exact hrt t (readsOf_operand hoi hy)
            | _ => rfl
          have hnext := hagr.step hA hoi hx hnd (fun k hk hok => hnd (hc.ord (k + 1) k i (by omega) (by
            apply Classical.byContradiction
            intro h
            unfold Done at hk
            simp [Array.getD_eq_getD_getElem?, Array.getElem?_eq_none (by rw [hc.size]; omega : listed.size ≤ k)] at hk) hk hok))
          have cont : ∀ ρ' a' w', Sat M n w0 (S2.out o.dst xs[i].av xs[i].nb) ρ' a' w' → wpAny P .any l.toArray Q fuel (listed.setIfInBounds i true) a' w' := by
            intro ρ' a' w' hs'
            refine ih _ _ ρ' a' w' (hc.set hi) (fun k hk hkl hdk => ?_) ?_ ?_ hs'
            · rw [done_set (by rw [hc.size]; exact hil)] at hdk
              rcases hdk with h | h
              · omega
              · exact htl k hk hkl h
            · have e : (fun k => k = i ∨ Done listed k) = Done (listed.setIfInBounds i true) := by
                funext k
                apply propext
                rw [done_set (by rw [hc.size]; exact hil)]
                constructor
                · rintro (h | h)
                  · exact .inl h.symm
                  · exact .inr h
                · rintro (h | h)
                  · exact .inl h.symm
                  · exact .inr h
              rw [← e]
              exact hnext
            · have := left_set (listed := listed) (by rw [hc.size]; exact hil) hnd
              omega
          unfold wpOp
          simp only [List.getElem?_toArray, hoi]
          rcases hgst with ⟨hg, hast⟩ | ⟨j, want, t, b, hg, hdj, htn, hb, hcase⟩
          · rw [if_pos (by simp [Region.wanted, hg])]
            exact .inl (hast S2 hget hrb M w0 ρ a w _ Q hsat cont)
          · have hb2 : S2.tmp t = .p (.val b) := by rw [hrt t (readsOf_guard hoi hg hdj)]; exact hb
            have hw := hsat.wanted (ops := l.toArray) hg (by simpa [y9] using hdj) htn hb2
            rcases hcase with ⟨hbw, hast⟩ | ⟨hbw, hav, hnb, d, hd, hdn⟩
            · rw [if_pos (by rw [hw, hbw])]
              exact .inl (hast S2 hget hrb M w0 ρ a w _ Q hsat cont)
            · rw [if_neg (by rw [hw, hbw]; simp)]
              rw [hd]
              refine cont ρ _ w ?_
              rw [hd, hav, hnb]
              exact hsat.put_undef hdn
  refine wp_region_any hm ?_
  refine main1 _ _ S ρ a _ ⟨by simp, fun i o hi hd => ?_⟩ (fun i _ _ hd => ?_) ⟨fun i o x d _ _ h => ?_, fun _ _ => rfl, fun i o x d b _ _ h => ?_, fun _ _ => rfl⟩ ?_ (hs.ext ((Below.refl _ _).drew))
  · unfold Done at hd; rw [getD_replicate_false] at hd; cases hd
  · unfold Done at hd; rw [getD_replicate_false] at hd; cases hd
  · unfold Done at h; rw [getD_replicate_false] at h; cases h
  · unfold Done at h; rw [getD_replicate_false] at h; cases h
  · unfold left
    simp only [Array.size_replicate, List.size_toArray]
    have : ∀ k ∈ List.range l.length, (!((Array.replicate l.length false).getD k false)) = true := fun k _ => by rw [getD_replicate_false]; rfl
    rw [List.countP_eq_length.2 this, List.length_range]
def LEach (p : List Nat → Prop) : List (List Nat) → Prop
  | [] => True
  | X :: r => p X ∧ LEach p r
theorem LEach.all {p : List Nat → Prop} : ∀ {rs : List (List Nat)}, LEach p rs → ∀ X ∈ rs, p X
  | [], _, i, hi => by simp at hi
  | j :: r, h, i, hi => by
    rcases List.mem_cons.1 hi with rfl | hi
    · exact h.1
    · exact LEach.all h.2 i hi
theorem LEach.nil {p : List Nat → Prop} : LEach p [] := trivial
theorem LEach.cons {p : List Nat → Prop} {X : List Nat} {r : List (List Nat)} (h : p X) (hr : LEach p r) : LEach p (X :: r) := ⟨h, hr⟩
theorem Draws.late {id : Nat} {l os : List Oper} {S0 S : AS} {K : Exit → AS → Prop} {rev : List AI} (late : List Nat) (hm : P.follows .mixedOrders = true) (hsch : schedL l rev.reverse.length (rev.reverse.map (·.bs)) late = true) (hmade : madeB l rev.reverse S0 = true)
    (h0 : xX P n l K (restX l (vW rev.reverse.length [])).length (vW rev.reverse.length []) S) (h1 : LEach (fun X => xX P n l K (restX l (vW rev.reverse.length X)).length (vW rev.reverse.length X) (runX 0 X S0 l rev.reverse)) (subs1 late)) : Draws P n id l S0 K rev S os := by
  unfold Draws
  intro hc
  obtain ⟨c1, c2, c3⟩ := hc.chain
  exact zX.drawL _ late hm hsch hmade c1 (by rw [c2]; exact h0) h1.all
theorem Draws.late2 {id : Nat} {l os : List Oper} {S0 S : AS} {K : Exit → AS → Prop} {rev : List AI} (late : List Nat) (fu : Nat) (done : List Nat) (hm : P.follows .mixedOrders = true) (hsch : schedL l rev.reverse.length (rev.reverse.map (·.bs)) late = true) (hmade : madeB l rev.reverse S0 = true)
    (e1 : (restX l (vW rev.reverse.length [])).length = fu) (e2 : vW rev.reverse.length [] = done)
    (h0 : xX P n l K fu done S) (h1 : LEach (fun X => xX P n l K (restX l (vW rev.reverse.length X)).length (vW rev.reverse.length X) (runX 0 X S0 l rev.reverse)) (subs1 late)) : Draws P n id l S0 K rev S os :=
  Draws.late late hm hsch hmade (by rw [e1, e2]; exact h0) h1
theorem LEach.consD {l : List Oper} {S0 : AS} {K : Exit → AS → Prop} {xs : List AI} {X : List Nat} {r : List (List Nat)} {m : Nat} (fu : Nat) (done : List Nat) (e1 : (restX l (vW m X)).length = fu) (e2 : vW m X = done) (h : xX P n l K fu done (runX 0 X S0 l xs))
    (hr : LEach (fun X => xX P n l K (restX l (vW m X)).length (vW m X) (runX 0 X S0 l xs)) r) : LEach (fun X => xX P n l K (restX l (vW m X)).length (vW m X) (runX 0 X S0 l xs)) (X :: r) :=
  .cons (by rw [e1, e2]; exact h) hr
theorem xX.as {l : List Oper} {K : Exit → AS → Prop} {fu : Nat} {done : List Nat} {S : AS} (fu' : Nat) (done' : List Nat) (h1 : fu = fu') (h2 : done = done') (h : xX P n l K fu' done' S) : xX P n l K fu done S := by
  subst h1 h2
  exact h
end
end Go.Proofs.YtlfkofkdigmnpaaGreatDoor
/- An operation that steps alone: contract. -/
namespace Go.Proofs.YtlfkofkdigmnpaaGreatDoor
set_option maxRecDepth 100000
set_option maxHeartbeats 16000000
open Go Go.RowKit
set_option linter.unusedSimpArgs false
attribute [local irreducible] zZ zX Step zG Sub zP zM Fn
def bools (l : List Bool) : List PV := l.map fun b => .val (.bool b)
def aloneS (W : Wd) (L : List zO) (me : Nat) (k u v w : Int) (most : Int) (fail : List Bool) (n : Nat) : AS :=
  { t := [(1, .p (.val (.int .i64 me))), (3, .p (.val (.int .i64 most))), (4, .p (.sl (bools fail))), (5, .ptr 5 0), (7, .ptr 7 0), (10, .ptr 10 0), (11, .ptr 11 0), (12, .p (.val (.bool false))), (13, .own 13), (14, .p (.val (.int .i64 (n : Nat))))],
    s := [(5, .box 52 (W.pv.cells.map AV.p)), (7, .box 24 ((opV k u v w).cells.map AV.p)), (10, .box 52 ([.val (.int .i64 0), .val (.int .i64 0), yD, .val (.int .u64 0), yD, yD].map AV.p)),
      (11, .box 38 ((outV 0 false 0 0).cells.map AV.p)), (13, lentV 85 3 (L.map resV))] }
theorem alone_fn (W W' : Wd) (L' : List zO) (me : Nat) (k u v w : Int) (most : Nat) (fail : List Bool) (m : Nat) (o : OutI) (j : Nat) (hop : OpOK W.t k u v w) (hm : seqA W me k u v w fail m = some (W', L')) (ho : opT W'.t k u v w L' 0 = .done o j)
    (hmm : m ≤ most) (h1000 : most ≤ 1000) :
    Fn Tryz.prog 12 [W.pv, .val (.int .i64 me), opV k u v w, .val (.int .i64 most), .sl (bools fail)] (.tup [W'.pv, outV o.e o.is 0 o.w, .val (.bool true)]) := by
  obtain ⟨t, c, ws, root, r0, r1⟩ := W
  refine yI Tryz.func12 rfl Tryz.ntmps12 (Nat.le_of_ble_eq_true rfl) ?_
  repeat' ((refine zX.is ?_; first | refine zX.seq ?_ | (refine zX.isR (id := 0) ?_; refine zX.zV [0, 1, 2, 3, 4] [5, 7, 10, 11, 13, 15, 16, 18, 19, 62] (by repeat' first | exact zY.nil | apply zY.p rfl) (by repeat' first | exact zW.nil | apply zW.skip) ?_; (refine zZ.m rfl rfl (z8 rfl rfl rfl (by decide)) ?_); (refine zZ.m rfl rfl (z8 rfl rfl rfl (by decide)) ?_); (refine zZ.m rfl rfl (zC rfl (by decide) rfl (by decide)) ?_); (refine zZ.m rfl rfl (zC rfl (by decide) rfl (by decide)) ?_); (refine zZ.v rfl rfl (zK rfl rfl rfl (by decide)) ?_); refine zZ.nil ?_) | (refine zX.isR (id := 1) ?_; refine zX.zV [1, 3, 4, 5, 7, 10, 11, 12] [5, 7, 10, 11, 13, 15, 16, 18, 19, 62] (by repeat' first | exact zY.nil | apply zY.p rfl | apply zY.ptr rfl) (by repeat' first | exact zW.nil | apply zW.boxP rfl rfl | apply zW.skip) ?_; (refine zZ.v rfl rfl (zK rfl rfl rfl (by decide)) ?_); refine zZ.nil ?_) | (refine zX.isR (id := 2) ?_; refine zX.zV [1, 3, 4, 5, 7, 10, 11, 12, 13] [5, 7, 10, 11, 13, 15, 16, 18, 19, 62] (by repeat' first | exact zY.nil | apply zY.p rfl | apply zY.ptr rfl) (by repeat' first | exact zW.nil | apply zW.boxP rfl rfl | apply zW.skip) ?_; (refine zZ.v rfl rfl (zK rfl rfl rfl (by decide)) ?_); refine zZ.nil ?_) | refine zX.block ?_))
  have hz : seqA ⟨t, c, ws, root, r0, r1⟩ me k u v w fail 0 = some (⟨t, c, ws, root, r0, r1⟩, []) := rfl
  let st : Nat → Wd × List zO := fun n => (seqA ⟨t, c, ws, root, r0, r1⟩ me k u v w fail n).getD (⟨t, c, ws, root, r0, r1⟩, [])
  have hst : ∀ n, n ≤ m → seqA ⟨t, c, ws, root, r0, r1⟩ me k u v w fail n = some (st n) := fun n hn => by
    obtain ⟨s', h⟩ := seqA_some hm n hn
    show _ = some (Option.getD _ _)
    rw [h]
    rfl
  refine zX.loop (fun n => aloneS (st n).1 (st n).2 me k u v w most fail n) (fun n => n ≤ m) (fun n => most + 1 - n) 0 ?h0 (Nat.zero_le _) ?rd
  case h0 =>
    refine (sub_adopt (d := 13) (id := 13) (ty := 85) (sz := 3) (by decide) rfl).trans ?_
    refine (wT (id := 13) (b := .row 85 3 0 []) (b' := rowV 85 3 []) (by rfl) (rowV_alike 85 3 [])).sub.trans ?_
    refine (sub_lend (id := 13) (e := 85) (sz := 3) (es := []) (by rfl)).trans ?_
    refine yY (is := [1, 3, 4, 5, 7, 10, 11, 12, 13, 14]) (js := [5, 7, 10, 11, 13]) ?_ ?_
    repeat' first | exact zY.nil | apply zY.p rfl | apply zY.ptr rfl | apply zY.own rfl | apply zY.clo rfl | apply zY.pt rfl | apply zY.tup rfl | apply zY.skip
    repeat' first | exact zW.nil | apply zW.boxP rfl rfl | apply zW.yH rfl | apply zW.some rfl | apply zW.skip
  case rd =>
    rintro n hn
    have hs := hst n hn
    obtain ⟨ht, hc, hl, hr⟩ := seqA_keeps hs
    generalize st n = s at hs ht hc hl hr ⊢
    obtain ⟨⟨t', c', ws', root', r0', r1'⟩, L⟩ := s
    have ht : t' = t := ht
    have hc : c' = c := hc
    subst ht hc
    change zX _ _ _ (aloneS ⟨t', c', ws', root', r0', r1'⟩ L me k u v w most fail n) _
    have g1 : decide ((n : Int) ≤ most) = true := decide_eq_true (by omega)
    repeat' ((refine zX.is ?_; first | refine zX.seq ?_ | (refine zX.isR (id := 3) ?_; refine zX.zV [1, 3, 4, 5, 7, 10, 11, 12, 13, 14, 15, 16, 17, 18, 19, 22, 39] [5, 7, 10, 11, 13, 15, 16, 18, 19, 62] (by repeat' first | exact zY.nil | apply zY.p rfl | apply zY.ptr rfl | apply zY.own rfl | apply zY.skip) (by repeat' first | exact zW.nil | apply zW.boxP rfl rfl | apply zW.some rfl | apply zW.skip) ?_; (refine zZ.v rfl rfl (zQ rfl rfl rfl (by decide)) ?_); (refine zZ.v rfl rfl (zQ rfl rfl rfl (by decide)) ?_); (refine zZ.v rfl rfl (by exact r_leq rfl rfl rfl (by exact g1) rfl (by decide)) ?_); refine zZ.nil ?_) | (refine zX.isR (id := 5) ?_; refine zX.zV [1, 3, 4, 5, 7, 10, 11, 12, 13, 14, 15, 16, 17, 18, 19, 22, 39] [5, 7, 10, 11, 13, 15, 16, 18, 19, 62] (by repeat' first | exact zY.nil | apply zY.p rfl | apply zY.ptr rfl | apply zY.own rfl | apply zY.skip) (by repeat' first | exact zW.nil | apply zW.boxP rfl rfl | apply zW.some rfl | apply zW.skip) ?_; all_goals (refine zZ.v rfl rfl (zJ rfl rfl rfl (by decide)) ?_); all_goals (refine zZ.v rfl rfl (zJ rfl rfl rfl (by decide)) ?_); all_goals (refine zZ.v rfl rfl (zA rfl rfl rfl (by rfl) rfl (by decide)) ?_); all_goals (refine zZ.v rfl rfl (zJ rfl rfl rfl (by decide)) ?_); all_goals (refine zZ.v rfl rfl (zJ rfl rfl rfl (by decide)) ?_); all_goals (refine zZ.v rfl rfl (zA rfl rfl rfl (by rfl) rfl (by decide)) ?_); all_goals (refine zZ.v rfl rfl (zQ rfl rfl rfl (by decide)) ?_); all_goals (refine zZ.v rfl rfl (zI rfl rfl rfl (by rfl) (by rfl) rfl (by decide)) ?_); all_goals (refine zZ.v rfl rfl (wH rfl rfl rfl (by decide)) ?_); all_goals (skip)) | refine zX.yE rfl (by first | assumption | with_reducible rfl) ?_ | refine zX.skip ?_ | refine zX.block ?_))
    refine zZ.sub (sub_view (d := 34) (id := 13) (e := 85) (sz := 3) (es := L.map resV) rfl rfl) ?_
    have hL : yC L := ⟨by have h : L.length = n := hl; omega, hr⟩
    have g2 : ∀ e ∈ [xP 0 0 0 0 yD], e.cells.length = 6 := fun e he => by simp at he; subst he; rfl
    rcases Nat.lt_or_ge n m with hnm | hnm
    · have hs1 : seqA ⟨t', c', ws, root, r0, r1⟩ me k u v w fail (n + 1) = some (st (n + 1)) := hst (n + 1) hnm
      have hs2 := hs1
      unfold seqA at hs2
      rw [hs] at hs2
      obtain ⟨q, r, hq, hd, hL2⟩ := stepA_keeps (s := (⟨t', c', ws', root', r0', r1'⟩, L)) hs2
      have c1 := nextNeed_fn L hL t' c' me k u v w hop q hq
      have c2 := doW_fn _ _ me q.kind q.cell q.a q.b _ _ r hd
      generalize hse : st (n + 1) = s2 at hs1 hs2 hd hL2 c2
      obtain ⟨W2, L2⟩ := s2
      have hL2 : L2 = L ++ [r] := hL2
      subst hL2
      have g3 : IntKind.i64.wrap ((n : Int) + 1) = ((n + 1 : Nat) : Int) := by rw [wrap_i64 _ (by omega)]; omega
      have g4 : ∀ e ∈ L.map resV, e.cells.length = 3 := resV_cells L
      have g5 : ∀ e ∈ [resV r], e.cells.length = 3 := fun e he => by simp at he; subst he; rfl
      have g10 : ((L.map resV).length + ([resV r] : List PV).length) * 40 ≤ 140737488355328 ∧ (L.map resV).length + ([resV r] : List PV).length ≤ maxLen := by
        have h : L.length = n := hl
        simp only [List.length_map, List.length_cons, List.length_nil, maxLen]
        omega
      rcases Nat.lt_or_ge n fail.length with hnf | hnf
      · have g6 : decide ((n : Int) < (bools fail).length) = true := decide_eq_true (by simp [bools]; omega)
        have g7 : (bools fail)[n]? = some (.val (.bool (fail.getD n false))) := by simp [bools, List.getD_eq_getElem?_getD, List.getElem?_eq_getElem hnf]
        have g8 : (0 : Int) ≤ (n : Int) ∧ (n : Int) < (bools fail).length := by simp [bools]; omega
        have g9 : ∀ e ∈ bools fail, e.cells.length = 1 := fun e he => by
          obtain ⟨x, _, rfl⟩ := List.mem_map.1 he
          rfl
        repeat' (first | (refine zZ.is ?_; first | refine zZ.nil ?_ | refine zZ.v rfl rfl (by first | exact zK rfl rfl rfl (by decide) | exact zF rfl rfl rfl rfl (by decide) | exact yO rfl rfl rfl (by decide) | exact yU (c1) rfl rfl rfl (by decide)) ?_ | refine zZ.m rfl rfl (zC rfl (by decide) rfl (by decide)) ?_ | refine zZ.w rfl (by exact zB rfl rfl rfl rfl rfl (by rfl) (by exact Nat.le_of_ble_eq_true rfl) rfl rfl) ?_) | (refine zX.is ?_; first | refine zX.seq ?_ | (refine zX.isR (id := 6) ?_; refine zX.zV [1, 3, 4, 5, 7, 10, 11, 12, 13, 14, 15, 16, 17, 18, 19, 22, 39] [5, 7, 10, 11, 13, 15, 16, 18, 19, 62] (by repeat' first | exact zY.nil | apply zY.p rfl | apply zY.ptr rfl | apply zY.own rfl | apply zY.skip) (by repeat' first | exact zW.nil | apply zW.boxP rfl rfl | apply zW.some rfl | apply zW.skip) ?_; (refine zZ.v rfl rfl (zQ rfl rfl rfl (by decide)) ?_); refine zZ.nil ?_) | (refine zX.isR (id := 8) ?_; refine zX.yA [1, 3, 4, 5, 7, 10, 11, 12, 13, 14, 15, 16, 17, 18, 19, 22, 39] [5, 7, 10, 11, 13, 15, 16, 18, 19, 62] (by repeat' first | exact zY.nil | apply zY.p rfl | apply zY.ptr rfl | apply zY.own rfl | apply zY.skip) (by repeat' first | exact zW.nil | apply zW.boxP rfl rfl | apply zW.some rfl | apply zW.skip) (zX.draws ?_); all_goals (refine Draws.v rfl rfl (zI rfl rfl rfl (by rfl) (by rfl) rfl (by decide)) ?_); all_goals (refine Draws.v rfl rfl (zQ rfl rfl rfl (by decide)) ?_); all_goals (refine Draws.v rfl rfl (zI rfl rfl rfl (by rfl) (by rfl) rfl (by decide)) ?_); all_goals (refine Draws.v rfl rfl (zQ rfl rfl rfl (by decide)) ?_); all_goals (refine Draws.v rfl rfl (zQ rfl rfl rfl (by decide)) ?_); all_goals (refine Draws.v rfl rfl (xE rfl rfl rfl (by decide)) ?_); all_goals (refine Draws.v rfl rfl (by exact yL rfl rfl rfl (by exact g6) rfl (by decide)) ?_); all_goals (refine Draws.v rfl rfl (zQ rfl rfl rfl (by decide)) ?_); all_goals (refine Draws.gY rfl rfl (by decide) rfl (by with_reducible rfl) rfl (zQ rfl rfl rfl (by decide)) ?_); all_goals (refine Draws.gY rfl rfl (by decide) rfl (by with_reducible rfl) rfl (zQ rfl rfl rfl (by decide)) ?_); all_goals (refine Draws.gY rfl rfl (by decide) rfl (by with_reducible rfl) rfl (by exact y8 rfl rfl rfl (by exact g9) (by exact g7) rfl (by decide)) ?_); all_goals (refine Draws.gY rfl rfl (by decide) rfl (by with_reducible rfl) rfl (wO rfl rfl rfl rfl (by decide)) ?_); all_goals (refine Draws.v rfl rfl (by exact zT rfl rfl (by with_reducible rfl) rfl rfl (by decide)) ?_); all_goals (refine Draws.v rfl rfl (by exact yU (c2) rfl rfl rfl (by decide)) ?_); all_goals (refine Draws.v rfl rfl (yO rfl rfl rfl (by decide)) ?_); all_goals (refine Draws.v rfl rfl (zF rfl rfl rfl rfl (by decide)) ?_); all_goals (refine Draws.v rfl rfl (zF rfl rfl rfl rfl (by decide)) ?_); all_goals (refine Draws.m rfl rfl (zC rfl (by decide) rfl (by decide)) ?_); all_goals (refine Draws.m rfl rfl (zC rfl (by decide) rfl (by decide)) ?_); all_goals (((refine Draws.late2 [16] 2 [0, 1, 2, 3, 4, 5, 6, 7, 8, 9, 10, 11, 12, 13, 14, 15, 16, 17, 18] (by kernel_rfl) (by kernel_rfl) (by kernel_rfl) (by kernel_rfl) (by kernel_rfl) ?_ (LEach.consD 3 [0, 1, 2, 3, 4, 5, 6, 7, 8, 9, 10, 11, 12, 13, 14, 15, 17, 18] (by kernel_rfl) (by kernel_rfl) ?_ LEach.nil)) <;> (repeat' (first | refine xX.many (by rfl) ?_ | refine xK.cons ?_ ?_ | exact xK.nil | refine wB.v rfl rfl rfl (zF rfl rfl rfl rfl (by decide)) ?_ | refine wB.w rfl rfl (by exact zB rfl rfl rfl rfl rfl (by rfl) (by exact Nat.le_of_ble_eq_true rfl) rfl rfl) ?_ | refine xX.fin (by rfl) ?_))))) | (refine zX.isR (id := 9) ?_; refine zX.zV [1, 3, 4, 5, 7, 10, 11, 12, 13, 14, 15, 16, 17, 18, 19, 22, 39] [5, 7, 10, 11, 13, 15, 16, 18, 19, 62] (by repeat' first | exact zY.nil | apply zY.p rfl | apply zY.ptr rfl | apply zY.own rfl) (by repeat' first | exact zW.nil | apply zW.boxP rfl rfl | apply zW.some rfl | apply zW.skip) ?_; (refine zZ.v rfl rfl (zI rfl rfl rfl (by rfl) (by rfl) rfl (by decide)) ?_); (refine zZ.w rfl (by exact zB rfl rfl rfl rfl rfl (by rfl) (by exact Nat.le_of_ble_eq_true rfl) rfl rfl) ?_); refine zZ.nil ?_) | (refine zX.isR (id := 10) ?_; refine zX.zV [1, 3, 4, 5, 7, 10, 11, 12, 13, 14, 15, 16, 17, 18, 19, 22, 39] [5, 7, 10, 11, 13, 15, 16, 18, 19, 62] (by repeat' first | exact zY.nil | apply zY.p rfl | apply zY.ptr rfl | apply zY.own rfl) (by repeat' first | exact zW.nil | apply zW.boxP rfl rfl | apply zW.some rfl | apply zW.skip) ?_; (refine zZ.v rfl rfl (wH rfl rfl rfl (by decide)) ?_); (refine zZ.v rfl rfl (zI rfl rfl rfl (by rfl) (by rfl) rfl (by decide)) ?_); (refine zZ.v rfl rfl (w_buildSl rfl (by decide) (by decide) (by decide) (by decide) (by rfl) (by rfl) (by rfl) (by rfl) (by rfl) (by rfl) (by rfl) rfl (by decide)) ?_); (refine zZ.w rfl (by exact s_appL rfl rfl rfl rfl (by exact g5) (by exact g10) rfl (by decide) rfl (by decide)) ?_); (refine zZ.v rfl rfl (y5 rfl rfl rfl (by decide)) ?_); refine zZ.nil ?_) | (refine zX.isR (id := 4) ?_; refine zX.zV [1, 3, 4, 5, 7, 10, 11, 12, 13, 14, 15, 16, 17, 18, 19, 22, 39] [5, 7, 10, 11, 13, 15, 16, 18, 19, 62] (by repeat' first | exact zY.nil | apply zY.p rfl | apply zY.ptr rfl | apply zY.own rfl) (by repeat' first | exact zW.nil | apply zW.boxP rfl rfl | apply zW.some rfl | apply zW.skip) ?_; (refine zZ.v rfl rfl (zQ rfl rfl rfl (by decide)) ?_); (refine zZ.v rfl rfl (by exact y7 rfl rfl rfl (by exact g3) rfl (by decide)) ?_); (refine zZ.v rfl rfl (zK rfl rfl rfl (by decide)) ?_); refine zZ.nil ?_) | refine zX.yG rfl (by with_reducible rfl) ?_ | refine zX.skip ?_) | refine yJ.n ?_)
        all_goals
          refine ⟨n + 1, ?_, by omega, by omega⟩
          rw [hse]
          show Sub _ (aloneS W2 (L ++ [r]) me k u v w most fail (n + 1))
          unfold aloneS
          rw [List.map_append]
          refine yY (is := [1, 3, 4, 5, 7, 10, 11, 12, 13, 14]) (js := [5, 7, 10, 11, 13]) ?_ ?_
          repeat' first | exact zY.nil | apply zY.p rfl | apply zY.ptr rfl | apply zY.own rfl | apply zY.clo rfl | apply zY.pt rfl | apply zY.tup rfl | apply zY.skip
          repeat' first | exact zW.nil | apply zW.boxP rfl rfl | apply zW.yH rfl | apply zW.some rfl | apply zW.skip
      · have g6 : decide ((n : Int) < (bools fail).length) = false := decide_eq_false (by simp [bools]; omega)
        have g7 : fail.getD n false = false := by simp [List.getD_eq_getElem?_getD, List.getElem?_eq_none hnf]
        rw [g7] at c2
        repeat' (first | (refine zZ.is ?_; first | refine zZ.nil ?_ | refine zZ.v rfl rfl (by first | exact zK rfl rfl rfl (by decide) | exact zF rfl rfl rfl rfl (by decide) | exact yO rfl rfl rfl (by decide) | exact yU (c1) rfl rfl rfl (by decide)) ?_ | refine zZ.m rfl rfl (zC rfl (by decide) rfl (by decide)) ?_ | refine zZ.w rfl (by exact zB rfl rfl rfl rfl rfl (by rfl) (by exact Nat.le_of_ble_eq_true rfl) rfl rfl) ?_) | (refine zX.is ?_; first | refine zX.seq ?_ | (refine zX.isR (id := 6) ?_; refine zX.zV [1, 3, 4, 5, 7, 10, 11, 12, 13, 14, 15, 16, 17, 18, 19, 22, 39] [5, 7, 10, 11, 13, 15, 16, 18, 19, 62] (by repeat' first | exact zY.nil | apply zY.p rfl | apply zY.ptr rfl | apply zY.own rfl | apply zY.skip) (by repeat' first | exact zW.nil | apply zW.boxP rfl rfl | apply zW.some rfl | apply zW.skip) ?_; (refine zZ.v rfl rfl (zQ rfl rfl rfl (by decide)) ?_); refine zZ.nil ?_) | (refine zX.isR (id := 8) ?_; refine zX.yA [1, 3, 4, 5, 7, 10, 11, 12, 13, 14, 15, 16, 17, 18, 19, 22, 39] [5, 7, 10, 11, 13, 15, 16, 18, 19, 62] (by repeat' first | exact zY.nil | apply zY.p rfl | apply zY.ptr rfl | apply zY.own rfl | apply zY.skip) (by repeat' first | exact zW.nil | apply zW.boxP rfl rfl | apply zW.some rfl | apply zW.skip) (zX.draws ?_); all_goals (refine Draws.v rfl rfl (zI rfl rfl rfl (by rfl) (by rfl) rfl (by decide)) ?_); all_goals (refine Draws.v rfl rfl (zQ rfl rfl rfl (by decide)) ?_); all_goals (refine Draws.v rfl rfl (zI rfl rfl rfl (by rfl) (by rfl) rfl (by decide)) ?_); all_goals (refine Draws.v rfl rfl (zQ rfl rfl rfl (by decide)) ?_); all_goals (refine Draws.v rfl rfl (zQ rfl rfl rfl (by decide)) ?_); all_goals (refine Draws.v rfl rfl (xE rfl rfl rfl (by decide)) ?_); all_goals (refine Draws.v rfl rfl (by exact yL rfl rfl rfl (by exact g6) rfl (by decide)) ?_); all_goals (refine Draws.v rfl rfl (zQ rfl rfl rfl (by decide)) ?_); all_goals (refine Draws.gNT rfl rfl (by decide) rfl (by with_reducible rfl) rfl (by decide) ?_); all_goals (refine Draws.gNT rfl rfl (by decide) rfl (by with_reducible rfl) rfl (by decide) ?_); all_goals (refine Draws.gNT rfl rfl (by decide) rfl (by with_reducible rfl) rfl (by decide) ?_); all_goals (refine Draws.gNT rfl rfl (by decide) rfl (by with_reducible rfl) rfl (by decide) ?_); all_goals (refine Draws.v rfl rfl (by exact zR rfl rfl (by with_reducible rfl) rfl rfl (by decide)) ?_); all_goals (refine Draws.v rfl rfl (by exact yU (c2) rfl rfl rfl (by decide)) ?_); all_goals (refine Draws.v rfl rfl (yO rfl rfl rfl (by decide)) ?_); all_goals (refine Draws.v rfl rfl (zF rfl rfl rfl rfl (by decide)) ?_); all_goals (refine Draws.v rfl rfl (zF rfl rfl rfl rfl (by decide)) ?_); all_goals (refine Draws.m rfl rfl (zC rfl (by decide) rfl (by decide)) ?_); all_goals (refine Draws.m rfl rfl (zC rfl (by decide) rfl (by decide)) ?_); all_goals (((refine Draws.late2 [16] 2 [0, 1, 2, 3, 4, 5, 6, 7, 8, 9, 10, 11, 12, 13, 14, 15, 16, 17, 18] (by kernel_rfl) (by kernel_rfl) (by kernel_rfl) (by kernel_rfl) (by kernel_rfl) ?_ (LEach.consD 3 [0, 1, 2, 3, 4, 5, 6, 7, 8, 9, 10, 11, 12, 13, 14, 15, 17, 18] (by kernel_rfl) (by kernel_rfl) ?_ LEach.nil)) <;> (repeat' (first | refine xX.many (by rfl) ?_ | refine xK.cons ?_ ?_ | exact xK.nil | refine wB.v rfl rfl rfl (zF rfl rfl rfl rfl (by decide)) ?_ | refine wB.w rfl rfl (by exact zB rfl rfl rfl rfl rfl (by rfl) (by exact Nat.le_of_ble_eq_true rfl) rfl rfl) ?_ | refine xX.fin (by rfl) ?_))))) | (refine zX.isR (id := 9) ?_; refine zX.zV [1, 3, 4, 5, 7, 10, 11, 12, 13, 14, 15, 16, 17, 18, 19, 22, 39] [5, 7, 10, 11, 13, 15, 16, 18, 19, 62] (by repeat' first | exact zY.nil | apply zY.p rfl | apply zY.ptr rfl | apply zY.own rfl) (by repeat' first | exact zW.nil | apply zW.boxP rfl rfl | apply zW.some rfl | apply zW.skip) ?_; (refine zZ.v rfl rfl (zI rfl rfl rfl (by rfl) (by rfl) rfl (by decide)) ?_); (refine zZ.w rfl (by exact zB rfl rfl rfl rfl rfl (by rfl) (by exact Nat.le_of_ble_eq_true rfl) rfl rfl) ?_); refine zZ.nil ?_) | (refine zX.isR (id := 10) ?_; refine zX.zV [1, 3, 4, 5, 7, 10, 11, 12, 13, 14, 15, 16, 17, 18, 19, 22, 39] [5, 7, 10, 11, 13, 15, 16, 18, 19, 62] (by repeat' first | exact zY.nil | apply zY.p rfl | apply zY.ptr rfl | apply zY.own rfl) (by repeat' first | exact zW.nil | apply zW.boxP rfl rfl | apply zW.some rfl | apply zW.skip) ?_; (refine zZ.v rfl rfl (wH rfl rfl rfl (by decide)) ?_); (refine zZ.v rfl rfl (zI rfl rfl rfl (by rfl) (by rfl) rfl (by decide)) ?_); (refine zZ.v rfl rfl (w_buildSl rfl (by decide) (by decide) (by decide) (by decide) (by rfl) (by rfl) (by rfl) (by rfl) (by rfl) (by rfl) (by rfl) rfl (by decide)) ?_); (refine zZ.w rfl (by exact s_appL rfl rfl rfl rfl (by exact g5) (by exact g10) rfl (by decide) rfl (by decide)) ?_); (refine zZ.v rfl rfl (y5 rfl rfl rfl (by decide)) ?_); refine zZ.nil ?_) | (refine zX.isR (id := 4) ?_; refine zX.zV [1, 3, 4, 5, 7, 10, 11, 12, 13, 14, 15, 16, 17, 18, 19, 22, 39] [5, 7, 10, 11, 13, 15, 16, 18, 19, 62] (by repeat' first | exact zY.nil | apply zY.p rfl | apply zY.ptr rfl | apply zY.own rfl) (by repeat' first | exact zW.nil | apply zW.boxP rfl rfl | apply zW.some rfl | apply zW.skip) ?_; (refine zZ.v rfl rfl (zQ rfl rfl rfl (by decide)) ?_); (refine zZ.v rfl rfl (by exact y7 rfl rfl rfl (by exact g3) rfl (by decide)) ?_); (refine zZ.v rfl rfl (zK rfl rfl rfl (by decide)) ?_); refine zZ.nil ?_) | refine zX.yG rfl (by first | assumption | with_reducible rfl) ?_ | refine zX.skip ?_) | refine yJ.n ?_)
        all_goals
          refine ⟨n + 1, ?_, by omega, by omega⟩
          rw [hse]
          show Sub _ (aloneS W2 (L ++ [r]) me k u v w most fail (n + 1))
          unfold aloneS
          rw [List.map_append]
          refine yY (is := [1, 3, 4, 5, 7, 10, 11, 12, 13, 14]) (js := [5, 7, 10, 11, 13]) ?_ ?_
          repeat' first | exact zY.nil | apply zY.p rfl | apply zY.ptr rfl | apply zY.own rfl | apply zY.clo rfl | apply zY.pt rfl | apply zY.tup rfl | apply zY.skip
          repeat' first | exact zW.nil | apply zW.boxP rfl rfl | apply zW.yH rfl | apply zW.some rfl | apply zW.skip
    · obtain rfl : n = m := by omega
      rw [hs] at hm
      injection hm with hm
      injection hm with hm1 hm2
      subst hm1 hm2
      have c1 := nextDone_fn L hL t' c' me k u v w hop o j ho
      repeat' (first | (refine zZ.is ?_; first | refine zZ.nil ?_ | refine zZ.v rfl rfl (by first | exact zK rfl rfl rfl (by decide) | exact zF rfl rfl rfl rfl (by decide) | exact yO rfl rfl rfl (by decide) | exact yU (c1) rfl rfl rfl (by decide)) ?_ | refine zZ.m rfl rfl (zC rfl (by decide) rfl (by decide)) ?_ | refine zZ.w rfl (by exact zB rfl rfl rfl rfl rfl (by rfl) (by exact Nat.le_of_ble_eq_true rfl) rfl rfl) ?_) | (refine zX.is ?_; first | refine zX.seq ?_ | (refine zX.isR (id := 6) ?_; refine zX.zV [1, 3, 4, 5, 7, 10, 11, 12, 13, 14, 15, 16, 17, 18, 19, 22, 39] [5, 7, 10, 11, 13, 15, 16, 18, 19, 62] (by repeat' first | exact zY.nil | apply zY.p rfl | apply zY.ptr rfl | apply zY.own rfl | apply zY.skip) (by repeat' first | exact zW.nil | apply zW.boxP rfl rfl | apply zW.some rfl | apply zW.skip) ?_; (refine zZ.v rfl rfl (zQ rfl rfl rfl (by decide)) ?_); refine zZ.nil ?_) | (refine zX.isR (id := 7) ?_; refine zX.yA [1, 3, 4, 5, 7, 10, 11, 12, 13, 14, 15, 16, 17, 18, 19, 22, 39] [5, 7, 10, 11, 13, 15, 16, 18, 19, 62] (by repeat' first | exact zY.nil | apply zY.p rfl | apply zY.ptr rfl | apply zY.own rfl | apply zY.skip) (by repeat' first | exact zW.nil | apply zW.boxP rfl rfl | apply zW.some rfl | apply zW.skip) (zX.w9 (by kernel_rfl) ?_); repeat' (first | refine xX.many (by rfl) ?_ | refine xK.cons ?_ ?_ | exact xK.nil | refine wB.v rfl rfl rfl (by first | exact zK rfl rfl rfl (by decide) | exact zI rfl rfl rfl (by rfl) (by rfl) rfl (by decide)) ?_ | refine wB.w rfl rfl (by exact zB rfl rfl rfl rfl rfl (by rfl) (by exact Nat.le_of_ble_eq_true rfl) rfl rfl) ?_ | refine xX.fin (by rfl) ?_)) | refine zX.yE rfl (by first | assumption | with_reducible rfl) ?_ | refine zX.ret ?_) | refine yJ.r ?_ | refine xV.r ?_)
      all_goals exact ⟨by first | exact .inl rfl | exact .inr rfl, _, Sub.refl _, .tup (rs := [.cell 10 52, .cell 11 38, .tmp 12]) (l := [Wd.pv ⟨t', c', ws', root', r0', r1'⟩, outV o.e o.is 0 o.w, .val (.bool true)]) rfl (by decide) (.cons (.cellN rfl rfl (by rfl) (by rfl)) (.cons (.cellN rfl rfl (by rfl) (by rfl)) (.cons (.tmp rfl) .nil)))⟩
end Go.Proofs.YtlfkofkdigmnpaaGreatDoor
/- An operation that steps alone, by evaluation. -/
namespace Go.Proofs.YtlfkofkdigmnpaaGreatDoor
set_option maxRecDepth 100000
set_option maxHeartbeats 16000000
open Go Go.RowKit
set_option linter.unusedSimpArgs false
/-- the world behind an operation that steps alone, and its answer -/
def alF (me : Nat) (k u v w : Int) (fail : List Bool) : Nat → Nat → Wd × List zO → Option (Wd × OutI)
  | 0, _, _ => none
  | f + 1, i, s => match opT s.1.t k u v w s.2 0 with
    | .done o _ => some (s.1, o)
    | .need q => match (doW s.1 me q.kind q.cell q.a q.b (bytsOf q.d) (fail.getD i false)) with
      | some p => alF me k u v w fail f (i + 1) (p.1, s.2 ++ [p.2])
      | none => none
theorem alF_seq {W : Wd} {me : Nat} {k u v w : Int} {fail : List Bool} {W' : Wd} {o : OutI} : ∀ (f i : Nat) (s : Wd × List zO), alF me k u v w fail f i s = some (W', o) → seqA W me k u v w fail i = some s →
    ∃ m L' j, m + 1 ≤ i + f ∧ seqA W me k u v w fail m = some (W', L') ∧ opT W'.t k u v w L' 0 = .done o j
  | 0, i, s, h, _ => by cases h
  | f + 1, i, s, h, hs => by
    unfold alF at h
    cases ho : opT s.1.t k u v w s.2 0 with
    | done o' j =>
      rw [ho] at h
      dsimp only at h
      injection h with h
      injection h with h1 h2
      subst h1 h2
      exact ⟨i, s.2, j, by omega, hs, ho⟩
    | need q =>
      rw [ho] at h
      dsimp only at h
      cases hd : doW s.1 me q.kind q.cell q.a q.b (bytsOf q.d) (fail.getD i false) with
      | none => rw [hd] at h; cases h
      | some p =>
        rw [hd] at h
        dsimp only at h
        have hs' : seqA W me k u v w fail (i + 1) = some (p.1, s.2 ++ [p.2]) := by
          show (seqA W me k u v w fail i).bind _ = _
          rw [hs]
          show stepA me k u v w fail i s = _
          unfold stepA
          rw [ho]
          dsimp only
          rw [hd]
          rfl
        obtain ⟨m, L', j, h1, h2, h3⟩ := alF_seq f (i + 1) _ h hs'
        exact ⟨m, L', j, by omega, h2, h3⟩
theorem alF_fn (W W' : Wd) (me : Nat) (k u v w : Int) (most : Nat) (fail : List Bool) (o : OutI) (hop : OpOK W.t k u v w) (h : alF me k u v w fail (most + 1) 0 (W, []) = some (W', o)) (h1000 : most ≤ 1000) :
    Fn Tryz.prog 12 [W.pv, .val (.int .i64 me), opV k u v w, .val (.int .i64 most), .sl (bools fail)] (.tup [W'.pv, outV o.e o.is 0 o.w, .val (.bool true)]) := by
  obtain ⟨m, L', j, h1, h2, h3⟩ := alF_seq (W := W) _ 0 _ h rfl
  exact alone_fn W W' L' me k u v w most fail m o j hop h2 h3 (by omega) h1000
theorem alF_nil (W W' : Wd) (me : Nat) (k u v w : Int) (most : Nat) (o : OutI) (hop : OpOK W.t k u v w) (h : alF me k u v w [] (most + 1) 0 (W, []) = some (W', o)) (h1000 : most ≤ 1000) :
    Fn Tryz.prog 12 [W.pv, .val (.int .i64 me), opV k u v w, .val (.int .i64 most), yD] (.tup [W'.pv, outV o.e o.is 0 o.w, .val (.bool true)]) :=
  (alF_fn W W' me k u v w most [] o hop h h1000).weakA (.cons (.refl _) (.cons (.refl _) (.cons (.refl _) (.cons (.refl _) (.cons (.one .nil) .nil)))))
/-! ### The document's example -/
def shW0 : Wd := ⟨((1 : Nat) : Int), 1, (List.replicate (1 + 16) 0).set 1 1, 0, List.replicate 1 ([], 0), List.replicate 1 ([], 0)⟩
def wd0 : Wd := ⟨0, 0, [], 0, [], []⟩
def shR1 := (alF 0 20 1 0 0 [] 21 0 (shW0, [])).getD (wd0, ⟨0, false, 0⟩)
def shR2 := (alF 0 7 1 1 0 [] 21 0 (shR1.1, [])).getD (wd0, ⟨0, false, 0⟩)
def shR3 := (alF 0 7 1 1 0 [] 21 0 (shR2.1, [])).getD (wd0, ⟨0, false, 0⟩)
def shR4 := (alF 0 22 1 0 1 [] 21 0 (shR2.1, [])).getD (wd0, ⟨0, false, 0⟩)
def shB : List Int := ((shR2.1.r0.headD ([], 0)).1).drop 6
theorem sh1 : alF 0 20 1 0 0 [] 21 0 (shW0, []) = some shR1 := by kernel_rfl
theorem sh2 : alF 0 7 1 1 0 [] 21 0 (shR1.1, []) = some shR2 := by kernel_rfl
theorem sh3 : alF 0 7 1 1 0 [] 21 0 (shR2.1, []) = some shR3 := by kernel_rfl
theorem sh4 : alF 0 22 1 0 1 [] 21 0 (shR2.1, []) = some shR4 := by kernel_rfl
theorem sh5 : shR1.2.w = 1 ∧ shR2.2.is = true ∧ shR3.2.is = true ∧ shR4.2.is = true := by refine ⟨?_, ?_, ?_, ?_⟩ <;> kernel_rfl
theorem sh6 : shR2.1.r0 = [(wQ shB, ((wQ shB).length : Int))] := by kernel_rfl
theorem sh7 : shR3.1.r0 = [(wQ shB, ((wQ shB).length : Int))] := by kernel_rfl
theorem sh8 : (shB.all fun x => decide (0 ≤ x) && decide (x < 256)) = true ∧ (decide (1 ≤ shB.length) && decide (shB.length ≤ 65535)) = true := by refine ⟨?_, ?_⟩ <;> kernel_rfl
theorem sh9 : shR1.1.t = 1 ∧ shR2.1.t = 1 := by refine ⟨?_, ?_⟩ <;> kernel_rfl
end Go.Proofs.YtlfkofkdigmnpaaGreatDoor
/- A struct's literal of which parts are own rows, stored into a new variable; appending to nil. Generic over the program. -/
namespace Go.Proofs.YtlfkofkdigmnpaaGreatDoor
set_option maxRecDepth 100000
set_option maxHeartbeats 16000000
open Go Go.RowKit
set_option linter.unusedSimpArgs false
theorem cells_own {M : Nat → Nat → Prop} {n : Nat} {w0 : Home} {w : World} {S : AS} {ρ : Nat → Value} {a : Act} (hs : Sat M n w0 S ρ a w) {id2 : Nat} {b2 : Blk} {v : Value} (hb2 : S.blk id2 = some b2) (hrow : b2.isRow = true) (h2 : yN (Mut M S ρ) ρ w (.own id2) v) :
    yM (Mut M S ρ) ρ w (AV.own id2).xJ v.cells.toList := by
  have hown : ∃ e sz m2 ys, w.ownsRow 0 e sz (ρ id2) m2 ys := by
    have h := hs.blks id2 _ hb2
    cases b2 with
    | box _ _ => cases hrow
    | _ => exact let ⟨ys, h, _⟩ := h; ⟨_, _, _, ys, h⟩
  obtain ⟨_, _, _, _, hown⟩ := hown
  have e1 : v = ρ id2 := by
    cases h2
    rfl
  rw [e1]
  rcases hown.2 with ⟨e, _⟩ | ⟨g', cap, cur, e, _⟩
  · rw [e]
    exact ⟨rfl, fun i c u h1 h3 => by
      cases i with
      | zero => simp [Value.cells, AV.xJ] at h1 h3; subst h1; subst h3; rw [← e]; exact .own id2
      | succ i => simp [AV.xJ] at h1, fun u hu => by simp [Value.cells] at hu; subst hu; rfl⟩
  · rw [e]
    exact ⟨rfl, fun i c u h1 h3 => by
      cases i with
      | zero => simp [Value.cells, AV.xJ] at h1 h3; subst h1; subst h3; rw [← e]; exact .own id2
      | succ i => simp [AV.xJ] at h1, fun u hu => by simp [Value.cells] at hu; subst hu; rfl⟩
def partB (S : AS) (av : AV) : Bool := av.vP || (match av with
  | .own id => (match S.blk id with | some b => b.isRow | none => false)
  | _ => false)
section
variable {P : Program} {n : Nat} {ops : Array Oper} {S : AS} {K : Exit → AS → Prop}
theorem zZ.buildStore {o1 o2 o3 : Oper} {rest : List Oper} {d1 d2 t m : Nat} {ps : Array (Nat × Operand)} {pl : List (Nat × Nat)} {z : Value} {zs : List AV} {agg : Bool} [hb : BuildA P t pl] [hz : ZeroA P t z] [ht : TyA P t agg m]
    (h1 : o1.op = .build t ps) (g1 : o1.guard = none) (e1 : o1.dst = some d1)
    (h2 : o2.op = .alloc t) (g2 : o2.guard = none) (e2 : o2.dst = some d2)
    (h3 : o3.op = .store t (.tmp d2) (.tmp d1)) (g3 : o3.guard = none) (e3 : o3.dst = none)
    (hn1 : d1 < n) (hn2 : d2 < n) (hne : d2 ≠ d1) (hz1 : z.cells.toList.all (fun u => u.oneCell') = true)
    (hk : ps.toList.all (fun p => partB S (S.get p.2)) = true)
    (hf : fillA (fun i => pl[i]?) (z.cells.toList.map fun u => .p (.val u)) (ps.toList.map fun p => (p.1, S.get p.2)) = some zs) (hl : zs.length = z.cells.toList.length) (hm : z.cells.size = m)
    (hr : zZ P n ops rest (((S.put d1 .any).create d2 (.box t zs)).put d2 (.ptr d2 0)) K) : zZ P n ops (o1 :: o2 :: o3 :: rest) S K := by
  intro M w0 ρ a w Q hs hK
  have parts : ∀ p ∈ ps.toList, yM (Mut M S ρ) ρ w (S.get p.2).xJ (a.eval p.2).cells.toList := fun p hp => by
    have h := List.all_eq_true.1 hk p hp
    have hrep := hs.rep p.2
    generalize hav : S.get p.2 = av at h hrep ⊢
    cases hpo : av.vP with
    | true => exact repA_cells hrep hpo
    | false =>
      unfold partB at h
      rw [hpo, Bool.false_or] at h
      cases av with
      | own id =>
        cases hbk : S.blk id with
        | none => simp only [hbk] at h; cases h
        | some b =>
          simp only [hbk] at h
          exact cells_own hs hbk h hrep
      | _ => cases h
  obtain ⟨us, hu1, hu2⟩ := fill_rep (fun i => pl[i]?) S.get a.eval ps.toList _ zs z.cells.toList parts hf (zerosA fun u hu => List.all_eq_true.1 hz1 u hu)
  have hul : us.length = z.cells.toList.length := by rw [hu2.len, hl]
  have hr1 : (execOp a.eval o1).run P w = .ok (.value (.agg us.toArray)) w := by
    unfold execOp
    rw [h1]
    have e : (ps.map fun (i, x) => (i, a.eval x)) = (ps.toList.map fun p => (p.1, a.eval p.2)).toArray := by apply Array.ext'; simp
    simp only [e, Sem.run_bind, run_build (P := P) (t := t) (pl := pl) (z := z) _ w _ hu1]
    rfl
  unfold wpList
  rw [if_pos (by simp [Region.wanted, g1])]
  refine .inl ?_
  unfold Oper.wp
  rw [hr1]
  show wpList P ops Q (o2 :: o3 :: rest) (a.put o1.dst (.agg us.toArray)) w
  rw [e1]
  have hs1 : Sat M n w0 (S.put d1 .any) ρ (a.put (some d1) (.agg us.toArray)) w := hs.put hn1 (.any _)
  generalize hsS1 : S.put d1 .any = S1 at hs1 hr
  generalize ha1 : a.put (some d1) (.agg us.toArray) = a1 at hs1
  have hMut : Mut M S1 ρ = Mut M S ρ := by subst hsS1; rfl
  have hr2 : (execOp a1.eval o2).run P w = .ok (.value (.pointer (some ⟨w.heap.size, 0, none⟩))) (w.alloc (.cells z.cells t)) := by
    unfold execOp
    rw [h2]
    simp [Instr.alloc, newVar, newRow, newObj, Sem.run, Result.andThen, hz.h w]
  unfold wpList
  rw [if_pos (by simp [Region.wanted, g2])]
  refine .inl ?_
  unfold Oper.wp
  rw [hr2]
  show wpList P ops Q (o3 :: rest) (a1.put o2.dst (.pointer (some ⟨w.heap.size, 0, none⟩))) (w.alloc (.cells z.cells t))
  rw [e2]
  generalize hw1 : w.alloc (.cells z.cells t) = w1
  have hh1 : w1.heap[w.heap.size]? = some (.cells z.cells t (0, 0)) := by rw [← hw1]; exact heap_alloc_new w _
  have hg1 : w.grownBy w1 none := by rw [← hw1]; exact World.grownBy_alloc w _ none
  have t1 : (a1.put (some d2) (.pointer (some ⟨w.heap.size, 0, none⟩))).eval (.tmp d1) = .agg us.toArray := by
    have : d1 < a.tmps.size := by rw [hs.size]; exact hn1
    subst ha1
    simp [Act.eval, Act.put, Array.getD_eq_getD_getElem?, Array.getElem?_setIfInBounds, hne, this]
  have t2 : (a1.put (some d2) (.pointer (some ⟨w.heap.size, 0, none⟩))).eval (.tmp d2) = .pointer (some ⟨w.heap.size, 0, none⟩) := by
    have : d2 < a1.tmps.size := by rw [hs1.size]; exact hn2
    simp [Act.eval, Act.put, Array.getD_eq_getD_getElem?, Array.getElem?_setIfInBounds, this]
  have hst := run_storeCells_at P w.heap.size 0 t us 0 z.cells w1 hh1 (by simp; simpa using Nat.le_of_eq hul) hu2.one
  have hspl : (z.cells.toList.take (0 + 0) ++ us ++ z.cells.toList.drop (0 + 0 + us.length)).toArray = us.toArray := by
    rw [hul]; simp
  rw [hspl] at hst
  have hr3 : (execOp (a1.put (some d2) (.pointer (some ⟨w.heap.size, 0, none⟩))).eval o3).run P w1 = .ok .skip (w1.setRow w.heap.size us.toArray) := by
    unfold execOp
    rw [h3]
    have hsz : us.length = m := by rw [hul, ← hm]; simp
    simp only [t1, t2, Instr.storeAt, Instr.sureAddr, storeVar, Sem.run_bind, Sem.run_pure, Result.andThen_ok, ht.sz, Value.cells, List.size_toArray, hsz, ne_eq, not_true_eq_false, if_false]
    rw [hst]
    rfl
  unfold wpList
  rw [if_pos (by simp [Region.wanted, g3])]
  refine .inl ?_
  unfold Oper.wp
  rw [hr3]
  show wpList P ops Q rest ((a1.put (some d2) (.pointer (some ⟨w.heap.size, 0, none⟩))).put o3.dst undef) _
  rw [e3]
  show wpList P ops Q rest (a1.put (some d2) (.pointer (some ⟨w.heap.size, 0, none⟩))) _
  generalize hw2 : w1.setRow w.heap.size us.toArray = w2
  have hg2 : w.grownBy w2 none := by
    rw [← hw2]
    refine ⟨hg1.os, hg1.tape, hg1.output, by simpa [World.setRow] using hg1.size, fun k hk _ => ?_⟩
    rw [setRow_other w1 _ k _ (by omega)]
    exact hg1.block k hk (fun h => by cases h)
  have hh2 : w2.heap[w.heap.size]? = some (.cells us.toArray t (0, 0)) := by rw [← hw2]; exact setRow_heap w1 _ _ _ t _ hh1
  have hs2 := hs1.change d2 (.box t zs) (.pointer (some ⟨w.heap.size, 0, none⟩)) none (hs1.free d2 hn2) hg2 (fun k hk => by cases hk) (fun k hk => .inl (by simp only [yK, Option.some.injEq] at hk; omega)) (by
    rw [hMut]
    refine ⟨w.heap.size, us, rfl, Nat.zero_le _, hh2, (hu2.mono fun k c hk h => ?_).keep ⟨hg2.size, fun k c hk _ => World.cell?_of_block (w := w) (hg2.block k hk (fun h => by cases h))⟩⟩
    rcases h with h | ⟨h, _⟩
    · exact h
    · simp only [yK, Option.some.injEq] at h
      omega)
  have hs3 := hs2.put (d := d2) (x := .ptr d2 0) (v := .pointer (some ⟨w.heap.size, 0, none⟩)) hn2 (.ptr d2 0 w.heap.size (by simp [upd, yK]))
  exact hr M w0 _ _ w2 Q hs3 hK
theorem w_makeV1 {o : Oper} {d t e sz by_ m : Nat} {k : IntKind} {z : Value} {xl xc : Operand} [ht : Und P t (.slice e)] [hi : InfoA P e z sz by_] (ho : o.op = .makeSlice t xl xc) (hl : S.get xl = .p (.val (.int k (m : Int)))) (hc : S.get xc = .p (.val (.int k (m : Int)))) (hlim : m * sz ≤ 16777216 ∧ by_ * m ≤ 281474976710656 ∧ m ≤ maxLen)
    (hzs : z.cells.size = sz) (hsz : 0 < sz) (hzp : [z] = z.cells.toList) (h1 : z.cells.toList.all (fun u => u.oneCell') = true) (hd : o.dst = some d) (hn : d < n) : zG P n o S [] (.own d) (some (rowV e sz (List.replicate m (.val z)))) :=
  w_makeV ho hl hc hlim hzs hsz (zp := .val z) (by rw [← hzp]; rfl) h1 hd hn
theorem w_makeVN {o : Oper} {d t e sz by_ m : Nat} {k : IntKind} {z : Value} {xl xc : Operand} [ht : Und P t (.slice e)] [hi : InfoA P e z sz by_] (ho : o.op = .makeSlice t xl xc) (hl : S.get xl = .p (.val (.int k (m : Int)))) (hc : S.get xc = .p (.val (.int k (m : Int)))) (hlim : m * sz ≤ 16777216 ∧ by_ * m ≤ 281474976710656 ∧ m ≤ maxLen)
    (hzs : z.cells.size = sz) (hsz : 0 < sz) (h1 : z.cells.toList.all (fun u => u.oneCell') = true) (hd : o.dst = some d) (hn : d < n) : zG P n o S [] (.own d) (some (rowV e sz (List.replicate m (.agg (z.cells.toList.map PV.val))))) :=
  w_makeV ho hl hc hlim hzs hsz (zp := .agg (z.cells.toList.map PV.val)) rfl h1 hd hn
/-- append(nil, es...): a new row, that nobody turns. -/
theorem w_appNil {o : Oper} {d t e sz by_ : Nat} {x y : Operand} {z : Value} {es : List PV} [ht : Und P t (.slice e)] [hi : InfoA P e z sz by_] (ho : o.op = .call { callee := .builtin .append, args := #[x, y], argTypes := #[t, t] })
    (hx : S.get x = .p (.val (.slice none 0 0))) (hy : S.get y = .p (.sl es)) (hes : ∀ e ∈ es, e.cells.length = sz) (hlim : es.length * by_ ≤ 140737488355328 ∧ es.length ≤ maxLen) (hzs : z.cells.size = sz) (hsz : 0 < sz) (hd : o.dst = some d) (hn : d < n) : zG P n o S [] (.p (.sl es)) none :=
  zG.pure hd hn fun S2 hg _ M w0 ρ a w hs => by
    obtain ⟨i, hi1, hi2⟩ := Option.map_eq_some_iff.1 hi.h
    simp only [Prod.mk.injEq] at hi2
    obtain ⟨hz, hisz, hiby⟩ := hi2
    have hv := hs.val ((hg x (by rw [ho]; simp [Op.operands, Call.operands])).trans hx)
    have ry := yT hs ((hg y (by rw [ho]; simp [Op.operands, Call.operands])).trans hy)
    obtain ⟨us, hus, hnews⟩ := news_p (ρ := ρ) ry hes
    have hown : ∀ B, w.ownsRow B e sz (.slice none 0 0) 0 [] := fun B => ⟨by simp, .inl ⟨rfl, rfl⟩⟩
    rcases hnews with ⟨hyv, hk0, hu0⟩ | ⟨ad, c, hyv, hul, hcell2⟩
    · have hb0 : es = [] := List.eq_nil_of_length_eq_zero hk0
      subst hb0
      refine ⟨.slice none 0 0, w, ?_, Below.refl _ _, .p .nil⟩
      unfold execOp
      simp only [ho, resolve, invoke, builtin, Sem.run_bind, Sem.run_pure, Result.andThen_ok, List.map_toArray, List.map_cons, List.map_nil, hv, hyv, run_append_owned_none (P := P) w 0 t o.type e i sz ht.h hi1 (.slice none 0 0) 0 [] (hown 0)]
    · obtain ⟨v', w', hr, hown', hgr, _, _⟩ := run_append_own_at (P := P) w w.heap.size t o.type e i z sz by_ ht.h hi1 hz hisz hiby hzs hsz (.slice none 0 0) 0 [] (hown _) ad es.length c us hul hcell2 hus.one (by simpa using hlim.2) (by simpa using hlim.1) (Nat.le_refl _)
      rw [← hyv] at hr
      have hk : Keeps (Mut M S2 ρ) w w' := ⟨hgr.size, fun k c hk _ => World.cell?_of_block (w := w) (hgr.block k hk (fun h => by cases h))⟩
      refine ⟨v', w', ?_, ⟨hgr.os, hgr.tape, hgr.output, hgr.size, fun k hk => hgr.block k hk (fun h => by cases h)⟩, .p (rep_ownsRow (fun k c hk => Mut.lt hs hk) (by simpa using hown') rfl ((cellsA_pure hus).keep hk))⟩
      unfold execOp
      simp only [ho, resolve, invoke, builtin, Sem.run_bind, Sem.run_pure, Result.andThen_ok, List.map_toArray, List.map_cons, List.map_nil, hv, hr]
end
theorem rowB_V (e : Nat) (bs : List Int) : yH e bs = rowV e 1 (byts bs) := by
  unfold yH rowV
  rw [byts_flat, wM]
theorem sub_frzE {S : AS} (id e sz : Nat) (es : List PV) (hb : S.blk id = some (rowV e sz es)) : Sub S (S.frz id (.sl es)) := sub_frz hb
theorem sub_frzB {S : AS} (id : Nat) {e : Nat} {bs : List Int} (hb : S.blk id = some (yH e bs)) : Sub S (S.frz id (.sl (byts bs))) := sub_frz (hb.trans (congrArg some (rowB_V e bs)))
end Go.Proofs.YtlfkofkdigmnpaaGreatDoor
/- New worlds: contracts. -/
namespace Go.Proofs.YtlfkofkdigmnpaaGreatDoor
set_option maxRecDepth 100000
set_option maxHeartbeats 16000000
open Go Go.RowKit
set_option linter.unusedSimpArgs false
attribute [local irreducible] zZ zX Step zG Sub zP zM Fn
def zStr : PV := .agg [.val (.slice none 0 0), .val (.int .i64 0)]
theorem flat_zs : ∀ t : Nat, PL0s (flat (List.replicate t zStr)) (flat (strs (List.replicate t ([], 0))))
  | 0 => .nil
  | t + 1 => .cons .nil (.cons (.refl _) (flat_zs t))
theorem zStr_cells (t : Nat) : ∀ e ∈ List.replicate t zStr, e.cells.length = 2 := fun e he => by
  rw [List.eq_of_mem_replicate he]
  rfl
theorem new7_fn (t : Nat) (h1 : 1 ≤ t) (h64 : t ≤ 64) : Fn Tryz.prog 28 [.val (.int .i64 t)] (.tup [wR 0 (List.replicate t ([], 0)) (List.replicate t ([], 0)), .val (.int .i64 0)]) := by
  have g1 : decide ((t : Int) < 1) = false := decide_eq_false (by omega)
  have g2 : decide ((64 : Int) < t) = false := decide_eq_false (by omega)
  have g3 : t * 2 ≤ 16777216 ∧ 32 * t ≤ 281474976710656 ∧ t ≤ maxLen := by simp only [maxLen]; omega
  have g4 := zStr_cells t
  refine Fn.weakT (l := [.agg [.val (.int .u64 0), .sl (List.replicate t zStr), .sl (List.replicate t zStr)], .val (.int .i64 0)]) ?_ (.cons (.agg (.cons (.refl _) (.cons (.sl (by simp [strs]) (flat_zs t)) (.cons (.sl (by simp [strs]) (flat_zs t)) .nil)))) (.cons (.refl _) .nil))
  refine yI Tryz.func28 rfl Tryz.ntmps28 (Nat.le_of_ble_eq_true rfl) ?_
  repeat' ((refine zX.is ?_; first | refine zX.seq ?_ | (refine zX.isR (id := 0) ?_; refine zX.zV [0] [2, 4, 13, 17] (by repeat' first | exact zY.nil | apply zY.p rfl) (by repeat' first | exact zW.nil | apply zW.skip) ?_; (refine zZ.m rfl rfl (zC rfl (by decide) rfl (by decide)) ?_); (refine zZ.v rfl rfl (zK rfl rfl rfl (by decide)) ?_); refine zZ.nil ?_) | (refine zX.isR (id := 1) ?_; refine zX.zV [0, 2, 3] [2, 4, 13, 17] (by repeat' first | exact zY.nil | apply zY.p rfl | apply zY.ptr rfl) (by repeat' first | exact zW.nil | apply zW.boxP rfl rfl | apply zW.skip) ?_; all_goals (refine zZ.v rfl rfl (zQ rfl rfl rfl (by decide)) ?_); all_goals (refine zZ.v rfl rfl (by exact yL rfl rfl rfl (by exact g1) rfl (by decide)) ?_); all_goals (refine zZ.v rfl rfl (zQ rfl rfl rfl (by decide)) ?_); all_goals (refine zZ.gY rfl rfl (by decide) rfl (by with_reducible rfl) rfl (by decide) (zQ rfl rfl rfl (by decide)) ?_); all_goals (refine zZ.gY rfl rfl (by decide) rfl (by with_reducible rfl) rfl (by decide) (by exact r_gtr rfl rfl rfl (by exact g2) rfl (by decide)) ?_); all_goals (refine zZ.v rfl rfl (by exact zR rfl rfl (by with_reducible rfl) rfl rfl (by decide)) ?_); all_goals (refine zZ.nil ?_)) | (refine zX.isR (id := 3) ?_; refine zX.zV [0, 2, 3] [2, 4, 13, 17] (by repeat' first | exact zY.nil | apply zY.p rfl | apply zY.ptr rfl) (by repeat' first | exact zW.nil | apply zW.boxP rfl rfl | apply zW.skip) ?_; (refine zZ.m rfl rfl (zC rfl (by decide) rfl (by decide)) ?_); refine zZ.nil ?_) | (refine zX.isR (id := 4) ?_; refine zX.zV [0, 2, 3, 4] [2, 4, 13, 17] (by repeat' first | exact zY.nil | apply zY.p rfl | apply zY.ptr rfl) (by repeat' first | exact zW.nil | apply zW.boxP rfl rfl | apply zW.skip) ?_; (refine zZ.v rfl rfl (zQ rfl rfl rfl (by decide)) ?_); (refine zZ.m rfl rfl (by exact w_makeVN rfl rfl rfl (by exact g3) rfl (by decide) (by rfl) rfl (by decide)) ?_); (refine zZ.v rfl rfl (zJ rfl rfl rfl (by decide)) ?_); (refine zZ.v rfl rfl (by exact wW rfl rfl rfl (by omega) rfl (by decide)) ?_); (refine zZ.w rfl (by exact w_storeO rfl rfl rfl rfl rfl rfl (by exact Nat.le_of_ble_eq_true rfl) rfl rfl) ?_); refine zZ.nil ?_) | (refine zX.isR (id := 5) ?_; refine zX.zV [0, 2, 3, 4] [2, 4, 13, 17] (by repeat' first | exact zY.nil | apply zY.p rfl | apply zY.ptr rfl) (by repeat' first | exact zW.nil | apply zW.boxP rfl rfl | apply zW.some rfl | apply zW.skip) ?_; (refine zZ.v rfl rfl (zQ rfl rfl rfl (by decide)) ?_); (refine zZ.m rfl rfl (by exact w_makeVN rfl rfl rfl (by exact g3) rfl (by decide) (by rfl) rfl (by decide)) ?_); (refine zZ.v rfl rfl (zJ rfl rfl rfl (by decide)) ?_); (refine zZ.v rfl rfl (by exact wW rfl rfl rfl (by omega) rfl (by decide)) ?_); (refine zZ.w rfl (by exact w_storeO rfl rfl rfl rfl rfl rfl (by exact Nat.le_of_ble_eq_true rfl) rfl rfl) ?_); refine zZ.nil ?_) | (refine zX.isR (id := 6) ?_; refine zX.sub (sub_frz (id := 13) rfl) ?_; refine zX.sub (sub_frz (id := 17) rfl) ?_; refine zX.zV [2, 3, 4] [2, 4, 13, 17] (by repeat' first | exact zY.nil | apply zY.p rfl | apply zY.ptr rfl) (by repeat' first | exact zW.nil | apply zW.boxP rfl rfl | apply zW.skip) ?_; (refine zZ.v rfl rfl (zI rfl rfl rfl (by rfl) (by rfl) rfl (by decide)) ?_); (refine zZ.w rfl (by exact zB rfl rfl rfl rfl rfl (by rfl) (by exact Nat.le_of_ble_eq_true rfl) rfl rfl) ?_); (refine zZ.v rfl rfl (zK rfl rfl rfl (by decide)) ?_); refine zZ.nil ?_) | refine zX.yG rfl (by first | assumption | with_reducible rfl) ?_ | refine zX.skip ?_ | refine zX.ret ?_))
  all_goals exact ⟨by first | exact .inl rfl | exact .inr rfl, _, Sub.refl _, .tup (rs := [.cell 2 50, .tmp 3]) (l := [.agg [.val (.int .u64 0), .sl (List.replicate t zStr), .sl (List.replicate t zStr)], .val (.int .i64 0)]) rfl (by decide) (.cons (.cellN rfl rfl (by rfl) (by rfl)) (.cons (.tmp rfl) .nil))⟩
def wsN (t : Nat) : List PV := (List.replicate (t + 16) (PV.val (.int .u64 0))).set (1 : Int).toNat (.val (.int .u64 1))
theorem new9_fn (t : Nat) (h1 : 1 ≤ t) (h64 : t ≤ 64) : Fn Tryz.prog 27 [.val (.int .i64 t), .val (.int .i64 1)] (.tup [memV t 1 ((List.replicate (t + 16) 0).set 1 1), .val (.int .i64 0)]) := by
  have g1 : decide ((t : Int) < 1) = false := decide_eq_false (by omega)
  have g2 : decide ((64 : Int) < t) = false := decide_eq_false (by omega)
  have g3 : (t + 16) * 1 ≤ 16777216 ∧ 8 * (t + 16) ≤ 281474976710656 ∧ t + 16 ≤ maxLen := by simp only [maxLen]; omega
  have g4 : IntKind.i64.wrap (8 + (t : Int)) = 8 + (t : Int) := wrap_i64 _ (by omega)
  have g5 : IntKind.i64.wrap (8 + (t : Int) + 8) = ((t + 16 : Nat) : Int) := by rw [wrap_i64 _ (by omega)]; omega
  have g6 : ∀ e ∈ List.replicate (t + 16) (PV.val (.int .u64 0)), e.cells.length = 1 := fun e he => by rw [List.eq_of_mem_replicate he]; rfl
  have g7 : (0 : Int) ≤ 1 ∧ (1 : Int) < (List.replicate (t + 16) (PV.val (.int .u64 0))).length := by simp; omega
  have g8 : (1 : Int).toNat < (List.replicate (t + 16) (PV.val (.int .u64 0))).length := by simp
  have g9 : decide ((0 : Int) < 1) = true := rfl
  refine yI Tryz.func27 rfl Tryz.ntmps27 (Nat.le_of_ble_eq_true rfl) ?_
  repeat' (first | (refine zZ.is ?_; first | refine zZ.v rfl rfl (by first | exact y7 rfl rfl rfl (by first | exact g4 | exact g5) rfl (by decide) | exact a_mul rfl rfl rfl (by first | (simp only [Int.reduceAdd, Int.reduceSub, Int.reduceMul]; exact wrap_i64 _ (by omega)) | rfl) rfl (by decide) | exact zQ rfl rfl rfl (by decide)) ?_ | refine zZ.m rfl rfl (by exact w_makeV1 rfl rfl rfl (by exact g3) rfl (by decide) rfl (by rfl) rfl (by decide)) ?_) | (refine zX.is ?_; first | refine zX.seq ?_ | (refine zX.isR (id := 0) ?_; refine zX.zV [0, 1] [4, 6, 30] (by repeat' first | exact zY.nil | apply zY.p rfl) (by repeat' first | exact zW.nil | apply zW.skip) ?_; (refine zZ.m rfl rfl (zC rfl (by decide) rfl (by decide)) ?_); (refine zZ.v rfl rfl (zK rfl rfl rfl (by decide)) ?_); refine zZ.nil ?_) | (refine zX.isR (id := 1) ?_; refine zX.zV [0, 1, 4, 5] [4, 6, 30] (by repeat' first | exact zY.nil | apply zY.p rfl | apply zY.ptr rfl) (by repeat' first | exact zW.nil | apply zW.boxP rfl rfl | apply zW.skip) ?_; all_goals (refine zZ.v rfl rfl (zQ rfl rfl rfl (by decide)) ?_); all_goals (refine zZ.v rfl rfl (by exact yL rfl rfl rfl (by exact g1) rfl (by decide)) ?_); all_goals (refine zZ.v rfl rfl (zQ rfl rfl rfl (by decide)) ?_); all_goals (refine zZ.gY rfl rfl (by decide) rfl (by with_reducible rfl) rfl (by decide) (zQ rfl rfl rfl (by decide)) ?_); all_goals (refine zZ.gY rfl rfl (by decide) rfl (by with_reducible rfl) rfl (by decide) (by exact r_gtr rfl rfl rfl (by exact g2) rfl (by decide)) ?_); all_goals (refine zZ.v rfl rfl (by exact zR rfl rfl (by with_reducible rfl) rfl rfl (by decide)) ?_); all_goals (refine zZ.v rfl rfl (zQ rfl rfl rfl (by decide)) ?_); all_goals (refine zZ.gY rfl rfl (by decide) rfl (by with_reducible rfl) rfl (by decide) (zQ rfl rfl rfl (by decide)) ?_); all_goals (refine zZ.gY rfl rfl (by decide) rfl (by with_reducible rfl) rfl (by decide) (by exact yL rfl rfl rfl (by exact bF (by decide)) rfl (by decide)) ?_); all_goals (refine zZ.v rfl rfl (by exact zR rfl rfl (by with_reducible rfl) rfl rfl (by decide)) ?_); all_goals (refine zZ.v rfl rfl (zQ rfl rfl rfl (by decide)) ?_); all_goals (refine zZ.gY rfl rfl (by decide) rfl (by with_reducible rfl) rfl (by decide) (zQ rfl rfl rfl (by decide)) ?_); all_goals (refine zZ.gY rfl rfl (by decide) rfl (by with_reducible rfl) rfl (by decide) (by exact r_gtr rfl rfl rfl (by exact bF (by decide)) rfl (by decide)) ?_); all_goals (refine zZ.v rfl rfl (by exact zR rfl rfl (by with_reducible rfl) rfl rfl (by decide)) ?_); all_goals (refine zZ.nil ?_)) | (refine zX.isR (id := 3) ?_; refine zX.zV [0, 1, 4, 5] [4, 6, 30] (by repeat' first | exact zY.nil | apply zY.p rfl | apply zY.ptr rfl) (by repeat' first | exact zW.nil | apply zW.boxP rfl rfl | apply zW.skip) ?_) | refine zX.yG rfl (by first | assumption | with_reducible rfl) ?_ | refine zX.skip ?_))
  refine zZ.buildStore rfl rfl rfl rfl rfl rfl rfl rfl rfl (by decide) (by decide) (by decide) (by rfl) (by rfl) (by rfl) (by rfl) (by rfl) ?_
  repeat' (first | (refine zZ.nil ?_) | (refine zX.is ?_; first | refine zX.seq ?_ | (refine zX.isR (id := 4) ?_; refine zX.zV [0, 1, 4, 5, 6] [4, 6, 30] (by repeat' first | exact zY.nil | apply zY.p rfl | apply zY.ptr rfl) (by repeat' first | exact zW.nil | apply zW.boxP rfl rfl | apply zW.some rfl) ?_; (refine zZ.v rfl rfl (zQ rfl rfl rfl (by decide)) ?_); (refine zZ.v rfl rfl (by exact r_gtr rfl rfl rfl (by exact g9) rfl (by decide)) ?_); refine zZ.nil ?_) | (refine zX.isR (id := 5) ?_; refine zX.zV [0, 1, 4, 5, 6] [4, 6, 30] (by repeat' first | exact zY.nil | apply zY.p rfl | apply zY.ptr rfl) (by repeat' first | exact zW.nil | apply zW.boxP rfl rfl | apply zW.some rfl) ?_; (refine zZ.v rfl rfl (zJ rfl rfl rfl (by decide)) ?_); (refine zZ.v rfl rfl (w_loadO rfl rfl rfl rfl rfl (by decide)) ?_); (refine zZ.v rfl rfl (by exact w_indexV rfl rfl rfl rfl (by exact g7) rfl (by decide)) ?_); (refine zZ.w rfl (by exact w_storeV rfl rfl rfl rfl rfl (by exact g6) (by rfl) rfl (by exact g8) rfl) ?_); refine zZ.nil ?_) | (refine zX.isR (id := 6) ?_; refine zX.zV [0, 1, 4, 5, 6] [4, 6, 30] (by repeat' first | exact zY.nil | apply zY.p rfl | apply zY.ptr rfl) (by repeat' first | exact zW.nil | apply zW.boxP rfl rfl | apply zW.some rfl) ?_; (refine zZ.v rfl rfl (zK rfl rfl rfl (by decide)) ?_); refine zZ.nil ?_) | refine zX.yE rfl (by assumption) ?_ | refine zX.block ?_))
  refine zX.loopOnce ?_
  repeat' ((refine zX.is ?_; first | refine zX.seq ?_ | (refine zX.isR (id := 7) ?_; refine zX.zV [0, 1, 4, 5, 6, 7, 39] [4, 6, 30] (by repeat' first | exact zY.nil | apply zY.p rfl | apply zY.ptr rfl | apply zY.skip) (by repeat' first | exact zW.nil | apply zW.boxP rfl rfl | apply zW.some rfl) ?_; (refine zZ.v rfl rfl (zQ rfl rfl rfl (by decide)) ?_); (refine zZ.v rfl rfl (zQ rfl rfl rfl (by decide)) ?_); (refine zZ.v rfl rfl (by exact yL rfl rfl rfl (by exact bF (by decide)) rfl (by decide)) ?_); refine zZ.nil ?_) | (refine zX.isR (id := 10) ?_; refine zX.sub ((sub_frzE 30 22 1 (wsN t) rfl)) ?_; refine zX.zV [4, 5, 6] [4, 6, 30] (by repeat' first | exact zY.nil | apply zY.p rfl | apply zY.ptr rfl) (by repeat' first | exact zW.nil | apply zW.boxP rfl rfl | apply zW.skip) ?_; (refine zZ.v rfl rfl (zI rfl rfl rfl (by rfl) (by rfl) rfl (by decide)) ?_); (refine zZ.w rfl (by exact zB rfl rfl rfl rfl rfl (by rfl) (by exact Nat.le_of_ble_eq_true rfl) rfl rfl) ?_); (refine zZ.v rfl rfl (zK rfl rfl rfl (by decide)) ?_); refine zZ.nil ?_) | refine zX.yG rfl (by first | assumption | with_reducible rfl) ?_ | refine zX.exit ?_ | refine zX.ret ?_))
  have e : wds ((List.replicate (t + 16) 0).set 1 1) = wsN t := by simp [wds, wsN, List.map_set]
  unfold memV
  rw [e]
  all_goals exact ⟨by first | exact .inl rfl | exact .inr rfl, _, Sub.refl _, .tup (rs := [.cell 4 46, .tmp 5]) (l := [.agg [.val (.int .i64 t), .val (.int .i64 1), .sl (wsN t)], .val (.int .i64 0)]) rfl (by decide) (.cons (.cellN rfl rfl (by rfl) (by rfl)) (.cons (.tmp rfl) .nil))⟩
theorem new10_fn (t : Nat) (h1 : 1 ≤ t) (h64 : t ≤ 64) : Fn Tryz.prog 11 [.val (.int .i64 t), .val (.int .i64 1)] (.p (xH t 1 ((List.replicate (t + 16) 0).set 1 1) 0 (List.replicate t ([], 0)) (List.replicate t ([], 0)))) := by
  have c1 := new9_fn t h1 h64
  have c2 := new7_fn t h1 h64
  refine yI Tryz.func11 rfl Tryz.ntmps11 (Nat.le_of_ble_eq_true rfl) ?_
  repeat' ((refine zX.is ?_; first | refine zX.seq ?_ | (refine zX.isR (id := 0) ?_; refine zX.zV [0, 1] [4, 5, 7] (by repeat' first | exact zY.nil | apply zY.p rfl) (by repeat' first | exact zW.nil | apply zW.skip) ?_; (refine zZ.m rfl rfl (zC rfl (by decide) rfl (by decide)) ?_); refine zZ.nil ?_) | (refine zX.isR (id := 1) ?_; refine zX.zV [0, 1, 4] [4, 5, 7] (by repeat' first | exact zY.nil | apply zY.p rfl | apply zY.ptr rfl) (by repeat' first | exact zW.nil | apply zW.boxP rfl rfl | apply zW.skip) ?_; (refine zZ.v rfl rfl (zQ rfl rfl rfl (by decide)) ?_); (refine zZ.v rfl rfl (zQ rfl rfl rfl (by decide)) ?_); (refine zZ.v rfl rfl (by exact yU (c1) rfl rfl rfl (by decide)) ?_); (refine zZ.v rfl rfl (yO rfl rfl rfl (by decide)) ?_); (refine zZ.v rfl rfl (zF rfl rfl rfl rfl (by decide)) ?_); (refine zZ.v rfl rfl (zF rfl rfl rfl rfl (by decide)) ?_); (refine zZ.m rfl rfl (zC rfl (by decide) rfl (by decide)) ?_); (refine zZ.w rfl (by exact zB rfl rfl rfl rfl rfl (by rfl) (by exact Nat.le_of_ble_eq_true rfl) rfl rfl) ?_); (refine zZ.v rfl rfl (zK rfl rfl rfl (by decide)) ?_); refine zZ.nil ?_) | (refine zX.isR (id := 2) ?_; refine zX.zV [0, 4, 5] [4, 5, 7] (by repeat' first | exact zY.nil | apply zY.p rfl | apply zY.ptr rfl) (by repeat' first | exact zW.nil | apply zW.boxP rfl rfl | apply zW.skip) ?_; (refine zZ.v rfl rfl (zQ rfl rfl rfl (by decide)) ?_); (refine zZ.v rfl rfl (by exact yU (c2) rfl rfl rfl (by decide)) ?_); (refine zZ.v rfl rfl (yO rfl rfl rfl (by decide)) ?_); (refine zZ.v rfl rfl (zF rfl rfl rfl rfl (by decide)) ?_); (refine zZ.v rfl rfl (zF rfl rfl rfl rfl (by decide)) ?_); (refine zZ.m rfl rfl (zC rfl (by decide) rfl (by decide)) ?_); (refine zZ.w rfl (by exact zB rfl rfl rfl rfl rfl (by rfl) (by exact Nat.le_of_ble_eq_true rfl) rfl rfl) ?_); (refine zZ.v rfl rfl (zK rfl rfl rfl (by decide)) ?_); refine zZ.nil ?_) | (refine zX.isR (id := 3) ?_; refine zX.zV [4, 5, 7] [4, 5, 7] (by repeat' first | exact zY.nil | apply zY.ptr rfl) (by repeat' first | exact zW.nil | apply zW.boxP rfl rfl) ?_; (refine zZ.v rfl rfl (zI rfl rfl rfl (by rfl) (by rfl) rfl (by decide)) ?_); (refine zZ.v rfl rfl (zI rfl rfl rfl (by rfl) (by rfl) rfl (by decide)) ?_); (refine zZ.v rfl rfl (zS rfl (by rfl) (by rfl) (by rfl) (by rfl) rfl (by decide)) ?_); (refine zZ.w rfl (by exact zB rfl rfl rfl rfl rfl (by rfl) (by exact Nat.le_of_ble_eq_true rfl) rfl rfl) ?_); refine zZ.nil ?_) | refine zX.ret ?_))
  all_goals exact ⟨by first | exact .inl rfl | exact .inr rfl, _, Sub.refl _, .p (r := .cell 4 52) rfl (.cellN rfl rfl (by rfl) (by rfl))⟩
end Go.Proofs.YtlfkofkdigmnpaaGreatDoor
/- Frames told again (reference), one of them: contract. -/
namespace Go.Proofs.YtlfkofkdigmnpaaGreatDoor
set_option maxRecDepth 100000
set_option maxHeartbeats 16000000
open Go Go.RowKit
set_option linter.unusedSimpArgs false
attribute [local irreducible] zZ zX Step zG Sub zP zM Fn
def splitS0 (b : List Int) : AS := { t := [(0, .p (.sl (byts (wQ b)))), (4, .p (.val (.slice none 0 0))), (5, .p (.val (.int .i64 0)))], s := [] }
def splitS1 (b X : List Int) : AS := { t := [(0, .p (.sl (byts (wQ b)))), (4, .p (.sl [.sl (byts X)])), (5, .p (.val (.int .i64 (6 + (b.length : Int)))))], s := [] }
def splitS (b : List Int) : Nat → AS
  | 0 => splitS0 b
  | _ => splitS1 b b
def splitI (b X : List Int) (i : Nat) : AS :=
  { t := [(0, .p (.sl (byts (wQ b)))), (4, .p (.val (.slice none 0 0))), (5, .p (.val (.int .i64 0))), (6, .p (.val (.int .i64 b.length))), (7, .p (.sl (byts X))), (8, .p (.sl (byts (wQ b)))), (10, .p (.val (.int .i64 (i : Nat))))], s := [] }
theorem putF_len (b : List Int) (hl : putOk b) : (wQ b).length = 6 + b.length := by rw [putF_ref b hl]; simp; omega
theorem splitRef_fn (b : List Int) (hb : ∀ x ∈ b, 0 ≤ x ∧ x < 256) (hl : putOk b) : Fn Tryz.prog 13 [.sl (byts (wQ b))] (.tup [.sl [.sl (byts b)], .val (.int .i64 (6 + (b.length : Int)))]) := by
  have hN := hl.1
  have hN2 := hl.2
  have hlen := putF_len b hl
  have hF := putF_ref b hl
  refine yI Tryz.func13 rfl Tryz.ntmps13 (Nat.le_of_ble_eq_true rfl) ?_
  repeat' ((refine zX.is ?_; first | refine zX.seq ?_ | (refine zX.isR (id := 0) ?_; refine zX.zV [0] [2, 4, 42, 76] (by repeat' first | exact zY.nil | apply zY.p rfl) (by repeat' first | exact zW.nil | apply zW.skip) ?_; (refine zZ.v rfl rfl (zK rfl rfl rfl (by decide)) ?_); (refine zZ.v rfl rfl (zK rfl rfl rfl (by decide)) ?_); refine zZ.nil ?_) | (refine zX.isR (id := 1) ?_; refine zX.zV [0, 2, 3] [2, 4, 42, 76] (by repeat' first | exact zY.nil | apply zY.p rfl) (by repeat' first | exact zW.nil | apply zW.skip) ?_; (refine zZ.v rfl rfl (zK rfl rfl rfl (by decide)) ?_); refine zZ.nil ?_) | (refine zX.isR (id := 2) ?_; refine zX.zV [0, 2, 3, 4] [2, 4, 42, 76] (by repeat' first | exact zY.nil | apply zY.p rfl) (by repeat' first | exact zW.nil | apply zW.skip) ?_; (refine zZ.v rfl rfl (zK rfl rfl rfl (by decide)) ?_); refine zZ.nil ?_) | refine zX.block ?_))
  refine zX.loop (splitS b) (fun k => k ≤ 1) (fun k => 2 - k) 0 ?h0 (Nat.zero_le _) ?rd
  case h0 =>
    refine yY (is := [0, 4, 5]) (js := []) ?_ ?_
    repeat' first | exact zY.nil | apply zY.p rfl | apply zY.ptr rfl | apply zY.own rfl | apply zY.clo rfl | apply zY.pt rfl | apply zY.tup rfl | apply zY.skip
    repeat' first | exact zW.nil | apply zW.boxP rfl rfl | apply zW.yH rfl | apply zW.some rfl | apply zW.skip
  case rd =>
    intro k hk
    rcases (show k = 0 ∨ k = 1 by omega) with rfl | rfl
    · change zX _ _ _ (splitS0 b) _
      have f0 : decide ((6 : Int) ≤ ((wQ b).length : Int)) = true := decide_eq_true (by rw [hlen]; omega)
      have i0 : (0 : Int) ≤ 0 ∧ (0 : Int) < ((wQ b).length : Int) := by rw [hlen]; omega
      have i1 : (0 : Int) ≤ 1 ∧ (1 : Int) < ((wQ b).length : Int) := by rw [hlen]; omega
      have g1 : IntKind.i64.wrap ((wQ b).getD (0 : Int).toNat 0) = (b.length : Int) % 256 := by rw [hF]; exact wrap_i64 _ (by simp; omega)
      have g2 : IntKind.i64.wrap ((wQ b).getD (1 : Int).toNat 0) = (b.length : Int) / 256 := by rw [hF]; exact wrap_i64 _ (by simp; omega)
      have g3 : IntKind.i64.wrap (256 * ((b.length : Int) / 256)) = 256 * ((b.length : Int) / 256) := wrap_i64 _ (by omega)
      have g4 : IntKind.i64.wrap ((b.length : Int) % 256 + 256 * ((b.length : Int) / 256)) = (b.length : Int) := by rw [wrap_i64 _ (by omega)]; omega
      have g5 : IntKind.i64.wrap (6 + (b.length : Int)) = 6 + (b.length : Int) := wrap_i64 _ (by omega)
      have f1 : decide ((b.length : Int) = 0) = false := decide_eq_false (by omega)
      have f2 : decide (((wQ b).length : Int) < 6 + (b.length : Int)) = false := decide_eq_false (by rw [hlen]; omega)
      have i2 : (0 : Int) ≤ 6 ∧ (6 : Int) ≤ 6 + (b.length : Int) ∧ 6 + (b.length : Int) ≤ ((wQ b).length : Int) := by rw [hlen]; omega
      have hX : ([] ++ ((wQ b).drop (6 : Int).toNat).take ((6 + (b.length : Int)).toNat - (6 : Int).toNat)) = b := by
        rw [hF, List.nil_append]
        have e1 : (6 + (b.length : Int)).toNat - (6 : Int).toNat = b.length := by omega
        rw [e1]
        show List.take b.length (List.drop 6 (_ :: _ :: _ :: _ :: _ :: _ :: b)) = b
        simp
      have c1 := putRef_fn b hb hl
      have c1 : Fn Tryz.prog 30 [.sl (byts ([] ++ ((wQ b).drop (6 : Int).toNat).take ((6 + (b.length : Int)).toNat - (6 : Int).toNat)))] (.tup [.sl (byts (wQ b)), .val (.int .i64 0)]) := by rw [hX]; exact c1
      have l1 : ([] : List Int).length + (((wQ b).drop (6 : Int).toNat).take ((6 + (b.length : Int)).toNat - (6 : Int).toNat)).length ≤ 140737488355328 := by simp; omega
      repeat' ((refine zX.is ?_; first | refine zX.seq ?_ | (refine zX.isR (id := 3) ?_; refine zX.zV [0, 2, 3, 4, 5, 6, 7, 8, 10, 15, 39, 58, 71] [2, 4, 42, 76] (by repeat' first | exact zY.nil | apply zY.p rfl | apply zY.skip) (by repeat' first | exact zW.nil | apply zW.skip) ?_; (refine zZ.v rfl rfl (zQ rfl rfl rfl (by decide)) ?_); (refine zZ.v rfl rfl (by exact y7 rfl rfl rfl (by (simp only [Int.reduceAdd, Int.reduceSub, Int.reduceMul]; exact wrap_i64 _ (by omega))) rfl (by decide)) ?_); (refine zZ.v rfl rfl (zQ rfl rfl rfl (by decide)) ?_); (refine zZ.v rfl rfl (vV rfl rfl rfl (by decide)) ?_); (refine zZ.v rfl rfl (by exact r_leq rfl rfl rfl (by exact f0) rfl (by decide)) ?_); refine zZ.nil ?_) | (refine zX.isR (id := 4) ?_; refine zX.yA [0, 2, 3, 4, 5, 6, 7, 8, 10, 15, 39, 58, 71] [2, 4, 42, 76] (by repeat' first | exact zY.nil | apply zY.p rfl | apply zY.skip) (by repeat' first | exact zW.nil | apply zW.skip) (zX.draws ?_); all_goals (refine Draws.v rfl rfl (zQ rfl rfl rfl (by decide)) ?_); all_goals (refine Draws.v rfl rfl (zQ rfl rfl rfl (by decide)) ?_); all_goals (refine Draws.v rfl rfl (by exact w_indexB rfl rfl rfl (by exact i0) rfl (by decide)) ?_); all_goals (refine Draws.v rfl rfl (wO rfl rfl rfl rfl (by decide)) ?_); all_goals (refine Draws.v rfl rfl (by exact xQ rfl rfl (by exact g1) rfl (by decide)) ?_); all_goals (refine Draws.v rfl rfl (zQ rfl rfl rfl (by decide)) ?_); all_goals (refine Draws.v rfl rfl (zQ rfl rfl rfl (by decide)) ?_); all_goals (refine Draws.v rfl rfl (by exact y7 rfl rfl rfl (by (simp only [Int.reduceAdd, Int.reduceSub, Int.reduceMul]; exact wrap_i64 _ (by omega))) rfl (by decide)) ?_); all_goals (refine Draws.v rfl rfl (by exact w_indexB rfl rfl rfl (by exact i1) rfl (by decide)) ?_); all_goals (refine Draws.v rfl rfl (wO rfl rfl rfl rfl (by decide)) ?_); all_goals (refine Draws.v rfl rfl (by exact xQ rfl rfl (by exact g2) rfl (by decide)) ?_); all_goals (refine Draws.v rfl rfl (by exact a_mul rfl rfl rfl (by exact g3) rfl (by decide)) ?_); all_goals (refine Draws.v rfl rfl (by exact y7 rfl rfl rfl (by exact g4) rfl (by decide)) ?_); all_goals (refine Draws.v rfl rfl (zK rfl rfl rfl (by decide)) ?_); all_goals ((refine Draws.done (by kernel_rfl) (by kernel_rfl) (by kernel_rfl) ?_; refine zP.nil ?_))) | (refine zX.isR (id := 5) ?_; refine zX.zV [0, 2, 3, 4, 5, 6, 7, 8, 10, 15, 39, 58, 71] [2, 4, 42, 76] (by repeat' first | exact zY.nil | apply zY.p rfl | apply zY.skip) (by repeat' first | exact zW.nil | apply zW.skip) ?_; all_goals (refine zZ.v rfl rfl (zQ rfl rfl rfl (by decide)) ?_); all_goals (refine zZ.v rfl rfl (by exact yQ rfl rfl rfl (by exact f1) rfl (by decide)) ?_); all_goals (refine zZ.v rfl rfl (zQ rfl rfl rfl (by decide)) ?_); all_goals (refine zZ.gY rfl rfl (by decide) rfl (by with_reducible rfl) rfl (by decide) (zQ rfl rfl rfl (by decide)) ?_); all_goals (refine zZ.gY rfl rfl (by decide) rfl (by with_reducible rfl) rfl (by decide) (by exact y7 rfl rfl rfl (by (simp only [Int.reduceAdd, Int.reduceSub, Int.reduceMul]; exact wrap_i64 _ (by omega))) rfl (by decide)) ?_); all_goals (refine zZ.gY rfl rfl (by decide) rfl (by with_reducible rfl) rfl (by decide) (zQ rfl rfl rfl (by decide)) ?_); all_goals (refine zZ.gY rfl rfl (by decide) rfl (by with_reducible rfl) rfl (by decide) (by exact y7 rfl rfl rfl (by exact g5) rfl (by decide)) ?_); all_goals (refine zZ.gY rfl rfl (by decide) rfl (by with_reducible rfl) rfl (by decide) (zQ rfl rfl rfl (by decide)) ?_); all_goals (refine zZ.gY rfl rfl (by decide) rfl (by with_reducible rfl) rfl (by decide) (vV rfl rfl rfl (by decide)) ?_); all_goals (refine zZ.gY rfl rfl (by decide) rfl (by with_reducible rfl) rfl (by decide) (by exact r_gtr rfl rfl rfl (by exact f2) rfl (by decide)) ?_); all_goals (refine zZ.v rfl rfl (by exact zR rfl rfl (by with_reducible rfl) rfl rfl (by decide)) ?_); all_goals (refine zZ.nil ?_)) | (refine zX.isR (id := 7) ?_; refine zX.zV [0, 2, 3, 4, 5, 6, 7, 8, 10, 15, 39, 58, 71] [2, 4, 42, 76] (by repeat' first | exact zY.nil | apply zY.p rfl | apply zY.skip) (by repeat' first | exact zW.nil | apply zW.skip) ?_; (refine zZ.m rfl rfl (w_build0B rfl rfl (by decide)) ?_); (refine zZ.v rfl rfl (zQ rfl rfl rfl (by decide)) ?_); (refine zZ.v rfl rfl (zQ rfl rfl rfl (by decide)) ?_); (refine zZ.v rfl rfl (by exact y7 rfl rfl rfl (by (simp only [Int.reduceAdd, Int.reduceSub, Int.reduceMul]; exact wrap_i64 _ (by omega))) rfl (by decide)) ?_); (refine zZ.v rfl rfl (zQ rfl rfl rfl (by decide)) ?_); (refine zZ.v rfl rfl (by exact y7 rfl rfl rfl (by (simp only [Int.reduceAdd, Int.reduceSub, Int.reduceMul]; exact wrap_i64 _ (by omega))) rfl (by decide)) ?_); (refine zZ.v rfl rfl (zQ rfl rfl rfl (by decide)) ?_); (refine zZ.v rfl rfl (by exact y7 rfl rfl rfl (by exact g5) rfl (by decide)) ?_); (refine zZ.v rfl rfl (by exact w_sliceLHB rfl rfl rfl rfl (by exact i2) rfl (by decide)) ?_); (refine zZ.w rfl (by exact w_appB rfl rfl rfl rfl (by exact l1) rfl rfl (by decide)) ?_); (refine zZ.v rfl rfl (y5 rfl rfl rfl (by decide)) ?_); refine zZ.nil ?_) | (refine zX.isR (id := 8) ?_; refine zX.sub ((sub_frzB 42 rfl)) ?_; refine zX.zV [0, 2, 3, 4, 5, 6, 7, 8, 10, 15, 39, 58, 71] [2, 4, 42, 76] (by repeat' first | exact zY.nil | apply zY.p rfl | apply zY.skip) (by repeat' first | exact zW.nil | apply zW.skip) ?_; (refine zZ.v rfl rfl (zQ rfl rfl rfl (by decide)) ?_); (refine zZ.v rfl rfl (by exact yU (c1) rfl rfl rfl (by decide)) ?_); (refine zZ.v rfl rfl (yO rfl rfl rfl (by decide)) ?_); (refine zZ.v rfl rfl (zF rfl rfl rfl rfl (by decide)) ?_); (refine zZ.v rfl rfl (zF rfl rfl rfl rfl (by decide)) ?_); (refine zZ.v rfl rfl (zK rfl rfl rfl (by decide)) ?_); (refine zZ.v rfl rfl (zK rfl rfl rfl (by decide)) ?_); refine zZ.nil ?_) | (refine zX.isR (id := 9) ?_; refine zX.zV [0, 2, 3, 4, 5, 6, 7, 8, 10, 15, 39, 58, 71] [2, 4, 42, 76] (by repeat' first | exact zY.nil | apply zY.p rfl | apply zY.skip) (by repeat' first | exact zW.nil | apply zW.skip) ?_; (refine zZ.v rfl rfl (zK rfl rfl rfl (by decide)) ?_); refine zZ.nil ?_) | refine zX.yE rfl (by first | assumption | with_reducible rfl) ?_ | refine zX.yG rfl (by first | assumption | with_reducible rfl) ?_ | refine zX.skip ?_ | refine zX.block ?_))
      generalize hXe : ([] ++ ((wQ b).drop (6 : Int).toNat).take ((6 + (b.length : Int)).toNat - (6 : Int).toNat)) = X at hX ⊢
      refine zX.loop (fun k => splitI b X (k + 2)) (fun k => k ≤ 4) (fun k => 4 - k) 0 ?h0 (Nat.zero_le _) ?rd
      case h0 =>
        refine yY (is := [0, 4, 5, 6, 7, 8, 10]) (js := []) ?_ ?_
        repeat' first | exact zY.nil | apply zY.p rfl | apply zY.ptr rfl | apply zY.own rfl | apply zY.clo rfl | apply zY.pt rfl | apply zY.tup rfl | apply zY.skip
        repeat' first | exact zW.nil | apply zW.boxP rfl rfl | apply zW.yH rfl | apply zW.some rfl | apply zW.skip
      case rd =>
        intro k hk4
        have q1 : IntKind.i64.wrap (0 + ((k + 2 : Nat) : Int)) = ((k + 2 : Nat) : Int) := by rw [wrap_i64 _ (by omega)]; omega
        have q2 : IntKind.i64.wrap (((k + 2 : Nat) : Int) + 1) = ((k + 1 + 2 : Nat) : Int) := by rw [wrap_i64 _ (by omega)]; omega
        have q3 : (0 : Int) ≤ ((k + 2 : Nat) : Int) ∧ ((k + 2 : Nat) : Int) < ((wQ b).length : Int) := by rw [hlen]; omega
        have q4 : ∀ x : Int, (!decide (x = x)) = false := fun x => by simp
        rcases Nat.lt_or_ge k 4 with h4 | h4
        · have q5 : decide (((k + 2 : Nat) : Int) < 6) = true := decide_eq_true (by omega)
          repeat' (first | (refine zX.is ?_; first | refine zX.seq ?_ | (refine zX.isR (id := 10) ?_; refine zX.zV [0, 2, 3, 4, 5, 6, 7, 8, 10, 15, 39, 58, 71] [2, 4, 42, 76] (by repeat' first | exact zY.nil | apply zY.p rfl | apply zY.skip) (by repeat' first | exact zW.nil | apply zW.skip) ?_; (refine zZ.v rfl rfl (zQ rfl rfl rfl (by decide)) ?_); (refine zZ.v rfl rfl (by exact yL rfl rfl rfl (by exact q5) rfl (by decide)) ?_); refine zZ.nil ?_) | (refine zX.isR (id := 12) ?_; refine zX.yA [0, 2, 3, 4, 5, 6, 7, 8, 10, 15, 39, 58, 71] [2, 4, 42, 76] (by repeat' first | exact zY.nil | apply zY.p rfl | apply zY.skip) (by repeat' first | exact zW.nil | apply zW.skip) (zX.draws ?_); all_goals (refine Draws.v rfl rfl (zQ rfl rfl rfl (by decide)) ?_); all_goals (refine Draws.v rfl rfl (zQ rfl rfl rfl (by decide)) ?_); all_goals (refine Draws.v rfl rfl (by exact w_indexB rfl rfl rfl (by exact q3) rfl (by decide)) ?_); all_goals (refine Draws.v rfl rfl (wO rfl rfl rfl rfl (by decide)) ?_); all_goals (refine Draws.v rfl rfl (zQ rfl rfl rfl (by decide)) ?_); all_goals (refine Draws.v rfl rfl (zQ rfl rfl rfl (by decide)) ?_); all_goals (refine Draws.v rfl rfl (zQ rfl rfl rfl (by decide)) ?_); all_goals (refine Draws.v rfl rfl (by exact y7 rfl rfl rfl (by exact q1) rfl (by decide)) ?_); all_goals (refine Draws.v rfl rfl (by exact w_indexB rfl rfl rfl (by exact q3) rfl (by decide)) ?_); all_goals (refine Draws.v rfl rfl (wO rfl rfl rfl rfl (by decide)) ?_); all_goals (refine Draws.v rfl rfl (by exact xW rfl rfl rfl (by exact q4 _) rfl (by decide)) ?_); all_goals ((refine Draws.done (by kernel_rfl) (by kernel_rfl) (by kernel_rfl) ?_; refine zP.nil ?_))) | (refine zX.isR (id := 11) ?_; refine zX.zV [0, 2, 3, 4, 5, 6, 7, 8, 10, 15, 39, 58, 71] [2, 4, 42, 76] (by repeat' first | exact zY.nil | apply zY.p rfl | apply zY.skip) (by repeat' first | exact zW.nil | apply zW.skip) ?_; (refine zZ.v rfl rfl (zQ rfl rfl rfl (by decide)) ?_); (refine zZ.v rfl rfl (by exact y7 rfl rfl rfl (by exact q2) rfl (by decide)) ?_); (refine zZ.v rfl rfl (zK rfl rfl rfl (by decide)) ?_); refine zZ.nil ?_) | refine zX.yE rfl (by first | assumption | with_reducible rfl) ?_ | refine zX.yG rfl (by first | assumption | with_reducible rfl) ?_ | refine zX.skip ?_ | refine zX.block ?_) | refine yJ.n ?_)
          refine ⟨k + 1, ?_, by omega, by omega⟩
          refine yY (is := [0, 4, 5, 6, 7, 8, 10]) (js := []) ?_ ?_
          repeat' first | exact zY.nil | apply zY.p rfl | apply zY.ptr rfl | apply zY.own rfl | apply zY.clo rfl | apply zY.pt rfl | apply zY.tup rfl | apply zY.skip
          repeat' first | exact zW.nil | apply zW.boxP rfl rfl | apply zW.yH rfl | apply zW.some rfl | apply zW.skip
        · obtain rfl : k = 4 := by omega
          have q5 : decide (((4 + 2 : Nat) : Int) < 6) = false := rfl
          have q6 : ∀ e ∈ [PV.sl (byts X)], e.cells.length = 1 := fun e he => by simp at he; subst he; rfl
          have q7 : ([PV.sl (byts X)] : List PV).length * 24 ≤ 140737488355328 ∧ ([PV.sl (byts X)] : List PV).length ≤ maxLen := by simp [maxLen]
          repeat' (first | (refine zX.is ?_; first | refine zX.seq ?_ | (refine zX.isR (id := 10) ?_; refine zX.zV [0, 2, 3, 4, 5, 6, 7, 8, 10, 15, 39, 58, 71] [2, 4, 42, 76] (by repeat' first | exact zY.nil | apply zY.p rfl | apply zY.skip) (by repeat' first | exact zW.nil | apply zW.skip) ?_; (refine zZ.v rfl rfl (zQ rfl rfl rfl (by decide)) ?_); (refine zZ.v rfl rfl (by exact yL rfl rfl rfl (by exact q5) rfl (by decide)) ?_); refine zZ.nil ?_) | (refine zX.isR (id := 14) ?_; refine zX.zV [0, 2, 3, 4, 5, 6, 7, 8, 10, 15, 39, 58, 71] [2, 4, 42, 76] (by repeat' first | exact zY.nil | apply zY.p rfl | apply zY.skip) (by repeat' first | exact zW.nil | apply zW.skip) ?_; (refine zZ.v rfl rfl (zQ rfl rfl rfl (by decide)) ?_); (refine zZ.v rfl rfl (zQ rfl rfl rfl (by decide)) ?_); (refine zZ.v rfl rfl (w_buildSl rfl (by decide) (by decide) (by decide) (by decide) (by rfl) (by rfl) (by rfl) (by rfl) (by rfl) (by rfl) (by rfl) rfl (by decide)) ?_); (refine zZ.v rfl rfl (by exact w_appNil rfl rfl rfl (by exact q6) (by exact q7) rfl (by decide) rfl (by decide)) ?_); (refine zZ.v rfl rfl (zK rfl rfl rfl (by decide)) ?_); refine zZ.nil ?_) | (refine zX.isR (id := 15) ?_; refine zX.zV [0, 2, 3, 4, 5, 6, 7, 8, 10, 15, 39, 58, 71] [2, 4, 42, 76] (by repeat' first | exact zY.nil | apply zY.p rfl | apply zY.skip) (by repeat' first | exact zW.nil | apply zW.skip) ?_; (refine zZ.v rfl rfl (zQ rfl rfl rfl (by decide)) ?_); (refine zZ.v rfl rfl (by exact y7 rfl rfl rfl (by (simp only [Int.reduceAdd, Int.reduceSub, Int.reduceMul]; exact wrap_i64 _ (by omega))) rfl (by decide)) ?_); (refine zZ.v rfl rfl (zQ rfl rfl rfl (by decide)) ?_); (refine zZ.v rfl rfl (by exact y7 rfl rfl rfl (by exact g5) rfl (by decide)) ?_); (refine zZ.v rfl rfl (zK rfl rfl rfl (by decide)) ?_); refine zZ.nil ?_) | refine zX.yG rfl (by assumption) ?_ | refine zX.exit ?_) | refine yJ.n ?_ | refine xV.n ?_)
          refine ⟨1, ?_, by omega, by omega⟩
          show Sub _ (splitS1 b b)
          rw [show splitS1 b b = splitS1 b X by rw [hX]]
          refine yY (is := [0, 4, 5]) (js := []) ?_ ?_
          repeat' first | exact zY.nil | apply zY.p rfl | apply zY.ptr rfl | apply zY.own rfl | apply zY.clo rfl | apply zY.pt rfl | apply zY.tup rfl | apply zY.skip
          repeat' first | exact zW.nil | apply zW.boxP rfl rfl | apply zW.yH rfl | apply zW.some rfl | apply zW.skip
    · change zX _ _ _ (splitS1 b b) _
      have g1 : IntKind.i64.wrap (6 + (b.length : Int) + 6) = 6 + (b.length : Int) + 6 := wrap_i64 _ (by omega)
      have g2 : decide (6 + (b.length : Int) + 6 ≤ ((wQ b).length : Int)) = false := decide_eq_false (by rw [hlen]; omega)
      repeat' ((refine zX.is ?_; first | refine zX.seq ?_ | (refine zX.isR (id := 3) ?_; refine zX.zV [0, 2, 3, 4, 5, 6, 7, 8, 10, 15, 39, 58, 71] [2, 4, 42, 76] (by repeat' first | exact zY.nil | apply zY.p rfl | apply zY.skip) (by repeat' first | exact zW.nil | apply zW.skip) ?_; (refine zZ.v rfl rfl (zQ rfl rfl rfl (by decide)) ?_); (refine zZ.v rfl rfl (by exact y7 rfl rfl rfl (by exact g1) rfl (by decide)) ?_); (refine zZ.v rfl rfl (zQ rfl rfl rfl (by decide)) ?_); (refine zZ.v rfl rfl (vV rfl rfl rfl (by decide)) ?_); (refine zZ.v rfl rfl (by exact r_leq rfl rfl rfl (by exact g2) rfl (by decide)) ?_); refine zZ.nil ?_) | (refine zX.isR (id := 16) ?_; refine zX.zV [2, 3, 4, 5] [2, 4, 42, 76] (by repeat' first | exact zY.nil | apply zY.p rfl | apply zY.skip) (by repeat' first | exact zW.nil | apply zW.skip) ?_; (refine zZ.v rfl rfl (zQ rfl rfl rfl (by decide)) ?_); (refine zZ.v rfl rfl (zQ rfl rfl rfl (by decide)) ?_); (refine zZ.v rfl rfl (zK rfl rfl rfl (by decide)) ?_); (refine zZ.v rfl rfl (zK rfl rfl rfl (by decide)) ?_); refine zZ.nil ?_) | refine zX.yG rfl (by first | assumption | with_reducible rfl) ?_ | refine zX.exit ?_ | refine zX.ret ?_))
      all_goals exact ⟨by first | exact .inl rfl | exact .inr rfl, _, Sub.refl _, .tup (rs := [.tmp 2, .tmp 3]) (l := [.sl [.sl (byts b)], .val (.int .i64 (6 + (b.length : Int)))]) rfl (by decide) (.cons (.tmp rfl) (.cons (.tmp rfl) .nil))⟩
end Go.Proofs.YtlfkofkdigmnpaaGreatDoor
/- The document's example of the save layer: contract. -/
namespace Go.Proofs.YtlfkofkdigmnpaaGreatDoor
set_option maxRecDepth 100000
set_option maxHeartbeats 16000000
open Go Go.RowKit
set_option linter.unusedSimpArgs false
attribute [local irreducible] zZ zX Step zG Sub zP zM Fn
theorem opOK_of {t k u v w : Int} (ht : 1 ≤ t ∧ t ≤ 64) (hu : 1 ≤ u ∧ u ≤ 65536) (hv : k = 7 ∨ k = 23 → v = 1 ∨ v = 2) (hw : U w) : OpOK t k u v w := ⟨fun _ => ⟨by unfold Small; omega, by omega, by omega⟩, hv, hw⟩
theorem shown14_fn : Fn Tryz.prog 4 [] (.p (.val (.bool true))) := by
  have c0 := new10_fn 1 (by decide) (by decide)
  have c1 := alF_nil shW0 shR1.1 0 20 1 0 0 20 shR1.2 (opOK_of (by decide) (by decide) (by decide) (by unfold U; decide)) sh1 (by decide)
  have c2 := alF_nil shR1.1 shR2.1 0 7 1 1 0 20 shR2.2 (opOK_of (by rw [sh9.1]; decide) (by decide) (by decide) (by unfold U; decide)) sh2 (by decide)
  have c3 := alF_nil shR2.1 shR3.1 0 7 1 1 0 20 shR3.2 (opOK_of (by rw [sh9.2]; decide) (by decide) (by decide) (by unfold U; decide)) sh3 (by decide)
  have c4 := alF_nil shR2.1 shR4.1 0 22 1 0 1 20 shR4.2 (opOK_of (by rw [sh9.2]; decide) (by decide) (by decide) (by unfold U; decide)) sh4 (by decide)
  have hpo : putOk shB := by have h := sh8.2; simpa [putOk] using h
  have c5 := splitRef_fn shB (fun x hx => by have h := List.all_eq_true.1 sh8.1 x hx; simpa using h) hpo
  have h5 := sh5
  have h6 := sh6
  have h7 := sh7
  generalize shR1 = q1 at *
  generalize shR2 = q2 at *
  generalize shR3 = q3 at *
  generalize shR4 = q4 at *
  generalize shB = b at *
  obtain ⟨W1, e1, s1, w1⟩ := q1
  obtain ⟨⟨t2, u2, ws2, root2, r02, r12⟩, e2, s2, w2⟩ := q2
  obtain ⟨⟨t3, u3, ws3, root3, r03, r13⟩, e3, s3, w3⟩ := q3
  obtain ⟨W4, e4, s4, w4⟩ := q4
  obtain ⟨rfl, rfl, rfl, rfl⟩ : w1 = 1 ∧ s2 = true ∧ s3 = true ∧ s4 = true := h5
  obtain rfl : r02 = [(wQ b, ((wQ b).length : Int))] := h6
  obtain rfl : r03 = [(wQ b, ((wQ b).length : Int))] := h7
  have g1 : (!decide ((((strs [(wQ b, ((wQ b).length : Int))]).length : Nat) : Int) = 1)) = false := rfl
  have g2 := strs_cells [(wQ b, ((wQ b).length : Int))]
  have g3 : (0 : Int) ≤ 0 ∧ (0 : Int) < (strs [(wQ b, ((wQ b).length : Int))]).length := by simp [strs]
  have g4 : (strs [(wQ b, ((wQ b).length : Int))])[(0 : Int).toNat]? = some (strV (wQ b) ((wQ b).length : Int)) := rfl
  have g5 : decide ((1 : Int) = 1) = true := rfl
  have g6 : decide (((wQ b).length : Int) = ((wQ b).length : Int)) = true := by simp
  have g7 : decide ((([PV.sl (byts b)].length : Nat) : Int) = 1) = true := rfl
  have g8 : (0 : Int) ≤ 0 ∧ (0 : Int) < ((2 : Nat) : Int) := by decide
  refine yI Tryz.func4 rfl Tryz.ntmps4 (Nat.le_of_ble_eq_true rfl) ?_
  repeat' ((refine zX.is ?_; first | refine zX.seq ?_ | (refine zX.isR (id := 0) ?_; refine zX.zV [] [1, 2, 3, 5, 6, 8, 9, 11, 12, 14] (by repeat' exact zY.nil) (by repeat' first | exact zW.nil | apply zW.skip) ?_; (refine zZ.v rfl rfl (zK rfl rfl rfl (by decide)) ?_); refine zZ.nil ?_) | (refine zX.isR (id := 1) ?_; refine zX.zV [0] [1, 2, 3, 5, 6, 8, 9, 11, 12, 14] (by repeat' first | exact zY.nil | apply zY.p rfl) (by repeat' first | exact zW.nil | apply zW.skip) ?_; (refine zZ.v rfl rfl (by exact zL (c0) rfl rfl rfl (by decide)) ?_); (refine zZ.m rfl rfl (zC rfl (by decide) rfl (by decide)) ?_); (refine zZ.w rfl (by exact zB rfl rfl rfl rfl rfl (by rfl) (by exact Nat.le_of_ble_eq_true rfl) rfl rfl) ?_); refine zZ.nil ?_) | (refine zX.isR (id := 2) ?_; refine zX.zV [0, 1] [1, 2, 3, 5, 6, 8, 9, 11, 12, 14] (by repeat' first | exact zY.nil | apply zY.p rfl | apply zY.ptr rfl) (by repeat' first | exact zW.nil | apply zW.boxP rfl rfl | apply zW.skip) ?_; (refine zZ.v rfl rfl (zI rfl rfl rfl (by rfl) (by rfl) rfl (by decide)) ?_); (refine zZ.v rfl rfl (zS rfl (by rfl) (by rfl) (by rfl) (by rfl) rfl (by decide)) ?_); (refine zZ.v rfl rfl (by exact yU (c1) rfl rfl rfl (by decide)) ?_); (refine zZ.v rfl rfl (yO rfl rfl rfl (by decide)) ?_); (refine zZ.v rfl rfl (zF rfl rfl rfl rfl (by decide)) ?_); (refine zZ.v rfl rfl (zF rfl rfl rfl rfl (by decide)) ?_); (refine zZ.v rfl rfl (zF rfl rfl rfl rfl (by decide)) ?_); (refine zZ.m rfl rfl (zC rfl (by decide) rfl (by decide)) ?_); (refine zZ.m rfl rfl (zC rfl (by decide) rfl (by decide)) ?_); (refine zZ.w rfl (by exact zB rfl rfl rfl rfl rfl (by rfl) (by exact Nat.le_of_ble_eq_true rfl) rfl rfl) ?_); (refine zZ.w rfl (by exact zB rfl rfl rfl rfl rfl (by rfl) (by exact Nat.le_of_ble_eq_true rfl) rfl rfl) ?_); (refine zZ.v rfl rfl (zK rfl rfl rfl (by decide)) ?_); refine zZ.nil ?_) | (refine zX.isR (id := 3) ?_; refine zX.zV [0, 2, 3, 4] [1, 2, 3, 5, 6, 8, 9, 11, 12, 14] (by repeat' first | exact zY.nil | apply zY.p rfl | apply zY.ptr rfl) (by repeat' first | exact zW.nil | apply zW.boxP rfl rfl | apply zW.skip) ?_; (refine zZ.v rfl rfl (zI rfl rfl rfl (by rfl) (by rfl) rfl (by decide)) ?_); (refine zZ.v rfl rfl (zS rfl (by rfl) (by rfl) (by rfl) (by rfl) rfl (by decide)) ?_); (refine zZ.v rfl rfl (by exact yU (c2) rfl rfl rfl (by decide)) ?_); (refine zZ.v rfl rfl (yO rfl rfl rfl (by decide)) ?_); (refine zZ.v rfl rfl (zF rfl rfl rfl rfl (by decide)) ?_); (refine zZ.v rfl rfl (zF rfl rfl rfl rfl (by decide)) ?_); (refine zZ.v rfl rfl (zF rfl rfl rfl rfl (by decide)) ?_); (refine zZ.m rfl rfl (zC rfl (by decide) rfl (by decide)) ?_); (refine zZ.m rfl rfl (zC rfl (by decide) rfl (by decide)) ?_); (refine zZ.w rfl (by exact zB rfl rfl rfl rfl rfl (by rfl) (by exact Nat.le_of_ble_eq_true rfl) rfl rfl) ?_); (refine zZ.w rfl (by exact zB rfl rfl rfl rfl rfl (by rfl) (by exact Nat.le_of_ble_eq_true rfl) rfl rfl) ?_); (refine zZ.v rfl rfl (zK rfl rfl rfl (by decide)) ?_); refine zZ.nil ?_) | (refine zX.isR (id := 4) ?_; refine zX.zV [0, 3, 4, 5, 6, 7] [1, 2, 3, 5, 6, 8, 9, 11, 12, 14] (by repeat' first | exact zY.nil | apply zY.p rfl | apply zY.ptr rfl) (by repeat' first | exact zW.nil | apply zW.boxP rfl rfl | apply zW.skip) ?_; (refine zZ.v rfl rfl (zI rfl rfl rfl (by rfl) (by rfl) rfl (by decide)) ?_); (refine zZ.v rfl rfl (zS rfl (by rfl) (by rfl) (by rfl) (by rfl) rfl (by decide)) ?_); (refine zZ.v rfl rfl (by exact yU (c3) rfl rfl rfl (by decide)) ?_); (refine zZ.v rfl rfl (yO rfl rfl rfl (by decide)) ?_); (refine zZ.v rfl rfl (zF rfl rfl rfl rfl (by decide)) ?_); (refine zZ.v rfl rfl (zF rfl rfl rfl rfl (by decide)) ?_); (refine zZ.v rfl rfl (zF rfl rfl rfl rfl (by decide)) ?_); (refine zZ.m rfl rfl (zC rfl (by decide) rfl (by decide)) ?_); (refine zZ.m rfl rfl (zC rfl (by decide) rfl (by decide)) ?_); (refine zZ.w rfl (by exact zB rfl rfl rfl rfl rfl (by rfl) (by exact Nat.le_of_ble_eq_true rfl) rfl rfl) ?_); (refine zZ.w rfl (by exact zB rfl rfl rfl rfl rfl (by rfl) (by exact Nat.le_of_ble_eq_true rfl) rfl rfl) ?_); (refine zZ.v rfl rfl (zK rfl rfl rfl (by decide)) ?_); refine zZ.nil ?_) | (refine zX.isR (id := 5) ?_; refine zX.zV [0, 3, 4, 5, 6, 7, 8, 9, 10] [1, 2, 3, 5, 6, 8, 9, 11, 12, 14] (by repeat' first | exact zY.nil | apply zY.p rfl | apply zY.ptr rfl) (by repeat' first | exact zW.nil | apply zW.boxP rfl rfl | apply zW.skip) ?_; (refine zZ.v rfl rfl (zI rfl rfl rfl (by rfl) (by rfl) rfl (by decide)) ?_); (refine zZ.v rfl rfl (zS rfl (by rfl) (by rfl) (by rfl) (by rfl) rfl (by decide)) ?_); (refine zZ.v rfl rfl (by exact yU (c4) rfl rfl rfl (by decide)) ?_); (refine zZ.v rfl rfl (yO rfl rfl rfl (by decide)) ?_); (refine zZ.v rfl rfl (zF rfl rfl rfl rfl (by decide)) ?_); (refine zZ.v rfl rfl (zF rfl rfl rfl rfl (by decide)) ?_); (refine zZ.v rfl rfl (zF rfl rfl rfl rfl (by decide)) ?_); (refine zZ.m rfl rfl (zC rfl (by decide) rfl (by decide)) ?_); (refine zZ.m rfl rfl (zC rfl (by decide) rfl (by decide)) ?_); (refine zZ.w rfl (by exact zB rfl rfl rfl rfl rfl (by rfl) (by exact Nat.le_of_ble_eq_true rfl) rfl rfl) ?_); (refine zZ.w rfl (by exact zB rfl rfl rfl rfl rfl (by rfl) (by exact Nat.le_of_ble_eq_true rfl) rfl rfl) ?_); (refine zZ.v rfl rfl (zK rfl rfl rfl (by decide)) ?_); refine zZ.nil ?_) | (refine zX.isR (id := 6) ?_; refine zX.zV [0, 3, 4, 5, 6, 7, 8, 9, 10, 12, 13] [1, 2, 3, 5, 6, 8, 9, 11, 12, 14] (by repeat' first | exact zY.nil | apply zY.p rfl | apply zY.ptr rfl) (by repeat' first | exact zW.nil | apply zW.boxP rfl rfl | apply zW.skip) ?_; all_goals (refine zZ.v rfl rfl (zJ rfl rfl rfl (by decide)) ?_); all_goals (refine zZ.v rfl rfl (zJ rfl rfl rfl (by decide)) ?_); all_goals (refine zZ.v rfl rfl (by exact wW rfl rfl rfl (by exact g8) rfl (by decide)) ?_); all_goals (refine zZ.v rfl rfl (zA rfl rfl rfl (by rfl) rfl (by decide)) ?_); all_goals (refine zZ.v rfl rfl (xE rfl rfl rfl (by decide)) ?_); all_goals (refine zZ.v rfl rfl (by exact xW rfl rfl rfl (by exact g1) rfl (by decide)) ?_); all_goals (refine zZ.v rfl rfl (zQ rfl rfl rfl (by decide)) ?_); all_goals (refine zZ.gY rfl rfl (by decide) rfl (by assumption) rfl (by decide) (zJ rfl rfl rfl (by decide)) ?_); all_goals (refine zZ.gY rfl rfl (by decide) rfl (by assumption) rfl (by decide) (zJ rfl rfl rfl (by decide)) ?_); all_goals (refine zZ.gY rfl rfl (by decide) rfl (by assumption) rfl (by decide) (by exact wW rfl rfl rfl (by exact g8) rfl (by decide)) ?_); all_goals (refine zZ.gY rfl rfl (by decide) rfl (by assumption) rfl (by decide) (zA rfl rfl rfl (by rfl) rfl (by decide)) ?_); all_goals (refine zZ.gY rfl rfl (by decide) rfl (by assumption) rfl (by decide) (xE rfl rfl rfl (by decide)) ?_); all_goals (refine zZ.gY rfl rfl (by decide) rfl (by assumption) rfl (by decide) (by exact xW rfl rfl rfl (by exact g1) rfl (by decide)) ?_); all_goals (refine zZ.v rfl rfl (by exact zR rfl rfl (by assumption) rfl rfl (by decide)) ?_); all_goals (refine zZ.nil ?_)) | (refine zX.isR (id := 8) ?_; refine zX.zV [0, 3, 4, 5, 6, 7, 8, 9, 10, 12, 13] [1, 2, 3, 5, 6, 8, 9, 11, 12, 14] (by repeat' first | exact zY.nil | apply zY.p rfl | apply zY.ptr rfl) (by repeat' first | exact zW.nil | apply zW.boxP rfl rfl | apply zW.skip) ?_; (refine zZ.v rfl rfl (zJ rfl rfl rfl (by decide)) ?_); (refine zZ.v rfl rfl (zJ rfl rfl rfl (by decide)) ?_); (refine zZ.v rfl rfl (by exact wW rfl rfl rfl (by exact g8) rfl (by decide)) ?_); (refine zZ.v rfl rfl (zA rfl rfl rfl (by rfl) rfl (by decide)) ?_); (refine zZ.v rfl rfl (by exact y8 rfl rfl rfl (by exact g2) (by exact g4) rfl (by decide)) ?_); (refine zZ.v rfl rfl (by exact wE rfl rfl (by exact Nat.le_of_ble_eq_true rfl) rfl (by decide)) ?_); (refine zZ.m rfl rfl (zC rfl (by decide) rfl (by decide)) ?_); (refine zZ.w rfl (by exact zB rfl rfl rfl rfl rfl (by rfl) (by exact Nat.le_of_ble_eq_true rfl) rfl rfl) ?_); refine zZ.nil ?_) | (refine zX.isR (id := 9) ?_; refine zX.zV [0, 3, 4, 6, 7, 8, 9, 10, 12, 13, 14] [1, 2, 3, 5, 6, 8, 9, 11, 12, 14] (by repeat' first | exact zY.nil | apply zY.p rfl | apply zY.ptr rfl) (by repeat' first | exact zW.nil | apply zW.boxP rfl rfl) ?_; (refine zZ.v rfl rfl (zJ rfl rfl rfl (by decide)) ?_); (refine zZ.v rfl rfl (zA rfl rfl rfl (by rfl) rfl (by decide)) ?_); (refine zZ.v rfl rfl (by exact yU (c5) rfl rfl rfl (by decide)) ?_); (refine zZ.v rfl rfl (yO rfl rfl rfl (by decide)) ?_); (refine zZ.v rfl rfl (zF rfl rfl rfl rfl (by decide)) ?_); (refine zZ.v rfl rfl (zF rfl rfl rfl rfl (by decide)) ?_); (refine zZ.v rfl rfl (zK rfl rfl rfl (by decide)) ?_); (refine zZ.v rfl rfl (zK rfl rfl rfl (by decide)) ?_); refine zZ.nil ?_) | (refine zX.isR (id := 10) ?_; refine zX.yA [0, 3, 4, 6, 7, 8, 9, 10, 12, 13, 14, 15] [1, 2, 3, 5, 6, 8, 9, 11, 12, 14] (by repeat' first | exact zY.nil | apply zY.p rfl | apply zY.ptr rfl) (by repeat' first | exact zW.nil | apply zW.boxP rfl rfl) (zX.draws ?_); all_goals (refine Draws.v rfl rfl (zQ rfl rfl rfl (by decide)) ?_); all_goals (refine Draws.v rfl rfl (zQ rfl rfl rfl (by decide)) ?_); all_goals (refine Draws.gY rfl rfl (by decide) rfl (by assumption) rfl (zQ rfl rfl rfl (by decide)) ?_); all_goals (refine Draws.v rfl rfl (by exact zT rfl rfl (by assumption) rfl rfl (by decide)) ?_); all_goals (refine Draws.v rfl rfl (zQ rfl rfl rfl (by decide)) ?_); all_goals (refine Draws.gY rfl rfl (by decide) rfl (by assumption) rfl (zQ rfl rfl rfl (by decide)) ?_); all_goals (refine Draws.v rfl rfl (by exact zT rfl rfl (by assumption) rfl rfl (by decide)) ?_); all_goals (refine Draws.v rfl rfl (zQ rfl rfl rfl (by decide)) ?_); all_goals (refine Draws.gY rfl rfl (by decide) rfl (by assumption) rfl (zQ rfl rfl rfl (by decide)) ?_); all_goals (refine Draws.v rfl rfl (by exact zT rfl rfl (by assumption) rfl rfl (by decide)) ?_); all_goals (refine Draws.v rfl rfl (zQ rfl rfl rfl (by decide)) ?_); all_goals (refine Draws.gY rfl rfl (by decide) rfl (by assumption) rfl (zJ rfl rfl rfl (by decide)) ?_); all_goals (refine Draws.gY rfl rfl (by decide) rfl (by assumption) rfl (zA rfl rfl rfl (by rfl) rfl (by decide)) ?_); all_goals (refine Draws.gY rfl rfl (by decide) rfl (by assumption) rfl (by exact yQ rfl rfl rfl (by exact g5) rfl (by decide)) ?_); all_goals (refine Draws.v rfl rfl (by exact zT rfl rfl (by assumption) rfl rfl (by decide)) ?_); all_goals (refine Draws.v rfl rfl (zQ rfl rfl rfl (by decide)) ?_); all_goals (refine Draws.gY rfl rfl (by decide) rfl (by assumption) rfl (zJ rfl rfl rfl (by decide)) ?_); all_goals (refine Draws.gY rfl rfl (by decide) rfl (by assumption) rfl (zA rfl rfl rfl (by rfl) rfl (by decide)) ?_); all_goals (refine Draws.v rfl rfl (by exact zT rfl rfl (by assumption) rfl rfl (by decide)) ?_); all_goals (refine Draws.v rfl rfl (zQ rfl rfl rfl (by decide)) ?_); all_goals (refine Draws.gY rfl rfl (by decide) rfl (by assumption) rfl (zJ rfl rfl rfl (by decide)) ?_); all_goals (refine Draws.gY rfl rfl (by decide) rfl (by assumption) rfl (zA rfl rfl rfl (by rfl) rfl (by decide)) ?_); all_goals (refine Draws.v rfl rfl (by exact zT rfl rfl (by assumption) rfl rfl (by decide)) ?_); all_goals (refine Draws.v rfl rfl (zQ rfl rfl rfl (by decide)) ?_); all_goals (refine Draws.gY rfl rfl (by decide) rfl (by assumption) rfl (zJ rfl rfl rfl (by decide)) ?_); all_goals (refine Draws.gY rfl rfl (by decide) rfl (by assumption) rfl (zA rfl rfl rfl (by rfl) rfl (by decide)) ?_); all_goals (refine Draws.v rfl rfl (by exact zT rfl rfl (by assumption) rfl rfl (by decide)) ?_); all_goals (refine Draws.v rfl rfl (zQ rfl rfl rfl (by decide)) ?_); all_goals (refine Draws.gY rfl rfl (by decide) rfl (by assumption) rfl (zQ rfl rfl rfl (by decide)) ?_); all_goals (refine Draws.gY rfl rfl (by decide) rfl (by assumption) rfl (xE rfl rfl rfl (by decide)) ?_); all_goals (refine Draws.gY rfl rfl (by decide) rfl (by assumption) rfl (by exact yQ rfl rfl rfl (by exact g5) rfl (by decide)) ?_); all_goals (refine Draws.v rfl rfl (by exact zT rfl rfl (by assumption) rfl rfl (by decide)) ?_); all_goals (refine Draws.v rfl rfl (zQ rfl rfl rfl (by decide)) ?_); all_goals (refine Draws.gY rfl rfl (by decide) rfl (by assumption) rfl (zJ rfl rfl rfl (by decide)) ?_); all_goals (refine Draws.gY rfl rfl (by decide) rfl (by assumption) rfl (zA rfl rfl rfl (by rfl) rfl (by decide)) ?_); all_goals (refine Draws.gY rfl rfl (by decide) rfl (by assumption) rfl (zJ rfl rfl rfl (by decide)) ?_); all_goals (refine Draws.gY rfl rfl (by decide) rfl (by assumption) rfl (zA rfl rfl rfl (by rfl) rfl (by decide)) ?_); all_goals (refine Draws.gY rfl rfl (by decide) rfl (by assumption) rfl (vV rfl rfl rfl (by decide)) ?_); all_goals (refine Draws.gY rfl rfl (by decide) rfl (by assumption) rfl (by exact yQ rfl rfl rfl (by exact g6) rfl (by decide)) ?_); all_goals (refine Draws.v rfl rfl (by exact zT rfl rfl (by assumption) rfl rfl (by decide)) ?_); all_goals (refine Draws.v rfl rfl (zQ rfl rfl rfl (by decide)) ?_); all_goals (refine Draws.gY rfl rfl (by decide) rfl (by assumption) rfl (zJ rfl rfl rfl (by decide)) ?_); all_goals (refine Draws.gY rfl rfl (by decide) rfl (by assumption) rfl (zJ rfl rfl rfl (by decide)) ?_); all_goals (refine Draws.gY rfl rfl (by decide) rfl (by assumption) rfl (by exact wW rfl rfl rfl (by exact g8) rfl (by decide)) ?_); all_goals (refine Draws.gY rfl rfl (by decide) rfl (by assumption) rfl (zA rfl rfl rfl (by rfl) rfl (by decide)) ?_); all_goals (refine Draws.gY rfl rfl (by decide) rfl (by assumption) rfl (by exact y8 rfl rfl rfl (by exact g2) (by exact g4) rfl (by decide)) ?_); all_goals (refine Draws.gY rfl rfl (by decide) rfl (by assumption) rfl (w_fieldPt rfl rfl rfl (by decide)) ?_); all_goals (refine Draws.gY rfl rfl (by decide) rfl (by assumption) rfl (wO rfl rfl rfl rfl (by decide)) ?_); all_goals (refine Draws.gY rfl rfl (by decide) rfl (by assumption) rfl (vV rfl rfl rfl (by decide)) ?_); all_goals (refine Draws.gY rfl rfl (by decide) rfl (by assumption) rfl (zJ rfl rfl rfl (by decide)) ?_); all_goals (refine Draws.gY rfl rfl (by decide) rfl (by assumption) rfl (zA rfl rfl rfl (by rfl) rfl (by decide)) ?_); all_goals (refine Draws.gY rfl rfl (by decide) rfl (by assumption) rfl (vV rfl rfl rfl (by decide)) ?_); all_goals (refine Draws.gY rfl rfl (by decide) rfl (by assumption) rfl (by exact yQ rfl rfl rfl (by exact g6) rfl (by decide)) ?_); all_goals (refine Draws.v rfl rfl (by exact zT rfl rfl (by assumption) rfl rfl (by decide)) ?_); all_goals (refine Draws.v rfl rfl (zK rfl rfl rfl (by decide)) ?_); all_goals ((refine Draws.done (by kernel_rfl) (by kernel_rfl) (by kernel_rfl) ?_; refine zP.nil ?_))) | refine zX.yG rfl (by assumption) ?_ | refine zX.skip ?_ | refine zX.ret ?_))
  all_goals exact ⟨by first | exact .inl rfl | exact .inr rfl, _, Sub.refl _, .p rfl (.tmp rfl)⟩
end Go.Proofs.YtlfkofkdigmnpaaGreatDoor
