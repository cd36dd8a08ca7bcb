/- What the laws of entries need in common: bytes and entries, there and back; the document's example. -/
import Derived.Test.YtjokcnajopfjhaaFDec
namespace Go.Proofs.Ytjokcnajopfjhaa
open Go Go.RowKit
set_option linter.unusedSimpArgs false
attribute [local irreducible] AOps ACode Step AStep Sub TChain Fn

theorem enc_yes (k s y u v x : Int) (h0 : 0 ≤ s) (h1 : s < 18446744073709551616) (h2 : 0 ≤ y) (h3 : y < 18446744073709551616) (h4 : 0 ≤ u) (h5 : u < 18446744073709551616) (h6 : 0 ≤ v) (h7 : v < 18446744073709551616) (h8 : 0 ≤ x) (h9 : x < 18446744073709551616) (hm : mayB k s y u v x = true) :
    Fn Try.prog 8 [entV k s y u v x] (.tup [.sl (byts (encL k s y u v x)), .val (.int .i64 0)]) := by
  have h := enc_fn k s y u v x h0 h1 h2 h3 h4 h5 h6 h7 h8 h9
  rw [if_pos hm] at h
  exact h
theorem enc_no (k s y u v x : Int) (h0 : 0 ≤ s) (h1 : s < 18446744073709551616) (h2 : 0 ≤ y) (h3 : y < 18446744073709551616) (h4 : 0 ≤ u) (h5 : u < 18446744073709551616) (h6 : 0 ≤ v) (h7 : v < 18446744073709551616) (h8 : 0 ≤ x) (h9 : x < 18446744073709551616) (hm : mayB k s y u v x = false) :
    Fn Try.prog 8 [entV k s y u v x] (.tup [.sl [], .val (.int .i64 1)]) := by
  have h := enc_fn k s y u v x h0 h1 h2 h3 h4 h5 h6 h7 h8 h9
  rw [if_neg (by simp [hm])] at h
  exact h
theorem dec_is (b : List Int) (h64 : b.length ≤ 9223372036854775807) (hb : ∀ x ∈ b, 0 ≤ x ∧ x < 256) {l : List PV} (e : decR b = l) : Fn Try.prog 10 [.sl (byts b)] (.tup l) := e ▸ dec_fn b h64 hb
theorem may_is (k s y u v x : Int) (h0 : 0 ≤ y) (h1 : y < 18446744073709551616) {r : Bool} (e : mayB k s y u v x = r) : Fn Try.prog 12 [entV k s y u v x] (.p (.val (.bool r))) := e ▸ may_fn k s y u v x h0 h1

theorem dec_death : decR [2, 7, 0, 0, 0, 0, 0, 0, 0] = [entV 2 7 0 0 0 0, .val (.int .i64 0)] := by
  have e : numAt [2, 7, 0, 0, 0, 0, 0, 0, 0] 1 = 7 := by decide
  have m : mayB 2 7 0 0 0 0 = true := by decide
  unfold decR
  rw [if_pos (by decide), if_neg (by decide), e]
  show decPut 2 7 0 0 0 0 = _
  unfold decPut
  rw [if_pos m]
theorem dec_four : decR [4] = decBad := by
  unfold decR
  rw [if_neg (by decide), if_neg (by decide)]

set_option maxRecDepth 100000 in
set_option maxHeartbeats 4000000 in
theorem shown_fn : Fn Try.prog 7 [] (.p (.val (.bool true))) := by
  have e1 : encL 2 7 0 0 0 0 = [2, 7, 0, 0, 0, 0, 0, 0, 0] := by decide
  have c1 : Fn Try.prog 8 [entV 2 7 0 0 0 0] (.tup [.sl (byts [2, 7, 0, 0, 0, 0, 0, 0, 0]), .val (.int .i64 0)]) := e1 ▸ enc_yes 2 7 0 0 0 0 (by decide) (by decide) (by decide) (by decide) (by decide) (by decide) (by decide) (by decide) (by decide) (by decide) (by decide)
  have c2 : Fn Try.prog 8 [entV 0 0 0 0 0 0] (.tup [.sl [], .val (.int .i64 1)]) := enc_no 0 0 0 0 0 0 (by decide) (by decide) (by decide) (by decide) (by decide) (by decide) (by decide) (by decide) (by decide) (by decide) (by decide)
  have c3 : Fn Try.prog 10 [.sl (byts [2, 7, 0, 0, 0, 0, 0, 0, 0])] (.tup [entV 2 7 0 0 0 0, .val (.int .i64 0)]) := dec_is _ (by decide) (by decide) dec_death
  have c4 : Fn Try.prog 10 [.sl (byts [4])] (.tup [entV 0 0 0 0 0 0, .val (.int .i64 2)]) := dec_is _ (by decide) (by decide) dec_four
  have c5 : Fn Try.prog 12 [entV 1 1 2147483648 0 0 5] (.p (.val (.bool true))) := may_is _ _ _ _ _ _ (by decide) (by decide) (by decide)
  have c6 : Fn Try.prog 12 [entV 1 1 1 1 0 0] (.p (.val (.bool false))) := may_is _ _ _ _ _ _ (by decide) (by decide) (by decide)
  have s1 : ((strOfNums [2, 7, 0, 0, 0, 0, 0, 0, 0]).toList == (ByteArray.mk #[2, 7, 0, 0, 0, 0, 0, 0, 0]).toList) = true := by kernel_rfl
  refine fn_of Try.func7 rfl Try.ntmps7 (Nat.le_of_ble_eq_true rfl) ?_
  repeat' (first
    | (refine AOps.is ?_; first
      | refine AOps.nil ?_
      | refine AOps.v rfl rfl (by first | exact a_assignP rfl rfl rfl (by decide) | exact a_assignO rfl rfl rfl (by decide) | exact a_assignR rfl rfl rfl (by decide) | exact a_assignPt rfl rfl rfl (by decide) | exact a_assignT rfl rfl rfl (by decide) | exact r_eql rfl rfl rfl (by first | exact s1 | exact bT (by decide) | exact bF (by decide) | exact decide_eq_true (by with_reducible rfl) | (with_reducible exact beq_self_eq_true _) | rfl) rfl (by decide) | exact r_eqlB rfl rfl rfl (by first | exact s1 | exact bT (by decide) | exact bF (by decide) | exact decide_eq_true (by with_reducible rfl) | (with_reducible exact beq_self_eq_true _) | rfl) rfl (by decide) | exact r_eqlS rfl rfl rfl (by first | exact s1 | exact bT (by decide) | exact bF (by decide) | exact decide_eq_true (by with_reducible rfl) | (with_reducible exact beq_self_eq_true _) | rfl) rfl (by decide) | exact r_eqlT rfl rfl rfl rfl rfl rfl (by rfl) (by first | exact s1 | exact bT (by decide) | exact bF (by decide) | exact decide_eq_true (by with_reducible rfl) | (with_reducible exact beq_self_eq_true _) | rfl) rfl (by decide) | exact w_build rfl (by rfl) (by rfl) (by rfl) (by rfl) rfl (by decide) | exact w_conv rfl rfl (by first | exact s1 |  (simp only [Int.reduceAdd, Int.reduceSub, Int.reduceMul]; first | exact wrap_i64 _ (by omega) | exact wrap_u64 _ (by omega) | exact wrap_u8 _ (by omega) | exact wrap_u32 _ (by omega) | exact wrap_i32 _ (by omega) | exact wrap_u16 _ (by omega)) | exact wrap_i64 _ (by omega) | exact wrap_u64 _ (by omega) | exact wrap_u8 _ (by omega) | exact wrap_u32 _ (by omega) | exact wrap_i32 _ (by omega) | exact wrap_u16 _ (by omega) | rfl) rfl (by decide) | exact w_str rfl rfl rfl (by decide) | exact a_extract rfl rfl rfl rfl (by decide) | exact w_load1 rfl rfl rfl rfl (by decide) | exact w_loadR1 rfl rfl rfl (by first | exact s1 | rfl) rfl (by decide) | exact w_loadRN rfl rfl rfl (by rfl) (by rfl) rfl (by decide) | exact w_loadN rfl rfl (by exact Nat.le_of_ble_eq_true rfl) rfl (by decide) | exact w_loadO rfl rfl rfl rfl rfl (by decide) | exact w_loadP rfl rfl rfl (by first | exact s1 | rfl) rfl (by decide) | exact a_moveP rfl rfl rfl (by decide) | exact a_moveO rfl rfl rfl (by decide) | exact a_moveR rfl rfl rfl (by decide) | exact a_movePt rfl rfl rfl (by decide) | exact a_moveT rfl rfl rfl (by decide) | exact w_pickY rfl rfl (by first | assumption | with_reducible rfl) rfl rfl (by decide) | exact w_pickN rfl rfl (by first | assumption | with_reducible rfl) rfl rfl (by decide) | exact a_pickB rfl rfl rfl rfl rfl (by decide) | exact r_notB rfl rfl (by first | exact s1 | exact bT (by decide) | exact bF (by decide) | exact decide_eq_true (by with_reducible rfl) | (with_reducible exact beq_self_eq_true _) | rfl) rfl (by decide) | exact w_call (c1) rfl rfl rfl (by decide) | exact w_callT (c1) rfl rfl rfl (by decide) | exact w_call (c2) rfl rfl rfl (by decide) | exact w_callT (c2) rfl rfl rfl (by decide) | exact w_call (c3) rfl rfl rfl (by decide) | exact w_callT (c3) rfl rfl rfl (by decide) | exact w_call (c4) rfl rfl rfl (by decide) | exact w_callT (c4) rfl rfl rfl (by decide) | exact w_call (c5) rfl rfl rfl (by decide) | exact w_callT (c5) rfl rfl rfl (by decide) | exact w_call (c6) rfl rfl rfl (by decide) | exact w_callT (c6) rfl rfl rfl (by decide)) ?_
      | refine AOps.m rfl rfl (by first | exact w_alloc rfl (by decide) rfl (by decide) | exact w_build0B rfl rfl (by decide) | exact w_buildB rfl (by decide) (by decide) (by decide) (by decide) (by rfl) (by rfl) (by rfl) (by rfl) rfl (by decide) | exact w_buildSlice rfl (by decide) (by decide) (by decide) (by decide) (by rfl) (by rfl) (by rfl) rfl (by decide)) ?_
      | refine AOps.w rfl (by first | exact w_storeB rfl rfl rfl rfl (by first | exact Nat.le_of_ble_eq_true rfl | exact s1) rfl | exact w_store rfl rfl rfl rfl rfl (by rfl) (by first | exact Nat.le_of_ble_eq_true rfl | exact s1) rfl) ?_
      | refine AOps.gU rfl rfl (by decide) (by rfl) rfl (by decide) ?_
      | refine AOps.gY rfl rfl (by decide) rfl (by first | assumption | with_reducible rfl) rfl (by decide) (by first | exact a_assignP rfl rfl rfl (by decide) | exact a_assignO rfl rfl rfl (by decide) | exact a_assignR rfl rfl rfl (by decide) | exact a_assignPt rfl rfl rfl (by decide) | exact a_assignT rfl rfl rfl (by decide) | exact r_eql rfl rfl rfl (by first | exact s1 | exact bT (by decide) | exact bF (by decide) | exact decide_eq_true (by with_reducible rfl) | (with_reducible exact beq_self_eq_true _) | rfl) rfl (by decide) | exact r_eqlB rfl rfl rfl (by first | exact s1 | exact bT (by decide) | exact bF (by decide) | exact decide_eq_true (by with_reducible rfl) | (with_reducible exact beq_self_eq_true _) | rfl) rfl (by decide) | exact r_eqlS rfl rfl rfl (by first | exact s1 | exact bT (by decide) | exact bF (by decide) | exact decide_eq_true (by with_reducible rfl) | (with_reducible exact beq_self_eq_true _) | rfl) rfl (by decide) | exact r_eqlT rfl rfl rfl rfl rfl rfl (by rfl) (by first | exact s1 | exact bT (by decide) | exact bF (by decide) | exact decide_eq_true (by with_reducible rfl) | (with_reducible exact beq_self_eq_true _) | rfl) rfl (by decide) | exact w_build rfl (by rfl) (by rfl) (by rfl) (by rfl) rfl (by decide) | exact w_conv rfl rfl (by first | exact s1 |  (simp only [Int.reduceAdd, Int.reduceSub, Int.reduceMul]; first | exact wrap_i64 _ (by omega) | exact wrap_u64 _ (by omega) | exact wrap_u8 _ (by omega) | exact wrap_u32 _ (by omega) | exact wrap_i32 _ (by omega) | exact wrap_u16 _ (by omega)) | exact wrap_i64 _ (by omega) | exact wrap_u64 _ (by omega) | exact wrap_u8 _ (by omega) | exact wrap_u32 _ (by omega) | exact wrap_i32 _ (by omega) | exact wrap_u16 _ (by omega) | rfl) rfl (by decide) | exact w_str rfl rfl rfl (by decide) | exact a_extract rfl rfl rfl rfl (by decide) | exact w_load1 rfl rfl rfl rfl (by decide) | exact w_loadR1 rfl rfl rfl (by first | exact s1 | rfl) rfl (by decide) | exact w_loadRN rfl rfl rfl (by rfl) (by rfl) rfl (by decide) | exact w_loadN rfl rfl (by exact Nat.le_of_ble_eq_true rfl) rfl (by decide) | exact w_loadO rfl rfl rfl rfl rfl (by decide) | exact w_loadP rfl rfl rfl (by first | exact s1 | rfl) rfl (by decide) | exact a_moveP rfl rfl rfl (by decide) | exact a_moveO rfl rfl rfl (by decide) | exact a_moveR rfl rfl rfl (by decide) | exact a_movePt rfl rfl rfl (by decide) | exact a_moveT rfl rfl rfl (by decide) | exact w_pickY rfl rfl (by first | assumption | with_reducible rfl) rfl rfl (by decide) | exact w_pickN rfl rfl (by first | assumption | with_reducible rfl) rfl rfl (by decide) | exact a_pickB rfl rfl rfl rfl rfl (by decide) | exact r_notB rfl rfl (by first | exact s1 | exact bT (by decide) | exact bF (by decide) | exact decide_eq_true (by with_reducible rfl) | (with_reducible exact beq_self_eq_true _) | rfl) rfl (by decide) | exact w_call (c1) rfl rfl rfl (by decide) | exact w_callT (c1) rfl rfl rfl (by decide) | exact w_call (c2) rfl rfl rfl (by decide) | exact w_callT (c2) rfl rfl rfl (by decide) | exact w_call (c3) rfl rfl rfl (by decide) | exact w_callT (c3) rfl rfl rfl (by decide) | exact w_call (c4) rfl rfl rfl (by decide) | exact w_callT (c4) rfl rfl rfl (by decide) | exact w_call (c5) rfl rfl rfl (by decide) | exact w_callT (c5) rfl rfl rfl (by decide) | exact w_call (c6) rfl rfl rfl (by decide) | exact w_callT (c6) rfl rfl rfl (by decide)) ?_
      | refine AOps.gnT rfl rfl (by decide) rfl (by first | assumption | with_reducible rfl) rfl (by decide) ?_
      | refine AOps.gnF rfl rfl (by decide) rfl (by first | assumption | with_reducible rfl) rfl (by decide) ?_
      | (fail_if_success refine AOps.known rfl rfl rfl (by first | exact .inl (by assumption) | exact .inr (by assumption) | exact .inl (by with_reducible rfl) | exact .inr (by with_reducible rfl)) ?_); refine AOps.split rfl rfl rfl (fun h => ?_) (fun h => ?_)
      | refine AOps.sub (sub_freezeB (d := 11) rfl rfl) ?_
      | refine AOps.sub (sub_freezeB (d := 16) rfl rfl) ?_
      | refine AOps.sub (sub_freezeB (d := 21) rfl rfl) ?_
      | refine AOps.sub (sub_freezeB (d := 26) rfl rfl) ?_
      | refine AOps.sub (sub_freezeB (d := 56) rfl rfl) ?_
      | refine AOps.sub (sub_freezeB (d := 60) rfl rfl) ?_)
    | (refine ACode.is ?_; first
      | refine ACode.seq ?_
      | (refine ACode.isR (id := 0) ?_; refine ACode.regionK [] [3, 7, 9, 12, 17, 22, 26, 27, 57, 61] (by repeat' first | exact KeepT.nil | apply KeepT.p rfl | apply KeepT.ptr rfl | apply KeepT.own rfl | apply KeepT.pt rfl | apply KeepT.tup rfl | apply KeepT.skip) (by repeat' first | exact KeepB.nil | apply KeepB.boxP rfl rfl | apply KeepB.rowB rfl | apply KeepB.some rfl | apply KeepB.skip) ?_)
      | (refine ACode.isR (id := 1) ?_; refine ACode.regionK [0] [3, 7, 9, 12, 17, 22, 26, 27, 57, 61] (by repeat' first | exact KeepT.nil | apply KeepT.p rfl | apply KeepT.ptr rfl | apply KeepT.own rfl | apply KeepT.pt rfl | apply KeepT.tup rfl | apply KeepT.skip) (by repeat' first | exact KeepB.nil | apply KeepB.boxP rfl rfl | apply KeepB.rowB rfl | apply KeepB.some rfl | apply KeepB.skip) ?_)
      | (refine ACode.isR (id := 2) ?_; refine ACode.regionK [0, 1, 2] [3, 7, 9, 12, 17, 22, 26, 27, 57, 61] (by repeat' first | exact KeepT.nil | apply KeepT.p rfl | apply KeepT.ptr rfl | apply KeepT.own rfl | apply KeepT.pt rfl | apply KeepT.tup rfl | apply KeepT.skip) (by repeat' first | exact KeepB.nil | apply KeepB.boxP rfl rfl | apply KeepB.rowB rfl | apply KeepB.some rfl | apply KeepB.skip) ?_)
      | (refine ACode.isR (id := 3) ?_; refine ACode.regionK [0, 1, 2, 3, 4] [3, 7, 9, 12, 17, 22, 26, 27, 57, 61] (by repeat' first | exact KeepT.nil | apply KeepT.p rfl | apply KeepT.ptr rfl | apply KeepT.own rfl | apply KeepT.pt rfl | apply KeepT.tup rfl | apply KeepT.skip) (by repeat' first | exact KeepB.nil | apply KeepB.boxP rfl rfl | apply KeepB.rowB rfl | apply KeepB.some rfl | apply KeepB.skip) ?_)
      | (refine ACode.isR (id := 4) ?_; refine ACode.regionK [0, 1, 2, 3, 4, 6] [3, 7, 9, 12, 17, 22, 26, 27, 57, 61] (by repeat' first | exact KeepT.nil | apply KeepT.p rfl | apply KeepT.ptr rfl | apply KeepT.own rfl | apply KeepT.pt rfl | apply KeepT.tup rfl | apply KeepT.skip) (by repeat' first | exact KeepB.nil | apply KeepB.boxP rfl rfl | apply KeepB.rowB rfl | apply KeepB.some rfl | apply KeepB.skip) ?_)
      | (refine ACode.isR (id := 5) ?_; refine ACode.regionK [0, 1, 2, 3, 4, 6, 8] [3, 7, 9, 12, 17, 22, 26, 27, 57, 61] (by repeat' first | exact KeepT.nil | apply KeepT.p rfl | apply KeepT.ptr rfl | apply KeepT.own rfl | apply KeepT.pt rfl | apply KeepT.tup rfl | apply KeepT.skip) (by repeat' first | exact KeepB.nil | apply KeepB.boxP rfl rfl | apply KeepB.rowB rfl | apply KeepB.some rfl | apply KeepB.skip) ?_)
      | (refine ACode.isR (id := 6) ?_; refine ACode.regionK [0, 1, 2, 3, 4, 6, 8, 9] [3, 7, 9, 12, 17, 22, 26, 27, 57, 61] (by repeat' first | exact KeepT.nil | apply KeepT.p rfl | apply KeepT.ptr rfl | apply KeepT.own rfl | apply KeepT.pt rfl | apply KeepT.tup rfl | apply KeepT.skip) (by repeat' first | exact KeepB.nil | apply KeepB.boxP rfl rfl | apply KeepB.rowB rfl | apply KeepB.some rfl | apply KeepB.skip) ?_)
      | refine ACode.skip ?_
      | refine ACode.block ?_
      | refine ACode.exit ?_
      | refine ACode.ret ?_)
    | refine thenK.n ?_
    | refine thenK.r ?_
    | refine blockK.n ?_
    | refine blockK.r ?_
    | refine blockK.eY ?_
    | refine blockK.eN rfl ?_
    | refine thenK.e ?_)
  trace_state
  all_goals refine ⟨.inl rfl, gives1 rfl rfl (eqB ?_)⟩
  all_goals simp

end Go.Proofs.Ytjokcnajopfjhaa
