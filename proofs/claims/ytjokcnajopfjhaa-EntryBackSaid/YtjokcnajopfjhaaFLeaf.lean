/- trial -/
import Derived.Test.YtjokcnajopfjhaaInst
import Derived.Test.YtjokcnajopfjhaaLeaf
namespace Go.Proofs.Ytjokcnajopfjhaa
open Go Go.RowKit
attribute [local irreducible] AOps ACode Step AStep Sub TChain Fn

theorem eqB {a b : Bool} (h : a = b) : PV.val (.bool a) = PV.val (.bool b) := by rw [h]
theorem eqI {k : IntKind} {a b : Int} (h : a = b) : PV.val (.int k a) = PV.val (.int k b) := by rw [h]


set_option maxRecDepth 100000 in
theorem stamp_fn (n : Int) : Fn Try.prog 17 [.val (.int .u64 n)] (.p (.val (.bool (stampB n)))) := by
  refine fn_of Try.func17 rfl Try.ntmps17 (Nat.le_of_ble_eq_true rfl) ?_
  repeat' (first
    | (refine AOps.is ?_; first
      | refine AOps.nil ?_
      | refine AOps.v rfl rfl (by first | exact a_assignP rfl rfl rfl (by decide) | exact a_assignO rfl rfl rfl (by decide) | exact a_assignR rfl rfl rfl (by decide) | exact a_assignPt rfl rfl rfl (by decide) | exact a_assignT rfl rfl rfl (by decide) | exact r_gtr rfl rfl rfl (by first | exact bT (by decide) | exact bF (by decide) | exact decide_eq_true (by with_reducible rfl) | (with_reducible exact beq_self_eq_true _) | rfl) rfl (by decide) | exact r_lss rfl rfl rfl (by first | exact bT (by decide) | exact bF (by decide) | exact decide_eq_true (by with_reducible rfl) | (with_reducible exact beq_self_eq_true _) | rfl) rfl (by decide) | exact a_moveP rfl rfl rfl (by decide) | exact a_moveO rfl rfl rfl (by decide) | exact a_moveR rfl rfl rfl (by decide) | exact a_movePt rfl rfl rfl (by decide) | exact a_moveT rfl rfl rfl (by decide) | exact w_pickY rfl rfl (by first | assumption | with_reducible rfl) rfl rfl (by decide) | exact w_pickN rfl rfl (by first | assumption | with_reducible rfl) rfl rfl (by decide) | exact a_pickB rfl rfl rfl rfl rfl (by decide)) ?_
      | refine AOps.gU rfl rfl (by decide) (by rfl) rfl (by decide) ?_
      | refine AOps.gY rfl rfl (by decide) rfl (by first | assumption | with_reducible rfl) rfl (by decide) (by first | exact a_assignP rfl rfl rfl (by decide) | exact a_assignO rfl rfl rfl (by decide) | exact a_assignR rfl rfl rfl (by decide) | exact a_assignPt rfl rfl rfl (by decide) | exact a_assignT rfl rfl rfl (by decide) | exact r_gtr rfl rfl rfl (by first | exact bT (by decide) | exact bF (by decide) | exact decide_eq_true (by with_reducible rfl) | (with_reducible exact beq_self_eq_true _) | rfl) rfl (by decide) | exact r_lss rfl rfl rfl (by first | exact bT (by decide) | exact bF (by decide) | exact decide_eq_true (by with_reducible rfl) | (with_reducible exact beq_self_eq_true _) | rfl) rfl (by decide) | exact a_moveP rfl rfl rfl (by decide) | exact a_moveO rfl rfl rfl (by decide) | exact a_moveR rfl rfl rfl (by decide) | exact a_movePt rfl rfl rfl (by decide) | exact a_moveT rfl rfl rfl (by decide) | exact w_pickY rfl rfl (by first | assumption | with_reducible rfl) rfl rfl (by decide) | exact w_pickN rfl rfl (by first | assumption | with_reducible rfl) rfl rfl (by decide) | exact a_pickB rfl rfl rfl rfl rfl (by decide)) ?_
      | refine AOps.gnT rfl rfl (by decide) rfl (by first | assumption | with_reducible rfl) rfl (by decide) ?_
      | refine AOps.gnF rfl rfl (by decide) rfl (by first | assumption | with_reducible rfl) rfl (by decide) ?_
      | (fail_if_success refine AOps.known rfl rfl rfl (by first | exact .inl (by assumption) | exact .inr (by assumption) | exact .inl (by with_reducible rfl) | exact .inr (by with_reducible rfl)) ?_); refine AOps.split rfl rfl rfl (fun h => ?_) (fun h => ?_))
    | (refine ACode.is ?_; first
      | refine ACode.seq ?_
      | (refine ACode.isR (id := 0) ?_; refine ACode.regionK [0] [] (by repeat' first | exact KeepT.nil | apply KeepT.p rfl | apply KeepT.ptr rfl | apply KeepT.own rfl | apply KeepT.pt rfl | apply KeepT.tup rfl | apply KeepT.skip) (by repeat' first | exact KeepB.nil | apply KeepB.boxP rfl rfl | apply KeepB.rowB rfl | apply KeepB.some rfl | apply KeepB.skip) ?_)
      | (refine ACode.isR (id := 1) ?_; refine ACode.regionK [0, 2] [] (by repeat' first | exact KeepT.nil | apply KeepT.p rfl | apply KeepT.ptr rfl | apply KeepT.own rfl | apply KeepT.pt rfl | apply KeepT.tup rfl | apply KeepT.skip) (by repeat' first | exact KeepB.nil | apply KeepB.boxP rfl rfl | apply KeepB.rowB rfl | apply KeepB.some rfl | apply KeepB.skip) ?_)
      | refine ACode.skip ?_
      | refine ACode.block ?_
      | refine ACode.exit ?_
      | refine ACode.ret ?_)
    | refine thenK.n ?_
    | refine thenK.r ?_
    | refine blockK.n ?_
    | refine blockK.r ?_
    | refine blockK.eY ?_
    | refine blockK.eN rfl ?_
    | refine thenK.e ?_)
  all_goals refine ⟨.inl rfl, gives1 rfl rfl (eqB ?_)⟩
  all_goals simp only [decide_eq_true_eq, decide_eq_false_iff_not] at *
  · exact (stampB_yes (by omega)).symm
  · exact (stampB_no (by omega)).symm

set_option maxRecDepth 100000 in
theorem stampRef_fn (n : Int) : Fn Try.prog 21 [.val (.int .u64 n)] (.p (.val (.bool (stampB n)))) := by
  refine fn_of Try.func21 rfl Try.ntmps21 (Nat.le_of_ble_eq_true rfl) ?_
  repeat' (first
    | (refine AOps.is ?_; first
      | refine AOps.nil ?_
      | refine AOps.v rfl rfl (by first | exact a_assignP rfl rfl rfl (by decide) | exact a_assignO rfl rfl rfl (by decide) | exact a_assignR rfl rfl rfl (by decide) | exact a_assignPt rfl rfl rfl (by decide) | exact a_assignT rfl rfl rfl (by decide) | exact r_geq rfl rfl rfl (by first | exact bT (by decide) | exact bF (by decide) | exact decide_eq_true (by with_reducible rfl) | (with_reducible exact beq_self_eq_true _) | rfl) rfl (by decide) | exact r_leq rfl rfl rfl (by first | exact bT (by decide) | exact bF (by decide) | exact decide_eq_true (by with_reducible rfl) | (with_reducible exact beq_self_eq_true _) | rfl) rfl (by decide) | exact a_moveP rfl rfl rfl (by decide) | exact a_moveO rfl rfl rfl (by decide) | exact a_moveR rfl rfl rfl (by decide) | exact a_movePt rfl rfl rfl (by decide) | exact a_moveT rfl rfl rfl (by decide) | exact w_pickY rfl rfl (by first | assumption | with_reducible rfl) rfl rfl (by decide) | exact w_pickN rfl rfl (by first | assumption | with_reducible rfl) rfl rfl (by decide) | exact a_pickB rfl rfl rfl rfl rfl (by decide)) ?_
      | refine AOps.gU rfl rfl (by decide) (by rfl) rfl (by decide) ?_
      | refine AOps.gY rfl rfl (by decide) rfl (by first | assumption | with_reducible rfl) rfl (by decide) (by first | exact a_assignP rfl rfl rfl (by decide) | exact a_assignO rfl rfl rfl (by decide) | exact a_assignR rfl rfl rfl (by decide) | exact a_assignPt rfl rfl rfl (by decide) | exact a_assignT rfl rfl rfl (by decide) | exact r_geq rfl rfl rfl (by first | exact bT (by decide) | exact bF (by decide) | exact decide_eq_true (by with_reducible rfl) | (with_reducible exact beq_self_eq_true _) | rfl) rfl (by decide) | exact r_leq rfl rfl rfl (by first | exact bT (by decide) | exact bF (by decide) | exact decide_eq_true (by with_reducible rfl) | (with_reducible exact beq_self_eq_true _) | rfl) rfl (by decide) | exact a_moveP rfl rfl rfl (by decide) | exact a_moveO rfl rfl rfl (by decide) | exact a_moveR rfl rfl rfl (by decide) | exact a_movePt rfl rfl rfl (by decide) | exact a_moveT rfl rfl rfl (by decide) | exact w_pickY rfl rfl (by first | assumption | with_reducible rfl) rfl rfl (by decide) | exact w_pickN rfl rfl (by first | assumption | with_reducible rfl) rfl rfl (by decide) | exact a_pickB rfl rfl rfl rfl rfl (by decide)) ?_
      | refine AOps.gnT rfl rfl (by decide) rfl (by first | assumption | with_reducible rfl) rfl (by decide) ?_
      | refine AOps.gnF rfl rfl (by decide) rfl (by first | assumption | with_reducible rfl) rfl (by decide) ?_
      | (fail_if_success refine AOps.known rfl rfl rfl (by first | exact .inl (by assumption) | exact .inr (by assumption) | exact .inl (by with_reducible rfl) | exact .inr (by with_reducible rfl)) ?_); refine AOps.split rfl rfl rfl (fun h => ?_) (fun h => ?_))
    | (refine ACode.is ?_; first
      | refine ACode.seq ?_
      | (refine ACode.isR (id := 0) ?_; refine ACode.regionK [0] [] (by repeat' first | exact KeepT.nil | apply KeepT.p rfl | apply KeepT.ptr rfl | apply KeepT.own rfl | apply KeepT.pt rfl | apply KeepT.tup rfl | apply KeepT.skip) (by repeat' first | exact KeepB.nil | apply KeepB.boxP rfl rfl | apply KeepB.rowB rfl | apply KeepB.some rfl | apply KeepB.skip) ?_)
      | (refine ACode.isR (id := 1) ?_; refine ACode.regionK [0, 2] [] (by repeat' first | exact KeepT.nil | apply KeepT.p rfl | apply KeepT.ptr rfl | apply KeepT.own rfl | apply KeepT.pt rfl | apply KeepT.tup rfl | apply KeepT.skip) (by repeat' first | exact KeepB.nil | apply KeepB.boxP rfl rfl | apply KeepB.rowB rfl | apply KeepB.some rfl | apply KeepB.skip) ?_)
      | refine ACode.skip ?_
      | refine ACode.block ?_
      | refine ACode.exit ?_
      | refine ACode.ret ?_)
    | refine thenK.n ?_
    | refine thenK.r ?_
    | refine blockK.n ?_
    | refine blockK.r ?_
    | refine blockK.eY ?_
    | refine blockK.eN rfl ?_
    | refine thenK.e ?_)
  all_goals refine ⟨.inl rfl, gives1 rfl rfl (eqB ?_)⟩
  all_goals simp only [decide_eq_true_eq, decide_eq_false_iff_not] at *
  · exact (stampB_yes' (by omega)).symm
  · exact (stampB_no (by omega)).symm

set_option maxRecDepth 100000 in
theorem right_fn (n : Int) (h0 : 0 ≤ n) (h1 : n < 18446744073709551616) : Fn Try.prog 18 [.val (.int .u64 n)] (.p (.val (.bool (rightB n)))) := by
  have hm := and_mask31 n h0 h1
  refine fn_of Try.func18 rfl Try.ntmps18 (Nat.le_of_ble_eq_true rfl) ?_
  repeat' (first
    | (refine AOps.is ?_; first
      | refine AOps.nil ?_
      | refine AOps.v rfl rfl (by first | exact a_assignP rfl rfl rfl (by decide) | exact a_assignO rfl rfl rfl (by decide) | exact a_assignR rfl rfl rfl (by decide) | exact a_assignPt rfl rfl rfl (by decide) | exact a_assignT rfl rfl rfl (by decide) | exact a_and rfl rfl rfl (by first | exact hm | rfl) rfl (by decide) | exact r_leq rfl rfl rfl (by first | exact hm | exact bT (by decide) | exact bF (by decide) | exact decide_eq_true (by with_reducible rfl) | (with_reducible exact beq_self_eq_true _) | rfl) rfl (by decide) | exact r_lss rfl rfl rfl (by first | exact hm | exact bT (by decide) | exact bF (by decide) | exact decide_eq_true (by with_reducible rfl) | (with_reducible exact beq_self_eq_true _) | rfl) rfl (by decide) | exact a_shr rfl rfl rfl (by first | decide | omega) (by first | decide | (simp only [IntKind.bits]; omega)) (by first | exact hm |  (simp only [Int.reduceToNat, Int.reducePow]; rfl) | rfl) rfl (by decide) | exact a_moveP rfl rfl rfl (by decide) | exact a_moveO rfl rfl rfl (by decide) | exact a_moveR rfl rfl rfl (by decide) | exact a_movePt rfl rfl rfl (by decide) | exact a_moveT rfl rfl rfl (by decide) | exact w_pickY rfl rfl (by first | assumption | with_reducible rfl) rfl rfl (by decide) | exact w_pickN rfl rfl (by first | assumption | with_reducible rfl) rfl rfl (by decide) | exact a_pickB rfl rfl rfl rfl rfl (by decide)) ?_
      | refine AOps.gU rfl rfl (by decide) (by rfl) rfl (by decide) ?_
      | refine AOps.gY rfl rfl (by decide) rfl (by first | assumption | with_reducible rfl) rfl (by decide) (by first | exact a_assignP rfl rfl rfl (by decide) | exact a_assignO rfl rfl rfl (by decide) | exact a_assignR rfl rfl rfl (by decide) | exact a_assignPt rfl rfl rfl (by decide) | exact a_assignT rfl rfl rfl (by decide) | exact a_and rfl rfl rfl (by first | exact hm | rfl) rfl (by decide) | exact r_leq rfl rfl rfl (by first | exact hm | exact bT (by decide) | exact bF (by decide) | exact decide_eq_true (by with_reducible rfl) | (with_reducible exact beq_self_eq_true _) | rfl) rfl (by decide) | exact r_lss rfl rfl rfl (by first | exact hm | exact bT (by decide) | exact bF (by decide) | exact decide_eq_true (by with_reducible rfl) | (with_reducible exact beq_self_eq_true _) | rfl) rfl (by decide) | exact a_shr rfl rfl rfl (by first | decide | omega) (by first | decide | (simp only [IntKind.bits]; omega)) (by first | exact hm |  (simp only [Int.reduceToNat, Int.reducePow]; rfl) | rfl) rfl (by decide) | exact a_moveP rfl rfl rfl (by decide) | exact a_moveO rfl rfl rfl (by decide) | exact a_moveR rfl rfl rfl (by decide) | exact a_movePt rfl rfl rfl (by decide) | exact a_moveT rfl rfl rfl (by decide) | exact w_pickY rfl rfl (by first | assumption | with_reducible rfl) rfl rfl (by decide) | exact w_pickN rfl rfl (by first | assumption | with_reducible rfl) rfl rfl (by decide) | exact a_pickB rfl rfl rfl rfl rfl (by decide)) ?_
      | refine AOps.gnT rfl rfl (by decide) rfl (by first | assumption | with_reducible rfl) rfl (by decide) ?_
      | refine AOps.gnF rfl rfl (by decide) rfl (by first | assumption | with_reducible rfl) rfl (by decide) ?_
      | (fail_if_success refine AOps.known rfl rfl rfl (by first | exact .inl (by assumption) | exact .inr (by assumption) | exact .inl (by with_reducible rfl) | exact .inr (by with_reducible rfl)) ?_); refine AOps.split rfl rfl rfl (fun h => ?_) (fun h => ?_))
    | (refine ACode.is ?_; first
      | refine ACode.seq ?_
      | (refine ACode.isR (id := 0) ?_; refine ACode.regionK [0] [] (by repeat' first | exact KeepT.nil | apply KeepT.p rfl | apply KeepT.ptr rfl | apply KeepT.own rfl | apply KeepT.pt rfl | apply KeepT.tup rfl | apply KeepT.skip) (by repeat' first | exact KeepB.nil | apply KeepB.boxP rfl rfl | apply KeepB.rowB rfl | apply KeepB.some rfl | apply KeepB.skip) ?_)
      | (refine ACode.isR (id := 1) ?_; refine ACode.regionK [0, 2] [] (by repeat' first | exact KeepT.nil | apply KeepT.p rfl | apply KeepT.ptr rfl | apply KeepT.own rfl | apply KeepT.pt rfl | apply KeepT.tup rfl | apply KeepT.skip) (by repeat' first | exact KeepB.nil | apply KeepB.boxP rfl rfl | apply KeepB.rowB rfl | apply KeepB.some rfl | apply KeepB.skip) ?_)
      | refine ACode.skip ?_
      | refine ACode.block ?_
      | refine ACode.exit ?_
      | refine ACode.ret ?_)
    | refine thenK.n ?_
    | refine thenK.r ?_
    | refine blockK.n ?_
    | refine blockK.r ?_
    | refine blockK.eY ?_
    | refine blockK.eN rfl ?_
    | refine thenK.e ?_)
  all_goals refine ⟨.inl rfl, gives1 rfl rfl (eqB ?_)⟩
  all_goals simp only [decide_eq_true_eq, decide_eq_false_iff_not] at *
  · exact (rightB_yes (by omega)).symm
  · exact (rightB_no (by omega)).symm

set_option maxRecDepth 100000 in
theorem split_fn (n : Int) (h0 : 0 ≤ n) (h1 : n < 18446744073709551616) : Fn Try.prog 19 [.val (.int .u64 n)] (.tup [.val (.int .i64 (n / 2147483648)), .val (.int .i64 (n % 2147483648 - 1))]) := by
  have hm := and_mask31 n h0 h1
  refine fn_of Try.func19 rfl Try.ntmps19 (Nat.le_of_ble_eq_true rfl) ?_
  repeat' (first
    | (refine AOps.is ?_; first
      | refine AOps.nil ?_
      | refine AOps.v rfl rfl (by first | exact a_assignP rfl rfl rfl (by decide) | exact a_assignO rfl rfl rfl (by decide) | exact a_assignR rfl rfl rfl (by decide) | exact a_assignPt rfl rfl rfl (by decide) | exact a_assignT rfl rfl rfl (by decide) | exact a_and rfl rfl rfl (by first | exact hm | rfl) rfl (by decide) | exact a_shr rfl rfl rfl (by first | decide | omega) (by first | decide | (simp only [IntKind.bits]; omega)) (by first | exact hm |  (simp only [Int.reduceToNat, Int.reducePow]; rfl) | rfl) rfl (by decide) | exact a_sub rfl rfl rfl (by first | exact hm |  (simp only [Int.reduceAdd, Int.reduceSub, Int.reduceMul]; first | exact wrap_i64 _ (by omega) | exact wrap_u64 _ (by omega) | exact wrap_u8 _ (by omega) | exact wrap_u32 _ (by omega) | exact wrap_i32 _ (by omega) | exact wrap_u16 _ (by omega)) | exact wrap_i64 _ (by omega) | exact wrap_u64 _ (by omega) | exact wrap_u8 _ (by omega) | exact wrap_u32 _ (by omega) | exact wrap_i32 _ (by omega) | exact wrap_u16 _ (by omega) | rfl) rfl (by decide) | exact w_conv rfl rfl (by first | exact hm |  (simp only [Int.reduceAdd, Int.reduceSub, Int.reduceMul]; first | exact wrap_i64 _ (by omega) | exact wrap_u64 _ (by omega) | exact wrap_u8 _ (by omega) | exact wrap_u32 _ (by omega) | exact wrap_i32 _ (by omega) | exact wrap_u16 _ (by omega)) | exact wrap_i64 _ (by omega) | exact wrap_u64 _ (by omega) | exact wrap_u8 _ (by omega) | exact wrap_u32 _ (by omega) | exact wrap_i32 _ (by omega) | exact wrap_u16 _ (by omega) | rfl) rfl (by decide) | exact w_str rfl rfl rfl (by decide) | exact a_moveP rfl rfl rfl (by decide) | exact a_moveO rfl rfl rfl (by decide) | exact a_moveR rfl rfl rfl (by decide) | exact a_movePt rfl rfl rfl (by decide) | exact a_moveT rfl rfl rfl (by decide)) ?_)
    | (refine ACode.is ?_; first
      | refine ACode.seq ?_
      | (refine ACode.isR (id := 0) ?_; refine ACode.regionK [0] [] (by repeat' first | exact KeepT.nil | apply KeepT.p rfl | apply KeepT.ptr rfl | apply KeepT.own rfl | apply KeepT.pt rfl | apply KeepT.tup rfl | apply KeepT.skip) (by repeat' first | exact KeepB.nil | apply KeepB.boxP rfl rfl | apply KeepB.rowB rfl | apply KeepB.some rfl | apply KeepB.skip) ?_)
      | (refine ACode.isR (id := 1) ?_; refine ACode.regionK [0, 2, 3] [] (by repeat' first | exact KeepT.nil | apply KeepT.p rfl | apply KeepT.ptr rfl | apply KeepT.own rfl | apply KeepT.pt rfl | apply KeepT.tup rfl | apply KeepT.skip) (by repeat' first | exact KeepB.nil | apply KeepB.boxP rfl rfl | apply KeepB.rowB rfl | apply KeepB.some rfl | apply KeepB.skip) ?_)
      | refine ACode.skip ?_
      | refine ACode.block ?_
      | refine ACode.exit ?_
      | refine ACode.ret ?_)
    | refine thenK.n ?_
    | refine thenK.r ?_
    | refine blockK.n ?_
    | refine blockK.r ?_
    | refine blockK.eY ?_
    | refine blockK.eN rfl ?_
    | refine thenK.e ?_)
  all_goals refine ⟨.inl rfl, givesT (ts := [2, 3]) rfl (by decide) rfl⟩

set_option maxRecDepth 100000 in
theorem rightRef_fn (n : Int) (h0 : 0 ≤ n) (h1 : n < 18446744073709551616) : Fn Try.prog 20 [.val (.int .u64 n)] (.p (.val (.bool (rightB n)))) := by
  have hq : n.tdiv 2147483648 = n / 2147483648 := Int.tdiv_eq_ediv_of_nonneg h0
  have hr : n.tmod 2147483648 = n % 2147483648 := Int.tmod_eq_emod_of_nonneg h0
  have hw : IntKind.u64.wrap (n.tdiv 2147483648) = n / 2147483648 := by rw [hq]; exact wrap_u64 _ (by omega)
  refine fn_of Try.func20 rfl Try.ntmps20 (Nat.le_of_ble_eq_true rfl) ?_
  repeat' (first
    | (refine AOps.is ?_; first
      | refine AOps.nil ?_
      | refine AOps.v rfl rfl (by first | exact a_assignP rfl rfl rfl (by decide) | exact a_assignO rfl rfl rfl (by decide) | exact a_assignR rfl rfl rfl (by decide) | exact a_assignPt rfl rfl rfl (by decide) | exact a_assignT rfl rfl rfl (by decide) | exact r_leq rfl rfl rfl (by first | exact hw | exact hr | exact bT (by decide) | exact bF (by decide) | exact decide_eq_true (by with_reducible rfl) | (with_reducible exact beq_self_eq_true _) | rfl) rfl (by decide) | exact a_quo rfl rfl rfl (by first | decide | omega) (by first | exact hw | exact hr | rfl) rfl (by decide) | exact a_rem rfl rfl rfl (by first | decide | omega) (by first | exact hw | exact hr | rfl) rfl (by decide) | exact a_moveP rfl rfl rfl (by decide) | exact a_moveO rfl rfl rfl (by decide) | exact a_moveR rfl rfl rfl (by decide) | exact a_movePt rfl rfl rfl (by decide) | exact a_moveT rfl rfl rfl (by decide) | exact w_pickY rfl rfl (by first | assumption | with_reducible rfl) rfl rfl (by decide) | exact w_pickN rfl rfl (by first | assumption | with_reducible rfl) rfl rfl (by decide) | exact a_pickB rfl rfl rfl rfl rfl (by decide)) ?_
      | refine AOps.gU rfl rfl (by decide) (by rfl) rfl (by decide) ?_
      | refine AOps.gY rfl rfl (by decide) rfl (by first | assumption | with_reducible rfl) rfl (by decide) (by first | exact a_assignP rfl rfl rfl (by decide) | exact a_assignO rfl rfl rfl (by decide) | exact a_assignR rfl rfl rfl (by decide) | exact a_assignPt rfl rfl rfl (by decide) | exact a_assignT rfl rfl rfl (by decide) | exact r_leq rfl rfl rfl (by first | exact hw | exact hr | exact bT (by decide) | exact bF (by decide) | exact decide_eq_true (by with_reducible rfl) | (with_reducible exact beq_self_eq_true _) | rfl) rfl (by decide) | exact a_quo rfl rfl rfl (by first | decide | omega) (by first | exact hw | exact hr | rfl) rfl (by decide) | exact a_rem rfl rfl rfl (by first | decide | omega) (by first | exact hw | exact hr | rfl) rfl (by decide) | exact a_moveP rfl rfl rfl (by decide) | exact a_moveO rfl rfl rfl (by decide) | exact a_moveR rfl rfl rfl (by decide) | exact a_movePt rfl rfl rfl (by decide) | exact a_moveT rfl rfl rfl (by decide) | exact w_pickY rfl rfl (by first | assumption | with_reducible rfl) rfl rfl (by decide) | exact w_pickN rfl rfl (by first | assumption | with_reducible rfl) rfl rfl (by decide) | exact a_pickB rfl rfl rfl rfl rfl (by decide)) ?_
      | refine AOps.gnT rfl rfl (by decide) rfl (by first | assumption | with_reducible rfl) rfl (by decide) ?_
      | refine AOps.gnF rfl rfl (by decide) rfl (by first | assumption | with_reducible rfl) rfl (by decide) ?_
      | (fail_if_success refine AOps.known rfl rfl rfl (by first | exact .inl (by assumption) | exact .inr (by assumption) | exact .inl (by with_reducible rfl) | exact .inr (by with_reducible rfl)) ?_); refine AOps.split rfl rfl rfl (fun h => ?_) (fun h => ?_))
    | (refine ACode.is ?_; first
      | refine ACode.seq ?_
      | (refine ACode.isR (id := 0) ?_; refine ACode.regionK [0] [] (by repeat' first | exact KeepT.nil | apply KeepT.p rfl | apply KeepT.ptr rfl | apply KeepT.own rfl | apply KeepT.pt rfl | apply KeepT.tup rfl | apply KeepT.skip) (by repeat' first | exact KeepB.nil | apply KeepB.boxP rfl rfl | apply KeepB.rowB rfl | apply KeepB.some rfl | apply KeepB.skip) ?_)
      | (refine ACode.isR (id := 1) ?_; refine ACode.regionK [0, 2] [] (by repeat' first | exact KeepT.nil | apply KeepT.p rfl | apply KeepT.ptr rfl | apply KeepT.own rfl | apply KeepT.pt rfl | apply KeepT.tup rfl | apply KeepT.skip) (by repeat' first | exact KeepB.nil | apply KeepB.boxP rfl rfl | apply KeepB.rowB rfl | apply KeepB.some rfl | apply KeepB.skip) ?_)
      | refine ACode.skip ?_
      | refine ACode.block ?_
      | refine ACode.exit ?_
      | refine ACode.ret ?_)
    | refine thenK.n ?_
    | refine thenK.r ?_
    | refine blockK.n ?_
    | refine blockK.r ?_
    | refine blockK.eY ?_
    | refine blockK.eN rfl ?_
    | refine thenK.e ?_)
  all_goals refine ⟨.inl rfl, gives1 rfl rfl (eqB ?_)⟩
  all_goals simp only [decide_eq_true_eq, decide_eq_false_iff_not] at *
  · exact (rightB_yes (by omega)).symm
  · exact (rightB_no (by omega)).symm

end Go.Proofs.Ytjokcnajopfjhaa
