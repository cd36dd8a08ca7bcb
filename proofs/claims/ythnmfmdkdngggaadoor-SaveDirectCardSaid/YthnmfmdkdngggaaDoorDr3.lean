/- For every input SaveDirect returns true, and leaves its arguments as they were; tied: Rows.SaveDirectCardSaid. Conditions: none beyond the given statement's own. (Part 3 of 7.) -/
import Derived.Test.YthnmfmdkdngggaaDoorDr2
import Derived.Laws.BitsAllLaws
/- Contracts of the leaf functions: keys and stamps. -/
namespace Go.Proofs.YthnmfmdkdngggaaDoor
set_option maxRecDepth 100000
set_option maxHeartbeats 16000000
open Go.RowKit
def stampB (n : Int) : Bool := decide (0 < n ∧ n < 4611686018427387904)
def rightB (k : Int) : Bool := decide (k / 2147483648 < 1073741824 ∧ k % 2147483648 ≤ 1073741824)
theorem and_mask31 (n : Int) (h0 : 0 ≤ n) (h1 : n < 18446744073709551616) : bits .and .u64 n 2147483647 = n % 2147483648 := by
  obtain ⟨k, rfl⟩ := Int.eq_ofNat_of_zero_le h0
  have h := bits_and_u64_nat k 2147483647 (by omega) (by omega)
  have e : k &&& 2147483647 = k % 2147483648 := Nat.and_two_pow_sub_one_eq_mod k 31
  rw [e] at h
  exact h
theorem stampB_yes {n : Int} (h : 0 < n) : stampB n = decide (n < 4611686018427387904) := by simp [stampB, h]
theorem stampB_no {n : Int} (h : n ≤ 0) : stampB n = false := by
  unfold stampB
  rw [decide_eq_false_iff_not]
  omega
theorem rightB_yes {n : Int} (h : n / 2147483648 < 1073741824) : rightB n = decide (n % 2147483648 ≤ 1073741824) := by simp [rightB, h]
theorem rightB_no {n : Int} (h : 1073741824 ≤ n / 2147483648) : rightB n = false := by
  unfold rightB
  rw [decide_eq_false_iff_not]
  omega
end Go.Proofs.YthnmfmdkdngggaaDoor
/- trial -/
namespace Go.Proofs.YthnmfmdkdngggaaDoor
set_option maxRecDepth 100000
set_option maxHeartbeats 16000000
open Go Go.RowKit
attribute [local irreducible] zY zX Step zC Sub zL Fn
theorem eqB {a b : Bool} (h : a = b) : PV.val (.bool a) = PV.val (.bool b) := by rw [h]
theorem stamp_fn (n : Int) : Fn Tryd.prog 100 [.val (.int .u64 n)] (.p (.val (.bool (stampB n)))) := by
  refine vO Tryd.func100 rfl Tryd.ntmps100 (Nat.le_of_ble_eq_true rfl) ?_
  repeat' ((refine zX.is ?_; first | refine zX.seq ?_ | (refine zX.isR (id := 0) ?_; refine zX.zV [0] [] (by repeat' first | exact zZ.nil | apply zZ.p rfl) (by repeat' exact zW.nil) ?_; (refine zY.v rfl rfl (zK rfl rfl rfl (by decide)) ?_); refine zY.nil ?_) | (refine zX.isR (id := 1) ?_; refine zX.zV [0, 2] [] (by repeat' first | exact zZ.nil | apply zZ.p rfl) (by repeat' exact zW.nil) ?_; all_goals (refine zY.v rfl rfl (zQ rfl rfl rfl (by decide)) ?_); all_goals (refine zY.v rfl rfl (r_gtr rfl rfl rfl (by rfl) rfl (by decide)) ?_); all_goals (refine zY.v rfl rfl (zQ rfl rfl rfl (by decide)) ?_); all_goals (((fail_if_success refine zY.known rfl rfl rfl (by fail) ?_); refine zY.split rfl rfl rfl (fun h => ?_) (fun h => ?_) <;> first | refine zY.gY rfl rfl (by decide) rfl (by assumption) rfl (by decide) (zQ rfl rfl rfl (by decide)) ?_ | refine zY.gnT rfl rfl (by decide) rfl (by assumption) rfl (by decide) ?_)); all_goals (first | refine zY.gY rfl rfl (by decide) rfl (by assumption) rfl (by decide) (yI rfl rfl rfl (by rfl) rfl (by decide)) ?_ | refine zY.gnT rfl rfl (by decide) rfl (by assumption) rfl (by decide) ?_); all_goals (refine zY.v rfl rfl (by first | exact yZ rfl rfl (by assumption) rfl rfl (by decide) | exact yC rfl rfl (by assumption) rfl rfl (by decide)) ?_); all_goals (refine zY.v rfl rfl (zK rfl rfl rfl (by decide)) ?_); all_goals (refine zY.nil ?_)) | refine zX.ret ?_))
  all_goals refine ⟨.inl rfl, gives1 rfl rfl (eqB ?_)⟩
  all_goals simp only [decide_eq_true_eq, decide_eq_false_iff_not] at *
  · exact (stampB_yes (by omega)).symm
  · exact (stampB_no (by omega)).symm
theorem right_fn (n : Int) (h0 : 0 ≤ n) (h1 : n < 18446744073709551616) : Fn Tryd.prog 101 [.val (.int .u64 n)] (.p (.val (.bool (rightB n)))) := by
  have hm := and_mask31 n h0 h1
  refine vO Tryd.func101 rfl Tryd.ntmps101 (Nat.le_of_ble_eq_true rfl) ?_
  repeat' ((refine zX.is ?_; first | refine zX.seq ?_ | (refine zX.isR (id := 0) ?_; refine zX.zV [0] [] (by repeat' first | exact zZ.nil | apply zZ.p rfl) (by repeat' exact zW.nil) ?_; (refine zY.v rfl rfl (zK rfl rfl rfl (by decide)) ?_); refine zY.nil ?_) | (refine zX.isR (id := 1) ?_; refine zX.zV [0, 2] [] (by repeat' first | exact zZ.nil | apply zZ.p rfl) (by repeat' exact zW.nil) ?_; all_goals (refine zY.v rfl rfl (zQ rfl rfl rfl (by decide)) ?_); all_goals (refine zY.v rfl rfl (by exact a_shr rfl rfl rfl (by decide) (by decide) (by (simp only [Int.reduceToNat, Int.reducePow]; rfl)) rfl (by decide)) ?_); all_goals (refine zY.v rfl rfl (yI rfl rfl rfl (by rfl) rfl (by decide)) ?_); all_goals (refine zY.v rfl rfl (zQ rfl rfl rfl (by decide)) ?_); all_goals (((fail_if_success refine zY.known rfl rfl rfl (by fail) ?_); refine zY.split rfl rfl rfl (fun h => ?_) (fun h => ?_) <;> first | refine zY.gY rfl rfl (by decide) rfl (by assumption) rfl (by decide) (zQ rfl rfl rfl (by decide)) ?_ | refine zY.gnT rfl rfl (by decide) rfl (by assumption) rfl (by decide) ?_)); all_goals (first | refine zY.gY rfl rfl (by decide) rfl (by assumption) rfl (by decide) (by exact a_and rfl rfl rfl (by exact hm) rfl (by decide)) ?_ | refine zY.gnT rfl rfl (by decide) rfl (by assumption) rfl (by decide) ?_); all_goals (first | refine zY.gY rfl rfl (by decide) rfl (by assumption) rfl (by decide) (r_leq rfl rfl rfl (by rfl) rfl (by decide)) ?_ | refine zY.gnT rfl rfl (by decide) rfl (by assumption) rfl (by decide) ?_); all_goals (refine zY.v rfl rfl (by first | exact yZ rfl rfl (by assumption) rfl rfl (by decide) | exact yC rfl rfl (by assumption) rfl rfl (by decide)) ?_); all_goals (refine zY.v rfl rfl (zK rfl rfl rfl (by decide)) ?_); all_goals (refine zY.nil ?_)) | refine zX.ret ?_))
  all_goals refine ⟨.inl rfl, gives1 rfl rfl (eqB ?_)⟩
  all_goals simp only [decide_eq_true_eq, decide_eq_false_iff_not] at *
  · exact (rightB_yes (by omega)).symm
  · exact (rightB_no (by omega)).symm
theorem split_fn (n : Int) (h0 : 0 ≤ n) (h1 : n < 18446744073709551616) : Fn Tryd.prog 102 [.val (.int .u64 n)] (.tup [.val (.int .i64 (n / 2147483648)), .val (.int .i64 (n % 2147483648 - 1))]) := by
  have hm := and_mask31 n h0 h1
  refine vO Tryd.func102 rfl Tryd.ntmps102 (Nat.le_of_ble_eq_true rfl) ?_
  repeat' ((refine zX.is ?_; first | refine zX.seq ?_ | (refine zX.isR (id := 0) ?_; refine zX.zV [0] [] (by repeat' first | exact zZ.nil | apply zZ.p rfl) (by repeat' exact zW.nil) ?_; (refine zY.v rfl rfl (zK rfl rfl rfl (by decide)) ?_); (refine zY.v rfl rfl (zK rfl rfl rfl (by decide)) ?_); refine zY.nil ?_) | (refine zX.isR (id := 1) ?_; refine zX.zV [0, 2, 3] [] (by repeat' first | exact zZ.nil | apply zZ.p rfl) (by repeat' exact zW.nil) ?_; (refine zY.v rfl rfl (zQ rfl rfl rfl (by decide)) ?_); (refine zY.v rfl rfl (by exact a_shr rfl rfl rfl (by decide) (by decide) (by (simp only [Int.reduceToNat, Int.reducePow]; rfl)) rfl (by decide)) ?_); (refine zY.v rfl rfl (by exact y5 rfl rfl (by exact wrap_i64 _ (by omega)) rfl (by decide)) ?_); (refine zY.v rfl rfl (zQ rfl rfl rfl (by decide)) ?_); (refine zY.v rfl rfl (by exact a_and rfl rfl rfl (by exact hm) rfl (by decide)) ?_); (refine zY.v rfl rfl (by exact y5 rfl rfl (by exact wrap_i64 _ (by omega)) rfl (by decide)) ?_); (refine zY.v rfl rfl (by exact a_sub rfl rfl rfl (by exact wrap_i64 _ (by omega)) rfl (by decide)) ?_); (refine zY.v rfl rfl (zK rfl rfl rfl (by decide)) ?_); (refine zY.v rfl rfl (zK rfl rfl rfl (by decide)) ?_); refine zY.nil ?_) | refine zX.ret ?_))
  all_goals refine ⟨.inl rfl, givesT (ts := [2, 3]) rfl (by decide) rfl⟩
end Go.Proofs.YthnmfmdkdngggaaDoor
/- Contracts of May, both: which entries may be. -/
namespace Go.Proofs.YthnmfmdkdngggaaDoor
set_option maxRecDepth 100000
set_option maxHeartbeats 16000000
open Go.RowKit
def mayB (k s y u v x : Int) : Bool :=
  if k = 1 then stampB s && rightB y && (if y % 2147483648 = 0 then decide (u = 0 ∧ v = 0) else stampB u && stampB v)
  else if k = 2 then stampB s && decide (y = 0 ∧ u = 0 ∧ v = 0 ∧ x = 0)
  else if k = 3 then decide (s ≤ 65536) && decide (y = 0 ∧ u = 0 ∧ v = 0 ∧ x = 0)
  else false
end Go.Proofs.YthnmfmdkdngggaaDoor
/- May, both, as contracts. -/
namespace Go.Proofs.YthnmfmdkdngggaaDoor
set_option maxRecDepth 100000
set_option maxHeartbeats 16000000
open Go Go.RowKit
attribute [local irreducible] zY zX Step zC Sub zL Fn
/-- an entry, as it is passed -/
def entV (k s y u v x : Int) : PV := .agg [.val (.int .i64 k), .val (.int .u64 s), .val (.int .u64 y), .val (.int .u64 u), .val (.int .u64 v), .val (.int .u64 x)]
theorem may_fn (k s y u v x : Int) (h0 : 0 ≤ y) (h1 : y < 18446744073709551616) : Fn Tryd.prog 96 [entV k s y u v x] (.p (.val (.bool (mayB k s y u v x)))) := by
  refine vO Tryd.func96 rfl Tryd.ntmps96 (Nat.le_of_ble_eq_true rfl) ?_
  repeat' (first | (refine zX.is ?_; first | refine zX.seq ?_ | (refine zX.isR (id := 0) ?_; refine zX.zV [0] [1] (by repeat' first | exact zZ.nil | apply zZ.p rfl) (by repeat' first | exact zW.nil | apply zW.skip) ?_; (refine zY.m rfl rfl (yX rfl rfl rfl (by decide)) ?_); (refine zY.v rfl rfl (zK rfl rfl rfl (by decide)) ?_); refine zY.nil ?_) | (refine zX.isR (id := 1) ?_; refine zX.zV [1, 2] [1] (by repeat' first | exact zZ.nil | apply zZ.p rfl | apply zZ.ptr rfl) (by repeat' first | exact zW.nil | apply zW.boxP rfl rfl) ?_; (refine zY.v rfl rfl (zJ rfl rfl rfl (by decide)) ?_); (refine zY.v rfl rfl (zA rfl rfl rfl rfl rfl (by decide)) ?_); refine zY.nil ?_) | (refine zX.isR (id := 2) ?_; refine zX.zV [1, 2, 6] [1] (by repeat' first | exact zZ.nil | apply zZ.p rfl | apply zZ.ptr rfl) (by repeat' first | exact zW.nil | apply zW.boxP rfl rfl) ?_; (refine zY.v rfl rfl (yO rfl rfl rfl (by rfl) rfl (by decide)) ?_); (refine zY.v rfl rfl (zK rfl rfl rfl (by decide)) ?_); refine zY.nil ?_) | (refine zX.isR (id := 3) ?_; refine zX.zV [1, 2, 6] [1] (by repeat' first | exact zZ.nil | apply zZ.p rfl | apply zZ.ptr rfl) (by repeat' first | exact zW.nil | apply zW.boxP rfl rfl) ?_; all_goals (refine zY.v rfl rfl (zJ rfl rfl rfl (by decide)) ?_); all_goals (refine zY.v rfl rfl (zA rfl rfl rfl rfl rfl (by decide)) ?_); all_goals (refine zY.v rfl rfl (by exact zR (stamp_fn _) rfl rfl rfl (by decide)) ?_); all_goals (refine zY.v rfl rfl (xU rfl rfl (by rfl) rfl (by decide)) ?_); all_goals (refine zY.v rfl rfl (zQ rfl rfl rfl (by decide)) ?_); all_goals (((fail_if_success refine zY.known rfl rfl rfl (by fail) ?_); refine zY.split rfl rfl rfl (fun h => ?_) (fun h => ?_) <;> first | refine zY.gY rfl rfl (by decide) rfl (by assumption) rfl (by decide) (zJ rfl rfl rfl (by decide)) ?_ | refine zY.gnF rfl rfl (by decide) rfl (by assumption) rfl (by decide) ?_)); all_goals (first | refine zY.gY rfl rfl (by decide) rfl (by assumption) rfl (by decide) (zA rfl rfl rfl rfl rfl (by decide)) ?_ | refine zY.gnF rfl rfl (by decide) rfl (by assumption) rfl (by decide) ?_); all_goals (first | refine zY.gY rfl rfl (by decide) rfl (by assumption) rfl (by decide) (by exact zR (right_fn _ h0 h1) rfl rfl rfl (by decide)) ?_ | refine zY.gnF rfl rfl (by decide) rfl (by assumption) rfl (by decide) ?_); all_goals (first | refine zY.gY rfl rfl (by decide) rfl (by assumption) rfl (by decide) (xU rfl rfl (by rfl) rfl (by decide)) ?_ | refine zY.gnF rfl rfl (by decide) rfl (by assumption) rfl (by decide) ?_); all_goals (refine zY.v rfl rfl (by first | exact yZ rfl rfl (by assumption) rfl rfl (by decide) | exact yC rfl rfl (by assumption) rfl rfl (by decide)) ?_); all_goals (refine zY.nil ?_)) | (refine zX.isR (id := 4) ?_; refine zX.zV [1, 2, 6] [1] (by repeat' first | exact zZ.nil | apply zZ.p rfl | apply zZ.ptr rfl) (by repeat' first | exact zW.nil | apply zW.boxP rfl rfl) ?_; (refine zY.v rfl rfl (zK rfl rfl rfl (by decide)) ?_); refine zY.nil ?_) | (refine zX.isR (id := 5) ?_; refine zX.zV [1, 2, 6] [1] (by repeat' first | exact zZ.nil | apply zZ.p rfl | apply zZ.ptr rfl) (by repeat' first | exact zW.nil | apply zW.boxP rfl rfl) ?_; (refine zY.v rfl rfl (zJ rfl rfl rfl (by decide)) ?_); (refine zY.v rfl rfl (zA rfl rfl rfl rfl rfl (by decide)) ?_); (refine zY.v rfl rfl (by exact yU (split_fn _ h0 h1) rfl rfl rfl (by decide)) ?_); (refine zY.v rfl rfl (yD rfl rfl rfl (by decide)) ?_); (refine zY.v rfl rfl (zF rfl rfl rfl rfl (by decide)) ?_); (refine zY.v rfl rfl (zF rfl rfl rfl rfl (by decide)) ?_); (refine zY.v rfl rfl (zK rfl rfl rfl (by decide)) ?_); (refine zY.v rfl rfl (zK rfl rfl rfl (by decide)) ?_); refine zY.nil ?_) | (refine zX.isR (id := 6) ?_; refine zX.zV [1, 2, 4, 6] [1] (by repeat' first | exact zZ.nil | apply zZ.p rfl | apply zZ.ptr rfl) (by repeat' first | exact zW.nil | apply zW.boxP rfl rfl) ?_; (refine zY.v rfl rfl (zQ rfl rfl rfl (by decide)) ?_); (refine zY.v rfl rfl (yI rfl rfl rfl (by rfl) rfl (by decide)) ?_); refine zY.nil ?_) | (refine zX.isR (id := 7) ?_; refine zX.zV [1, 2, 6] [1] (by repeat' first | exact zZ.nil | apply zZ.p rfl | apply zZ.ptr rfl) (by repeat' first | exact zW.nil | apply zW.boxP rfl rfl) ?_; all_goals (refine zY.v rfl rfl (zJ rfl rfl rfl (by decide)) ?_); all_goals (refine zY.v rfl rfl (zA rfl rfl rfl rfl rfl (by decide)) ?_); all_goals (refine zY.v rfl rfl (yO rfl rfl rfl (by rfl) rfl (by decide)) ?_); all_goals (refine zY.v rfl rfl (zQ rfl rfl rfl (by decide)) ?_); all_goals (((fail_if_success refine zY.known rfl rfl rfl (by fail) ?_); refine zY.split rfl rfl rfl (fun h => ?_) (fun h => ?_) <;> first | refine zY.gY rfl rfl (by decide) rfl (by assumption) rfl (by decide) (zJ rfl rfl rfl (by decide)) ?_ | refine zY.gnT rfl rfl (by decide) rfl (by assumption) rfl (by decide) ?_)); all_goals (first | refine zY.gY rfl rfl (by decide) rfl (by assumption) rfl (by decide) (zA rfl rfl rfl rfl rfl (by decide)) ?_ | refine zY.gnT rfl rfl (by decide) rfl (by assumption) rfl (by decide) ?_); all_goals (first | refine zY.gY rfl rfl (by decide) rfl (by assumption) rfl (by decide) (yO rfl rfl rfl (by rfl) rfl (by decide)) ?_ | refine zY.gnT rfl rfl (by decide) rfl (by assumption) rfl (by decide) ?_); all_goals (refine zY.v rfl rfl (by first | exact yZ rfl rfl (by assumption) rfl rfl (by decide) | exact yC rfl rfl (by assumption) rfl rfl (by decide)) ?_); all_goals (refine zY.v rfl rfl (zK rfl rfl rfl (by decide)) ?_); all_goals (refine zY.nil ?_)) | (refine zX.isR (id := 8) ?_; refine zX.zV [1, 2, 6] [1] (by repeat' first | exact zZ.nil | apply zZ.p rfl | apply zZ.ptr rfl) (by repeat' first | exact zW.nil | apply zW.boxP rfl rfl) ?_; all_goals (refine zY.v rfl rfl (zJ rfl rfl rfl (by decide)) ?_); all_goals (refine zY.v rfl rfl (zA rfl rfl rfl rfl rfl (by decide)) ?_); all_goals (refine zY.v rfl rfl (by exact zR (stamp_fn _) rfl rfl rfl (by decide)) ?_); all_goals (refine zY.v rfl rfl (zQ rfl rfl rfl (by decide)) ?_); all_goals (((fail_if_success refine zY.known rfl rfl rfl (by fail) ?_); refine zY.split rfl rfl rfl (fun h => ?_) (fun h => ?_) <;> first | refine zY.gY rfl rfl (by decide) rfl (by assumption) rfl (by decide) (zJ rfl rfl rfl (by decide)) ?_ | refine zY.gnT rfl rfl (by decide) rfl (by assumption) rfl (by decide) ?_)); all_goals (first | refine zY.gY rfl rfl (by decide) rfl (by assumption) rfl (by decide) (zA rfl rfl rfl rfl rfl (by decide)) ?_ | refine zY.gnT rfl rfl (by decide) rfl (by assumption) rfl (by decide) ?_); all_goals (first | refine zY.gY rfl rfl (by decide) rfl (by assumption) rfl (by decide) (by exact zR (stamp_fn _) rfl rfl rfl (by decide)) ?_ | refine zY.gnT rfl rfl (by decide) rfl (by assumption) rfl (by decide) ?_); all_goals (refine zY.v rfl rfl (by first | exact yZ rfl rfl (by assumption) rfl rfl (by decide) | exact yC rfl rfl (by assumption) rfl rfl (by decide)) ?_); all_goals (refine zY.v rfl rfl (zK rfl rfl rfl (by decide)) ?_); all_goals (refine zY.nil ?_)) | (refine zX.isR (id := 9) ?_; refine zX.zV [1, 2, 6] [1] (by repeat' first | exact zZ.nil | apply zZ.p rfl | apply zZ.ptr rfl) (by repeat' first | exact zW.nil | apply zW.boxP rfl rfl) ?_; (refine zY.v rfl rfl (yO rfl rfl rfl (by rfl) rfl (by decide)) ?_); (refine zY.v rfl rfl (zK rfl rfl rfl (by decide)) ?_); refine zY.nil ?_) | (refine zX.isR (id := 10) ?_; refine zX.zV [1, 2, 6] [1] (by repeat' first | exact zZ.nil | apply zZ.p rfl | apply zZ.ptr rfl) (by repeat' first | exact zW.nil | apply zW.boxP rfl rfl) ?_; all_goals (refine zY.v rfl rfl (zJ rfl rfl rfl (by decide)) ?_); all_goals (refine zY.v rfl rfl (zA rfl rfl rfl rfl rfl (by decide)) ?_); all_goals (refine zY.v rfl rfl (by exact zR (stamp_fn _) rfl rfl rfl (by decide)) ?_); all_goals (refine zY.v rfl rfl (zQ rfl rfl rfl (by decide)) ?_); all_goals (((fail_if_success refine zY.known rfl rfl rfl (by fail) ?_); refine zY.split rfl rfl rfl (fun h => ?_) (fun h => ?_) <;> first | refine zY.gY rfl rfl (by decide) rfl (by assumption) rfl (by decide) (zD rfl rfl rfl (by rfl) (by rfl) rfl (by decide)) ?_ | refine zY.gnT rfl rfl (by decide) rfl (by assumption) rfl (by decide) ?_)); all_goals (first | refine zY.gY rfl rfl (by decide) rfl (by assumption) rfl (by decide) (zJ rfl rfl rfl (by decide)) ?_ | refine zY.gnT rfl rfl (by decide) rfl (by assumption) rfl (by decide) ?_); all_goals (first | refine zY.gY rfl rfl (by decide) rfl (by assumption) rfl (by decide) (zA rfl rfl rfl rfl rfl (by decide)) ?_ | refine zY.gnT rfl rfl (by decide) rfl (by assumption) rfl (by decide) ?_); all_goals (first | refine zY.gY rfl rfl (by decide) rfl (by assumption) rfl (by decide) (zJ rfl rfl rfl (by decide)) ?_ | refine zY.gnT rfl rfl (by decide) rfl (by assumption) rfl (by decide) ?_); all_goals (first | refine zY.gY rfl rfl (by decide) rfl (by assumption) rfl (by decide) (zA rfl rfl rfl rfl rfl (by decide)) ?_ | refine zY.gnT rfl rfl (by decide) rfl (by assumption) rfl (by decide) ?_); all_goals (first | refine zY.gY rfl rfl (by decide) rfl (by assumption) rfl (by decide) (zT rfl (by rfl) (by rfl) (by rfl) (by rfl) rfl (by decide)) ?_ | refine zY.gnT rfl rfl (by decide) rfl (by assumption) rfl (by decide) ?_); all_goals (first | refine zY.gY rfl rfl (by decide) rfl (by assumption) rfl (by decide) (r_eqlT rfl rfl rfl rfl rfl rfl (by rfl) (by rfl) rfl (by decide)) ?_ | refine zY.gnT rfl rfl (by decide) rfl (by assumption) rfl (by decide) ?_); all_goals (refine zY.v rfl rfl (by first | exact yZ rfl rfl (by assumption) rfl rfl (by decide) | exact yC rfl rfl (by assumption) rfl rfl (by decide)) ?_); all_goals (refine zY.v rfl rfl (zK rfl rfl rfl (by decide)) ?_); all_goals (refine zY.nil ?_)) | (refine zX.isR (id := 11) ?_; refine zX.zV [1, 2, 6] [1] (by repeat' first | exact zZ.nil | apply zZ.p rfl | apply zZ.ptr rfl) (by repeat' first | exact zW.nil | apply zW.boxP rfl rfl) ?_; (refine zY.v rfl rfl (yO rfl rfl rfl (by rfl) rfl (by decide)) ?_); (refine zY.v rfl rfl (zK rfl rfl rfl (by decide)) ?_); refine zY.nil ?_) | (refine zX.isR (id := 12) ?_; refine zX.zV [1, 2] [1] (by repeat' first | exact zZ.nil | apply zZ.p rfl | apply zZ.ptr rfl) (by repeat' first | exact zW.nil | apply zW.boxP rfl rfl) ?_; all_goals (refine zY.v rfl rfl (zJ rfl rfl rfl (by decide)) ?_); all_goals (refine zY.v rfl rfl (zA rfl rfl rfl rfl rfl (by decide)) ?_); all_goals (refine zY.v rfl rfl (r_leq rfl rfl rfl (by rfl) rfl (by decide)) ?_); all_goals (refine zY.v rfl rfl (zQ rfl rfl rfl (by decide)) ?_); all_goals (((fail_if_success refine zY.known rfl rfl rfl (by fail) ?_); refine zY.split rfl rfl rfl (fun h => ?_) (fun h => ?_) <;> first | refine zY.gY rfl rfl (by decide) rfl (by assumption) rfl (by decide) (zD rfl rfl rfl (by rfl) (by rfl) rfl (by decide)) ?_ | refine zY.gnT rfl rfl (by decide) rfl (by assumption) rfl (by decide) ?_)); all_goals (first | refine zY.gY rfl rfl (by decide) rfl (by assumption) rfl (by decide) (zJ rfl rfl rfl (by decide)) ?_ | refine zY.gnT rfl rfl (by decide) rfl (by assumption) rfl (by decide) ?_); all_goals (first | refine zY.gY rfl rfl (by decide) rfl (by assumption) rfl (by decide) (zA rfl rfl rfl rfl rfl (by decide)) ?_ | refine zY.gnT rfl rfl (by decide) rfl (by assumption) rfl (by decide) ?_); all_goals (first | refine zY.gY rfl rfl (by decide) rfl (by assumption) rfl (by decide) (zJ rfl rfl rfl (by decide)) ?_ | refine zY.gnT rfl rfl (by decide) rfl (by assumption) rfl (by decide) ?_); all_goals (first | refine zY.gY rfl rfl (by decide) rfl (by assumption) rfl (by decide) (zA rfl rfl rfl rfl rfl (by decide)) ?_ | refine zY.gnT rfl rfl (by decide) rfl (by assumption) rfl (by decide) ?_); all_goals (first | refine zY.gY rfl rfl (by decide) rfl (by assumption) rfl (by decide) (zT rfl (by rfl) (by rfl) (by rfl) (by rfl) rfl (by decide)) ?_ | refine zY.gnT rfl rfl (by decide) rfl (by assumption) rfl (by decide) ?_); all_goals (first | refine zY.gY rfl rfl (by decide) rfl (by assumption) rfl (by decide) (r_eqlT rfl rfl rfl rfl rfl rfl (by rfl) (by rfl) rfl (by decide)) ?_ | refine zY.gnT rfl rfl (by decide) rfl (by assumption) rfl (by decide) ?_); all_goals (refine zY.v rfl rfl (by first | exact yZ rfl rfl (by assumption) rfl rfl (by decide) | exact yC rfl rfl (by assumption) rfl rfl (by decide)) ?_); all_goals (refine zY.v rfl rfl (zK rfl rfl rfl (by decide)) ?_); all_goals (refine zY.nil ?_)) | (refine zX.isR (id := 13) ?_; refine zX.zV [2] [1] (by repeat' first | exact zZ.nil | apply zZ.p rfl) (by repeat' first | exact zW.nil | apply zW.boxP rfl rfl) ?_; (refine zY.v rfl rfl (zK rfl rfl rfl (by decide)) ?_); refine zY.nil ?_) | refine zX.yS rfl (by first | assumption | with_reducible rfl) ?_ | refine zX.cond rfl (fun h => ?_) (fun h => ?_) | refine zX.skip ?_ | refine zX.block ?_ | refine zX.ret ?_) | refine yH.r ?_ | refine wH.r ?_)
  all_goals refine ⟨.inl rfl, gives1 rfl rfl (eqB ?_)⟩
  all_goals simp only [decide_eq_true_eq, decide_eq_false_iff_not, Bool.not_eq_true', Bool.not_eq_false'] at *
  all_goals try subst k
  all_goals try (have hq : y % 2147483648 = 0 := by omega)
  all_goals try (have hq : ¬ y % 2147483648 = 0 := by omega)
  all_goals (unfold mayB; (simp [*]; done))
end Go.Proofs.YthnmfmdkdngggaaDoor
/- Contracts of eight and number (the reference's). -/
namespace Go.Proofs.YthnmfmdkdngggaaDoor
set_option maxRecDepth 100000
set_option maxHeartbeats 16000000
open Go.RowKit
/-- the k lowest bytes of a number -/
def bytesOf : Nat → Int → List Int
  | 0, _ => []
  | k + 1, n => n % 256 :: bytesOf k (n / 256)
theorem bytesOf_length (k : Nat) (n : Int) : (bytesOf k n).length = k := by
  induction k generalizing n with
  | zero => rfl
  | succ k ih => simp [bytesOf, ih]
theorem bytesOf_snoc (k : Nat) (n : Int) : bytesOf (k + 1) n = bytesOf k n ++ [n / 256 ^ k % 256] := by
  induction k generalizing n with
  | zero => simp [bytesOf]
  | succ k ih =>
    rw [bytesOf, ih (n / 256)]
    simp only [bytesOf, List.cons_append]
    rw [Int.ediv_ediv_of_nonneg (by omega), Int.pow_succ, Int.mul_comm]
end Go.Proofs.YthnmfmdkdngggaaDoor
/- eight and number, as contracts over abstract frames. -/
namespace Go.Proofs.YthnmfmdkdngggaaDoor
set_option maxRecDepth 100000
set_option maxHeartbeats 16000000
open Go Go.RowKit
end Go.Proofs.YthnmfmdkdngggaaDoor
/- Encode, the reference's, as a contract. -/
namespace Go.Proofs.YthnmfmdkdngggaaDoor
set_option maxRecDepth 100000
set_option maxHeartbeats 16000000
open Go Go.RowKit
set_option linter.unusedSimpArgs false
attribute [local irreducible] zY zX Step zC Sub zL Fn
/-- an entry's bytes -/
def encL (k s y u v x : Int) : List Int := (k % 256 :: bytesOf 8 s) ++ (if k = 1 then bytesOf 8 y ++ bytesOf 8 u ++ bytesOf 8 v ++ bytesOf 8 x else [])
end Go.Proofs.YthnmfmdkdngggaaDoor
/- Contracts of slices.Insert at the two places where it is used, and of fields. -/
namespace Go.Proofs.YthnmfmdkdngggaaDoor
set_option maxRecDepth 100000
set_option maxHeartbeats 16000000
open Go.RowKit
theorem Tryd.infoPtr : (Tryd.prog.info? 155).map (fun i => (i.zero, i.size, i.bytes)) = some (some (.pointer none), 1, 8) := by kernel_rfl
theorem Tryd.sizePtr : (Tryd.prog.info? 155).map (·.size) = some 1 := by kernel_rfl
/-- A row that is known whole is owned. -/
theorem ownsRow_of_heap {w : World} {base g n cap : Nat} {e : TypeId} {cur : List Value} {xs : List Value} (hg : w.heap[g]? = some (.cells cur.toArray e (0, 0))) (hb : base ≤ g)
    (hc : cur.length = cap) (hn : n ≤ cap) (hm : cap ≤ maxLen) (ht : cur.take n = xs) (hx : xs.length = n) : w.ownsRow base e 1 (.slice (some ⟨g, 0, none⟩) n cap) n xs :=
  ⟨by simpa using hx, .inr ⟨g, cap, cur.toArray, rfl, hb, hg, hn, hm, by simpa using hc, by simpa using ht⟩⟩
theorem cells_four {w : World} {b : Nat} {q0 q1 q2 q3 : Value} (h0 : w.cell? ⟨b, 0, none⟩ = some q0) (h1 : w.cell? ⟨b, 1, none⟩ = some q1) (h2 : w.cell? ⟨b, 2, none⟩ = some q2) (h3 : w.cell? ⟨b, 3, none⟩ = some q3) :
    ∀ (j : Nat) v, [q0, q1, q2, q3][j]? = some v → w.cell? ((⟨b, 0, none⟩ : Addr).add j) = some v := by
  intro j v hv
  match j, hv with
  | 0, hv => simp at hv; subst hv; exact h0
  | 1, hv => simp at hv; subst hv; exact h1
  | 2, hv => simp at hv; subst hv; exact h2
  | 3, hv => simp at hv; subst hv; exact h3
  | j + 4, hv => simp at hv
theorem insert_nil (g : Nat) (p : Value) (w : World) (hp : w.cell? ⟨g, 0, none⟩ = some p) (h1 : p.oneCell' = true) :
    Calls Tryd.prog 103 #[.slice none 0 0, .int .i64 0, .slice (some ⟨g, 0, none⟩) 1 1] w fun e w' =>
      ∃ v, e = .returned v ∧ w'.ownsRow w.heap.size 155 1 v 1 [p] ∧ Below w.heap.size w w' := by
  obtain ⟨i0, hi, hz0, hz1, hz2⟩ := info_parts Tryd.infoPtr
  go_enter Tryd.func103, Tryd.ntmps103
  go_wp2_with (at_builtin; refine wpList_append_own _ rfl _ _ 152 rfl w.heap.size 155 i0 (.pointer none) 1 8 Tryd.underlying152 hi hz0 hz1 hz2 rfl (by decide) _ _ _ rfl (World.ownsRow_nil _ _ _ _) ⟨g, 0, none⟩ 1 1 [p] rfl rfl ?c1 ?c2 ?c3 ?c4 ?c5 ?_)
  case c1 => exact cells_one hp
  case c2 => simpa using h1
  case c3 => simp [maxLen]
  case c4 => decide
  case c5 => exact Nat.le_refl _
  intro v' w1 hown' hgrow _
  go_wp2
  go_ret
  exact ⟨_, rfl, hown', (Below.refl _ _).grown hgrow (Nat.le_refl _) (by simp [Value.ownBlock])⟩
theorem insert_four (b g : Nat) (p q0 q1 q2 q3 : Value) (w : World) (hp : w.cell? ⟨g, 0, none⟩ = some p) (h1 : p.oneCell' = true)
   (hq0 : w.cell? ⟨b, 0, none⟩ = some q0) (hq1 : w.cell? ⟨b, 1, none⟩ = some q1) (hq2 : w.cell? ⟨b, 2, none⟩ = some q2) (hq3 : w.cell? ⟨b, 3, none⟩ = some q3)
   (hq : ∀ v ∈ [q0, q1, q2, q3], v.oneCell' = true) (hbw : b < w.heap.size) (hgw : g < w.heap.size) :
    Calls Tryd.prog 103 #[.slice (some ⟨b, 0, none⟩) 4 4, .int .i64 0, .slice (some ⟨g, 0, none⟩) 1 1] w fun e w' =>
      ∃ v, e = .returned v ∧ w'.ownsRow w.heap.size 155 1 v 5 [p, q0, q1, q2, q3] ∧ Below w.heap.size w w' := by
  obtain ⟨i0, hi, hz0, hz1, hz2⟩ := info_parts Tryd.infoPtr
  go_enter Tryd.func103, Tryd.ntmps103
  go_wp2_with (at_builtin; refine wpList_append_zeros rfl (.tmp 34) (.tmp 39) 152 3 rfl 155 i0 (.pointer none) (.pointer none) Tryd.underlying152 Tryd.underlying3 hi hz0 rfl hz1 ⟨b, 0, none⟩ 4 5 rfl rfl (by decide) (by simp [maxLen]) (by rw [hz2]; decide) (by rw [hz2]; decide) ?_)
  intro cap Z w1 HZ H1 hb1 hc1 hc2
  have hp1 : w1.cell? ⟨g, 0, none⟩ = some p := (hb1.cell (p := ⟨g, 0, none⟩) hgw).trans hp
  have hc1' : ¬ cap = 1 := by omega
  have hc1'' : ¬ cap = 0 := by omega
  have hl : Hid (Z.length = cap) := by show Z.length = cap; rw [HZ.out]; simp
  have D1 : 0 < [p].length → some (⟨w.heap.size, 0, none⟩ : Addr) = some ⟨w.heap.size, 0, none⟩ ∧ ∃ ad, some (⟨g, 0, none⟩ : Addr) = some ad ∧ ∀ (j : Nat) v, [p][j]? = some v → w1.cell? (ad.add j) = some v :=
    fun _ => ⟨rfl, _, rfl, cells_one hp1⟩
  have D2 : 0 + [p].length ≤ Z.length := by rw [hl.out]; simp; omega
  have D3 : ∀ v ∈ [p], v.oneCell' = true := by simpa using h1
  have H1' := Lib.hid D1
  have H2' := Lib.hid D2
  have H3' := Lib.hid D3
  clear D1 D2 D3
  go_wp2_with (with_reducible refine wpList_copy_splice rfl (.tmp 43) (.tmp 44) 152 152 rfl 155 Tryd.underlying152 Tryd.sizePtr (some ⟨w.heap.size, 0, none⟩) (some ⟨g, 0, none⟩) 5 cap 1 1 rfl rfl w.heap.size 0 Z 155 H1.out [p] rfl H1'.out H2'.out H3'.out w.heap.size w hb1 (Nat.le_refl _) ?_)
  intro w2 H2 hb2
  have hr0 : w2.cell? ⟨b, 0, none⟩ = some q0 := (hb2.cell (p := ⟨b, 0, none⟩) hbw).trans hq0
  have hr1 : w2.cell? ⟨b, 1, none⟩ = some q1 := (hb2.cell (p := ⟨b, 1, none⟩) hbw).trans hq1
  have hr2 : w2.cell? ⟨b, 2, none⟩ = some q2 := (hb2.cell (p := ⟨b, 2, none⟩) hbw).trans hq2
  have hr3 : w2.cell? ⟨b, 3, none⟩ = some q3 := (hb2.cell (p := ⟨b, 3, none⟩) hbw).trans hq3
  have hw1 : IntKind.i64.wrap 1 = 1 := by decide
  go_wp2
  go_still_tail 8, (by kernel_rfl)
  change wpList _ _ _ _ _ w2.drew
  refine wpList_copy_splice rfl (.tmp 50) (.tmp 53) 152 152 rfl 155 Tryd.underlying152 Tryd.sizePtr (some ⟨w.heap.size, 1, none⟩) (some ⟨b, 0, none⟩) 4 (cap - 1) 4 4 rfl rfl w.heap.size 1 (Go.splice Z 0 [p]) 155 H2.out [q0, q1, q2, q3] rfl ?e1 ?e2 hq w.heap.size w hb2.drew (Nat.le_refl _) ?_
  case e1 => exact fun _ => ⟨rfl, _, rfl, cells_four hr0 hr1 hr2 hr3⟩
  case e2 => have := hl.out; simp [Go.splice]; omega
  intro w3 H3 hb3
  go_wp2
  go_ret
  refine ⟨_, rfl, ownsRow_of_heap H3.out (Nat.le_refl _) ?_ hc1 hc2 ?_ rfl, hb3⟩
  · have := hl.out; simp [Go.splice]; omega
  · simp [Go.splice]
/-- What fields hands back, of an entry of kind k in block b. -/
def fieldsOf (b : Nat) (k : Int) : List Value :=
  if k = 1 then [.pointer (some ⟨b, 1, none⟩), .pointer (some ⟨b, 2, none⟩), .pointer (some ⟨b, 3, none⟩), .pointer (some ⟨b, 4, none⟩), .pointer (some ⟨b, 5, none⟩)]
  else if k = 2 ∨ k = 3 then [.pointer (some ⟨b, 1, none⟩)] else []
theorem fields_any (b : Nat) (k : Int) (w : World) (hp : w.cell? ⟨b, 0, none⟩ = some (.int .i64 k)) :
    Calls Tryd.prog 97 #[.pointer (some ⟨b, 0, none⟩)] w fun e w' =>
      ∃ v, e = .returned v ∧ w'.ownsRow w.heap.size 155 1 v (fieldsOf b k).length (fieldsOf b k) ∧ Below w.heap.size w w' := by
  by_cases h1 : k = 1
  · subst h1
    go_enter Tryd.func97, Tryd.ntmps97
    go_wp2_with fail
    go_still_tail 12, (by kernel_rfl)
    change wpList _ _ _ _ _ w.drew
    go_wp2_with fail
    refine (insert_four w.heap.size (w.heap.size + 1) (.pointer (some ⟨b, 1, none⟩)) (.pointer (some ⟨b, 2, none⟩)) (.pointer (some ⟨b, 3, none⟩)) (.pointer (some ⟨b, 4, none⟩)) (.pointer (some ⟨b, 5, none⟩)) _ (by go_simp) rfl (by go_simp) (by go_simp) (by go_simp) (by go_simp) (by simp [Value.oneCell']) (by simp <;> omega) (by simp <;> omega)).mono ?_
    rintro e w' ⟨v, rfl, hown, hb⟩
    go_wp2
    go_ret
    exact ⟨_, rfl, ownsRow_base hown (by simp <;> omega), ((((Below.refl _ _).alloc (Nat.le_refl _) _).alloc (by simp) _).drew).trans (hb.mono (by simp <;> omega))⟩
  by_cases h2 : k = 2
  · subst h2
    go_enter Tryd.func97, Tryd.ntmps97
    go_wp2_with fail
    refine (insert_nil w.heap.size (.pointer (some ⟨b, 1, none⟩)) _ (by simp) rfl).mono ?_
    rintro e w' ⟨v, rfl, hown, hb⟩
    go_wp2
    go_ret
    exact ⟨_, rfl, ownsRow_base hown (by simp <;> omega), ((Below.refl _ _).alloc (Nat.le_refl _) _).trans (hb.mono (by simp <;> omega))⟩
  by_cases h3 : k = 3
  · subst h3
    go_enter Tryd.func97, Tryd.ntmps97
    go_wp2_with fail
    refine (insert_nil w.heap.size (.pointer (some ⟨b, 1, none⟩)) _ (by simp) rfl).mono ?_
    rintro e w' ⟨v, rfl, hown, hb⟩
    go_wp2
    go_ret
    exact ⟨_, rfl, ownsRow_base hown (by simp <;> omega), ((Below.refl _ _).alloc (Nat.le_refl _) _).trans (hb.mono (by simp <;> omega))⟩
  have e2 : (k == 1) = false := by simpa using h1
  have e3 : (k == 2) = false := by simpa using h2
  have e4 : (k == 3) = false := by simpa using h3
  have hf : Hid (fieldsOf b k = []) := by show fieldsOf b k = []; simp [fieldsOf, h1, h2, h3]
  go_enter Tryd.func97, Tryd.ntmps97
  go_wp2_with fail
  go_ret
  exact ⟨_, rfl, by rw [hf.out]; exact World.ownsRow_nil _ _ _ _, Below.refl _ _⟩
end Go.Proofs.YthnmfmdkdngggaaDoor
/- A call of fields, whose argument is a pointer to an own variable. -/
namespace Go.Proofs.YthnmfmdkdngggaaDoor
set_option maxRecDepth 100000
set_option maxHeartbeats 16000000
open Go Go.RowKit
/-- what fields hands back: pointers into the variable -/
def yV (id : Nat) (k : Int) : List AV :=
  if k = 1 then [.ptr id 1, .ptr id 2, .ptr id 3, .ptr id 4, .ptr id 5] else if k = 2 ∨ k = 3 then [.ptr id 1] else []
theorem fieldsA_cells {M : Nat → Nat → Prop} {ρ : Nat → Value} {w : World} {id g : Nat} (k : Int) (hg : zU (ρ id) = some g) : yA M ρ w (yV id k) (fieldsOf g k) := by
  have one : ∀ j, yB M ρ w (.ptr id j) (.pointer (some ⟨g, j, none⟩)) := fun j => .ptr id j g hg
  unfold yV fieldsOf
  by_cases h1 : k = 1
  · rw [if_pos h1, if_pos h1]
    refine ⟨rfl, fun i c v hc hv => ?_, fun v hv => ?_⟩
    · match i with
      | 0 | 1 | 2 | 3 | 4 => simp at hc hv; subst hc; subst hv; exact one _
      | i + 5 => simp at hc
    · simp at hv
      rcases hv with rfl | rfl | rfl | rfl | rfl <;> rfl
  · rw [if_neg h1, if_neg h1]
    by_cases h2 : k = 2 ∨ k = 3
    · rw [if_pos h2, if_pos h2]
      refine ⟨rfl, fun i c v hc hv => ?_, fun v hv => ?_⟩
      · match i with
        | 0 => simp at hc hv; subst hc; subst hv; exact one _
        | i + 1 => simp at hc
      · simp at hv
        subst hv
        rfl
    · rw [if_neg h2, if_neg h2]
      exact ⟨rfl, fun i c v hc => by simp at hc, fun v hv => by simp at hv⟩
theorem fieldsA_len (id g : Nat) (k : Int) : (yV id k).length = (fieldsOf g k).length := by
  unfold yV fieldsOf
  split
  · rfl
  · split <;> rfl
theorem w_fields {n : Nat} {o : Oper} {S : AS} {d id ty : Nat} {x : Operand} {k : Int} {cs : List AV} {ts : Array TypeId} (ho : o.op = .call { callee := .value (.func 97), args := #[x], argTypes := ts }) (hx : S.get x = .ptr id 0)
    (hb : S.blk id = some (.box ty cs)) (hk : cs[0]? = some (.p (.val (.int .i64 k)))) (hd : o.dst = some d) (hn : d < n) :
    zC Tryd.prog n o S [id] (.own d) (some (.row 155 1 (yV id k).length (yV id k))) := by
  intro S2 hg hbl M w0 ρ a w K Q hs hK
  have hx2 : S2.get x = .ptr id 0 := (hg x (by rw [ho]; simp [Op.operands, Call.operands])).trans hx
  have hb2 : S2.blk id = some (.box ty cs) := (hbl id (by simp)).trans hb
  have h1 := hs.rep x
  rw [hx2] at h1
  obtain ⟨g, hgv, hv⟩ := vP h1
  obtain ⟨ys, hcs, hcell⟩ := (hs.blks id _ hb2).cells hgv
  have h0 : 0 < cs.length := (List.getElem?_eq_some_iff.1 hk).1
  have hy : ys[0]? = some (ys[0]'(by rw [hcs.len]; exact h0)) := List.getElem?_eq_getElem _
  have hkv := rep_val (rep_p (hcs.each 0 _ _ hk hy))
  have hc0 := (hcell 0 _ hy).1
  rw [hkv] at hc0
  have he : (execOp a.eval o).run Tryd.prog w = .ok (.enter 97 (#[x].map a.eval)) w := by
    unfold execOp
    rw [ho]
    simp [resolve, Deferred.ofValue, Act.eval, invoke, HasFn.h]
  unfold Oper.wp
  rw [he, Oper.upon_enter]
  have e : #[x].map a.eval = #[.pointer (some ⟨g, 0, none⟩)] := by simp [hv]
  rw [e]
  refine (fields_any g k w hc0).mono ?_
  rintro en w' ⟨v, rfl, hown, hbw⟩
  show K (a.put o.dst v) w'
  rw [hd] at hK ⊢
  have hbk : ∀ k', zU v = some k' → w.heap.size ≤ k' := fun k' hk' => (hown.lt k' (by rw [← own_slice hown]; exact hk')).1
  have h2 := hs.change d (.row 155 1 (yV id k).length (yV id k)) v none (hs.free d hn) ⟨hbw.os, hbw.tape, hbw.output, hbw.size, fun k' hk' _ => hbw.block k' hk'⟩ (fun k' h => by cases h) (fun k' hk' => .inl (hbk k' hk'))
    ⟨fieldsOf g k, by rw [fieldsA_len id g k]; exact ownsRow_base hown (Nat.zero_le _), fieldsA_cells k hgv⟩
  refine hK (upd ρ d v) _ w' (h2.put hn ?_)
  have := yB.own (M := Mut M (S2.create d (.row 155 1 (yV id k).length (yV id k))) (upd ρ d v)) (ρ := upd ρ d v) (w := w') d
  simpa [upd] using this
end Go.Proofs.YthnmfmdkdngggaaDoor
/- Encode, the program's, as a contract. -/
namespace Go.Proofs.YthnmfmdkdngggaaDoor
set_option maxRecDepth 100000
set_option maxHeartbeats 16000000
open Go Go.RowKit
set_option linter.unusedSimpArgs false
attribute [local irreducible] zY zX Step zC Sub zL Fn
/-- the values that fields tells, of an entry of kind k -/
def xC (k s y u v x : Int) : List Int := if k = 1 then [s, y, u, v, x] else [s]
/-- the bytes so far: the kind's, and the first i values' -/
def encUp (k : Int) (vals : List Int) (i : Nat) : List Int := IntKind.u8.wrap k :: (vals.take i).flatMap (bytesOf 8)
def cellsOf (k s y u v x : Int) : List PV := [.val (.int .i64 k), .val (.int .u64 s), .val (.int .u64 y), .val (.int .u64 u), .val (.int .u64 v), .val (.int .u64 x)]
theorem encUp_succ (k : Int) (vals : List Int) (i : Nat) (h : i < vals.length) : encUp k vals (i + 1) = encUp k vals i ++ bytesOf 8 (vals.getD i 0) := by
  have e : vals.take (i + 1) = vals.take i ++ [vals.getD i 0] := by
    rw [List.take_add_one, List.getElem?_eq_getElem h]
    simp [List.getD, h]
  unfold encUp
  rw [e, List.flatMap_append, List.cons_append]
  simp
def encO (k s y u v x : Int) (i : Nat) : AS :=
  ⟨[(2, .p (.val (.slice none 0 0))), (3, .p (.val (.int .i64 0))), (4, .own 14), (15, .own 15), (16, .p (.val (.int .i64 (yV 1 k).length))), (17, .p (.val (.int .i64 i)))],
   [(1, .box 44 ((cellsOf k s y u v x).map AV.p)), (14, yG 5 (encUp k (xC k s y u v x) i)), (15, .row 155 1 (yV 1 k).length (yV 1 k))], .any⟩
def encI (k s y u v x : Int) (i j : Nat) : AS :=
  ⟨[(2, .p (.val (.slice none 0 0))), (3, .p (.val (.int .i64 0))), (4, .own 14), (6, .ptr 1 (i + 1)), (15, .own 15), (16, .p (.val (.int .i64 (yV 1 k).length))), (17, .p (.val (.int .i64 i))), (21, .p (.val (.int .i64 j)))],
   [(1, .box 44 ((cellsOf k s y u v x).map AV.p)), (14, yG 5 (encUp k (xC k s y u v x) i ++ bytesOf j ((xC k s y u v x).getD i 0))), (15, .row 155 1 (yV 1 k).length (yV 1 k))], .any⟩
theorem fieldsA_kill (k : Int) (id : Nat) (h : id ≠ 1) : (yV 1 k).map (AV.kill id) = yV 1 k := by
  have e : ∀ j, AV.kill id (.ptr 1 j) = .ptr 1 j := fun j => by
    show (if 1 = id then AV.any else AV.ptr 1 j) = _
    rw [if_neg (fun h' => h h'.symm)]
  unfold yV
  split
  · simp only [List.map_cons, List.map_nil, e]
  · split
    · simp only [List.map_cons, List.map_nil, e]
    · rfl
/-- the row of the fields, whatever is made anew -/
theorem rowF_kill (k : Int) (id : Nat) (h : id ≠ 1) : (some (Blk.row 155 1 (yV 1 k).length ((yV 1 k).map (AV.kill id))) : Option Blk) = some (.row 155 1 (yV 1 k).length (yV 1 k)) := by
  rw [fieldsA_kill k id h]
theorem rowF_kill2 (k : Int) (id id2 : Nat) (h : id ≠ 1) (h2 : id2 ≠ 1) : (some (Blk.row 155 1 (yV 1 k).length (((yV 1 k).map (AV.kill id)).map (AV.kill id2))) : Option Blk) = some (.row 155 1 (yV 1 k).length (yV 1 k)) := by
  rw [fieldsA_kill k id h, fieldsA_kill k id2 h2]
theorem fieldsA_get (k : Int) (i : Nat) (hi : i < (yV 1 k).length) : (yV 1 k)[((i : Int)).toNat * 1]? = some (.ptr 1 (i + 1)) := by
  rw [Nat.mul_one, Int.toNat_natCast]
  unfold yV at hi ⊢
  by_cases h1 : k = 1
  · rw [if_pos h1] at hi ⊢
    match i with
    | 0 | 1 | 2 | 3 | 4 => rfl
    | i + 5 => exact absurd hi (by simp)
  · rw [if_neg h1] at hi ⊢
    by_cases h2 : k = 2 ∨ k = 3
    · rw [if_pos h2] at hi ⊢
      match i with
      | 0 => rfl
      | i + 1 => simp at hi
    · rw [if_neg h2] at hi; simp at hi
theorem fields_len (k s y u v x : Int) (i : Nat) (hi : i < (yV 1 k).length) : i < (xC k s y u v x).length := by
  unfold yV at hi
  unfold xC
  by_cases h1 : k = 1
  · rw [if_pos h1] at hi ⊢; exact hi
  · rw [if_neg h1] at hi ⊢
    by_cases h2 : k = 2 ∨ k = 3
    · rw [if_pos h2] at hi; exact hi
    · rw [if_neg h2] at hi; simp at hi
theorem cells_get (k s y u v x : Int) (i : Nat) (hi : i < (yV 1 k).length) : ((cellsOf k s y u v x).map AV.p)[i + 1]? = some (.p (.val (.int .u64 ((xC k s y u v x).getD i 0)))) := by
  unfold yV at hi
  unfold xC
  by_cases h1 : k = 1
  · rw [if_pos h1] at hi ⊢
    match i with
    | 0 | 1 | 2 | 3 | 4 => rfl
    | i + 5 => exact absurd hi (by simp)
  · rw [if_neg h1] at hi ⊢
    by_cases h2 : k = 2 ∨ k = 3
    · rw [if_pos h2] at hi
      match i with
      | 0 => rfl
      | i + 1 => simp at hi
    · rw [if_neg h2] at hi; simp at hi
theorem valsOf_range (k s y u v x : Int) (h0 : 0 ≤ s) (h1 : s < 18446744073709551616) (h2 : 0 ≤ y) (h3 : y < 18446744073709551616) (h4 : 0 ≤ u) (h5 : u < 18446744073709551616) (h6 : 0 ≤ v) (h7 : v < 18446744073709551616) (h8 : 0 ≤ x) (h9 : x < 18446744073709551616) (i : Nat) :
    0 ≤ (xC k s y u v x).getD i 0 ∧ (xC k s y u v x).getD i 0 < 18446744073709551616 := by
  unfold xC
  by_cases hk : k = 1
  · rw [if_pos hk]
    match i with
    | 0 => exact ⟨h0, h1⟩
    | 1 => exact ⟨h2, h3⟩
    | 2 => exact ⟨h4, h5⟩
    | 3 => exact ⟨h6, h7⟩
    | 4 => exact ⟨h8, h9⟩
    | i + 5 => exact ⟨Int.le_refl 0, (by decide : (0 : Int) < 18446744073709551616)⟩
  · rw [if_neg hk]
    match i with
    | 0 => exact ⟨h0, h1⟩
    | i + 1 => exact ⟨Int.le_refl 0, (by decide : (0 : Int) < 18446744073709551616)⟩
theorem encUp_len (k : Int) (vals : List Int) (i : Nat) : (encUp k vals i).length = 1 + 8 * min i vals.length := by
  unfold encUp
  rw [List.length_cons]
  have : ∀ l : List Int, (l.flatMap (bytesOf 8)).length = 8 * l.length := by
    intro l
    induction l with
    | nil => rfl
    | cons a r ih => simp only [List.flatMap_cons, List.length_append, List.length_cons, bytesOf_length, ih]; omega
  rw [this, List.length_take]
  omega
theorem fieldsA_le (k : Int) : (yV 1 k).length ≤ 5 := by
  unfold yV
  split
  · decide
  · split <;> decide
theorem pow8 (j : Nat) : (2 : Int) ^ (8 * (j : Int)).toNat = 256 ^ j := by
  have : (8 * (j : Int)).toNat = 8 * j := by omega
  rw [this, Int.pow_mul]
  rfl
theorem encUp_all (k s y u v x : Int) (hm : mayB k s y u v x = true) : encUp k (xC k s y u v x) (yV 1 k).length = encL k s y u v x := by
  have hw : IntKind.u8.wrap k = k % 256 := by simp [IntKind.wrap, IntKind.signed, IntKind.bits]
  have hk : k = 1 ∨ k = 2 ∨ k = 3 := by
    unfold mayB at hm
    by_cases h1 : k = 1
    · exact .inl h1
    · by_cases h2 : k = 2
      · exact .inr (.inl h2)
      · by_cases h3 : k = 3
        · exact .inr (.inr h3)
        · simp [h1, h2, h3] at hm
  unfold encUp encL xC yV
  rw [hw]
  rcases hk with rfl | rfl | rfl <;> simp
theorem enc_fn (k s y u v x : Int) (h0 : 0 ≤ s) (h1 : s < 18446744073709551616) (h2 : 0 ≤ y) (h3 : y < 18446744073709551616) (h4 : 0 ≤ u) (h5 : u < 18446744073709551616) (h6 : 0 ≤ v) (h7 : v < 18446744073709551616) (h8 : 0 ≤ x) (h9 : x < 18446744073709551616) :
    Fn Tryd.prog 92 [entV k s y u v x] (.tup (if mayB k s y u v x then [.sl (byts (encL k s y u v x)), .val (.int .i64 0)] else [.sl [], .val (.int .i64 1)])) := by
  refine yM Tryd.func92 rfl Tryd.ntmps92 (Nat.le_of_ble_eq_true rfl) ?_
  repeat' (first | (refine zX.is ?_; first | refine zX.seq ?_ | (refine zX.isR (id := 0) ?_; refine zX.zV [0] [1, 2, 9, 14, 15, 16, 32, 33] (by repeat' first | exact zZ.nil | apply zZ.p rfl) (by repeat' first | exact zW.nil | apply zW.skip) ?_; (refine zY.m rfl rfl (yX rfl rfl rfl (by decide)) ?_); (refine zY.v rfl rfl (zK rfl rfl rfl (by decide)) ?_); (refine zY.v rfl rfl (zK rfl rfl rfl (by decide)) ?_); refine zY.nil ?_) | (refine zX.isR (id := 1) ?_; refine zX.zV [1, 2, 3] [1, 2, 9, 14, 15, 16, 32, 33] (by repeat' first | exact zZ.nil | apply zZ.p rfl | apply zZ.ptr rfl) (by repeat' first | exact zW.nil | apply zW.boxP rfl rfl | apply zW.skip) ?_; (refine zY.v rfl rfl (zD rfl rfl rfl (by rfl) (by rfl) rfl (by decide)) ?_); (refine zY.v rfl rfl (by exact zR (may_fn _ _ _ _ _ _ h2 h3) rfl rfl rfl (by decide)) ?_); (refine zY.v rfl rfl (xU rfl rfl (by rfl) rfl (by decide)) ?_); refine zY.nil ?_) | (refine zX.isR (id := 2) ?_; refine zX.zV [1, 2, 3] [1, 2, 9, 14, 15, 16, 32, 33] (by repeat' first | exact zZ.nil | apply zZ.p rfl | apply zZ.ptr rfl) (by repeat' first | exact zW.nil | apply zW.boxP rfl rfl | apply zW.skip) ?_; (refine zY.v rfl rfl (zK rfl rfl rfl (by decide)) ?_); (refine zY.v rfl rfl (zK rfl rfl rfl (by decide)) ?_); refine zY.nil ?_) | (refine zX.isR (id := 3) ?_; refine zX.zV [1, 2, 3] [1, 2, 9, 14, 15, 16, 32, 33] (by repeat' first | exact zZ.nil | apply zZ.p rfl | apply zZ.ptr rfl) (by repeat' first | exact zW.nil | apply zW.boxP rfl rfl | apply zW.skip) ?_; (refine zY.v rfl rfl (zJ rfl rfl rfl (by decide)) ?_); (refine zY.v rfl rfl (zA rfl rfl rfl rfl rfl (by decide)) ?_); (refine zY.v rfl rfl (y5 rfl rfl (by rfl) rfl (by decide)) ?_); (refine zY.m rfl rfl (w_buildB rfl (by decide) (by decide) (by decide) (by decide) (by rfl) (by rfl) (by rfl) (by rfl) rfl (by decide)) ?_); (refine zY.v rfl rfl (xE rfl rfl rfl (by decide)) ?_); refine zY.nil ?_) | (refine zX.isR (id := 4) ?_; refine zX.zV [1, 2, 3, 4] [1, 2, 9, 14, 15, 16, 32, 33] (by repeat' first | exact zZ.nil | apply zZ.p rfl | apply zZ.ptr rfl | apply zZ.own rfl) (by repeat' first | exact zW.nil | apply zW.boxP rfl rfl | apply zW.yG rfl | apply zW.skip) ?_; (refine zY.m rfl rfl (w_fields rfl rfl rfl rfl rfl (by decide)) ?_); (refine zY.v rfl rfl (w_lenO rfl rfl rfl rfl (by decide)) ?_); (refine zY.v rfl rfl (zQ rfl rfl rfl (by decide)) ?_); refine zY.nil ?_) | refine zX.cond rfl (fun h => ?_) (fun h => ?_) | refine zX.skip ?_ | refine zX.block ?_ | refine zX.ret ?_) | refine yH.r ?_)
  · have hm : mayB k s y u v x = false := by simpa using h
    rw [if_neg (by simp [hm])]
    exact ⟨.inl rfl, _, sub_nil (d := 2) rfl, .tup (rs := [.tmp 2, .tmp 3]) rfl (by decide) (.cons (.tmp rfl) (.cons (.tmp rfl) .nil))⟩
  · have hm : mayB k s y u v x = true := by simpa using h
    have h5l := fieldsA_le k
    refine zX.loop (encO k s y u v x) (fun i => i ≤ (yV 1 k).length) (fun i => (yV 1 k).length - i) 0 ?h0 (Nat.zero_le _) ?rd
    case h0 =>
      refine zN (is := [2, 3, 4, 15, 16, 17]) (js := [1, 14, 15]) ?_ (.boxP rfl rfl (.yG rfl (.some (rowF_kill k 15 (by decide)) .nil)))
      repeat' first | exact zZ.nil | apply zZ.p rfl | apply zZ.ptr rfl | apply zZ.own rfl | apply zZ.clo rfl | apply zZ.pt rfl | apply zZ.tup rfl | apply zZ.skip
    case rd =>
      intro i hi
      have hV := valsOf_range k s y u v x h0 h1 h2 h3 h4 h5 h6 h7 h8 h9 i
      by_cases hc : i < (yV 1 k).length
      · have hb : decide ((i : Int) < ((yV 1 k).length : Int)) = true := by simpa using hc
        have f1 := fieldsA_get k i hc
        have f2 := cells_get k s y u v x i hc
        have f3 : (0 : Int) ≤ (i : Int) ∧ ((i : Int)).toNat < (yV 1 k).length := by omega
        repeat' ((refine zX.is ?_; first | refine zX.seq ?_ | (refine zX.isR (id := 5) ?_; refine zX.zV [2, 3, 4, 6, 7, 15, 16, 17, 18, 21, 22] [1, 2, 9, 14, 15, 16, 32, 33] (by repeat' first | exact zZ.nil | apply zZ.p rfl | apply zZ.own rfl | apply zZ.skip) (by repeat' first | exact zW.nil | apply zW.boxP rfl rfl | apply zW.yG rfl | apply zW.some rfl | apply zW.skip) ?_; (refine zY.v rfl rfl (yI rfl rfl rfl (by rfl) rfl (by decide)) ?_); refine zY.nil ?_) | (refine zX.isR (id := 6) ?_; refine zX.zV [2, 3, 4, 6, 7, 15, 16, 17, 18, 21, 22] [1, 2, 9, 14, 15, 16, 32, 33] (by repeat' first | exact zZ.nil | apply zZ.p rfl | apply zZ.own rfl | apply zZ.skip) (by repeat' first | exact zW.nil | apply zW.boxP rfl rfl | apply zW.yG rfl | apply zW.some rfl | apply zW.skip) ?_; (refine zY.v rfl rfl (by exact w_indexO rfl rfl rfl rfl (by omega) rfl (by decide)) ?_); (refine zY.v rfl rfl (by exact w_loadP rfl rfl rfl (by exact f1) rfl (by decide)) ?_); (refine zY.v rfl rfl (a_assignR rfl rfl rfl (by decide)) ?_); refine zY.nil ?_) | (refine zX.isR (id := 7) ?_; refine zX.zV [2, 3, 4, 6, 7, 15, 16, 17, 18, 21, 22] [1, 2, 9, 14, 15, 16, 32, 33] (by repeat' first | exact zZ.nil | apply zZ.p rfl | apply zZ.ptr rfl | apply zZ.own rfl | apply zZ.skip) (by repeat' first | exact zW.nil | apply zW.boxP rfl rfl | apply zW.yG rfl | apply zW.some rfl | apply zW.skip) ?_; (refine zY.v rfl rfl (zQ rfl rfl rfl (by decide)) ?_); refine zY.nil ?_) | refine zX.yS rfl (by assumption) ?_ | refine zX.skip ?_ | refine zX.block ?_))
        refine zX.loop (encI k s y u v x i) (fun j => j ≤ 8) (fun j => 8 - j) 0 ?h0 (Nat.zero_le _) ?rd
        case h0 =>
          have e : encUp k (xC k s y u v x) i = encUp k (xC k s y u v x) i ++ bytesOf 0 ((xC k s y u v x).getD i 0) := by simp [bytesOf]
          unfold encI
          rw [← e]
          refine zN (is := [2, 3, 4, 6, 15, 16, 17, 21]) (js := [1, 14, 15]) ?_ ?_
          repeat' first | exact zZ.nil | apply zZ.p rfl | apply zZ.ptr rfl | apply zZ.own rfl | apply zZ.clo rfl | apply zZ.pt rfl | apply zZ.tup rfl | apply zZ.skip
          repeat' first | exact zW.nil | apply zW.boxP rfl rfl | apply zW.yG rfl | apply zW.some rfl | apply zW.skip
        case rd =>
          intro j hj
          by_cases hj8 : j < 8
          · have hb8 : decide ((j : Int) < 8) = true := by simp; omega
            have hj8' : (j : Int) < 8 := by omega
            have g1 : (xC k s y u v x).getD i 0 / 2 ^ (8 * (j : Int)).toNat = (xC k s y u v x).getD i 0 / 256 ^ j := by rw [pow8]
            have g2 : IntKind.u8.wrap ((xC k s y u v x).getD i 0 / 256 ^ j) = (xC k s y u v x).getD i 0 / 256 ^ j % 256 := by simp [IntKind.wrap, IntKind.signed, IntKind.bits]
            have g3 : (encUp k (xC k s y u v x) i ++ bytesOf j ((xC k s y u v x).getD i 0)).length + [(xC k s y u v x).getD i 0 / 256 ^ j % 256].length ≤ 140737488355328 := by
              rw [List.length_append, encUp_len, bytesOf_length, List.length_singleton]
              have : min i (xC k s y u v x).length ≤ i := Nat.min_le_left _ _
              omega
            repeat' (first | (refine zX.is ?_; first | refine zX.seq ?_ | (refine zX.isR (id := 8) ?_; refine zX.zV [2, 3, 4, 6, 7, 15, 16, 17, 18, 21, 22] [1, 2, 9, 14, 15, 16, 32, 33] (by repeat' first | exact zZ.nil | apply zZ.p rfl | apply zZ.ptr rfl | apply zZ.own rfl | apply zZ.skip) (by repeat' first | exact zW.nil | apply zW.boxP rfl rfl | apply zW.yG rfl | apply zW.some rfl | apply zW.skip) ?_; (refine zY.v rfl rfl (yI rfl rfl rfl (by rfl) rfl (by decide)) ?_); refine zY.nil ?_) | (refine zX.isR (id := 9) ?_; refine zX.zV [2, 3, 4, 6, 7, 15, 16, 17, 18, 21, 22] [1, 2, 9, 14, 15, 16, 32, 33] (by repeat' first | exact zZ.nil | apply zZ.p rfl | apply zZ.ptr rfl | apply zZ.own rfl | apply zZ.skip) (by repeat' first | exact zW.nil | apply zW.boxP rfl rfl | apply zW.yG rfl | apply zW.some rfl | apply zW.skip) ?_; (refine zY.v rfl rfl (zQ rfl rfl rfl (by decide)) ?_); (refine zY.v rfl rfl (zK rfl rfl rfl (by decide)) ?_); refine zY.nil ?_) | (refine zX.isR (id := 10) ?_; refine zX.zV [2, 3, 4, 6, 7, 15, 16, 17, 18, 21, 22] [1, 2, 9, 14, 15, 16, 32, 33] (by repeat' first | exact zZ.nil | apply zZ.p rfl | apply zZ.ptr rfl | apply zZ.own rfl | apply zZ.skip) (by repeat' first | exact zW.nil | apply zW.boxP rfl rfl | apply zW.yG rfl | apply zW.some rfl | apply zW.skip) ?_; (refine zY.v rfl rfl (a_moveO rfl rfl rfl (by decide)) ?_); (refine zY.v rfl rfl (a_moveR rfl rfl rfl (by decide)) ?_); (refine zY.v rfl rfl (a_nilR rfl rfl rfl (by decide)) ?_); (refine zY.v rfl rfl (by exact zA rfl rfl rfl (by exact f2) rfl (by decide)) ?_); (refine zY.v rfl rfl (zQ rfl rfl rfl (by decide)) ?_); (refine zY.v rfl rfl (by exact a_mul rfl rfl rfl (by exact wrap_i64 _ (by omega)) rfl (by decide)) ?_); (refine zY.v rfl rfl (by exact a_shr rfl rfl rfl (by omega) (by (simp only [IntKind.bits]; omega)) (by exact g1) rfl (by decide)) ?_); (refine zY.v rfl rfl (by exact y5 rfl rfl (by exact g2) rfl (by decide)) ?_); (refine zY.m rfl rfl (w_buildB rfl (by decide) (by decide) (by decide) (by decide) (by rfl) (by rfl) (by rfl) (by rfl) rfl (by decide)) ?_); (refine zY.w rfl (by exact w_appOB rfl rfl rfl rfl rfl (by exact g3) rfl rfl (by decide)) ?_); (refine zY.v rfl rfl (xE rfl rfl rfl (by decide)) ?_); refine zY.nil ?_) | (refine zX.isR (id := 11) ?_; refine zX.zV [2, 3, 4, 6, 7, 15, 16, 17, 18, 21, 22] [1, 2, 9, 14, 15, 16, 32, 33] (by repeat' first | exact zZ.nil | apply zZ.p rfl | apply zZ.ptr rfl | apply zZ.own rfl | apply zZ.skip) (by repeat' first | exact zW.nil | apply zW.boxP rfl rfl | apply zW.yG rfl | apply zW.some rfl | apply zW.skip) ?_; (refine zY.v rfl rfl (by exact yE rfl rfl rfl (by exact wrap_i64 _ (by omega)) rfl (by decide)) ?_); (refine zY.v rfl rfl (zQ rfl rfl rfl (by decide)) ?_); refine zY.nil ?_) | refine zX.yS rfl (by assumption) ?_ | refine zX.skip ?_ | refine zX.block ?_) | refine yH.n ?_)
            refine ⟨j + 1, ?_, by omega, by omega⟩
            have e : encUp k (xC k s y u v x) i ++ bytesOf (j + 1) ((xC k s y u v x).getD i 0) = encUp k (xC k s y u v x) i ++ bytesOf j ((xC k s y u v x).getD i 0) ++ [(xC k s y u v x).getD i 0 / 256 ^ j % 256] := by rw [bytesOf_snoc, List.append_assoc]
            unfold encI
            rw [e]
            refine zN (is := [2, 3, 4, 6, 15, 16, 17, 21]) (js := [1, 14, 15]) ?_ (.boxP rfl rfl (.yG rfl (.some (rowF_kill2 k 32 14 (by decide) (by decide)) .nil)))
            repeat' first | exact zZ.nil | apply zZ.p rfl | apply zZ.ptr rfl | apply zZ.own rfl | apply zZ.clo rfl | apply zZ.pt rfl | apply zZ.tup rfl | apply zZ.skip
          · have hb8 : decide ((j : Int) < 8) = false := by simp; omega
            obtain rfl : j = 8 := by omega
            repeat' (first | (refine zX.is ?_; first | refine zX.seq ?_ | (refine zX.isR (id := 8) ?_; refine zX.zV [2, 3, 4, 6, 7, 15, 16, 17, 18, 21, 22] [1, 2, 9, 14, 15, 16, 32, 33] (by repeat' first | exact zZ.nil | apply zZ.p rfl | apply zZ.ptr rfl | apply zZ.own rfl | apply zZ.skip) (by repeat' first | exact zW.nil | apply zW.boxP rfl rfl | apply zW.yG rfl | apply zW.some rfl | apply zW.skip) ?_; (refine zY.v rfl rfl (by exact yI rfl rfl rfl (by exact bF (by decide)) rfl (by decide)) ?_); refine zY.nil ?_) | (refine zX.isR (id := 12) ?_; refine zX.zV [2, 3, 4, 6, 7, 15, 16, 17, 18, 21, 22] [1, 2, 9, 14, 15, 16, 32, 33] (by repeat' first | exact zZ.nil | apply zZ.p rfl | apply zZ.ptr rfl | apply zZ.own rfl | apply zZ.skip) (by repeat' first | exact zW.nil | apply zW.boxP rfl rfl | apply zW.yG rfl | apply zW.some rfl | apply zW.skip) ?_; (refine zY.v rfl rfl (by exact yE rfl rfl rfl (by exact wrap_i64 _ (by omega)) rfl (by decide)) ?_); (refine zY.v rfl rfl (zQ rfl rfl rfl (by decide)) ?_); refine zY.nil ?_) | refine zX.yN rfl (by assumption) ?_ | refine zX.exit ?_) | refine yH.n ?_)
            refine ⟨i + 1, ?_, by omega, by omega⟩
            unfold encO
            rw [encUp_succ k _ i (fields_len k s y u v x i hc)]
            refine zN (is := [2, 3, 4, 15, 16, 17]) (js := [1, 14, 15]) ?_ ?_
            repeat' first | exact zZ.nil | apply zZ.p rfl | apply zZ.ptr rfl | apply zZ.own rfl | apply zZ.clo rfl | apply zZ.pt rfl | apply zZ.tup rfl | apply zZ.skip
            repeat' first | exact zW.nil | apply zW.boxP rfl rfl | apply zW.yG rfl | apply zW.some rfl | apply zW.skip
      · have hb : decide ((i : Int) < ((yV 1 k).length : Int)) = false := by simpa using hc
        obtain rfl : i = (yV 1 k).length := by omega
        repeat' ((refine zX.is ?_; first | refine zX.seq ?_ | (refine zX.isR (id := 5) ?_; refine zX.zV [2, 3, 4, 6, 7, 15, 16, 17, 18, 21, 22] [1, 2, 9, 14, 15, 16, 32, 33] (by repeat' first | exact zZ.nil | apply zZ.p rfl | apply zZ.own rfl | apply zZ.skip) (by repeat' first | exact zW.nil | apply zW.boxP rfl rfl | apply zW.yG rfl | apply zW.some rfl | apply zW.skip) ?_; (refine zY.v rfl rfl (yI rfl rfl rfl (by rfl) rfl (by decide)) ?_); refine zY.nil ?_) | (refine zX.isR (id := 13) ?_; refine zX.zV [2, 3, 4] [1, 2, 9, 14, 15, 16, 32, 33] (by repeat' first | exact zZ.nil | apply zZ.p rfl | apply zZ.own rfl) (by repeat' first | exact zW.nil | apply zW.boxP rfl rfl | apply zW.yG rfl | apply zW.some rfl | apply zW.skip) ?_; (refine zY.v rfl rfl (a_moveO rfl rfl rfl (by decide)) ?_); (refine zY.v rfl rfl (xE rfl rfl rfl (by decide)) ?_); (refine zY.v rfl rfl (zK rfl rfl rfl (by decide)) ?_); refine zY.nil ?_) | refine zX.yN rfl (by assumption) ?_ | refine zX.exit ?_ | refine zX.ret ?_))
        rw [if_pos hm, ← encUp_all k s y u v x hm]
        exact ⟨.inl rfl, _, sub_freezeB (d := 2) (id := 14) rfl rfl, .tup (rs := [.tmp 2, .tmp 3]) rfl (by decide) (.cons (.tmp rfl) (.cons (.tmp rfl) .nil))⟩
end Go.Proofs.YthnmfmdkdngggaaDoor
/- Frames of bytes, the program's and the document's: contracts of Put. -/
namespace Go.Proofs.YthnmfmdkdngggaaDoor
set_option maxRecDepth 100000
set_option maxHeartbeats 16000000
open Go Go.RowKit
set_option linter.unusedSimpArgs false
attribute [local irreducible] zY zX Step zC Sub zL Fn
theorem byts_vals (bs : List Int) : ∀ c ∈ byts bs, ∃ v, c = .val v := fun c hc => by
  simp only [byts, List.mem_map] at hc
  obtain ⟨b, _, rfl⟩ := hc
  exact ⟨_, rfl⟩
def laidS (cs : List Int) (n : Int) (many i : Nat) : AS :=
  { t := [(0, .own 1000), (1, .p (.val (.int .u64 n))), (6, .p (.val (.slice none 0 0))), (8, .p (.val (.int .i64 many))), (9, .p (.val (.int .i64 i)))], s := [(1000, yG 5 (cs ++ bytesOf i n))] }
theorem laid_fn (cs : List Int) (n : Int) (many : Nat) (hm : many ≤ 8) (hc : cs.length ≤ 1000000) :
    FnR Tryd.prog 98 [.val (.int .u64 n), .val (.int .i64 many)] (yG 5 cs) (yG 5 (cs ++ bytesOf many n)) := by
  refine fn_ofR (t := 6) Tryd.func98 rfl Tryd.ntmps98 (Nat.le_of_ble_eq_true rfl) rfl ?_
  repeat' ((refine zX.is ?_; first | refine zX.seq ?_ | (refine zX.isR (id := 0) ?_; refine zX.zV [0, 1, 2] [6, 18, 1000] (by repeat' first | exact zZ.nil | apply zZ.p rfl | apply zZ.own rfl) (by repeat' first | exact zW.nil | apply zW.yG rfl | apply zW.skip) ?_; (refine zY.v rfl rfl (zK rfl rfl rfl (by decide)) ?_); refine zY.nil ?_) | (refine zX.isR (id := 1) ?_; refine zX.zV [0, 1, 2, 6] [6, 18, 1000] (by repeat' first | exact zZ.nil | apply zZ.p rfl | apply zZ.own rfl) (by repeat' first | exact zW.nil | apply zW.yG rfl | apply zW.skip) ?_; (refine zY.v rfl rfl (zQ rfl rfl rfl (by decide)) ?_); (refine zY.v rfl rfl (zQ rfl rfl rfl (by decide)) ?_); refine zY.nil ?_) | refine zX.block ?_))
  refine zX.loop (laidS cs n many) (fun i => i ≤ many) (fun i => many - i) 0 ?h0 (Nat.zero_le _) ?rd
  case h0 =>
    have e : cs = cs ++ bytesOf 0 n := by simp [bytesOf]
    unfold laidS
    rw [← e]
    refine zN (is := [0, 1, 6, 8, 9]) (js := [1000]) ?_ ?_
    repeat' first | exact zZ.nil | apply zZ.p rfl | apply zZ.ptr rfl | apply zZ.own rfl | apply zZ.clo rfl | apply zZ.pt rfl | apply zZ.tup rfl | apply zZ.skip
    repeat' first | exact zW.nil | apply zW.boxP rfl rfl | apply zW.yG rfl | apply zW.some rfl | apply zW.skip
  case rd =>
    intro i hi
    by_cases hlt : i < many
    · have hd : decide ((i : Int) < (many : Int)) = true := by simp; omega
      have g1 : n / 2 ^ (8 * (i : Int)).toNat = n / 256 ^ i := by rw [pow8]
      have g2 : IntKind.u8.wrap (n / 256 ^ i) = n / 256 ^ i % 256 := by simp [IntKind.wrap, IntKind.signed, IntKind.bits]
      have g3 : (cs ++ bytesOf i n).length + [n / 256 ^ i % 256].length ≤ 140737488355328 := by
        rw [List.length_append, bytesOf_length, List.length_singleton]
        omega
      repeat' (first | (refine zX.is ?_; first | refine zX.seq ?_ | (refine zX.isR (id := 2) ?_; refine zX.zV [0, 1, 6, 7, 8, 9, 10] [6, 18, 1000] (by repeat' first | exact zZ.nil | apply zZ.p rfl | apply zZ.own rfl | apply zZ.skip) (by repeat' first | exact zW.nil | apply zW.yG rfl | apply zW.skip) ?_; (refine zY.v rfl rfl (yI rfl rfl rfl (by rfl) rfl (by decide)) ?_); refine zY.nil ?_) | (refine zX.isR (id := 3) ?_; refine zX.zV [0, 1, 6, 7, 8, 9, 10] [6, 18, 1000] (by repeat' first | exact zZ.nil | apply zZ.p rfl | apply zZ.own rfl | apply zZ.skip) (by repeat' first | exact zW.nil | apply zW.yG rfl | apply zW.skip) ?_; (refine zY.v rfl rfl (zQ rfl rfl rfl (by decide)) ?_); (refine zY.v rfl rfl (zK rfl rfl rfl (by decide)) ?_); refine zY.nil ?_) | (refine zX.isR (id := 4) ?_; refine zX.zV [0, 1, 6, 7, 8, 9, 10] [6, 18, 1000] (by repeat' first | exact zZ.nil | apply zZ.p rfl | apply zZ.own rfl) (by repeat' first | exact zW.nil | apply zW.yG rfl | apply zW.skip) ?_; (refine zY.v rfl rfl (a_moveO rfl rfl rfl (by decide)) ?_); (refine zY.v rfl rfl (zQ rfl rfl rfl (by decide)) ?_); (refine zY.v rfl rfl (zQ rfl rfl rfl (by decide)) ?_); (refine zY.v rfl rfl (by exact a_mul rfl rfl rfl (by exact wrap_i64 _ (by omega)) rfl (by decide)) ?_); (refine zY.v rfl rfl (by exact a_shr rfl rfl rfl (by omega) (by (simp only [IntKind.bits]; omega)) (by exact g1) rfl (by decide)) ?_); (refine zY.v rfl rfl (by exact y5 rfl rfl (by exact g2) rfl (by decide)) ?_); (refine zY.m rfl rfl (w_buildB rfl (by decide) (by decide) (by decide) (by decide) (by rfl) (by rfl) (by rfl) (by rfl) rfl (by decide)) ?_); (refine zY.w rfl (by exact w_appOB rfl rfl rfl rfl rfl (by exact g3) rfl rfl (by decide)) ?_); (refine zY.v rfl rfl (xE rfl rfl rfl (by decide)) ?_); refine zY.nil ?_) | (refine zX.isR (id := 5) ?_; refine zX.zV [0, 1, 6, 7, 8, 9, 10] [6, 18, 1000] (by repeat' first | exact zZ.nil | apply zZ.p rfl | apply zZ.own rfl) (by repeat' first | exact zW.nil | apply zW.yG rfl | apply zW.skip) ?_; (refine zY.v rfl rfl (by exact yE rfl rfl rfl (by exact wrap_i64 _ (by omega)) rfl (by decide)) ?_); (refine zY.v rfl rfl (zQ rfl rfl rfl (by decide)) ?_); refine zY.nil ?_) | refine zX.yS rfl (by assumption) ?_ | refine zX.skip ?_ | refine zX.block ?_) | refine yH.n ?_)
      refine ⟨i + 1, ?_, by omega, by omega⟩
      have e : cs ++ bytesOf (i + 1) n = cs ++ bytesOf i n ++ [n / 256 ^ i % 256] := by rw [bytesOf_snoc, List.append_assoc]
      unfold laidS
      rw [e]
      refine zN (is := [0, 1, 6, 8, 9]) (js := [1000]) ?_ ?_
      repeat' first | exact zZ.nil | apply zZ.p rfl | apply zZ.ptr rfl | apply zZ.own rfl | apply zZ.clo rfl | apply zZ.pt rfl | apply zZ.tup rfl | apply zZ.skip
      repeat' first | exact zW.nil | apply zW.boxP rfl rfl | apply zW.yG rfl | apply zW.some rfl | apply zW.skip
    · have hd : decide ((i : Int) < (many : Int)) = false := by simp; omega
      obtain rfl : i = many := by omega
      repeat' ((refine zX.is ?_; first | refine zX.seq ?_ | (refine zX.isR (id := 2) ?_; refine zX.zV [0, 1, 6, 7, 8, 9, 10] [6, 18, 1000] (by repeat' first | exact zZ.nil | apply zZ.p rfl | apply zZ.own rfl | apply zZ.skip) (by repeat' first | exact zW.nil | apply zW.yG rfl | apply zW.skip) ?_; (refine zY.v rfl rfl (yI rfl rfl rfl (by rfl) rfl (by decide)) ?_); refine zY.nil ?_) | (refine zX.isR (id := 6) ?_; refine zX.zV [0, 6] [6, 18, 1000] (by repeat' first | exact zZ.nil | apply zZ.p rfl | apply zZ.own rfl) (by repeat' first | exact zW.nil | apply zW.yG rfl | apply zW.skip) ?_; (refine zY.v rfl rfl (a_moveO rfl rfl rfl (by decide)) ?_); (refine zY.v rfl rfl (xE rfl rfl rfl (by decide)) ?_); refine zY.nil ?_) | refine zX.yN rfl (by assumption) ?_ | refine zX.exit ?_ | refine zX.ret ?_))
      exact ⟨.inl rfl, _, Sub.refl _, rfl, rfl⟩
/-- a frame's bytes -/
def wV (b : List Int) : List Int := bytesOf 2 b.length ++ bytesOf 4 (vW 0 b : Nat) ++ b
def putOk (b : List Int) : Prop := 1 ≤ b.length ∧ b.length ≤ 65535
theorem moreF_lt (sum : Nat) (b : List Int) : vW sum b < 4294967296 := by unfold vW; omega
theorem put_fn (b : List Int) (hb : ∀ x ∈ b, 0 ≤ x ∧ x < 256) (hl : putOk b) : Fn Tryd.prog 93 [.sl (byts b)] (.tup [.sl (byts (wV b)), .val (.int .i64 0)]) := by
  obtain ⟨hl0, hl1⟩ := hl
  have hm := moreF_lt 0 b
  have c1 := sum_fn b (by omega) hb
  have c2 := laid_fn [] (b.length : Int) 2 (by decide) (by decide)
  have c3 := laid_fn ([] ++ bytesOf 2 (b.length : Int)) ((vW 0 b : Nat) : Int) 4 (by decide) (by rw [List.nil_append, bytesOf_length]; decide)
  have g1 : decide ((b.length : Int) < 1) = false := decide_eq_false (by omega)
  have g2 : decide ((65535 : Int) < (b.length : Int)) = false := decide_eq_false (by omega)
  have g3 : IntKind.u64.wrap (b.length : Int) = (b.length : Int) := wrap_u64 _ (by omega)
  have g4 : IntKind.u64.wrap ((vW 0 b : Nat) : Int) = ((vW 0 b : Nat) : Int) := wrap_u64 _ (by omega)
  have g5 : ([] ++ bytesOf 2 (b.length : Int) ++ bytesOf 4 ((vW 0 b : Nat) : Int)).length + b.length ≤ 140737488355328 := by
    rw [List.nil_append, List.length_append, bytesOf_length, bytesOf_length]
    omega
  refine yM Tryd.func93 rfl Tryd.ntmps93 (Nat.le_of_ble_eq_true rfl) ?_
  repeat' ((refine zX.is ?_; first | refine zX.seq ?_ | (refine zX.isR (id := 0) ?_; refine zX.zV [0] [2, 6, 10, 14, 16, 19, 21, 24] (by repeat' first | exact zZ.nil | apply zZ.p rfl) (by repeat' first | exact zW.nil | apply zW.skip) ?_; (refine zY.v rfl rfl (zK rfl rfl rfl (by decide)) ?_); (refine zY.v rfl rfl (zK rfl rfl rfl (by decide)) ?_); refine zY.nil ?_) | (refine zX.isR (id := 1) ?_; refine zX.zV [0, 2, 3] [2, 6, 10, 14, 16, 19, 21, 24] (by repeat' first | exact zZ.nil | apply zZ.p rfl) (by repeat' first | exact zW.nil | apply zW.skip) ?_; all_goals (refine zY.v rfl rfl (zQ rfl rfl rfl (by decide)) ?_); all_goals (refine zY.v rfl rfl (xL rfl rfl rfl (by decide)) ?_); all_goals (refine zY.v rfl rfl (by exact yI rfl rfl rfl (by exact g1) rfl (by decide)) ?_); all_goals (refine zY.v rfl rfl (zQ rfl rfl rfl (by decide)) ?_); all_goals (refine zY.gY rfl rfl (by decide) rfl (by with_reducible rfl) rfl (by decide) (zQ rfl rfl rfl (by decide)) ?_); all_goals (refine zY.gY rfl rfl (by decide) rfl (by with_reducible rfl) rfl (by decide) (xL rfl rfl rfl (by decide)) ?_); all_goals (refine zY.gY rfl rfl (by decide) rfl (by with_reducible rfl) rfl (by decide) (by exact r_gtr rfl rfl rfl (by exact g2) rfl (by decide)) ?_); all_goals (refine zY.v rfl rfl (by exact yC rfl rfl (by with_reducible rfl) rfl rfl (by decide)) ?_); all_goals (refine zY.nil ?_)) | (refine zX.isR (id := 3) ?_; refine zX.zV [0, 2, 3] [2, 6, 10, 14, 16, 19, 21, 24] (by repeat' first | exact zZ.nil | apply zZ.p rfl) (by repeat' first | exact zW.nil | apply zW.skip) ?_; (refine zY.v rfl rfl (zQ rfl rfl rfl (by decide)) ?_); (refine zY.v rfl rfl (xL rfl rfl rfl (by decide)) ?_); (refine zY.v rfl rfl (by exact y5 rfl rfl (by exact g3) rfl (by decide)) ?_); (refine zY.w rfl (by exact s_callRnil (c2) (byts_vals _) rfl ⟨_, rfl, rfl⟩ rfl rfl (by decide)) ?_); (refine zY.v rfl rfl (xE rfl rfl rfl (by decide)) ?_); refine zY.nil ?_) | (refine zX.isR (id := 4) ?_; refine zX.zV [0, 2, 3, 4] [2, 6, 10, 14, 16, 19, 21, 24] (by repeat' first | exact zZ.nil | apply zZ.p rfl | apply zZ.own rfl) (by repeat' first | exact zW.nil | apply zW.yG rfl | apply zW.skip) ?_; (refine zY.v rfl rfl (a_moveO rfl rfl rfl (by decide)) ?_); (refine zY.v rfl rfl (zQ rfl rfl rfl (by decide)) ?_); (refine zY.v rfl rfl (by exact zR (c1) rfl rfl rfl (by decide)) ?_); (refine zY.v rfl rfl (by exact y5 rfl rfl (by exact g4) rfl (by decide)) ?_); (refine zY.w rfl (by exact s_callR (c3) (byts_vals _) rfl ⟨_, rfl, rfl⟩ rfl rfl rfl (by decide)) ?_); (refine zY.v rfl rfl (xE rfl rfl rfl (by decide)) ?_); refine zY.nil ?_) | (refine zX.isR (id := 5) ?_; refine zX.zV [0, 2, 3, 4] [2, 6, 10, 14, 16, 19, 21, 24] (by repeat' first | exact zZ.nil | apply zZ.p rfl | apply zZ.own rfl) (by repeat' first | exact zW.nil | apply zW.yG rfl | apply zW.skip) ?_; (refine zY.v rfl rfl (a_moveO rfl rfl rfl (by decide)) ?_); (refine zY.v rfl rfl (zQ rfl rfl rfl (by decide)) ?_); (refine zY.w rfl (by exact w_appB rfl rfl rfl rfl (by exact g5) rfl rfl (by decide)) ?_); (refine zY.v rfl rfl (xE rfl rfl rfl (by decide)) ?_); (refine zY.v rfl rfl (zK rfl rfl rfl (by decide)) ?_); refine zY.nil ?_) | refine zX.yN rfl (by first | assumption | with_reducible rfl) ?_ | refine zX.skip ?_ | refine zX.ret ?_))
  all_goals exact ⟨.inl rfl, _, sub_freezeB (d := 2) (id := 16) rfl rfl, .tup (rs := [.tmp 2, .tmp 3]) rfl (by decide) (.cons (.tmp rfl) (.cons (.tmp rfl) .nil))⟩
theorem put_nil : Fn Tryd.prog 93 [.sl (byts [])] (.tup [.sl (byts []), .val (.int .i64 1)]) := by
  refine yM Tryd.func93 rfl Tryd.ntmps93 (Nat.le_of_ble_eq_true rfl) ?_
  repeat' (first | (refine zX.is ?_; first | refine zX.seq ?_ | (refine zX.isR (id := 0) ?_; refine zX.zV [0] [2, 6, 10, 14, 16, 19, 21, 24] (by repeat' first | exact zZ.nil | apply zZ.p rfl) (by repeat' first | exact zW.nil | apply zW.skip) ?_; (refine zY.v rfl rfl (zK rfl rfl rfl (by decide)) ?_); (refine zY.v rfl rfl (zK rfl rfl rfl (by decide)) ?_); refine zY.nil ?_) | (refine zX.isR (id := 1) ?_; refine zX.zV [0, 2, 3] [2, 6, 10, 14, 16, 19, 21, 24] (by repeat' first | exact zZ.nil | apply zZ.p rfl) (by repeat' first | exact zW.nil | apply zW.skip) ?_; all_goals (refine zY.v rfl rfl (zQ rfl rfl rfl (by decide)) ?_); all_goals (refine zY.v rfl rfl (xL rfl rfl rfl (by decide)) ?_); all_goals (refine zY.v rfl rfl (by exact yI rfl rfl rfl (by exact bT (by decide)) rfl (by decide)) ?_); all_goals (refine zY.v rfl rfl (zQ rfl rfl rfl (by decide)) ?_); all_goals (refine zY.gnF rfl rfl (by decide) rfl (by with_reducible rfl) rfl (by decide) ?_); all_goals (refine zY.gnF rfl rfl (by decide) rfl (by with_reducible rfl) rfl (by decide) ?_); all_goals (refine zY.gnF rfl rfl (by decide) rfl (by with_reducible rfl) rfl (by decide) ?_); all_goals (refine zY.v rfl rfl (by exact yZ rfl rfl (by with_reducible rfl) rfl rfl (by decide)) ?_); all_goals (refine zY.nil ?_)) | (refine zX.isR (id := 2) ?_; refine zX.zV [0, 2, 3] [2, 6, 10, 14, 16, 19, 21, 24] (by repeat' first | exact zZ.nil | apply zZ.p rfl) (by repeat' first | exact zW.nil | apply zW.skip) ?_; (refine zY.v rfl rfl (zK rfl rfl rfl (by decide)) ?_); (refine zY.v rfl rfl (zK rfl rfl rfl (by decide)) ?_); refine zY.nil ?_) | refine zX.yS rfl (by with_reducible rfl) ?_ | refine zX.ret ?_) | refine yH.r ?_)
  all_goals exact ⟨.inl rfl, _, sub_nil (d := 2) rfl, .tup (rs := [.tmp 2, .tmp 3]) rfl (by decide) (.cons (.tmp rfl) (.cons (.tmp rfl) .nil))⟩
theorem putF_ref (b : List Int) (hl : putOk b) : wV b = [((b.length : Int) % 256), ((b.length : Int) / 256), ((vW 0 b : Nat) : Int) % 256, ((vW 0 b : Nat) : Int) / 256 % 256, ((vW 0 b : Nat) : Int) / 65536 % 256, ((vW 0 b : Nat) : Int) / 16777216] ++ b := by
  obtain ⟨hl0, hl1⟩ := hl
  have hm := moreF_lt 0 b
  unfold wV
  generalize vW 0 b = m at *
  simp only [bytesOf, List.cons_append, List.nil_append, List.cons.injEq, true_and, and_true]
  refine ⟨by omega, by omega, by omega⟩
theorem putRef_fn (b : List Int) (hb : ∀ x ∈ b, 0 ≤ x ∧ x < 256) (hl : putOk b) : Fn Tryd.prog 35 [.sl (byts b)] (.tup [.sl (byts (wV b)), .val (.int .i64 0)]) := by
  rw [putF_ref b hl]
  obtain ⟨hl0, hl1⟩ := hl
  have hm := moreF_lt 0 b
  have c1 := sumRef_fn b (by omega) hb
  generalize vW 0 b = m at *
  have td : ∀ (x : Int) (k : Int), 0 ≤ x → x.tdiv k = x / k := fun x k h => Int.tdiv_eq_ediv_of_nonneg h
  have tm : ∀ (x : Int) (k : Int), 0 ≤ x → x.tmod k = x % k := fun x k h => Int.tmod_eq_emod_of_nonneg h
  have wb : ∀ x : Int, 0 ≤ x → x < 256 → IntKind.u8.wrap x = x := fun x h h' => wrap_u8 _ (by omega)
  have g1 : decide ((b.length : Int) < 1) = false := decide_eq_false (by omega)
  have g2 : decide ((65535 : Int) < (b.length : Int)) = false := decide_eq_false (by omega)
  have n1 : (b.length : Int).tmod 256 = (b.length : Int) % 256 := tm _ _ (by omega)
  have n2 : IntKind.u8.wrap ((b.length : Int) % 256) = (b.length : Int) % 256 := wb _ (by omega) (by omega)
  have n3 : IntKind.i64.wrap ((b.length : Int).tdiv 256) = (b.length : Int) / 256 := by rw [td _ _ (by omega)]; exact wrap_i64 _ (by omega)
  have n4 : IntKind.u8.wrap ((b.length : Int) / 256) = (b.length : Int) / 256 := wb _ (by omega) (by omega)
  have m1 : ((m : Nat) : Int).tmod 256 = (m : Int) % 256 := tm _ _ (by omega)
  have m2 : IntKind.u8.wrap ((m : Int) % 256) = (m : Int) % 256 := wb _ (by omega) (by omega)
  have m3 : IntKind.u32.wrap (((m : Nat) : Int).tdiv 256) = (m : Int) / 256 := by rw [td _ _ (by omega)]; exact wrapU32 _ (by omega) (by omega)
  have m4 : ((m : Int) / 256).tmod 256 = (m : Int) / 256 % 256 := tm _ _ (by omega)
  have m5 : IntKind.u8.wrap ((m : Int) / 256 % 256) = (m : Int) / 256 % 256 := wb _ (by omega) (by omega)
  have m6 : IntKind.u32.wrap (((m : Nat) : Int).tdiv 65536) = (m : Int) / 65536 := by rw [td _ _ (by omega)]; exact wrapU32 _ (by omega) (by omega)
  have m7 : ((m : Int) / 65536).tmod 256 = (m : Int) / 65536 % 256 := tm _ _ (by omega)
  have m8 : IntKind.u8.wrap ((m : Int) / 65536 % 256) = (m : Int) / 65536 % 256 := wb _ (by omega) (by omega)
  have m9 : IntKind.u32.wrap (((m : Nat) : Int).tdiv 16777216) = (m : Int) / 16777216 := by rw [td _ _ (by omega)]; exact wrapU32 _ (by omega) (by omega)
  have m10 : IntKind.u8.wrap ((m : Int) / 16777216) = (m : Int) / 16777216 := wb _ (by omega) (by omega)
  have g5 : [((b.length : Int) % 256), ((b.length : Int) / 256), (m : Int) % 256, (m : Int) / 256 % 256, (m : Int) / 65536 % 256, (m : Int) / 16777216].length + b.length ≤ 140737488355328 := by
    simp only [List.length_cons, List.length_nil]
    omega
  clear td tm wb
  refine yM Tryd.func35 rfl Tryd.ntmps35 (Nat.le_of_ble_eq_true rfl) ?_
  repeat' ((refine zX.is ?_; first | refine zX.seq ?_ | (refine zX.isR (id := 0) ?_; refine zX.zV [0] [2, 37] (by repeat' first | exact zZ.nil | apply zZ.p rfl) (by repeat' first | exact zW.nil | apply zW.skip) ?_; (refine zY.v rfl rfl (zK rfl rfl rfl (by decide)) ?_); (refine zY.v rfl rfl (zK rfl rfl rfl (by decide)) ?_); refine zY.nil ?_) | (refine zX.isR (id := 1) ?_; refine zX.zV [0, 2, 3] [2, 37] (by repeat' first | exact zZ.nil | apply zZ.p rfl) (by repeat' first | exact zW.nil | apply zW.skip) ?_; (refine zY.v rfl rfl (zQ rfl rfl rfl (by decide)) ?_); (refine zY.v rfl rfl (xL rfl rfl rfl (by decide)) ?_); (refine zY.v rfl rfl (zK rfl rfl rfl (by decide)) ?_); refine zY.nil ?_) | (refine zX.isR (id := 2) ?_; refine zX.zV [0, 2, 3, 4] [2, 37] (by repeat' first | exact zZ.nil | apply zZ.p rfl) (by repeat' first | exact zW.nil | apply zW.skip) ?_; all_goals (refine zY.v rfl rfl (zQ rfl rfl rfl (by decide)) ?_); all_goals (refine zY.v rfl rfl (by exact yI rfl rfl rfl (by exact g1) rfl (by decide)) ?_); all_goals (refine zY.v rfl rfl (zQ rfl rfl rfl (by decide)) ?_); all_goals (refine zY.gY rfl rfl (by decide) rfl (by with_reducible rfl) rfl (by decide) (zQ rfl rfl rfl (by decide)) ?_); all_goals (refine zY.gY rfl rfl (by decide) rfl (by with_reducible rfl) rfl (by decide) (by exact r_gtr rfl rfl rfl (by exact g2) rfl (by decide)) ?_); all_goals (refine zY.v rfl rfl (by exact yC rfl rfl (by with_reducible rfl) rfl rfl (by decide)) ?_); all_goals (refine zY.nil ?_)) | (refine zX.isR (id := 4) ?_; refine zX.zV [0, 2, 3, 4] [2, 37] (by repeat' first | exact zZ.nil | apply zZ.p rfl) (by repeat' first | exact zW.nil | apply zW.skip) ?_; (refine zY.v rfl rfl (zQ rfl rfl rfl (by decide)) ?_); (refine zY.v rfl rfl (by exact zR (c1) rfl rfl rfl (by decide)) ?_); (refine zY.v rfl rfl (zK rfl rfl rfl (by decide)) ?_); refine zY.nil ?_) | (refine zX.isR (id := 5) ?_; refine zX.zV [0, 2, 3, 4, 5] [2, 37] (by repeat' first | exact zZ.nil | apply zZ.p rfl) (by repeat' first | exact zW.nil | apply zW.skip) ?_; (refine zY.v rfl rfl (zQ rfl rfl rfl (by decide)) ?_); (refine zY.v rfl rfl (by exact vX rfl rfl rfl (by decide) (by exact n1) rfl (by decide)) ?_); (refine zY.v rfl rfl (by exact y5 rfl rfl (by exact n2) rfl (by decide)) ?_); (refine zY.v rfl rfl (zQ rfl rfl rfl (by decide)) ?_); (refine zY.v rfl rfl (by exact vC rfl rfl rfl (by decide) (by exact n3) rfl (by decide)) ?_); (refine zY.v rfl rfl (by exact y5 rfl rfl (by exact n4) rfl (by decide)) ?_); (refine zY.v rfl rfl (zQ rfl rfl rfl (by decide)) ?_); (refine zY.v rfl rfl (by exact vX rfl rfl rfl (by decide) (by exact m1) rfl (by decide)) ?_); (refine zY.v rfl rfl (by exact y5 rfl rfl (by exact m2) rfl (by decide)) ?_); (refine zY.v rfl rfl (zQ rfl rfl rfl (by decide)) ?_); (refine zY.v rfl rfl (by exact vC rfl rfl rfl (by decide) (by exact m3) rfl (by decide)) ?_); (refine zY.v rfl rfl (by exact vX rfl rfl rfl (by decide) (by exact m4) rfl (by decide)) ?_); (refine zY.v rfl rfl (by exact y5 rfl rfl (by exact m5) rfl (by decide)) ?_); (refine zY.v rfl rfl (zQ rfl rfl rfl (by decide)) ?_); (refine zY.v rfl rfl (by exact vC rfl rfl rfl (by decide) (by exact m6) rfl (by decide)) ?_); (refine zY.v rfl rfl (by exact vX rfl rfl rfl (by decide) (by exact m7) rfl (by decide)) ?_); (refine zY.v rfl rfl (by exact y5 rfl rfl (by exact m8) rfl (by decide)) ?_); (refine zY.v rfl rfl (zQ rfl rfl rfl (by decide)) ?_); (refine zY.v rfl rfl (by exact vC rfl rfl rfl (by decide) (by exact m9) rfl (by decide)) ?_); (refine zY.v rfl rfl (by exact y5 rfl rfl (by exact m10) rfl (by decide)) ?_); (refine zY.m rfl rfl (w_buildB rfl (by decide) (by decide) (by decide) (by decide) (by rfl) (by rfl) (by rfl) (by rfl) rfl (by decide)) ?_); (refine zY.v rfl rfl (xE rfl rfl rfl (by decide)) ?_); refine zY.nil ?_) | (refine zX.isR (id := 6) ?_; refine zX.zV [0, 2, 3, 6] [2, 37] (by repeat' first | exact zZ.nil | apply zZ.p rfl | apply zZ.own rfl) (by repeat' first | exact zW.nil | apply zW.yG rfl | apply zW.skip) ?_; (refine zY.v rfl rfl (a_moveO rfl rfl rfl (by decide)) ?_); (refine zY.v rfl rfl (zQ rfl rfl rfl (by decide)) ?_); (refine zY.w rfl (by exact w_appB rfl rfl rfl rfl (by exact g5) rfl rfl (by decide)) ?_); (refine zY.v rfl rfl (xE rfl rfl rfl (by decide)) ?_); (refine zY.v rfl rfl (zK rfl rfl rfl (by decide)) ?_); refine zY.nil ?_) | refine zX.yN rfl (by first | assumption | with_reducible rfl) ?_ | refine zX.skip ?_ | refine zX.ret ?_))
  all_goals exact ⟨.inl rfl, _, sub_freezeB (d := 2) (id := 37) rfl rfl, .tup (rs := [.tmp 2, .tmp 3]) rfl (by decide) (.cons (.tmp rfl) (.cons (.tmp rfl) .nil))⟩
/-- an entry's bytes, as a frame; none, if it may not be -/
def bytesE (k s y u v x : Int) : List Int := if mayB k s y u v x then wV (encL k s y u v x) else []
theorem encL_le2 (k s y u v x : Int) : putOk (encL k s y u v x) := by
  have : (encL k s y u v x).length = if k = 1 then 41 else 9 := by
    unfold encL
    by_cases hk : k = 1
    · rw [if_pos hk, if_pos hk]; simp [bytesOf_length]
    · rw [if_neg hk, if_neg hk]; simp [bytesOf_length]
  unfold putOk
  rw [this]
  split <;> decide
theorem bytesOf_range' : ∀ (k : Nat) (n : Int), ∀ x ∈ bytesOf k n, 0 ≤ x ∧ x < 256
  | 0, n, x, hx => by simp [bytesOf] at hx
  | k + 1, n, x, hx => by
    rw [bytesOf, List.mem_cons] at hx
    rcases hx with rfl | hx
    · omega
    · exact bytesOf_range' k (n / 256) x hx
theorem encL_range' (k s y u v x : Int) : ∀ c ∈ encL k s y u v x, 0 ≤ c ∧ c < 256 := by
  intro c hc
  unfold encL at hc
  simp only [List.cons_append, List.mem_cons, List.mem_append] at hc
  have r := bytesOf_range' 8
  rcases hc with rfl | hc | hc
  · omega
  · exact r s c hc
  · by_cases hk : k = 1
    · rw [if_pos hk] at hc
      simp only [List.mem_append] at hc
      rcases hc with ((hc | hc) | hc) | hc
      · exact r _ c hc
      · exact r _ c hc
      · exact r _ c hc
      · exact r _ c hc
    · rw [if_neg hk] at hc; simp at hc
def U (x : Int) : Prop := 0 ≤ x ∧ x < 18446744073709551616
theorem bytes_fn (k s y u v x : Int) (h0 : U s) (h2 : U y) (h4 : U u) (h6 : U v) (h8 : U x) : Fn Tryd.prog 76 [entV k s y u v x] (.p (.sl (byts (bytesE k s y u v x)))) := by
  have c1 := enc_fn k s y u v x h0.1 h0.2 h2.1 h2.2 h4.1 h4.2 h6.1 h6.2 h8.1 h8.2
  refine vO Tryd.func76 rfl Tryd.ntmps76 (Nat.le_of_ble_eq_true rfl) ?_
  unfold bytesE
  by_cases hm : mayB k s y u v x = true
  · rw [if_pos hm] at c1 ⊢
    have c2 := put_fn (encL k s y u v x) (encL_range' k s y u v x) (encL_le2 k s y u v x)
    repeat' ((refine zX.is ?_; first | refine zX.seq ?_ | (refine zX.isR (id := 0) ?_; refine zX.zV [0] [1, 2] (by repeat' first | exact zZ.nil | apply zZ.p rfl) (by repeat' first | exact zW.nil | apply zW.skip) ?_; (refine zY.m rfl rfl (yX rfl rfl rfl (by decide)) ?_); (refine zY.v rfl rfl (zK rfl rfl rfl (by decide)) ?_); refine zY.nil ?_) | (refine zX.isR (id := 1) ?_; refine zX.zV [1, 2] [1, 2] (by repeat' first | exact zZ.nil | apply zZ.p rfl | apply zZ.ptr rfl) (by repeat' first | exact zW.nil | apply zW.boxP rfl rfl | apply zW.skip) ?_; (refine zY.v rfl rfl (zD rfl rfl rfl (by rfl) (by rfl) rfl (by decide)) ?_); (refine zY.v rfl rfl (by exact yU (c1) rfl rfl rfl (by decide)) ?_); (refine zY.v rfl rfl (yD rfl rfl rfl (by decide)) ?_); (refine zY.v rfl rfl (zF rfl rfl rfl rfl (by decide)) ?_); (refine zY.v rfl rfl (zF rfl rfl rfl rfl (by decide)) ?_); (refine zY.v rfl rfl (zK rfl rfl rfl (by decide)) ?_); (refine zY.v rfl rfl (zK rfl rfl rfl (by decide)) ?_); refine zY.nil ?_) | (refine zX.isR (id := 2) ?_; refine zX.zV [2, 3] [1, 2] (by repeat' first | exact zZ.nil | apply zZ.p rfl) (by repeat' first | exact zW.nil | apply zW.boxP rfl rfl | apply zW.skip) ?_; (refine zY.v rfl rfl (zQ rfl rfl rfl (by decide)) ?_); (refine zY.v rfl rfl (by exact yU (c2) rfl rfl rfl (by decide)) ?_); (refine zY.v rfl rfl (yD rfl rfl rfl (by decide)) ?_); (refine zY.v rfl rfl (zF rfl rfl rfl rfl (by decide)) ?_); (refine zY.v rfl rfl (zF rfl rfl rfl rfl (by decide)) ?_); (refine zY.v rfl rfl (zK rfl rfl rfl (by decide)) ?_); (refine zY.v rfl rfl (zK rfl rfl rfl (by decide)) ?_); refine zY.nil ?_) | (refine zX.isR (id := 3) ?_; refine zX.zV [2, 5] [1, 2] (by repeat' first | exact zZ.nil | apply zZ.p rfl) (by repeat' first | exact zW.nil | apply zW.boxP rfl rfl | apply zW.skip) ?_; (refine zY.v rfl rfl (zQ rfl rfl rfl (by decide)) ?_); (refine zY.v rfl rfl (zK rfl rfl rfl (by decide)) ?_); refine zY.nil ?_) | refine zX.ret ?_))
    all_goals exact ⟨.inl rfl, gives1 rfl rfl rfl⟩
  · rw [if_neg hm] at c1 ⊢
    have c1' : Fn Tryd.prog 92 [entV k s y u v x] (.tup [.sl (byts []), .val (.int .i64 1)]) := c1
    have c2 := put_nil
    repeat' ((refine zX.is ?_; first | refine zX.seq ?_ | (refine zX.isR (id := 0) ?_; refine zX.zV [0] [1, 2] (by repeat' first | exact zZ.nil | apply zZ.p rfl) (by repeat' first | exact zW.nil | apply zW.skip) ?_; (refine zY.m rfl rfl (yX rfl rfl rfl (by decide)) ?_); (refine zY.v rfl rfl (zK rfl rfl rfl (by decide)) ?_); refine zY.nil ?_) | (refine zX.isR (id := 1) ?_; refine zX.zV [1, 2] [1, 2] (by repeat' first | exact zZ.nil | apply zZ.p rfl | apply zZ.ptr rfl) (by repeat' first | exact zW.nil | apply zW.boxP rfl rfl | apply zW.skip) ?_; (refine zY.v rfl rfl (zD rfl rfl rfl (by rfl) (by rfl) rfl (by decide)) ?_); (refine zY.v rfl rfl (by exact yU (c1') rfl rfl rfl (by decide)) ?_); (refine zY.v rfl rfl (yD rfl rfl rfl (by decide)) ?_); (refine zY.v rfl rfl (zF rfl rfl rfl rfl (by decide)) ?_); (refine zY.v rfl rfl (zF rfl rfl rfl rfl (by decide)) ?_); (refine zY.v rfl rfl (zK rfl rfl rfl (by decide)) ?_); (refine zY.v rfl rfl (zK rfl rfl rfl (by decide)) ?_); refine zY.nil ?_) | (refine zX.isR (id := 2) ?_; refine zX.zV [2, 3] [1, 2] (by repeat' first | exact zZ.nil | apply zZ.p rfl) (by repeat' first | exact zW.nil | apply zW.boxP rfl rfl | apply zW.skip) ?_; (refine zY.v rfl rfl (zQ rfl rfl rfl (by decide)) ?_); (refine zY.v rfl rfl (by exact yU (c2) rfl rfl rfl (by decide)) ?_); (refine zY.v rfl rfl (yD rfl rfl rfl (by decide)) ?_); (refine zY.v rfl rfl (zF rfl rfl rfl rfl (by decide)) ?_); (refine zY.v rfl rfl (zF rfl rfl rfl rfl (by decide)) ?_); (refine zY.v rfl rfl (zK rfl rfl rfl (by decide)) ?_); (refine zY.v rfl rfl (zK rfl rfl rfl (by decide)) ?_); refine zY.nil ?_) | (refine zX.isR (id := 3) ?_; refine zX.zV [2, 5] [1, 2] (by repeat' first | exact zZ.nil | apply zZ.p rfl) (by repeat' first | exact zW.nil | apply zW.boxP rfl rfl | apply zW.skip) ?_; (refine zY.v rfl rfl (zQ rfl rfl rfl (by decide)) ?_); (refine zY.v rfl rfl (zK rfl rfl rfl (by decide)) ?_); refine zY.nil ?_) | refine zX.ret ?_))
    all_goals exact ⟨.inl rfl, gives1 rfl rfl rfl⟩
end Go.Proofs.YthnmfmdkdngggaaDoor
/- Programs as trees: an answer, or an access and how it goes on with what that tells; how they are run. Generic over the program. -/
namespace Go.Proofs.YthnmfmdkdngggaaDoor
set_option maxRecDepth 100000
set_option maxHeartbeats 16000000
open Go Go.RowKit
set_option linter.unusedSimpArgs false
inductive Pr (α : Type) where
  | ret (x : α) : Pr α
  | stuck : Pr α
  | ask (q : Ned) (k : xM → Pr α) : Pr α
def Pr.bind {α β : Type} : Pr α → (α → Pr β) → Pr β
  | .ret x, f => f x
  | .stuck, _ => .stuck
  | .ask q k, f => .ask q fun r => (k r).bind f
/-- rounds, no more than so many -/
def Pr.loop {ι α : Type} (body : ι → Pr (ι ⊕ α)) : Nat → ι → Pr α
  | 0, _ => .stuck
  | n + 1, s => (body s).bind fun x => match x with
    | .inl s' => Pr.loop body n s'
    | .inr x => .ret x
theorem Pr.loop_succ {ι α : Type} (body : ι → Pr (ι ⊕ α)) (n : Nat) (s : ι) : Pr.loop body (n + 1) s = (body s).bind fun x => match x with
    | .inl s' => Pr.loop body n s'
    | .inr x => .ret x := rfl
/-- more rounds than a log has places -/
def many : Nat := 1000001
def askP (q : Ned) : Pr Int := .ask q fun r => .ret r.n
def loadP (c : Int) : Pr Int := askP (vS 0 c 0 0 y8)
def storeP (c v : Int) : Pr Unit := .ask (vS 1 c v 0 y8) fun _ => .ret ()
def casP (c a b : Int) : Pr Bool := .ask (vS 2 c a b y8) fun r => .ret (decide (r.n = 1))
def addP (c v : Int) : Pr Int := askP (vS 3 c v 0 y8)
def swapP (c v : Int) : Pr Int := askP (vS 4 c v 0 y8)
/-! ### What may be asked, and answered -/
theorem U.lo {x : Int} (h : U x) : 0 ≤ x := h.1
theorem U.hi {x : Int} (h : U x) : x < 18446744073709551616 := h.2
theorem U.zero : U 0 := by unfold U; decide
/-- an access of a word, or of a thread's stream -/
structure vV (q : Ned) : Prop where
  w : q.w = y8
  a : U q.a
  b : U q.b
  d : ((0 ≤ q.kind ∧ q.kind ≤ 4 ∨ q.kind = 6) ∧ q.d = y8) ∨ (q.kind = 5 ∧ ∃ bs : List Int, (∀ x ∈ bs, 0 ≤ x ∧ x < 256) ∧ bs.length ≤ 1000 ∧ q.d = .sl (byts bs))
theorem asked_word {k c a b : Int} (hk : 0 ≤ k ∧ k ≤ 4) (ha : U a) (hb : U b) : vV (vS k c a b y8) := ⟨rfl, ha, hb, .inl ⟨.inl hk, rfl⟩⟩
/-- what is asked may be; what is answered is good; it does not get stuck within m accesses -/
def Pr.xA {α : Type} (good : α → Prop) : Nat → Pr α → Prop
  | _, .ret x => good x
  | m, .stuck => m = 0
  | m, .ask q k => vV q ∧ ∀ r : xM, U r.n → (k r).xA good (m - 1)
def Pr.wX {α : Type} (good : α → Prop) (p : Pr α) : Prop := p.xA good many
def yes {α : Type} (_ : α) : Prop := True
theorem Pr.xA.le {α : Type} {good : α → Prop} : ∀ {p : Pr α} {m n : Nat}, n ≤ m → p.xA good m → p.xA good n
  | .ret _, _, _, _, h => h
  | .stuck, m, n, hm, h => by have : m = 0 := h; show n = 0; omega
  | .ask _ _, _, _, hm, h => ⟨h.1, fun r hr => Pr.xA.le (by omega) (h.2 r hr)⟩
theorem Pr.xA.bind {α β : Type} {g1 : α → Prop} {g2 : β → Prop} {f : α → Pr β} : ∀ {p : Pr α} {m : Nat}, p.xA g1 m → (∀ x, g1 x → (f x).xA g2 m) → (p.bind f).xA g2 m
  | .ret _, _, h, hf => hf _ h
  | .stuck, _, h, _ => h
  | .ask _ _, m, h, hf => ⟨h.1, fun r hr => Pr.xA.bind (h.2 r hr) fun x hx => Pr.xA.le (by omega) (hf x hx)⟩
theorem Pr.xA.mono {α : Type} {g1 g2 : α → Prop} (hg : ∀ x, g1 x → g2 x) : ∀ {p : Pr α} {m : Nat}, p.xA g1 m → p.xA g2 m
  | .ret _, _, h => hg _ h
  | .stuck, _, h => h
  | .ask _ _, _, h => ⟨h.1, fun r hr => Pr.xA.mono hg (h.2 r hr)⟩
theorem Pr.wX.ret {α : Type} {good : α → Prop} {x : α} (h : good x) : (Pr.ret x).wX good := h
theorem Pr.wX.bind {α β : Type} {g1 : α → Prop} {g2 : β → Prop} {f : α → Pr β} {p : Pr α} (h : p.wX g1) (hf : ∀ x, g1 x → (f x).wX g2) : (p.bind f).wX g2 := Pr.xA.bind h hf
theorem Pr.wX.mono {α : Type} {g1 g2 : α → Prop} {p : Pr α} (h : p.wX g1) (hg : ∀ x, g1 x → g2 x) : p.wX g2 := Pr.xA.mono hg h
theorem Pr.wX.cond {α : Type} {good : α → Prop} {c : Bool} {p1 p2 : Pr α} (h1 : p1.wX good) (h2 : p2.wX good) : (bif c then p1 else p2).wX good := by cases c <;> assumption
theorem Pr.wX.condB {α : Type} {good : α → Prop} {c : Bool} {p1 p2 : Pr α} (h1 : c = true → p1.wX good) (h2 : c = false → p2.wX good) : (bif c then p1 else p2).wX good := by
  cases c
  · exact h2 rfl
  · exact h1 rfl
/-- what holds behind a round -/
def Next {ι α : Type} (inv : ι → Prop) (good : α → Prop) : ι ⊕ α → Prop
  | .inl s => inv s
  | .inr x => good x
theorem Pr.xA.loop {ι α : Type} {good : α → Prop} {inv : ι → Prop} {body : ι → Pr (ι ⊕ α)} (ha : ∀ s, ∃ q k, body s = .ask q k) : ∀ (n : Nat), (∀ s, inv s → (body s).xA (Next inv good) n) → ∀ (s : ι), inv s → (Pr.loop body n s).xA good n
  | 0, _, _, _ => rfl
  | n + 1, h, s, hs => by
    have h1 := h s hs
    obtain ⟨q, k, e⟩ := ha s
    rw [e] at h1
    rw [Pr.loop_succ, e]
    refine ⟨h1.1, fun r hr => Pr.xA.bind (h1.2 r hr) fun x hx => ?_⟩
    cases x with
    | inl s' => exact Pr.xA.loop ha n (fun s hs => Pr.xA.le (by omega) (h s hs)) s' hx
    | inr x => exact hx
theorem Pr.wX.loop {ι α : Type} {good : α → Prop} {body : ι → Pr (ι ⊕ α)} (inv : ι → Prop) (ha : ∀ s, ∃ q k, body s = .ask q k) (h : ∀ s, inv s → (body s).wX (Next inv good)) (s : ι) (hs : inv s) : (Pr.loop body many s).wX good := Pr.xA.loop ha many h s hs
theorem fine_ask {α : Type} {good : α → Prop} {q : Ned} {k : xM → Pr α} (hq : vV q) (h : ∀ r : xM, U r.n → (k r).wX good) : (Pr.ask q k).wX good := ⟨hq, fun r hr => Pr.xA.le (by unfold many; omega) (h r hr)⟩
theorem wW (c : Int) : (loadP c).wX U := ⟨asked_word (by decide) U.zero U.zero, fun _ h => h⟩
theorem fine_store (c : Int) {v : Int} (h : U v) : (storeP c v).wX yes := ⟨asked_word (by decide) h U.zero, fun _ _ => trivial⟩
theorem fine_cas (c : Int) {a b : Int} (ha : U a) (hb : U b) : (casP c a b).wX yes := ⟨asked_word (by decide) ha hb, fun _ _ => trivial⟩
theorem fine_add (c : Int) {v : Int} (h : U v) : (addP c v).wX U := ⟨asked_word (by decide) h U.zero, fun _ h => h⟩
/-! ### How they are run -/
inductive Ans (σ : Type) where
  | ret (r : xM) (s : σ)
  | need (q : Ned) (s : σ)
  | out
inductive Held (σ α : Type) where
  | done (x : α) (s : σ)
  | need (q : Ned) (s : σ)
  | stuck
def Held.bind {σ α β : Type} (m : Held σ α) (f : α → σ → Held σ β) : Held σ β := match m with
  | .done x s => f x s
  | .need q s => .need q s
  | .stuck => .stuck
theorem Held.zO {σ α β : Type} (x : α) (s : σ) (f : α → σ → Held σ β) : (Held.done x s).bind f = f x s := rfl
theorem Held.z8 {σ α β : Type} (q : Ned) (s : σ) (f : α → σ → Held σ β) : (Held.need q s : Held σ α).bind f = .need q s := rfl
theorem Held.zP {σ α β : Type} (f : α → σ → Held σ β) : (Held.stuck : Held σ α).bind f = .stuck := rfl
def Pr.run {σ α : Type} (st : σ → Ned → Ans σ) : Pr α → σ → Held σ α
  | .ret x, s => .done x s
  | .stuck, _ => .stuck
  | .ask q k, s => match st s q with
    | .ret r s' => (k r).run st s'
    | .need q s' => .need q s'
    | .out => .stuck
theorem yQ {σ α : Type} (st : σ → Ned → Ans σ) (x : α) (s : σ) : (Pr.ret x).run st s = .done x s := rfl
theorem wG {σ α : Type} (st : σ → Ned → Ans σ) (q : Ned) (k : xM → Pr α) (s : σ) : (Pr.ask q k).run st s = match st s q with
    | .ret r s' => (k r).run st s'
    | .need q s' => .need q s'
    | .out => .stuck := by rw [Pr.run]
theorem run_bind {σ α β : Type} (st : σ → Ned → Ans σ) (f : α → Pr β) : ∀ (p : Pr α) (s : σ), (p.bind f).run st s = (p.run st s).bind fun x s' => (f x).run st s'
  | .ret _, _ => rfl
  | .stuck, _ => rfl
  | .ask q k, s => by
    show Pr.run st (.ask q fun r => (k r).bind f) s = _
    rw [wG, wG]
    cases st s q with
    | ret r s' => exact run_bind st f (k r) s'
    | need q s' => rfl
    | out => rfl
theorem yY {σ α : Type} (st : σ → Ned → Ans σ) (c : Bool) (p1 p2 : Pr α) (s : σ) : (bif c then p1 else p2).run st s = bif c then p1.run st s else p2.run st s := by cases c <;> rfl
/-- a log, told place by place -/
def wK (L : List xM) (i : Nat) (q : Ned) : Ans Nat := match L[i]? with
  | some r => .ret r (i + 1)
  | none => .need q L.length
def LogOK (L : List xM) : Prop := L.length ≤ 1000000 ∧ ∀ r ∈ L, U r.n
theorem LogOK.at {L : List xM} (h : LogOK L) {i : Nat} {r : xM} (hr : L[i]? = some r) : U r.n := h.2 r (List.mem_of_getElem? hr)
/-- the log's place, by what a program told -/
theorem Pr.xA.log {α : Type} {good : α → Prop} {L : List xM} (hL : ∀ r ∈ L, U r.n) : ∀ {p : Pr α} {m i : Nat}, p.xA good m → i ≤ L.length → L.length - i < m → match p.run (wK L) i with
    | .done x j => good x ∧ i ≤ j ∧ j ≤ L.length
    | .need q j => vV q ∧ j = L.length
    | .stuck => False
  | .ret _, _, _, h, hi, _ => ⟨h, Nat.le_refl _, hi⟩
  | .stuck, m, i, h, hi, hm => by have : m = 0 := h; omega
  | .ask q k, m, i, h, hi, hm => by
    rw [wG]
    cases e : L[i]? with
    | none =>
      have e0 : wK L i q = .need q L.length := by unfold wK; rw [e]
      rw [e0]
      exact ⟨h.1, rfl⟩
    | some r =>
      have e0 : wK L i q = .ret r (i + 1) := by unfold wK; rw [e]
      rw [e0]
      have hlt := (List.getElem?_eq_some_iff.1 e).1
      have h1 := Pr.xA.log hL (h.2 r (hL r (List.mem_of_getElem? e))) (i := i + 1) hlt (by omega)
      show match (k r).run (wK L) (i + 1) with | .done x j => good x ∧ i ≤ j ∧ j ≤ L.length | .need q j => vV q ∧ j = L.length | .stuck => False
      cases e2 : (k r).run (wK L) (i + 1) with
      | done x j => rw [e2] at h1; exact ⟨h1.1, by omega, h1.2.2⟩
      | need q j => rw [e2] at h1; exact h1
      | stuck => rw [e2] at h1; exact h1
theorem Pr.wX.log {α : Type} {good : α → Prop} {L : List xM} (hL : LogOK L) {p : Pr α} {i : Nat} (h : p.wX good) (hi : i ≤ L.length) : match p.run (wK L) i with
    | .done x j => good x ∧ i ≤ j ∧ j ≤ L.length
    | .need q j => vV q ∧ j = L.length
    | .stuck => False := Pr.xA.log hL.2 h hi (by have := hL.1; unfold many; omega)
/-- what is asked of it is an access, and its state stays right -/
structure StOK {σ : Type} (st : σ → Ned → Ans σ) (ok : σ → Prop) : Prop where
  ret : ∀ s q r s', ok s → vV q → st s q = .ret r s' → U r.n ∧ ok s'
  need : ∀ s q q' s', ok s → vV q → st s q = .need q' s' → ok s'
theorem Pr.xA.run {σ α : Type} {good : α → Prop} {st : σ → Ned → Ans σ} {ok : σ → Prop} (H : StOK st ok) : ∀ {p : Pr α} {m : Nat} {s : σ}, p.xA good m → ok s → match p.run st s with
    | .done x s' => good x ∧ ok s'
    | .need _ s' => ok s'
    | .stuck => True
  | .ret _, _, _, h, hs => ⟨h, hs⟩
  | .stuck, _, _, _, _ => trivial
  | .ask q k, m, s, h, hs => by
    rw [wG]
    cases e : st s q with
    | need q' s' => exact H.need s q q' s' hs h.1 e
    | out => trivial
    | ret r s' =>
      obtain ⟨h1, h2⟩ := H.ret s q r s' hs h.1 e
      exact Pr.xA.run H (h.2 r h1) h2
theorem Pr.wX.run {σ α : Type} {good : α → Prop} {st : σ → Ned → Ans σ} {ok : σ → Prop} (H : StOK st ok) {p : Pr α} {s : σ} (h : p.wX good) (hs : ok s) : match p.run st s with
    | .done x s' => good x ∧ ok s'
    | .need _ s' => ok s'
    | .stuck => True := Pr.xA.run H h hs
theorem stOK_log {L : List xM} (hL : LogOK L) : StOK (wK L) (fun i => i ≤ L.length) where
  ret := fun i q r j _ _ h => by
    unfold wK at h
    cases e : L[i]? with
    | none => rw [e] at h; cases h
    | some r' => rw [e] at h; cases h; exact ⟨hL.at e, (List.getElem?_eq_some_iff.1 e).1⟩
  need := fun i q q' j _ _ h => by
    unfold wK at h
    cases e : L[i]? with
    | none => rw [e] at h; cases h; exact Nat.le_refl _
    | some r' => rw [e] at h; cases h
end Go.Proofs.YthnmfmdkdngggaaDoor
/- Calls whose end, and whose variables behind it, are told by a property. Generic over the program. -/
namespace Go.Proofs.YthnmfmdkdngggaaDoor
set_option maxRecDepth 100000
set_option maxHeartbeats 16000000
open Go Go.RowKit
set_option linter.unusedVariables false
section
variable {P : Program} {n : Nat} {o : Oper} {S : AS} {d : Nat}
/-- What function f does: of such arguments, and such variables of its callers': Post tells how it ends, and these variables then. -/
def FnQ (P : Program) (f : FuncId) (args : List AV) (B : List Blk) (Post : EV → List Blk → Prop) : Prop :=
  ∀ (M : Nat → Nat → Prop) (h : Home) (ρ : Nat → Value) (vs : List Value), Handed h B ρ → Sat M 0 h (asB B) ρ wI h.w → vs.length = args.length →
    (∀ (i : Nat) x v, args[i]? = some x → vs[i]? = some v → yB (Mut M (asB B) ρ) ρ h.w x v) →
    Calls P f vs.toArray h.w fun e w' => ∃ ev B', Post ev B' ∧ ∃ ρ', Sat M 0 h (asB B') ρ' wI w' ∧ EvOK (Mut M (asB B') ρ') ρ' w' ev e
theorem FnE.q {f : FuncId} {args : List AV} {B B' : List Blk} {ev : EV} {Post : EV → List Blk → Prop} (h : FnE P f args B ev B') (hp : Post ev B') : FnQ P f args B Post :=
  fun M hh ρ vs h1 h2 h3 h4 => (h M hh ρ vs h1 h2 h3 h4).mono fun e w' ⟨ρ', h5, h6⟩ => ⟨ev, B', hp, ρ', h5, h6⟩
theorem FnQ.mono {f : FuncId} {args : List AV} {B : List Blk} {Post Post' : EV → List Blk → Prop} (h : FnQ P f args B Post) (hp : ∀ ev B', Post ev B' → Post' ev B') : FnQ P f args B Post' :=
  fun M hh ρ vs h1 h2 h3 h4 => (h M hh ρ vs h1 h2 h3 h4).mono fun _ _ ⟨ev, B', h5, h6⟩ => ⟨ev, B', hp _ _ h5, h6⟩
theorem FnQ.e {f : FuncId} {args : List AV} {B B' : List Blk} {ev : EV} (h : FnQ P f args B fun ev' B2 => ev' = ev ∧ B2 = B') : FnE P f args B ev B' :=
  fun M hh ρ vs h1 h2 h3 h4 => (h M hh ρ vs h1 h2 h3 h4).mono fun _ _ ⟨_, _, ⟨e1, e2⟩, ρ', h6⟩ => by subst e1 e2; exact ⟨ρ', h6⟩
/-- how a body ends -/
inductive EndQ (P : Program) (fn : Func) (Post : EV → List Blk → Prop) : Exit → AS → Prop
  | ret {e : Exit} {S S' : AS} {x : AV} {B' : List Blk} (he : e = .ret ∨ e = .normal) (hs : Sub S S') (hg : GivesA P fn S' x) (hB : HasB S' B') (hp : Post (.ret x) B') : EndQ P fn Post e S
  | pan {S S' : AS} {x : AV} {B' : List Blk} (hs : ∀ (M : Nat → Nat → Prop) (n : Nat) (w0 : Home) (ρ : Nat → Value) (a : Act) (w : World), Sat M n w0 S ρ a w → Sat M n w0 S' ρ a w) (hm : ∀ (M : Nat → Nat → Prop) (ρ : Nat → Value) k c, Mut M S' ρ k c → Mut M S ρ k c) (hx : S.x = x) (hB : HasB S' B') (hp : Post (.pan x) B') : EndQ P fn Post (.panic []) S
theorem fn_ofQ {f : FuncId} {fn : Func} {c : Code} {args : List AV} {B : List Blk} {Post : EV → List Blk → Prop} (hf : P.funcs[f]? = some fn) (hb : fn.body = some c) (hn : fn.ntmps = n) (hle : args.length ≤ n) (h1000 : n ≤ 1000)
    (h : zX P n c { t := zipA 0 args, s := numB 1000 B } (EndQ P fn Post)) : FnQ P f args B Post := by
  intro M hh ρ vs hand hs0 hvl hvs
  refine calls_of_wp hf hb ?_
  have hsat : Sat M n hh { t := zipA 0 args, s := numB 1000 B } ρ { tmps := vs.toArray ++ Array.replicate (fn.ntmps - vs.toArray.size) undef, defers := [] } hh.w := by
    refine ⟨hs0.below, hs0.out, hs0.tab, by simp; omega, hs0.defers, fun i => ?_, hs0.blks, hs0.mine, hs0.fix, fun k hk => hh.lo k (by omega), hs0.dist⟩
    show yB _ _ _ ((look (zipA 0 args) i).getD .any) _
    rw [look_zipA]
    simp only [Nat.zero_le, if_true, Nat.sub_zero]
    cases hx : args[i]? with
    | none => exact .any _
    | some x =>
      have hi : i < vs.length := by rw [hvl]; exact (List.getElem?_eq_some_iff.1 hx).1
      have e : ({ tmps := vs.toArray ++ Array.replicate (fn.ntmps - vs.toArray.size) undef, defers := [] } : Act).tmps.getD i undef = vs[i] := by
        simp [Array.getD_eq_getD_getElem?, Array.getElem?_append, hi]
      rw [e]
      exact hvs i x vs[i] hx (List.getElem?_eq_getElem hi)
  refine h M hh ρ _ hh.w _ hsat ?_
  intro e S0 ρ0 a' w' hend hs1 hx
  generalize he0 : bare e = e0 at hend
  cases hend with
  | @pan _ S' x B' hsub hm hxx hB hp =>
    subst hxx
    cases e with
    | panic c =>
      obtain ⟨v, rfl, hv⟩ := hx
      have hs2 := hsub M n hh ρ0 a' w' hs1
      obtain ⟨h1, h2⟩ := hs2.asB hs0.defers.symm hB
      exact ⟨hs1.defers.trans hs0.defers.symm, _, B', hp, ρ0, h1, v, rfl, hv.mono fun k c _ hk => hm M ρ0 k c (h2 k c hk)⟩
    | _ => cases he0
  | @ret _ _ S' x B' he hsub hg hB hp =>
    obtain ⟨ρ', hs'⟩ := hsub M n hh ρ0 a' w' hs1
    obtain ⟨h1, h2⟩ := hs'.asB hs0.defers.symm hB
    have fin : a'.defers = [] ∧ ∃ v, (results fn a'.tmps).run P w' = .ok v w' ∧ (∃ ev B', Post ev B' ∧ ∃ ρ', Sat M 0 hh (asB B') ρ' wI w' ∧ EvOK (Mut M (asB B') ρ') ρ' w' ev (.returned v)) := by
      refine ⟨hs'.defers.trans hs0.defers.symm, ?_⟩
      cases hg with
      | none hr => exact ⟨_, results_none hr _ _ _, _, B', hp, ρ', h1, _, rfl, .any _⟩
      | one hr ht =>
        subst ht
        exact ⟨_, results_tmp hr _ _ _, _, B', hp, ρ', h1, _, rfl, (hs'.tmps _).mono fun k c _ hk => h2 k c hk⟩
      | p hr hx =>
        obtain ⟨v, g1, g2⟩ := res_oneM hs' hx
        have g3 := wY (P := P) (w := w') fn a'.tmps (rs := [_]) (vs := [v]) hr (by simp only [List.mapM_cons, List.mapM_nil, Sem.run_bind, Sem.run_pure, g1, Result.andThen_ok])
        exact ⟨v, g3, _, B', hp, ρ', h1, _, rfl, .p (g2.mono fun k c _ hk => h2 k c hk)⟩
      | tup hr hl hx =>
        obtain ⟨us, g1, g2, g4, g3⟩ := res_allM hs' hx
        have g5 := wY (P := P) (w := w') fn a'.tmps hr g1
        rw [dif_neg (by simp only [List.size_toArray]; omega)] at g5
        refine ⟨_, g5, _, B', hp, ρ', h1, _, rfl, .tup _ us (by simpa using g2) fun i c v hc hv => ?_⟩
        rw [List.getElem?_map, Option.map_eq_some_iff] at hc
        obtain ⟨y, hy, rfl⟩ := hc
        exact .p ((g3 i y v hy hv).mono fun k c _ hk => h2 k c hk)
    cases e with
    | ret => exact fin
    | normal => exact fin
    | exit id => subst he0; rcases he with h | h <;> cases h
    | goto l => subst he0; rcases he with h | h <;> cases h
    | panic c => subst he0; rcases he with h | h <;> cases h
    | outgrown => subst he0; rcases he with h | h <;> cases h
/-- a variable, of which no more is known than that it is there -/
def Blk.forget : Blk → Blk
  | .box t xs => .box t (xs.map fun _ => .any)
  | b => b
theorem xH.forget {M : Nat → Nat → Prop} {B : Nat} {v : Value} {b : Blk} {w : World} {ρ : Nat → Value} (h : xH M B ρ w v b) : xH M B ρ w v b.forget := by
  cases b with
  | box t xs =>
    obtain ⟨g, ys, e, hg, hh, hc⟩ := h
    refine ⟨g, ys, e, hg, hh, by simp [hc.len], fun i c u hu hv => ?_, hc.one⟩
    rw [List.getElem?_map, Option.map_eq_some_iff] at hu
    obtain ⟨_, _, rfl⟩ := hu
    exact .any _
  | row t s m xs => exact h
  | prow t s m xs => exact h
  | lent t s m xs => exact h
theorem Blk.forget_turns (b : Blk) (c : Nat) : b.forget.turns c ↔ b.turns c := by cases b <;> exact Iff.rfl
/-- all but the first three variables are forgotten -/
def AS.forget (S : AS) : AS := { S with s := S.s.map fun p => (p.1, if p.1 < 1003 then p.2 else p.2.forget) }
theorem AS.vH (S : AS) (id : Nat) : S.forget.blk id = (S.blk id).map fun b => if id < 1003 then b else b.forget := by
  show look (S.s.map _) id = (look S.s id).map _
  induction S.s with
  | nil => rfl
  | cons p r ih =>
    simp only [List.map_cons, look, ih]
    by_cases h : p.1 = id
    · subst h; simp
    · rw [if_neg h, if_neg h]
theorem AS.forget_mut (S : AS) (M : Nat → Nat → Prop) (ρ : Nat → Value) (k c : Nat) : Mut M S.forget ρ k c ↔ Mut M S ρ k c := by
  have tb : ∀ id (b : Blk) c, (if id < 1003 then b else b.forget).turns c ↔ b.turns c := fun id b c => by
    by_cases h : id < 1003
    · rw [if_pos h]
    · rw [if_neg h]; exact b.forget_turns c
  constructor
  · rintro (h | ⟨id, b, hb, hk, ht⟩)
    · exact .inl h
    · rw [AS.vH, Option.map_eq_some_iff] at hb
      obtain ⟨b0, h0, rfl⟩ := hb
      exact .inr ⟨id, b0, h0, hk, (tb id b0 c).1 ht⟩
  · rintro (h | ⟨id, b, hb, hk, ht⟩)
    · exact .inl h
    · exact .inr ⟨id, _, by rw [AS.vH, hb]; rfl, hk, (tb id b c).2 ht⟩
theorem Sat.forget {M : Nat → Nat → Prop} {n : Nat} {w0 : Home} {ρ : Nat → Value} {a : Act} {w : World} (h : Sat M n w0 S ρ a w) : Sat M n w0 S.forget ρ a w := by
  have key : ∀ id b, S.forget.blk id = some b → ∃ b0, S.blk id = some b0 ∧ b = if id < 1003 then b0 else b0.forget := fun id b hb => by
    rw [AS.vH, Option.map_eq_some_iff] at hb
    obtain ⟨b0, h0, rfl⟩ := hb
    exact ⟨b0, h0, rfl⟩
  have hm : ∀ k c, Mut M S.forget ρ k c → Mut M S ρ k c := fun k c => (AS.forget_mut S M ρ k c).1
  refine ⟨h.below, h.out, h.tab, h.size, h.defers, fun i => (h.tmps i).mono fun k c _ hk => hm k c hk, fun id b hb => ?_, fun id b k hb hk => ?_, h.fix, h.free, fun i j bi bj k hi hj h1 h2 => ?_⟩
  · obtain ⟨b0, h0, rfl⟩ := key id b hb
    have h1 := (h.blks id b0 h0).mono hm
    by_cases hlt : id < 1003
    · rw [if_pos hlt]; exact h1
    · rw [if_neg hlt]; exact h1.forget
  · obtain ⟨b0, h0, _⟩ := key id b hb
    exact h.mine id b0 k h0 hk
  · obtain ⟨b1, h3, _⟩ := key i bi hi
    obtain ⟨b2, h4, _⟩ := key j bj hj
    exact h.dist i j b1 b2 k h3 h4 h1 h2
end
end Go.Proofs.YthnmfmdkdngggaaDoor
/- Programs' functions, whatever makes their accesses; the document's functions, over a log: contracts by trees. -/
namespace Go.Proofs.YthnmfmdkdngggaaDoor
set_option maxRecDepth 100000
set_option maxHeartbeats 16000000
open Go Go.RowKit
set_option linter.unusedSimpArgs false
set_option linter.unusedVariables false
attribute [local irreducible] zY zX Step zC Sub zL zI Fn
def accQ (q : Ned) : PV := accV q.kind q.cell q.a q.b q.d
/-- a block, seen through new blocks' numbers -/
inductive KB (b : Blk) : Blk → Prop
  | refl : KB b b
  | kill {c : Blk} (i : Nat) (hi : i < 1000) (h : KB b c) : KB b (c.kill i)
theorem KB.eq {b c : Blk} (hb : ∀ i, i < 1000 → b.kill i = b) (h : KB b c) : c = b := by
  induction h with
  | refl => rfl
  | kill i hi _ ih => rw [ih, hb i hi]
theorem yJ {S : AS} {id : Nat} {b c : Blk} (h : S.blk id = some c) (hb : ∀ i, i < 1000 → b.kill i = b) (hk : KB b c) : S.blk id = some b := by rw [h, hk.eq hb]
/-- What makes accesses: a closure of two variables (and one more that it turns). -/
structure Hnd where
  σ : Type
  fn : FuncId
  b0 : σ → Blk
  b1 : σ → Blk
  b2 : σ → Blk
  ok : σ → Prop
  st : σ → Ned → Ans σ
  stOK : StOK st ok
  has : HasFn Tryd.prog fn
  okE : ∀ s m, 3 ≤ m → (b0 s).okE m = true ∧ (b1 s).okE m = true ∧ (b2 s).okE m = true
  ren : ∀ s ks, (b0 s).ren (sig (1000 :: 1001 :: 1002 :: ks)) = b0 s ∧ (b1 s).ren (sig (1000 :: 1001 :: 1002 :: ks)) = b1 s ∧ (b2 s).ren (sig (1000 :: 1001 :: 1002 :: ks)) = b2 s
  nk : ∀ s, (∀ i, i < 1000 → (b0 s).kill i = b0 s) ∧ (∀ i, i < 1000 → (b1 s).kill i = b1 s) ∧ ∀ i, i < 1000 → (b2 s).kill i = b2 s
  doOK : ∀ s q, ok s → vV q → match st s q with
    | .ret r s' => FnE Tryd.prog fn [.p (accQ q), .ptr 1000 0, .ptr 1001 0] [b0 s, b1 s, b2 s] (.ret (.p (resV r))) [b0 s', b1 s', b2 s']
    | .need q' s' => FnE Tryd.prog fn [.p (accQ q), .ptr 1000 0, .ptr 1001 0] [b0 s, b1 s, b2 s] (.pan (needA (accQ q'))) [b0 s', b1 s', b2 s']
    | .out => True
instance (H : Hnd) : HasFn Tryd.prog H.fn := H.has
def Hnd.doA (H : Hnd) : AV := .clo H.fn [1000, 1001]
def Hnd.B (H : Hnd) (s : H.σ) (bk : List Blk) : List Blk := H.b0 s :: H.b1 s :: H.b2 s :: bk
/-- What function f does, that makes accesses by H. -/
def FnH {α : Type} (H : Hnd) (f : FuncId) (args : List AV) (bk : List Blk) (res : α → AV) (bk' : α → List Blk) (good : α → Prop) (s : H.σ) (p : Pr α) : Prop :=
  H.ok s → match p.run H.st s with
  | .done x s' => good x ∧ H.ok s' ∧ FnE Tryd.prog f args (H.b0 s :: H.b1 s :: H.b2 s :: bk) (.ret (res x)) (H.b0 s' :: H.b1 s' :: H.b2 s' :: bk' x)
  | .need q s' => H.ok s' ∧ FnE Tryd.prog f args (H.b0 s :: H.b1 s :: H.b2 s :: bk) (.pan (needA (accQ q))) (H.b0 s' :: H.b1 s' :: H.b2 s' :: bk.map Blk.forget)
  | .stuck => True
theorem FnH.done {α : Type} {H : Hnd} {f : FuncId} {args : List AV} {bk : List Blk} {res : α → AV} {bk' : α → List Blk} {good : α → Prop} {s : H.σ} {p : Pr α} (h : FnH H f args bk res bk' good s p) (hok : H.ok s) {x : α} {s' : H.σ} (hm : p.run H.st s = .done x s') :
    good x ∧ H.ok s' ∧ FnE Tryd.prog f args (H.b0 s :: H.b1 s :: H.b2 s :: bk) (.ret (res x)) (H.b0 s' :: H.b1 s' :: H.b2 s' :: bk' x) := by
  have := h hok
  rw [hm] at this
  exact this
theorem FnH.need {α : Type} {H : Hnd} {f : FuncId} {args : List AV} {bk : List Blk} {res : α → AV} {bk' : α → List Blk} {good : α → Prop} {s : H.σ} {p : Pr α} (h : FnH H f args bk res bk' good s p) (hok : H.ok s) {q : Ned} {s' : H.σ} (hm : p.run H.st s = .need q s') :
    H.ok s' ∧ FnE Tryd.prog f args (H.b0 s :: H.b1 s :: H.b2 s :: bk) (.pan (needA (accQ q))) (H.b0 s' :: H.b1 s' :: H.b2 s' :: bk.map Blk.forget) := by
  have := h hok
  rw [hm] at this
  exact this
theorem Blk.okE_forget {b : Blk} {m : Nat} (h : b.okE m = true) : b.forget.okE m = true := by
  cases b with
  | box t xs =>
    show (xs.map fun _ => AV.any).all (AV.okE m) = true
    simp [AV.okE]
  | row t s n xs => cases h
  | prow t s n xs => cases h
  | lent t s n xs => cases h
theorem forget_okE {bk : List Blk} {m : Nat} (h : bk.all (Blk.okE m) = true) : (bk.map Blk.forget).all (Blk.okE m) = true := by
  rw [List.all_map, List.all_eq_true]
  intro b hb
  exact Blk.okE_forget (List.all_eq_true.1 h b hb)
theorem zI.held {α : Type} {o : Oper} {S : AS} {K : Exit → AS → Prop} {n d : Nat} {f : FuncId} {avs xs : List AV} {bk : List Blk} {res : α → AV} {bk' : α → List Blk} {good : α → Prop} (H : Hnd) {s : H.σ} {p : Pr α} {N : AS → Prop} (ks : List Nat) (hd : o.dst = some d) (hn : d < n) (he : Enters Tryd.prog o S f avs)
    (hx : avs = xs.map (AV.ren (sig (1000 :: 1001 :: 1002 :: ks)))) (hnd : (1000 :: 1001 :: 1002 :: ks).Nodup) (h0 : S.blk 1000 = some (H.b0 s)) (h1 : S.blk 1001 = some (H.b1 s)) (h2 : S.blk 1002 = some (H.b2 s)) (hat : AtB S (1000 :: 1001 :: 1002 :: ks) ks bk)
    (hbk : bk.all (Blk.okE (bk.length + 3)) = true) (hxs : xs.all (AV.okE (bk.length + 3)) = true) (hrx : ∀ x, (res x).okE (bk.length + 3) = true) (hbk' : ∀ x, (bk' x).length = bk.length ∧ (bk' x).all (Blk.okE (bk.length + 3)) = true) (hok : H.ok s) (hf : FnH H f xs bk res bk' good s p)
    (hr : ∀ x s', p.run H.st s = .done x s' → good x → H.ok s' → N (({ S with s := putBs (1000 :: 1001 :: 1002 :: ks) (H.b0 s' :: H.b1 s' :: H.b2 s' :: (bk' x).map (Blk.ren (sig (1000 :: 1001 :: 1002 :: ks)))) S.s } : AS).put d ((res x).ren (sig (1000 :: 1001 :: 1002 :: ks)))))
    (hp : ∀ q s', p.run H.st s = .need q s' → K (.panic []) { S with s := putBs (1000 :: 1001 :: 1002 :: ks) (H.b0 s' :: H.b1 s' :: H.b2 s' :: (bk.map Blk.forget).map (Blk.ren (sig (1000 :: 1001 :: 1002 :: ks)))) S.s, x := needA (accQ q) })
    (hst : p.run H.st s ≠ .stuck) : zI Tryd.prog n o S K N := by
  have e3 : ∀ l : List Blk, (H.b0 s :: H.b1 s :: H.b2 s :: l).length = l.length + 3 := fun l => rfl
  have hall : ∀ (t : H.σ) (l : List Blk), l.all (Blk.okE (bk.length + 3)) = true → (H.b0 t :: H.b1 t :: H.b2 t :: l).all (Blk.okE (bk.length + 3)) = true := fun t l hl => by
    obtain ⟨a, b, c⟩ := H.okE t (bk.length + 3) (by omega)
    simp [a, b, c, hl]
  have hh : Hands S (1000 :: 1001 :: 1002 :: ks) (H.b0 s :: H.b1 s :: H.b2 s :: bk) := zS hnd (hall s bk hbk) (by
    obtain ⟨a, b, c⟩ := H.ren s ks
    exact ⟨by rw [a]; exact h0, by rw [b]; exact h1, by rw [c]; exact h2, hat⟩)
  have hmap : ∀ (t : H.σ) (l : List Blk), (H.b0 t :: H.b1 t :: H.b2 t :: l).map (Blk.ren (sig (1000 :: 1001 :: 1002 :: ks))) = H.b0 t :: H.b1 t :: H.b2 t :: l.map (Blk.ren (sig (1000 :: 1001 :: 1002 :: ks))) := fun t l => by
    obtain ⟨a, b, c⟩ := H.ren t ks
    simp only [List.map_cons, a, b, c]
  have hf' := hf hok
  cases m : p.run H.st s with
  | done x s' =>
    rw [m] at hf'
    obtain ⟨g1, g2, g3⟩ := hf'
    have hr' := hr x s' m g1 g2
    rw [← hmap s' (bk' x)] at hr'
    refine zI.wL (1000 :: 1001 :: 1002 :: ks) g3 hd hn he hx hh ?_ (hall s' _ (hbk' x).2) hxs (hrx x) hr'
    show (bk' x).length + 3 = bk.length + 3
    rw [(hbk' x).1]
  | need q s' =>
    rw [m] at hf'
    have hp' := hp q s' m
    rw [← hmap s' (bk.map Blk.forget)] at hp'
    refine zI.ePan (1000 :: 1001 :: 1002 :: ks) hf'.2 he hx hh ?_ (hall s' _ (forget_okE hbk)) hxs rfl hp'
    show (bk.map Blk.forget).length + 3 = bk.length + 3
    rw [List.length_map]
  | stuck => exact absurd m hst
/-- these variables are there -/
def fgL (S : AS) : Nat → List Blk → Prop
  | _, [] => True
  | i, b :: r => (∃ b', S.blk i = some b' ∧ b'.forget = b.forget) ∧ fgL S (i + 1) r
inductive EndH {α : Type} (H : Hnd) (fn : Func) (res : α → AV) (bk : List Blk) (bk' : α → List Blk) (m : Held H.σ α) : Exit → AS → Prop
  | pan {S : AS} {q : Ned} {s' : H.σ} (hx : S.x = needA (accQ q)) (hB : hasL S 1000 [H.b0 s', H.b1 s', H.b2 s']) (hF : fgL S 1003 bk) (h : m = .need q s') : EndH H fn res bk bk' m (.panic []) S
  | ret {e : Exit} {S : AS} {x : α} {s' : H.σ} (he : e = .ret ∨ e = .normal) (hg : GivesA Tryd.prog fn S (res x)) (hB : hasL S 1000 (H.b0 s' :: H.b1 s' :: H.b2 s' :: bk' x)) (h : m = .done x s') : EndH H fn res bk bk' m e S
theorem fg_at {S : AS} : ∀ (bk : List Blk) (i : Nat), 1003 ≤ i → fgL S i bk → ∀ (j : Nat) b, (bk.map Blk.forget)[j]? = some b → S.forget.blk (i + j) = some b
  | [], _, _, _, j, b, h => by simp at h
  | c :: r, i, hi, h, 0, b, hb => by
    obtain ⟨⟨b', h1, h2⟩, _⟩ := h
    simp at hb
    subst hb
    show S.forget.blk i = _
    rw [AS.vH, h1]
    simp only [Option.map_some]
    rw [if_neg (by omega), h2]
  | c :: r, i, hi, h, j + 1, b, hb => by
    have := fg_at r (i + 1) (by omega) h.2 j b (by simpa using hb)
    rw [show i + (j + 1) = i + 1 + j by omega]
    exact this
theorem vJ {α : Type} {H : Hnd} {n : Nat} {f : FuncId} {fn : Func} {c : Code} {args : List AV} {bk : List Blk} {res : α → AV} {bk' : α → List Blk} {good : α → Prop} {s : H.σ} {p : Pr α} (hf : Tryd.prog.funcs[f]? = some fn) (hb : fn.body = some c) (hn : fn.ntmps = n) (hle : args.length ≤ n) (h1000 : n ≤ 1000)
    (hfine : p.wX good) (h : H.ok s → p.run H.st s ≠ .stuck → zX Tryd.prog n c { t := zipA 0 args, s := numB 1000 (H.b0 s :: H.b1 s :: H.b2 s :: bk) } (EndH H fn res bk bk' (p.run H.st s))) : FnH H f args bk res bk' good s p := by
  intro hok
  have hg := Pr.wX.run H.stOK hfine hok
  have hbody := h hok
  cases m : p.run H.st s with
  | stuck => trivial
  | done x s' =>
    rw [m] at hg hbody
    replace hbody := hbody (by simp)
    refine ⟨hg.1, hg.2, vK hf hb hn hle h1000 (hbody.mono fun e S he => ?_)⟩
    cases he with
    | pan _ _ _ h => cases h
    | ret he hg hB h => cases h; exact ⟨he, _, Sub.refl _, hg, xK hB⟩
  | need q s' =>
    rw [m] at hg hbody
    replace hbody := hbody (by simp)
    refine ⟨hg, FnQ.e (fn_ofQ hf hb hn hle h1000 (hbody.mono fun e S he => ?_))⟩
    cases he with
    | ret he hg hB h => cases h
    | @pan _ q2 s2 hx hB hF h =>
      injection h with e1 e2
      subst e1 e2
      refine .pan (S' := S.forget) (fun M n w0 ρ a w hs => hs.forget) (fun M ρ k c => (AS.forget_mut S M ρ k c).1) hx (fun i b hi => ?_) ⟨rfl, rfl⟩
      match i with
      | 0 =>
        simp at hi; subst hi
        rw [AS.vH, hB.1]; rfl
      | 1 =>
        simp at hi; subst hi
        rw [AS.vH, hB.2.1]; rfl
      | 2 =>
        simp at hi; subst hi
        rw [AS.vH, hB.2.2.1]; rfl
      | i + 3 =>
        rw [show 1000 + (i + 3) = 1003 + i by omega]
        exact fg_at bk 1003 (by omega) hF i b (by simpa using hi)
/-- an access -/
theorem do_h (H : Hnd) (s : H.σ) (q : Ned) (h : vV q) : FnH H H.fn [.p (accQ q), .ptr 1000 0, .ptr 1001 0] [] (fun r => .p (resV r)) (fun _ => []) (fun r => U r.n) s (.ask q .ret) := fun hok => by
  have h1 := H.doOK s q hok h
  rw [wG]
  cases m : H.st s q with
  | ret r s' =>
    rw [m] at h1
    obtain ⟨g1, g2⟩ := H.stOK.ret s q r s' hok h m
    exact ⟨g1, g2, h1⟩
  | need q' s' =>
    rw [m] at h1
    exact ⟨H.stOK.need s q q' s' hok h m, h1⟩
  | out => trivial
end Go.Proofs.YthnmfmdkdngggaaDoor
/- The accesses of play, whatever makes them; and by a log: contracts. -/
namespace Go.Proofs.YthnmfmdkdngggaaDoor
set_option maxRecDepth 100000
set_option maxHeartbeats 16000000
open Go Go.RowKit
set_option linter.unusedSimpArgs false
set_option linter.unusedVariables false
attribute [local irreducible] zY zX Step zC Sub zL zI Fn
theorem do_ret3 (L : List xM) (i : Nat) (r : xM) (hr : L[i]? = some r) (hL : L.length ≤ 1000000) (kind cell a b : Int) (data : PV) :
    FnE Tryd.prog 64 [.p (accV kind cell a b data), .ptr 1000 0, .ptr 1001 0] [atB i, logB L, isB false] (.ret (.p (resV r))) [atB (i + 1), logB L, isB false] := by
  have hi : i < L.length := (List.getElem?_eq_some_iff.1 hr).1
  have g1 : decide ((i : Int) = ((L.map resV).length : Int)) = false := decide_eq_false (by simp; omega)
  have g2 : IntKind.i64.wrap ((i : Int) + 1) = ((i + 1 : Nat) : Int) := by rw [wrap_i64 _ (by omega)]; omega
  have g3 : IntKind.i64.wrap (((i + 1 : Nat) : Int) - 1) = (i : Int) := by rw [wrap_i64 _ (by omega)]; omega
  have g4 := resV_cells L
  have g5 : (L.map resV)[i]? = some (resV r) := by rw [List.getElem?_map, hr]; rfl
  refine vK Tryd.func64 rfl Tryd.ntmps64 (Nat.le_of_ble_eq_true rfl) (by decide) ?_
  repeat' ((refine zX.is ?_; first | refine zX.seq ?_ | (refine zX.isR (id := 0) ?_; refine zX.zV [0, 1, 2] [3, 4, 1000, 1001, 1002] (by repeat' first | exact zZ.nil | apply zZ.p rfl | apply zZ.ptr rfl) (by repeat' first | exact zW.nil | apply zW.boxP rfl rfl | apply zW.skip) ?_; (refine zY.m rfl rfl (yX rfl rfl rfl (by decide)) ?_); (refine zY.m rfl rfl (zG rfl (by decide) rfl (by decide)) ?_); refine zY.nil ?_) | (refine zX.isR (id := 1) ?_; refine zX.zV [1, 2, 3, 4] [3, 4, 1000, 1001, 1002] (by repeat' first | exact zZ.nil | apply zZ.ptr rfl) (by repeat' first | exact zW.nil | apply zW.boxP rfl rfl) ?_; (refine zY.v rfl rfl (zA rfl rfl rfl (by rfl) rfl (by decide)) ?_); (refine zY.v rfl rfl (zA rfl rfl rfl (by rfl) rfl (by decide)) ?_); (refine zY.v rfl rfl (wC rfl rfl rfl (by decide)) ?_); (refine zY.v rfl rfl (by exact yO rfl rfl rfl (by exact g1) rfl (by decide)) ?_); refine zY.nil ?_) | (refine zX.isR (id := 3) ?_; refine zX.zV [1, 2, 4] [3, 4, 1000, 1001, 1002] (by repeat' first | exact zZ.nil | apply zZ.ptr rfl) (by repeat' first | exact zW.nil | apply zW.boxP rfl rfl) ?_; (refine zY.v rfl rfl (zA rfl rfl rfl (by rfl) rfl (by decide)) ?_); (refine zY.v rfl rfl (by exact yE rfl rfl rfl (by exact g2) rfl (by decide)) ?_); (refine zY.w rfl (by exact zB rfl rfl rfl rfl rfl (by rfl) (by exact Nat.le_of_ble_eq_true rfl) rfl rfl) ?_); refine zY.nil ?_) | (refine zX.isR (id := 4) ?_; refine zX.zV [1, 2, 4] [3, 4, 1000, 1001, 1002] (by repeat' first | exact zZ.nil | apply zZ.ptr rfl) (by repeat' first | exact zW.nil | apply zW.boxP rfl rfl) ?_; (refine zY.v rfl rfl (zA rfl rfl rfl (by rfl) rfl (by decide)) ?_); (refine zY.v rfl rfl (zA rfl rfl rfl (by rfl) rfl (by decide)) ?_); (refine zY.v rfl rfl (by exact a_sub rfl rfl rfl (by exact g3) rfl (by decide)) ?_); (refine zY.v rfl rfl (by exact yL rfl rfl rfl (by exact g4) (by exact g5) rfl (by decide)) ?_); (refine zY.v rfl rfl (by exact wS rfl rfl (by exact Nat.le_of_ble_eq_true rfl) rfl (by decide)) ?_); (refine zY.w rfl (by exact zB rfl rfl rfl rfl rfl (by rfl) (by exact Nat.le_of_ble_eq_true rfl) rfl rfl) ?_); refine zY.nil ?_) | refine zX.yN rfl (by first | assumption | with_reducible rfl) ?_ | refine zX.skip ?_ | refine zX.ret ?_))
  all_goals exact ⟨.inl rfl, _, Sub.refl _, .p (r := .cell 4 60) rfl (.cellN rfl rfl (by rfl) (by rfl)), xK (by repeat' first | exact trivial | rfl | constructor)⟩
theorem do_pan3 (L : List xM) (_ : L.length ≤ 1000000) (kind cell a b : Int) (data : PV) :
    FnE Tryd.prog 64 [.p (accV kind cell a b data), .ptr 1000 0, .ptr 1001 0] [atB L.length, logB L, isB false] (.pan (needA (accV kind cell a b data))) [atB L.length, logB L, isB false] := by
  have g1 : decide ((L.length : Int) = ((L.map resV).length : Int)) = true := decide_eq_true (by simp)
  refine vK Tryd.func64 rfl Tryd.ntmps64 (Nat.le_of_ble_eq_true rfl) (by decide) ?_
  repeat' (first | (refine zY.ofT rfl (zI.panic rfl rfl ?_)) | (refine zX.is ?_; first | refine zX.seq ?_ | (refine zX.isR (id := 0) ?_; refine zX.zV [0, 1, 2] [3, 4, 1000, 1001, 1002] (by repeat' first | exact zZ.nil | apply zZ.p rfl | apply zZ.ptr rfl) (by repeat' first | exact zW.nil | apply zW.boxP rfl rfl | apply zW.skip) ?_; (refine zY.m rfl rfl (yX rfl rfl rfl (by decide)) ?_); (refine zY.m rfl rfl (zG rfl (by decide) rfl (by decide)) ?_); refine zY.nil ?_) | (refine zX.isR (id := 1) ?_; refine zX.zV [1, 2, 3, 4] [3, 4, 1000, 1001, 1002] (by repeat' first | exact zZ.nil | apply zZ.ptr rfl) (by repeat' first | exact zW.nil | apply zW.boxP rfl rfl) ?_; (refine zY.v rfl rfl (zA rfl rfl rfl (by rfl) rfl (by decide)) ?_); (refine zY.v rfl rfl (zA rfl rfl rfl (by rfl) rfl (by decide)) ?_); (refine zY.v rfl rfl (wC rfl rfl rfl (by decide)) ?_); (refine zY.v rfl rfl (by exact yO rfl rfl rfl (by exact g1) rfl (by decide)) ?_); refine zY.nil ?_) | (refine zX.isR (id := 2) ?_; refine zX.zV [1, 2, 3, 4] [3, 4, 1000, 1001, 1002] (by repeat' first | exact zZ.nil | apply zZ.ptr rfl) (by repeat' first | exact zW.nil | apply zW.boxP rfl rfl) ?_; all_goals (refine zY.v rfl rfl (zD rfl rfl rfl (by rfl) (by rfl) rfl (by decide)) ?_); all_goals (refine zY.v rfl rfl (zT rfl (by rfl) (by rfl) (by rfl) (by rfl) rfl (by decide)) ?_); all_goals (refine zY.v rfl rfl (by exact w_iface (by kernel_rfl) rfl rfl rfl (by decide)) ?_); all_goals (skip)) | refine zX.yS rfl (by with_reducible rfl) ?_))
  all_goals exact ⟨rfl, rfl, xK (by repeat' first | exact trivial | rfl | constructor)⟩
/-- a log -/
def hLog (L : List xM) (hL : LogOK L) : Hnd where
  σ := Nat
  fn := 64
  b0 := atB
  b1 := fun _ => logB L
  b2 := fun _ => isB false
  ok := fun i => i ≤ L.length
  st := wK L
  stOK := stOK_log hL
  has := inferInstance
  okE := fun _ _ _ => ⟨rfl, rfl, rfl⟩
  ren := fun _ _ => ⟨rfl, rfl, rfl⟩
  nk := fun _ => ⟨fun _ _ => rfl, fun _ _ => rfl, fun _ _ => rfl⟩
  doOK := fun i q hi _ => by
    cases e : L[i]? with
    | some r =>
      have m : wK L i q = .ret r (i + 1) := by unfold wK; rw [e]
      rw [m]
      exact do_ret3 L i r e hL.1 q.kind q.cell q.a q.b q.d
    | none =>
      have m : wK L i q = .need q L.length := by unfold wK; rw [e]
      have hl : i = L.length := by have := List.getElem?_eq_none_iff.1 e; have : i ≤ L.length := hi; omega
      rw [m]
      subst hl
      exact do_pan3 L hL.1 q.kind q.cell q.a q.b q.d
/-! ### The accesses -/
theorem load_h (H : Hnd) (s0 : H.σ) (c : Int) : FnH H 48 [H.doA, .p (.val (.int .i64 c))] [] (fun x => .p (.val (.int .u64 x))) (fun _ => []) U s0 (loadP c) := by
  unfold Hnd.doA
  refine vJ Tryd.func48 rfl Tryd.ntmps48 (Nat.le_of_ble_eq_true rfl) (by decide) (wW c) fun hok hns => ?_
  repeat' ((refine zX.is ?_; first | refine zX.seq ?_ | (refine zX.isR (id := 0) ?_; refine zX.zV [0, 1] [1000, 1001, 1002] (by repeat' first | exact zZ.nil | apply zZ.p rfl | apply zZ.clo rfl) (by repeat' first | exact zW.nil | apply zW.some rfl) ?_; (refine zY.v rfl rfl (zK rfl rfl rfl (by decide)) ?_); refine zY.nil ?_) | (refine zX.isR (id := 1) ?_; refine zX.zV [0, 1, 4] [1000, 1001, 1002] (by repeat' first | exact zZ.nil | apply zZ.p rfl | apply zZ.clo rfl) (by repeat' first | exact zW.nil | apply zW.some rfl) ?_; (refine zY.v rfl rfl (zM rfl rfl rfl (by decide)) ?_); (refine zY.v rfl rfl (zQ rfl rfl rfl (by decide)) ?_); (refine zY.v rfl rfl (zT rfl (by rfl) (by rfl) (by rfl) (by rfl) rfl (by decide)) ?_); (refine zY.ofT rfl (zI.held H [] rfl (by decide) (xZ rfl rfl) (by rfl) (by decide) (by rfl) (by rfl) (by rfl) (by repeat' exact trivial) rfl rfl (fun _ => rfl) (fun _ => ⟨rfl, rfl⟩) (by assumption) (do_h H s0 (vS 0 c 0 0 y8) (wW c).1) (fun x s e g hk => ?_) (fun q s e => ?_) ?_)); (refine zY.v rfl rfl (w_field1 rfl rfl rfl rfl (by decide)) ?_); (refine zY.v rfl rfl (zK rfl rfl rfl (by decide)) ?_); refine zY.nil ?_) | refine zX.ret ?_))
  all_goals first
    | exact fun e => absurd (by show (Pr.bind (.ask (vS 0 c 0 0 y8) .ret) fun r : xM => .ret r.n).run H.st s0 = _; rw [run_bind, e]; rfl) hns
    | exact .pan (q := q) rfl (by repeat' first | exact trivial | rfl | constructor) (by repeat' exact trivial) (by show (Pr.bind (.ask (vS 0 c 0 0 y8) .ret) fun r : xM => .ret r.n).run H.st s0 = _; rw [run_bind, e]; rfl)
    | exact .ret (by exact .inl rfl) (.one rfl rfl) (by repeat' first | exact trivial | rfl | constructor) (by show (Pr.bind (.ask (vS 0 c 0 0 y8) .ret) fun r : xM => .ret r.n).run H.st s0 = _; rw [run_bind, e]; rfl)
theorem store_h (H : Hnd) (s0 : H.σ) (c v : Int) (hv : U v) : FnH H 46 [H.doA, .p (.val (.int .i64 c)), .p (.val (.int .u64 v))] [] (fun _ => .any) (fun _ => []) yes s0 (storeP c v) := by
  unfold Hnd.doA
  refine vJ Tryd.func46 rfl Tryd.ntmps46 (Nat.le_of_ble_eq_true rfl) (by decide) (fine_store c hv) fun hok hns => ?_
  repeat' ((refine zX.is ?_; (refine zX.isR (id := 0) ?_; refine zX.zV [0, 1, 2] [1000, 1001, 1002] (by repeat' first | exact zZ.nil | apply zZ.p rfl | apply zZ.clo rfl) (by repeat' first | exact zW.nil | apply zW.some rfl) ?_; (refine zY.v rfl rfl (zM rfl rfl rfl (by decide)) ?_); (refine zY.v rfl rfl (zQ rfl rfl rfl (by decide)) ?_); (refine zY.v rfl rfl (zQ rfl rfl rfl (by decide)) ?_); (refine zY.v rfl rfl (zT rfl (by rfl) (by rfl) (by rfl) (by rfl) rfl (by decide)) ?_); (refine zY.ofT rfl (zI.held H [] rfl (by decide) (xZ rfl rfl) (by rfl) (by decide) (by rfl) (by rfl) (by rfl) (by repeat' exact trivial) rfl rfl (fun _ => rfl) (fun _ => ⟨rfl, rfl⟩) (by assumption) (do_h H s0 (vS 1 c v 0 y8) (fine_store c hv).1) (fun x s e g hk => ?_) (fun q s e => ?_) ?_)); refine zY.nil ?_)))
  all_goals first
    | exact fun e => absurd (by show (Pr.bind (.ask (vS 1 c v 0 y8) .ret) fun r : xM => .ret ()).run H.st s0 = _; rw [run_bind, e]; rfl) hns
    | exact .pan (q := q) rfl (by repeat' first | exact trivial | rfl | constructor) (by repeat' exact trivial) (by show (Pr.bind (.ask (vS 1 c v 0 y8) .ret) fun r : xM => .ret ()).run H.st s0 = _; rw [run_bind, e]; rfl)
    | exact .ret (by exact .inr rfl) (.none rfl) (by repeat' first | exact trivial | rfl | constructor) (by show (Pr.bind (.ask (vS 1 c v 0 y8) .ret) fun r : xM => .ret ()).run H.st s0 = _; rw [run_bind, e]; rfl)
theorem cas_h (H : Hnd) (s0 : H.σ) (c a b : Int) (ha : U a) (hb : U b) : FnH H 73 [H.doA, .p (.val (.int .i64 c)), .p (.val (.int .u64 a)), .p (.val (.int .u64 b))] [] (fun x => .p (.val (.bool x))) (fun _ => []) yes s0 (casP c a b) := by
  unfold Hnd.doA
  refine vJ Tryd.func73 rfl Tryd.ntmps73 (Nat.le_of_ble_eq_true rfl) (by decide) (fine_cas c ha hb) fun hok hns => ?_
  repeat' ((refine zX.is ?_; first | refine zX.seq ?_ | (refine zX.isR (id := 0) ?_; refine zX.zV [0, 1, 2, 3] [1000, 1001, 1002] (by repeat' first | exact zZ.nil | apply zZ.p rfl | apply zZ.clo rfl) (by repeat' first | exact zW.nil | apply zW.some rfl) ?_; (refine zY.v rfl rfl (zK rfl rfl rfl (by decide)) ?_); refine zY.nil ?_) | (refine zX.isR (id := 1) ?_; refine zX.zV [0, 1, 2, 3, 8] [1000, 1001, 1002] (by repeat' first | exact zZ.nil | apply zZ.p rfl | apply zZ.clo rfl) (by repeat' first | exact zW.nil | apply zW.some rfl) ?_; (refine zY.v rfl rfl (zM rfl rfl rfl (by decide)) ?_); (refine zY.v rfl rfl (zQ rfl rfl rfl (by decide)) ?_); (refine zY.v rfl rfl (zQ rfl rfl rfl (by decide)) ?_); (refine zY.v rfl rfl (zQ rfl rfl rfl (by decide)) ?_); (refine zY.v rfl rfl (zT rfl (by rfl) (by rfl) (by rfl) (by rfl) rfl (by decide)) ?_); (refine zY.ofT rfl (zI.held H [] rfl (by decide) (xZ rfl rfl) (by rfl) (by decide) (by rfl) (by rfl) (by rfl) (by repeat' exact trivial) rfl rfl (fun _ => rfl) (fun _ => ⟨rfl, rfl⟩) (by assumption) (do_h H s0 (vS 2 c a b y8) (fine_cas c ha hb).1) (fun x s e g hk => ?_) (fun q s e => ?_) ?_)); (refine zY.v rfl rfl (w_field1 rfl rfl rfl rfl (by decide)) ?_); (refine zY.v rfl rfl (yO rfl rfl rfl (by rfl) rfl (by decide)) ?_); (refine zY.v rfl rfl (zK rfl rfl rfl (by decide)) ?_); refine zY.nil ?_) | refine zX.ret ?_))
  all_goals first
    | exact fun e => absurd (by show (Pr.bind (.ask (vS 2 c a b y8) .ret) fun r : xM => .ret (decide (r.n = 1))).run H.st s0 = _; rw [run_bind, e]; rfl) hns
    | exact .pan (q := q) rfl (by repeat' first | exact trivial | rfl | constructor) (by repeat' exact trivial) (by show (Pr.bind (.ask (vS 2 c a b y8) .ret) fun r : xM => .ret (decide (r.n = 1))).run H.st s0 = _; rw [run_bind, e]; rfl)
    | exact .ret (by exact .inl rfl) (.one rfl rfl) (by repeat' first | exact trivial | rfl | constructor) (by show (Pr.bind (.ask (vS 2 c a b y8) .ret) fun r : xM => .ret (decide (r.n = 1))).run H.st s0 = _; rw [run_bind, e]; rfl)
theorem add_h (H : Hnd) (s0 : H.σ) (c v : Int) (hv : U v) : FnH H 44 [H.doA, .p (.val (.int .i64 c)), .p (.val (.int .u64 v))] [] (fun x => .p (.val (.int .u64 x))) (fun _ => []) U s0 (addP c v) := by
  unfold Hnd.doA
  refine vJ Tryd.func44 rfl Tryd.ntmps44 (Nat.le_of_ble_eq_true rfl) (by decide) (fine_add c hv) fun hok hns => ?_
  repeat' ((refine zX.is ?_; first | refine zX.seq ?_ | (refine zX.isR (id := 0) ?_; refine zX.zV [0, 1, 2] [1000, 1001, 1002] (by repeat' first | exact zZ.nil | apply zZ.p rfl | apply zZ.clo rfl) (by repeat' first | exact zW.nil | apply zW.some rfl) ?_; (refine zY.v rfl rfl (zK rfl rfl rfl (by decide)) ?_); refine zY.nil ?_) | (refine zX.isR (id := 1) ?_; refine zX.zV [0, 1, 2, 6] [1000, 1001, 1002] (by repeat' first | exact zZ.nil | apply zZ.p rfl | apply zZ.clo rfl) (by repeat' first | exact zW.nil | apply zW.some rfl) ?_; (refine zY.v rfl rfl (zM rfl rfl rfl (by decide)) ?_); (refine zY.v rfl rfl (zQ rfl rfl rfl (by decide)) ?_); (refine zY.v rfl rfl (zQ rfl rfl rfl (by decide)) ?_); (refine zY.v rfl rfl (zT rfl (by rfl) (by rfl) (by rfl) (by rfl) rfl (by decide)) ?_); (refine zY.ofT rfl (zI.held H [] rfl (by decide) (xZ rfl rfl) (by rfl) (by decide) (by rfl) (by rfl) (by rfl) (by repeat' exact trivial) rfl rfl (fun _ => rfl) (fun _ => ⟨rfl, rfl⟩) (by assumption) (do_h H s0 (vS 3 c v 0 y8) (fine_add c hv).1) (fun x s e g hk => ?_) (fun q s e => ?_) ?_)); (refine zY.v rfl rfl (w_field1 rfl rfl rfl rfl (by decide)) ?_); (refine zY.v rfl rfl (zK rfl rfl rfl (by decide)) ?_); refine zY.nil ?_) | refine zX.ret ?_))
  all_goals first
    | exact fun e => absurd (by show (Pr.bind (.ask (vS 3 c v 0 y8) .ret) fun r : xM => .ret r.n).run H.st s0 = _; rw [run_bind, e]; rfl) hns
    | exact .pan (q := q) rfl (by repeat' first | exact trivial | rfl | constructor) (by repeat' exact trivial) (by show (Pr.bind (.ask (vS 3 c v 0 y8) .ret) fun r : xM => .ret r.n).run H.st s0 = _; rw [run_bind, e]; rfl)
    | exact .ret (by exact .inl rfl) (.one rfl rfl) (by repeat' first | exact trivial | rfl | constructor) (by show (Pr.bind (.ask (vS 3 c v 0 y8) .ret) fun r : xM => .ret r.n).run H.st s0 = _; rw [run_bind, e]; rfl)
end Go.Proofs.YthnmfmdkdngggaaDoor
/- Words and cells, the program's and the document's: contracts. -/
namespace Go.Proofs.YthnmfmdkdngggaaDoor
set_option maxRecDepth 100000
set_option maxHeartbeats 16000000
open Go Go.RowKit
attribute [local irreducible] zY zX Step zC Sub zL Fn
theorem eqB' {a b : Bool} (h : a = b) : PV.val (.bool a) = PV.val (.bool b) := by rw [h]
def flagF (s b : Int) : Int := s % 4611686018427387904 * 4 + b % 4
def hasF (w b : Int) : Bool := (decide (b % 2 = 0) || decide (w % 2 = 1)) && (decide (b % 4 < 2) || decide (w / 2 % 2 = 1))
theorem wrapU (x : Int) : IntKind.u64.wrap x = x % 18446744073709551616 := by simp [IntKind.wrap, IntKind.signed, IntKind.bits]
theorem and3 (x : Int) (h0 : 0 ≤ x) (h1 : x < 18446744073709551616) : bits .and .u64 x 3 = x % 4 := by
  obtain ⟨n, rfl⟩ := Int.eq_ofNat_of_zero_le h0
  rw [show (3 : Int) = ((3 : Nat) : Int) from rfl, u64_and_nat n 3 (by omega) (by decide)]
  have : n &&& 3 = n % 4 := Nat.and_two_pow_sub_one_eq_mod n 2
  rw [this]
  omega
theorem orLow (a b : Int) (h0 : 0 ≤ a) (h1 : a < 4611686018427387904) (b0 : 0 ≤ b) (b1 : b < 4) : bits .or .u64 (a * 4) b = a * 4 + b := by
  obtain ⟨n, rfl⟩ := Int.eq_ofNat_of_zero_le h0
  obtain ⟨m, rfl⟩ := Int.eq_ofNat_of_zero_le b0
  rw [show (n : Int) * 4 = ((n * 4 : Nat) : Int) from by omega, u64_or_nat (n * 4) m (by omega) (by omega)]
  have : n * 4 ||| m = n * 4 + m := by
    have := Nat.shiftLeft_add_eq_or_of_lt (show m < 2 ^ 2 by omega) n
    rw [Nat.shiftLeft_eq] at this
    exact this.symm
  rw [this]
  omega
theorem andHas (w q : Int) (h0 : 0 ≤ w) (h1 : w < 18446744073709551616) (q0 : 0 ≤ q) (q1 : q < 4) : decide (bits .and .u64 w q = q) = ((decide (q % 2 = 0) || decide (w % 2 = 1)) && (decide (q < 2) || decide (w / 2 % 2 = 1))) := by
  obtain ⟨n, rfl⟩ := Int.eq_ofNat_of_zero_le h0
  have e : ∀ m : Nat, m < 4 → bits .and .u64 (n : Int) (m : Int) = ((n &&& m : Nat) : Int) := fun m hm => u64_and_nat n m (by omega) (by omega)
  have h : q = ((0 : Nat) : Int) ∨ q = ((1 : Nat) : Int) ∨ q = ((2 : Nat) : Int) ∨ q = ((3 : Nat) : Int) := by omega
  have b1 : n &&& 1 = n % 2 := Nat.and_two_pow_sub_one_eq_mod n 1
  have b3 : n &&& 3 = n % 4 := Nat.and_two_pow_sub_one_eq_mod n 2
  have b2 : n &&& 2 = n / 2 % 2 * 2 := by
    apply Nat.eq_of_testBit_eq
    intro i
    rw [Nat.testBit_and]
    match i with
    | 0 => simp [Nat.testBit_zero]
    | 1 => simp [Nat.testBit_succ, Nat.testBit_zero]
    | i + 2 => simp [Nat.testBit_succ]
  rcases h with rfl | rfl | rfl | rfl
  · rw [e 0 (by decide)]; simp
  · rw [e 1 (by decide), b1]; simp only [← Bool.decide_or, ← Bool.decide_and, decide_eq_decide]; omega
  · rw [e 2 (by decide), b2]; simp only [← Bool.decide_or, ← Bool.decide_and, decide_eq_decide]; omega
  · rw [e 3 (by decide), b3]; simp only [← Bool.decide_or, ← Bool.decide_and, decide_eq_decide]; omega
theorem flag_fn (s b : Int) : Fn Tryd.prog 45 [.val (.int .u64 s), .val (.int .i64 b)] (.p (.val (.int .u64 (flagF s b)))) := by
  have g1 : IntKind.u64.wrap (s * 2 ^ (2 : Int).toNat) = s % 4611686018427387904 * 4 := by rw [wrapU]; show s * 4 % _ = _; omega
  have g2 := wrapU b
  have g3 : bits .and .u64 (b % 18446744073709551616) 3 = b % 4 := by rw [and3 _ (by omega) (by omega)]; omega
  have g4 : bits .or .u64 (s % 4611686018427387904 * 4) (b % 4) = flagF s b := orLow _ _ (by omega) (by omega) (by omega) (by omega)
  refine vO Tryd.func45 rfl Tryd.ntmps45 (Nat.le_of_ble_eq_true rfl) ?_
  repeat' ((refine zX.is ?_; first | refine zX.seq ?_ | (refine zX.isR (id := 0) ?_; refine zX.zV [0, 1] [] (by repeat' first | exact zZ.nil | apply zZ.p rfl) (by repeat' exact zW.nil) ?_; (refine zY.v rfl rfl (zK rfl rfl rfl (by decide)) ?_); refine zY.nil ?_) | (refine zX.isR (id := 1) ?_; refine zX.zV [0, 1, 4] [] (by repeat' first | exact zZ.nil | apply zZ.p rfl) (by repeat' exact zW.nil) ?_; (refine zY.v rfl rfl (zQ rfl rfl rfl (by decide)) ?_); (refine zY.v rfl rfl (by exact a_shl rfl rfl rfl (by decide) (by decide) (by exact g1) rfl (by decide)) ?_); (refine zY.v rfl rfl (zQ rfl rfl rfl (by decide)) ?_); (refine zY.v rfl rfl (by exact y5 rfl rfl (by exact g2) rfl (by decide)) ?_); (refine zY.v rfl rfl (by exact a_and rfl rfl rfl (by exact g3) rfl (by decide)) ?_); (refine zY.v rfl rfl (by exact a_or rfl rfl rfl (by exact g4) rfl (by decide)) ?_); (refine zY.v rfl rfl (zK rfl rfl rfl (by decide)) ?_); refine zY.nil ?_) | refine zX.ret ?_))
  all_goals exact ⟨.inl rfl, gives1 rfl rfl rfl⟩
theorem wstamp_fn (w : Int) : Fn Tryd.prog 50 [.val (.int .u64 w)] (.p (.val (.int .u64 (w / 4)))) := by
  refine vO Tryd.func50 rfl Tryd.ntmps50 (Nat.le_of_ble_eq_true rfl) ?_
  repeat' ((refine zX.is ?_; first | refine zX.seq ?_ | (refine zX.isR (id := 0) ?_; refine zX.zV [0] [] (by repeat' first | exact zZ.nil | apply zZ.p rfl) (by repeat' exact zW.nil) ?_; (refine zY.v rfl rfl (zK rfl rfl rfl (by decide)) ?_); refine zY.nil ?_) | (refine zX.isR (id := 1) ?_; refine zX.zV [0, 2] [] (by repeat' first | exact zZ.nil | apply zZ.p rfl) (by repeat' exact zW.nil) ?_; (refine zY.v rfl rfl (zQ rfl rfl rfl (by decide)) ?_); (refine zY.v rfl rfl (by exact a_shr rfl rfl rfl (by decide) (by decide) (by (simp only [Int.reduceToNat, Int.reducePow]; rfl)) rfl (by decide)) ?_); (refine zY.v rfl rfl (zK rfl rfl rfl (by decide)) ?_); refine zY.nil ?_) | refine zX.ret ?_))
  all_goals exact ⟨.inl rfl, gives1 rfl rfl rfl⟩
theorem mark_fn (w : Int) (h0 : 0 ≤ w) (h1 : w < 18446744073709551616) : Fn Tryd.prog 52 [.val (.int .u64 w)] (.p (.val (.bool (decide (w % 2 = 1))))) := by
  have g1 : bits .and .u64 w 1 = w % 2 := by
    obtain ⟨n, rfl⟩ := Int.eq_ofNat_of_zero_le h0
    rw [show (1 : Int) = ((1 : Nat) : Int) from rfl, u64_and_nat n 1 (by omega) (by decide)]
    have : n &&& 1 = n % 2 := Nat.and_two_pow_sub_one_eq_mod n 1
    rw [this]
    omega
  refine vO Tryd.func52 rfl Tryd.ntmps52 (Nat.le_of_ble_eq_true rfl) ?_
  repeat' ((refine zX.is ?_; first | refine zX.seq ?_ | (refine zX.isR (id := 0) ?_; refine zX.zV [0] [] (by repeat' first | exact zZ.nil | apply zZ.p rfl) (by repeat' exact zW.nil) ?_; (refine zY.v rfl rfl (zK rfl rfl rfl (by decide)) ?_); refine zY.nil ?_) | (refine zX.isR (id := 1) ?_; refine zX.zV [0, 2] [] (by repeat' first | exact zZ.nil | apply zZ.p rfl) (by repeat' exact zW.nil) ?_; (refine zY.v rfl rfl (zQ rfl rfl rfl (by decide)) ?_); (refine zY.v rfl rfl (by exact a_and rfl rfl rfl (by exact g1) rfl (by decide)) ?_); (refine zY.v rfl rfl (yO rfl rfl rfl (by rfl) rfl (by decide)) ?_); (refine zY.v rfl rfl (zK rfl rfl rfl (by decide)) ?_); refine zY.nil ?_) | refine zX.ret ?_))
  all_goals exact ⟨.inl rfl, gives1 rfl rfl rfl⟩
theorem has_fn (w b : Int) (h0 : 0 ≤ w) (h1 : w < 18446744073709551616) : Fn Tryd.prog 55 [.val (.int .u64 w), .val (.int .i64 b)] (.p (.val (.bool (hasF w b)))) := by
  have g2 := wrapU b
  have g3 : bits .and .u64 (b % 18446744073709551616) 3 = b % 4 := by rw [and3 _ (by omega) (by omega)]; omega
  have g4 : decide (bits .and .u64 w (b % 4) = b % 4) = hasF w b := by
    rw [andHas w (b % 4) h0 h1 (by omega) (by omega)]
    unfold hasF
    have : b % 4 % 2 = b % 2 := by omega
    rw [this]
  refine vO Tryd.func55 rfl Tryd.ntmps55 (Nat.le_of_ble_eq_true rfl) ?_
  repeat' ((refine zX.is ?_; first | refine zX.seq ?_ | (refine zX.isR (id := 0) ?_; refine zX.zV [0, 1] [] (by repeat' first | exact zZ.nil | apply zZ.p rfl) (by repeat' exact zW.nil) ?_; (refine zY.v rfl rfl (zK rfl rfl rfl (by decide)) ?_); refine zY.nil ?_) | (refine zX.isR (id := 1) ?_; refine zX.zV [0, 1, 4] [] (by repeat' first | exact zZ.nil | apply zZ.p rfl) (by repeat' exact zW.nil) ?_; (refine zY.v rfl rfl (zQ rfl rfl rfl (by decide)) ?_); (refine zY.v rfl rfl (by exact y5 rfl rfl (by exact g2) rfl (by decide)) ?_); (refine zY.v rfl rfl (by exact a_and rfl rfl rfl (by exact g3) rfl (by decide)) ?_); (refine zY.v rfl rfl (zK rfl rfl rfl (by decide)) ?_); refine zY.nil ?_) | (refine zX.isR (id := 2) ?_; refine zX.zV [0, 4, 5] [] (by repeat' first | exact zZ.nil | apply zZ.p rfl) (by repeat' exact zW.nil) ?_; (refine zY.v rfl rfl (zQ rfl rfl rfl (by decide)) ?_); (refine zY.v rfl rfl (zQ rfl rfl rfl (by decide)) ?_); (refine zY.v rfl rfl (a_and rfl rfl rfl (by rfl) rfl (by decide)) ?_); (refine zY.v rfl rfl (zQ rfl rfl rfl (by decide)) ?_); (refine zY.v rfl rfl (by exact yO rfl rfl rfl (by exact g4) rfl (by decide)) ?_); (refine zY.v rfl rfl (zK rfl rfl rfl (by decide)) ?_); refine zY.nil ?_) | refine zX.ret ?_))
  all_goals exact ⟨.inl rfl, gives1 rfl rfl rfl⟩
/-- where a record's field lies -/
def y9 (t r f : Int) : Int := 8 + t + 8 * (r - 1) + f
def Small (x : Int) : Prop := -1073741824 ≤ x ∧ x ≤ 1073741824
theorem size_fn (t c : Int) (h0 : Small t) (h1 : Small c) : Fn Tryd.prog 72 [.val (.int .i64 t), .val (.int .i64 c)] (.p (.val (.int .i64 (8 + t + 8 * c)))) := by
  unfold Small at h0 h1
  refine vO Tryd.func72 rfl Tryd.ntmps72 (Nat.le_of_ble_eq_true rfl) ?_
  repeat' ((refine zX.is ?_; first | refine zX.seq ?_ | (refine zX.isR (id := 0) ?_; refine zX.zV [0, 1] [] (by repeat' first | exact zZ.nil | apply zZ.p rfl) (by repeat' exact zW.nil) ?_; (refine zY.v rfl rfl (zK rfl rfl rfl (by decide)) ?_); refine zY.nil ?_) | (refine zX.isR (id := 1) ?_; refine zX.zV [0, 1, 4] [] (by repeat' first | exact zZ.nil | apply zZ.p rfl) (by repeat' exact zW.nil) ?_; (refine zY.v rfl rfl (zQ rfl rfl rfl (by decide)) ?_); (refine zY.v rfl rfl (by exact yE rfl rfl rfl (by exact wrap_i64 _ (by omega)) rfl (by decide)) ?_); (refine zY.v rfl rfl (zQ rfl rfl rfl (by decide)) ?_); (refine zY.v rfl rfl (by exact a_mul rfl rfl rfl (by exact wrap_i64 _ (by omega)) rfl (by decide)) ?_); (refine zY.v rfl rfl (by exact yE rfl rfl rfl (by exact wrap_i64 _ (by omega)) rfl (by decide)) ?_); (refine zY.v rfl rfl (zK rfl rfl rfl (by decide)) ?_); refine zY.nil ?_) | refine zX.ret ?_))
  all_goals exact ⟨.inl rfl, gives1 rfl rfl rfl⟩
theorem field_fn (t r f : Int) (h0 : Small t) (h1 : 0 ≤ r ∧ r ≤ 1048576) (h2 : Small f) : Fn Tryd.prog 47 [.val (.int .i64 t), .val (.int .i64 r), .val (.int .i64 f)] (.p (.val (.int .i64 (y9 t r f)))) := by
  have c1 := size_fn t (r - 1) h0 (by unfold Small; omega)
  unfold Small at h0 h2
  refine vO Tryd.func47 rfl Tryd.ntmps47 (Nat.le_of_ble_eq_true rfl) ?_
  repeat' ((refine zX.is ?_; first | refine zX.seq ?_ | (refine zX.isR (id := 0) ?_; refine zX.zV [0, 1, 2] [] (by repeat' first | exact zZ.nil | apply zZ.p rfl) (by repeat' exact zW.nil) ?_; (refine zY.v rfl rfl (zK rfl rfl rfl (by decide)) ?_); refine zY.nil ?_) | (refine zX.isR (id := 1) ?_; refine zX.zV [0, 1, 2, 6] [] (by repeat' first | exact zZ.nil | apply zZ.p rfl) (by repeat' exact zW.nil) ?_; (refine zY.v rfl rfl (zQ rfl rfl rfl (by decide)) ?_); (refine zY.v rfl rfl (zQ rfl rfl rfl (by decide)) ?_); (refine zY.v rfl rfl (by exact a_sub rfl rfl rfl (by exact wrap_i64 _ (by omega)) rfl (by decide)) ?_); (refine zY.v rfl rfl (by exact zR (c1) rfl rfl rfl (by decide)) ?_); (refine zY.v rfl rfl (zQ rfl rfl rfl (by decide)) ?_); (refine zY.v rfl rfl (by exact yE rfl rfl rfl (by exact wrap_i64 _ (by omega)) rfl (by decide)) ?_); (refine zY.v rfl rfl (zK rfl rfl rfl (by decide)) ?_); refine zY.nil ?_) | refine zX.ret ?_))
  all_goals exact ⟨.inl rfl, gives1 rfl rfl rfl⟩
theorem fieldRef_fn (t r f : Int) (h0 : Small t) (h1 : 0 ≤ r ∧ r ≤ 1048576) (h2 : Small f) : Fn Tryd.prog 12 [.val (.int .i64 t), .val (.int .i64 r), .val (.int .i64 f)] (.p (.val (.int .i64 (y9 t r f)))) := by
  unfold Small at h0 h2
  refine vO Tryd.func12 rfl Tryd.ntmps12 (Nat.le_of_ble_eq_true rfl) ?_
  repeat' ((refine zX.is ?_; first | refine zX.seq ?_ | (refine zX.isR (id := 0) ?_; refine zX.zV [0, 1, 2] [] (by repeat' first | exact zZ.nil | apply zZ.p rfl) (by repeat' exact zW.nil) ?_; (refine zY.v rfl rfl (zK rfl rfl rfl (by decide)) ?_); refine zY.nil ?_) | (refine zX.isR (id := 1) ?_; refine zX.zV [0, 1, 2, 6] [] (by repeat' first | exact zZ.nil | apply zZ.p rfl) (by repeat' exact zW.nil) ?_; (refine zY.v rfl rfl (zQ rfl rfl rfl (by decide)) ?_); (refine zY.v rfl rfl (by exact yE rfl rfl rfl (by exact wrap_i64 _ (by omega)) rfl (by decide)) ?_); (refine zY.v rfl rfl (zQ rfl rfl rfl (by decide)) ?_); (refine zY.v rfl rfl (by exact a_sub rfl rfl rfl (by exact wrap_i64 _ (by omega)) rfl (by decide)) ?_); (refine zY.v rfl rfl (by exact a_mul rfl rfl rfl (by exact wrap_i64 _ (by omega)) rfl (by decide)) ?_); (refine zY.v rfl rfl (by exact yE rfl rfl rfl (by exact wrap_i64 _ (by omega)) rfl (by decide)) ?_); (refine zY.v rfl rfl (zQ rfl rfl rfl (by decide)) ?_); (refine zY.v rfl rfl (by exact yE rfl rfl rfl (by exact wrap_i64 _ (by omega)) rfl (by decide)) ?_); (refine zY.v rfl rfl (zK rfl rfl rfl (by decide)) ?_); refine zY.nil ?_) | refine zX.ret ?_))
  all_goals exact ⟨.inl rfl, gives1 rfl rfl rfl⟩
theorem next_fn (t r : Int) (h0 : Small t) (h1 : 1 ≤ r ∧ r ≤ 1048576) : Fn Tryd.prog 49 [.val (.int .i64 t), .val (.int .i64 r)] (.p (.val (.int .i64 (y9 t r 0)))) := by
  have c1 := field_fn t r 0 h0 (by omega) (by unfold Small; omega)
  have g1 : decide (r = 0) = false := decide_eq_false (by omega)
  refine vO Tryd.func49 rfl Tryd.ntmps49 (Nat.le_of_ble_eq_true rfl) ?_
  repeat' ((refine zX.is ?_; first | refine zX.seq ?_ | (refine zX.isR (id := 0) ?_; refine zX.zV [0, 1] [] (by repeat' first | exact zZ.nil | apply zZ.p rfl) (by repeat' exact zW.nil) ?_; (refine zY.v rfl rfl (zK rfl rfl rfl (by decide)) ?_); refine zY.nil ?_) | (refine zX.isR (id := 1) ?_; refine zX.zV [0, 1, 4] [] (by repeat' first | exact zZ.nil | apply zZ.p rfl) (by repeat' exact zW.nil) ?_; (refine zY.v rfl rfl (zQ rfl rfl rfl (by decide)) ?_); (refine zY.v rfl rfl (by exact yO rfl rfl rfl (by exact g1) rfl (by decide)) ?_); refine zY.nil ?_) | (refine zX.isR (id := 3) ?_; refine zX.zV [0, 1, 4] [] (by repeat' first | exact zZ.nil | apply zZ.p rfl) (by repeat' exact zW.nil) ?_; (refine zY.v rfl rfl (zQ rfl rfl rfl (by decide)) ?_); (refine zY.v rfl rfl (zQ rfl rfl rfl (by decide)) ?_); (refine zY.v rfl rfl (by exact zR (c1) rfl rfl rfl (by decide)) ?_); (refine zY.v rfl rfl (zK rfl rfl rfl (by decide)) ?_); refine zY.nil ?_) | refine zX.yN rfl (by first | assumption | with_reducible rfl) ?_ | refine zX.skip ?_ | refine zX.ret ?_))
  all_goals exact ⟨.inl rfl, gives1 rfl rfl rfl⟩
/-- a flag with a bit -/
def withF (f b : Int) : Int := if hasF f b then f else f + b
end Go.Proofs.YthnmfmdkdngggaaDoor
/- Operations of records, and their answers. -/
namespace Go.Proofs.YthnmfmdkdngggaaDoor
set_option maxRecDepth 100000
set_option maxHeartbeats 16000000
open Go Go.RowKit
/-- a record's place -/
def Rec (t r : Int) : Prop := Small t ∧ 1 ≤ r ∧ r ≤ 1048576
def outV (e : Int) (is : Bool) (n w : Int) : PV := .agg [.val (.int .i64 e), .val (.bool is), .val (.int .i64 n), .val (.int .u64 w), y8]
def opV (k u v w : Int) : PV := .agg [.val (.int .i64 k), .val (.int .i64 u), .val (.int .i64 v), .val (.int .u64 w)]
structure OutI where
  e : Int
  is : Bool
  w : Int
/-- an operation of a record, and of a bit -/
structure OpOK (t k u v w : Int) : Prop where
  rec_ : k = 20 ∨ k = 21 ∨ k = 22 ∨ k = 23 ∨ k = 7 → Rec t u
  bit : k = 7 ∨ k = 23 → v = 1 ∨ v = 2
  w : U w
def opB (k u v w : Int) : Blk := .box 42 [.p (.val (.int .i64 k)), .p (.val (.int .i64 u)), .p (.val (.int .i64 v)), .p (.val (.int .u64 w))]
def outR (o : OutI) : AV := .p (outV o.e o.is 0 o.w)
end Go.Proofs.YthnmfmdkdngggaaDoor
