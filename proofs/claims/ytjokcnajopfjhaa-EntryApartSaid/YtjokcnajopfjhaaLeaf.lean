/- Contracts of the leaf functions: keys and stamps. -/
import Derived.Test.YtjokcnajopfjhaaLib
namespace Go.Proofs.Ytjokcnajopfjhaa
open Go.RowKit

theorem ret_bool {a b : Bool} (h : a = b) : Ending.returned (.bool a) = Ending.returned (.bool b) := by rw [h]
theorem ret_int {k : IntKind} {a b : Int} (h : a = b) : Ending.returned (.int k a) = Ending.returned (.int k b) := by rw [h]

def stampB (n : Int) : Bool := decide (0 < n ∧ n < 4611686018427387904)
def rightB (k : Int) : Bool := decide (k / 2147483648 < 1073741824 ∧ k % 2147483648 ≤ 1073741824)

theorem and_mask31 (n : Int) (h0 : 0 ≤ n) (h1 : n < 18446744073709551616) : bits .and .u64 n 2147483647 = n % 2147483648 := by
  obtain ⟨k, rfl⟩ := Int.eq_ofNat_of_zero_le h0
  have h := bits_and_u64_nat k 2147483647 (by omega) (by omega)
  have e : k &&& 2147483647 = k % 2147483648 := Nat.and_two_pow_sub_one_eq_mod k 31
  rw [e] at h
  exact h

theorem stampB_yes {n : Int} (h : 0 < n) : stampB n = decide (n < 4611686018427387904) := by simp [stampB, h]
theorem stampB_yes' {n : Int} (h : 1 ≤ n) : stampB n = decide (n ≤ 4611686018427387903) := by
  unfold stampB
  rw [decide_eq_decide]
  omega
theorem stampB_no {n : Int} (h : n ≤ 0) : stampB n = false := by
  unfold stampB
  rw [decide_eq_false_iff_not]
  omega
theorem rightB_yes {n : Int} (h : n / 2147483648 < 1073741824) : rightB n = decide (n % 2147483648 ≤ 1073741824) := by simp [rightB, h]
theorem rightB_no {n : Int} (h : 1073741824 ≤ n / 2147483648) : rightB n = false := by
  unfold rightB
  rw [decide_eq_false_iff_not]
  omega

set_option maxHeartbeats 400000 in
theorem stamp_any (n : Int) (w : World) :
    Calls Try.prog 17 #[.int .u64 n] w fun e w' => e = .returned (.bool (stampB n)) ∧ w = w' := by
  go_enter Try.func17, Try.ntmps17
  go_wp2
  all_goals go_ret
  · exact ⟨ret_bool (stampB_yes (by assumption)).symm, rfl⟩
  · exact ⟨ret_bool (stampB_no (by assumption)).symm, rfl⟩

set_option maxHeartbeats 400000 in
theorem stampRef_any (n : Int) (w : World) :
    Calls Try.prog 21 #[.int .u64 n] w fun e w' => e = .returned (.bool (stampB n)) ∧ w = w' := by
  go_enter Try.func21, Try.ntmps21
  go_wp2
  all_goals go_ret
  · exact ⟨ret_bool (stampB_yes' (by assumption)).symm, rfl⟩
  · exact ⟨ret_bool (stampB_no (by omega)).symm, rfl⟩

set_option maxHeartbeats 400000 in
theorem right_any (n : Int) (w : World) (h0 : 0 ≤ n) (h1 : n < 18446744073709551616) :
    Calls Try.prog 18 #[.int .u64 n] w fun e w' => e = .returned (.bool (rightB n)) ∧ w = w' := by
  have hm := and_mask31 n h0 h1
  go_enter Try.func18, Try.ntmps18
  go_wp2
  all_goals go_ret
  · exact ⟨ret_bool (rightB_yes (by assumption)).symm, rfl⟩
  · exact ⟨ret_bool (rightB_no (by assumption)).symm, rfl⟩

set_option maxHeartbeats 400000 in
theorem rightRef_any (n : Int) (w : World) (h0 : 0 ≤ n) (h1 : n < 18446744073709551616) :
    Calls Try.prog 20 #[.int .u64 n] w fun e w' => e = .returned (.bool (rightB n)) ∧ w = w' := by
  go_enter Try.func20, Try.ntmps20
  go_wp2
  all_goals go_ret
  · exact ⟨ret_bool (rightB_yes (by omega)).symm, rfl⟩
  · exact ⟨ret_bool (rightB_no (by omega)).symm, rfl⟩

set_option maxHeartbeats 400000 in
theorem split_any (n : Int) (w : World) (h0 : 0 ≤ n) (h1 : n < 18446744073709551616) :
    Calls Try.prog 19 #[.int .u64 n] w fun e w' => e = .returned (.tuple #[.int .i64 (n / 2147483648), .int .i64 (n % 2147483648 - 1)]) ∧ w = w' := by
  have hm := and_mask31 n h0 h1
  go_enter Try.func19, Try.ntmps19
  go_wp2
  go_ret2
  exact ⟨rfl, rfl⟩

end Go.Proofs.Ytjokcnajopfjhaa
