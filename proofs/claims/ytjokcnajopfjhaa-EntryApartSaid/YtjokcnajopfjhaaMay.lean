/- Contracts of May, both: which entries may be. -/
import Derived.Test.YtjokcnajopfjhaaLeaf
namespace Go.Proofs.Ytjokcnajopfjhaa
open Go.RowKit

def mayB (k s y u v x : Int) : Bool :=
  if k = 1 then stampB s && rightB y && (if y % 2147483648 = 0 then decide (u = 0 ∧ v = 0) else stampB u && stampB v)
  else if k = 2 then stampB s && decide (y = 0 ∧ u = 0 ∧ v = 0 ∧ x = 0)
  else if k = 3 then decide (s ≤ 65536) && decide (y = 0 ∧ u = 0 ∧ v = 0 ∧ x = 0)
  else false

set_option maxRecDepth 100000 in
set_option maxHeartbeats 1000000 in
theorem may_any (k s y u v x : Int) (w : World) (h0 : 0 ≤ y) (h1 : y < 18446744073709551616) :
    Calls Try.prog 12 #[.agg #[.int .i64 k, .int .u64 s, .int .u64 y, .int .u64 u, .int .u64 v, .int .u64 x]] w fun e w' =>
      e = .returned (.bool (mayB k s y u v x)) ∧ w.alloc (.cells #[.int .i64 k, .int .u64 s, .int .u64 y, .int .u64 u, .int .u64 v, .int .u64 x] 24) = w' := by
  go_enter Try.func12, Try.ntmps12
  go_wp2_with (first | (go_at_call 17; refine (stamp_any _ _).mono ?_; rintro e w' ⟨rfl, rfl⟩) | (go_at_call 18; refine (right_any _ _ h0 h1).mono ?_; rintro e w' ⟨rfl, rfl⟩) | (go_at_call 19; refine (split_any _ _ h0 h1).mono ?_; rintro e w' ⟨rfl, rfl⟩))
  all_goals go_ret
  all_goals refine ⟨ret_bool ?_, by first | rfl | simp only [*]⟩
  all_goals simp only [beq_iff_eq, beq_eq_false_iff_ne, ne_eq, Bool.not_eq_true', Bool.not_eq_false', Bool.not_eq_true] at *
  all_goals try subst k
  all_goals try (have hq : y % 2147483648 = 0 := by omega)
  all_goals try (have hq : ¬ y % 2147483648 = 0 := by omega)
  all_goals try (have hq : ¬ s ≤ 65536 := by omega)
  all_goals (unfold mayB; first | (simp [*]; done) | (simp [*]; rfl))

set_option maxRecDepth 100000 in
set_option maxHeartbeats 1000000 in
theorem mayRef_any (k s y u v x : Int) (w : World) (h0 : 0 ≤ y) (h1 : y < 18446744073709551616) :
    Calls Try.prog 13 #[.agg #[.int .i64 k, .int .u64 s, .int .u64 y, .int .u64 u, .int .u64 v, .int .u64 x]] w fun e w' =>
      e = .returned (.bool (mayB k s y u v x)) ∧ w.alloc (.cells #[.int .i64 k, .int .u64 s, .int .u64 y, .int .u64 u, .int .u64 v, .int .u64 x] 24) = w' := by
  go_enter Try.func13, Try.ntmps13
  go_wp2_with (first | (go_at_call 21; refine (stampRef_any _ _).mono ?_; rintro e w' ⟨rfl, rfl⟩) | (go_at_call 20; refine (rightRef_any _ _ h0 h1).mono ?_; rintro e w' ⟨rfl, rfl⟩))
  all_goals go_ret
  all_goals refine ⟨ret_bool ?_, by first | rfl | simp only [*]⟩
  all_goals simp only [beq_iff_eq, beq_eq_false_iff_ne, bne_iff_ne, bne_eq_false_iff_eq, ne_eq, Bool.not_eq_true', Bool.not_eq_false', Bool.not_eq_true] at *
  all_goals try subst k
  all_goals try (have hq : ¬ s ≤ 65536 := by omega)
  all_goals (unfold mayB; first | (simp [*]; done) | (simp [*]; rfl))

end Go.Proofs.Ytjokcnajopfjhaa
