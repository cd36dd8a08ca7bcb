/- For every input ListNext returns true, and leaves its argument as it was. Conditions: none beyond the given statement. (Part 5 of 8.) -/
import Derived.Test.YtohlllohmoojiaaGreatDoorLn4
import Derived.Laws.BitsAllLaws
import Derived.Scope
/- Words and cells, the program's and the document's: contracts. -/
namespace Go.Proofs.YtohlllohmoojiaaGreatDoor
set_option maxRecDepth 100000
set_option maxHeartbeats 16000000
open Go Go.RowKit
attribute [local irreducible] zY zZ Step zK Sub zS Fn
theorem eqB' {a b : Bool} (h : a = b) : PV.val (.bool a) = PV.val (.bool b) := by rw [h]
def flagF (s b : Int) : Int := s % 4611686018427387904 * 4 + b % 4
def hasF (w b : Int) : Bool := (decide (b % 2 = 0) || decide (w % 2 = 1)) && (decide (b % 4 < 2) || decide (w / 2 % 2 = 1))
theorem wrapU (x : Int) : IntKind.u64.wrap x = x % 18446744073709551616 := by simp [IntKind.wrap, IntKind.signed, IntKind.bits]
theorem and3 (x : Int) (h0 : 0 ≤ x) (h1 : x < 18446744073709551616) : bits .and .u64 x 3 = x % 4 := by
  obtain ⟨n, rfl⟩ := Int.eq_ofNat_of_zero_le h0
  rw [show (3 : Int) = ((3 : Nat) : Int) from rfl, u64_and_nat n 3 (by omega) (by decide)]
  have : n &&& 3 = n % 4 := Nat.and_two_pow_sub_one_eq_mod n 2
  rw [this]
  omega
theorem andHas (w q : Int) (h0 : 0 ≤ w) (h1 : w < 18446744073709551616) (q0 : 0 ≤ q) (q1 : q < 4) : decide (bits .and .u64 w q = q) = ((decide (q % 2 = 0) || decide (w % 2 = 1)) && (decide (q < 2) || decide (w / 2 % 2 = 1))) := by
  obtain ⟨n, rfl⟩ := Int.eq_ofNat_of_zero_le h0
  have e : ∀ m : Nat, m < 4 → bits .and .u64 (n : Int) (m : Int) = ((n &&& m : Nat) : Int) := fun m hm => u64_and_nat n m (by omega) (by omega)
  have h : q = ((0 : Nat) : Int) ∨ q = ((1 : Nat) : Int) ∨ q = ((2 : Nat) : Int) ∨ q = ((3 : Nat) : Int) := by omega
  have b1 : n &&& 1 = n % 2 := Nat.and_two_pow_sub_one_eq_mod n 1
  have b3 : n &&& 3 = n % 4 := Nat.and_two_pow_sub_one_eq_mod n 2
  have b2 : n &&& 2 = n / 2 % 2 * 2 := by
    apply Nat.eq_of_testBit_eq
    intro i
    rw [Nat.testBit_and]
    match i with
    | 0 => simp [Nat.testBit_zero]
    | 1 => simp [Nat.testBit_succ, Nat.testBit_zero]
    | i + 2 => simp [Nat.testBit_succ]
  rcases h with rfl | rfl | rfl | rfl
  · rw [e 0 (by decide)]; simp
  · rw [e 1 (by decide), b1]; simp only [← Bool.decide_or, ← Bool.decide_and, decide_eq_decide]; omega
  · rw [e 2 (by decide), b2]; simp only [← Bool.decide_or, ← Bool.decide_and, decide_eq_decide]; omega
  · rw [e 3 (by decide), b3]; simp only [← Bool.decide_or, ← Bool.decide_and, decide_eq_decide]; omega
theorem wstamp_fn (w : Int) : Fn Tryz.prog 103 [.val (.int .u64 w)] (.p (.val (.int .u64 (w / 4)))) := by
  refine wW Tryz.func103 rfl Tryz.ntmps103 (Nat.le_of_ble_eq_true rfl) ?_
  repeat' ((refine zZ.is ?_; first | refine zZ.seq ?_ | (refine zZ.isR (id := 0) ?_; refine zZ.zR [0] [] (by repeat' first | exact zX.nil | apply zX.p rfl) (by repeat' exact zW.nil) ?_; (refine zY.v rfl rfl (zV rfl rfl rfl (by decide)) ?_); refine zY.nil ?_) | (refine zZ.isR (id := 1) ?_; refine zZ.zR [0, 2] [] (by repeat' first | exact zX.nil | apply zX.p rfl) (by repeat' exact zW.nil) ?_; (refine zY.v rfl rfl (zQ rfl rfl rfl (by decide)) ?_); (refine zY.v rfl rfl (by exact a_shr rfl rfl rfl (by decide) (by decide) (by (simp only [Int.reduceToNat, Int.reducePow]; rfl)) rfl (by decide)) ?_); (refine zY.v rfl rfl (zV rfl rfl rfl (by decide)) ?_); refine zY.nil ?_) | refine zZ.ret ?_))
  all_goals exact ⟨.inl rfl, gives1 rfl rfl rfl⟩
theorem wstampRef_fn (w : Int) (h0 : 0 ≤ w) (h1 : w < 18446744073709551616) : Fn Tryz.prog 113 [.val (.int .u64 w)] (.p (.val (.int .u64 (w / 4)))) := by
  have g1 : IntKind.u64.wrap (w.tdiv 4) = w / 4 := by rw [Int.tdiv_eq_ediv_of_nonneg h0, wrapU]; omega
  refine wW Tryz.func113 rfl Tryz.ntmps113 (Nat.le_of_ble_eq_true rfl) ?_
  repeat' ((refine zZ.is ?_; first | refine zZ.seq ?_ | (refine zZ.isR (id := 0) ?_; refine zZ.zR [0] [] (by repeat' first | exact zX.nil | apply zX.p rfl) (by repeat' exact zW.nil) ?_; (refine zY.v rfl rfl (zV rfl rfl rfl (by decide)) ?_); refine zY.nil ?_) | (refine zZ.isR (id := 1) ?_; refine zZ.zR [0, 2] [] (by repeat' first | exact zX.nil | apply zX.p rfl) (by repeat' exact zW.nil) ?_; (refine zY.v rfl rfl (zQ rfl rfl rfl (by decide)) ?_); (refine zY.v rfl rfl (by exact a_quo rfl rfl rfl (by decide) (by exact g1) rfl (by decide)) ?_); (refine zY.v rfl rfl (zV rfl rfl rfl (by decide)) ?_); refine zY.nil ?_) | refine zZ.ret ?_))
  all_goals exact ⟨.inl rfl, gives1 rfl rfl rfl⟩
theorem mark_fn (w : Int) (h0 : 0 ≤ w) (h1 : w < 18446744073709551616) : Fn Tryz.prog 85 [.val (.int .u64 w)] (.p (.val (.bool (decide (w % 2 = 1))))) := by
  have g1 : bits .and .u64 w 1 = w % 2 := by
    obtain ⟨n, rfl⟩ := Int.eq_ofNat_of_zero_le h0
    rw [show (1 : Int) = ((1 : Nat) : Int) from rfl, u64_and_nat n 1 (by omega) (by decide)]
    have : n &&& 1 = n % 2 := Nat.and_two_pow_sub_one_eq_mod n 1
    rw [this]
    omega
  refine wW Tryz.func85 rfl Tryz.ntmps85 (Nat.le_of_ble_eq_true rfl) ?_
  repeat' ((refine zZ.is ?_; first | refine zZ.seq ?_ | (refine zZ.isR (id := 0) ?_; refine zZ.zR [0] [] (by repeat' first | exact zX.nil | apply zX.p rfl) (by repeat' exact zW.nil) ?_; (refine zY.v rfl rfl (zV rfl rfl rfl (by decide)) ?_); refine zY.nil ?_) | (refine zZ.isR (id := 1) ?_; refine zZ.zR [0, 2] [] (by repeat' first | exact zX.nil | apply zX.p rfl) (by repeat' exact zW.nil) ?_; (refine zY.v rfl rfl (zQ rfl rfl rfl (by decide)) ?_); (refine zY.v rfl rfl (by exact a_and rfl rfl rfl (by exact g1) rfl (by decide)) ?_); (refine zY.v rfl rfl (wM rfl rfl rfl (by rfl) rfl (by decide)) ?_); (refine zY.v rfl rfl (zV rfl rfl rfl (by decide)) ?_); refine zY.nil ?_) | refine zZ.ret ?_))
  all_goals exact ⟨.inl rfl, gives1 rfl rfl rfl⟩
theorem markRef_fn (w : Int) (h0 : 0 ≤ w) : Fn Tryz.prog 92 [.val (.int .u64 w)] (.p (.val (.bool (decide (w % 2 = 1))))) := by
  have g1 : w.tmod 2 = w % 2 := Int.tmod_eq_emod_of_nonneg h0
  refine wW Tryz.func92 rfl Tryz.ntmps92 (Nat.le_of_ble_eq_true rfl) ?_
  repeat' ((refine zZ.is ?_; first | refine zZ.seq ?_ | (refine zZ.isR (id := 0) ?_; refine zZ.zR [0] [] (by repeat' first | exact zX.nil | apply zX.p rfl) (by repeat' exact zW.nil) ?_; (refine zY.v rfl rfl (zV rfl rfl rfl (by decide)) ?_); refine zY.nil ?_) | (refine zZ.isR (id := 1) ?_; refine zZ.zR [0, 2] [] (by repeat' first | exact zX.nil | apply zX.p rfl) (by repeat' exact zW.nil) ?_; (refine zY.v rfl rfl (zQ rfl rfl rfl (by decide)) ?_); (refine zY.v rfl rfl (by exact a_rem rfl rfl rfl (by decide) (by exact g1) rfl (by decide)) ?_); (refine zY.v rfl rfl (wM rfl rfl rfl (by rfl) rfl (by decide)) ?_); (refine zY.v rfl rfl (zV rfl rfl rfl (by decide)) ?_); refine zY.nil ?_) | refine zZ.ret ?_))
  all_goals exact ⟨.inl rfl, gives1 rfl rfl rfl⟩
theorem has_fn (w b : Int) (h0 : 0 ≤ w) (h1 : w < 18446744073709551616) : Fn Tryz.prog 148 [.val (.int .u64 w), .val (.int .i64 b)] (.p (.val (.bool (hasF w b)))) := by
  have g2 := wrapU b
  have g3 : bits .and .u64 (b % 18446744073709551616) 3 = b % 4 := by rw [and3 _ (by omega) (by omega)]; omega
  have g4 : decide (bits .and .u64 w (b % 4) = b % 4) = hasF w b := by
    rw [andHas w (b % 4) h0 h1 (by omega) (by omega)]
    unfold hasF
    have : b % 4 % 2 = b % 2 := by omega
    rw [this]
  refine wW Tryz.func148 rfl Tryz.ntmps148 (Nat.le_of_ble_eq_true rfl) ?_
  repeat' ((refine zZ.is ?_; first | refine zZ.seq ?_ | (refine zZ.isR (id := 0) ?_; refine zZ.zR [0, 1] [] (by repeat' first | exact zX.nil | apply zX.p rfl) (by repeat' exact zW.nil) ?_; (refine zY.v rfl rfl (zV rfl rfl rfl (by decide)) ?_); refine zY.nil ?_) | (refine zZ.isR (id := 1) ?_; refine zZ.zR [0, 1, 4] [] (by repeat' first | exact zX.nil | apply zX.p rfl) (by repeat' exact zW.nil) ?_; (refine zY.v rfl rfl (zQ rfl rfl rfl (by decide)) ?_); (refine zY.v rfl rfl (by exact wG rfl rfl (by exact g2) rfl (by decide)) ?_); (refine zY.v rfl rfl (by exact a_and rfl rfl rfl (by exact g3) rfl (by decide)) ?_); (refine zY.v rfl rfl (zV rfl rfl rfl (by decide)) ?_); refine zY.nil ?_) | (refine zZ.isR (id := 2) ?_; refine zZ.zR [0, 4, 5] [] (by repeat' first | exact zX.nil | apply zX.p rfl) (by repeat' exact zW.nil) ?_; (refine zY.v rfl rfl (zQ rfl rfl rfl (by decide)) ?_); (refine zY.v rfl rfl (zQ rfl rfl rfl (by decide)) ?_); (refine zY.v rfl rfl (a_and rfl rfl rfl (by rfl) rfl (by decide)) ?_); (refine zY.v rfl rfl (zQ rfl rfl rfl (by decide)) ?_); (refine zY.v rfl rfl (by exact wM rfl rfl rfl (by exact g4) rfl (by decide)) ?_); (refine zY.v rfl rfl (zV rfl rfl rfl (by decide)) ?_); refine zY.nil ?_) | refine zZ.ret ?_))
  all_goals exact ⟨.inl rfl, gives1 rfl rfl rfl⟩
theorem hasRef_fn (w b : Int) (h0 : 0 ≤ w) (h1 : w < 18446744073709551616) : Fn Tryz.prog 151 [.val (.int .u64 w), .val (.int .i64 b)] (.p (.val (.bool (hasF w b)))) := by
  have g2 := wrapU b
  have g3 : (b % 18446744073709551616).tmod 4 = b % 4 := by rw [Int.tmod_eq_emod_of_nonneg (by omega)]; omega
  have g4 : (b % 4).tmod 2 = b % 2 := by rw [Int.tmod_eq_emod_of_nonneg (by omega)]; omega
  have g5 : w.tmod 2 = w % 2 := Int.tmod_eq_emod_of_nonneg h0
  have g6 : IntKind.u64.wrap (w.tdiv 2) = w / 2 := by rw [Int.tdiv_eq_ediv_of_nonneg h0, wrapU]; omega
  have g7 : (w / 2).tmod 2 = w / 2 % 2 := Int.tmod_eq_emod_of_nonneg (by omega)
  refine wW Tryz.func151 rfl Tryz.ntmps151 (Nat.le_of_ble_eq_true rfl) ?_
  repeat' ((refine zZ.is ?_; first | refine zZ.seq ?_ | (refine zZ.isR (id := 0) ?_; refine zZ.zR [0, 1] [] (by repeat' first | exact zX.nil | apply zX.p rfl) (by repeat' exact zW.nil) ?_; (refine zY.v rfl rfl (zV rfl rfl rfl (by decide)) ?_); refine zY.nil ?_) | (refine zZ.isR (id := 1) ?_; refine zZ.zR [0, 1, 4] [] (by repeat' first | exact zX.nil | apply zX.p rfl) (by repeat' exact zW.nil) ?_; (refine zY.v rfl rfl (zQ rfl rfl rfl (by decide)) ?_); (refine zY.v rfl rfl (by exact wG rfl rfl (by exact g2) rfl (by decide)) ?_); (refine zY.v rfl rfl (by exact a_rem rfl rfl rfl (by decide) (by exact g3) rfl (by decide)) ?_); (refine zY.v rfl rfl (zV rfl rfl rfl (by decide)) ?_); refine zY.nil ?_) | (refine zZ.isR (id := 2) ?_; refine zZ.zR [0, 4, 5] [] (by repeat' first | exact zX.nil | apply zX.p rfl) (by repeat' exact zW.nil) ?_; all_goals (refine zY.v rfl rfl (zQ rfl rfl rfl (by decide)) ?_); all_goals (refine zY.v rfl rfl (by exact a_rem rfl rfl rfl (by decide) (by exact g4) rfl (by decide)) ?_); all_goals (refine zY.v rfl rfl (wM rfl rfl rfl (by rfl) rfl (by decide)) ?_); all_goals (refine zY.v rfl rfl (zQ rfl rfl rfl (by decide)) ?_); all_goals (((fail_if_success refine zY.known rfl rfl rfl (by fail) ?_); refine zY.split rfl rfl rfl (fun h => ?_) (fun h => ?_) <;> first | refine zY.gY rfl rfl (by decide) rfl (by assumption) rfl (by decide) (zQ rfl rfl rfl (by decide)) ?_ | refine zY.gnF rfl rfl (by decide) rfl (by assumption) rfl (by decide) ?_)); all_goals (first | refine zY.gY rfl rfl (by decide) rfl (by assumption) rfl (by decide) (by exact a_rem rfl rfl rfl (by decide) (by exact g5) rfl (by decide)) ?_ | refine zY.gnF rfl rfl (by decide) rfl (by assumption) rfl (by decide) ?_); all_goals (first | refine zY.gY rfl rfl (by decide) rfl (by assumption) rfl (by decide) (wM rfl rfl rfl (by rfl) rfl (by decide)) ?_ | refine zY.gnF rfl rfl (by decide) rfl (by assumption) rfl (by decide) ?_); all_goals (refine zY.v rfl rfl (by first | exact yU rfl rfl (by assumption) rfl rfl (by decide) | exact yP rfl rfl (by assumption) rfl rfl (by decide)) ?_); all_goals (refine zY.v rfl rfl (zQ rfl rfl rfl (by decide)) ?_); all_goals (first | refine zY.gY rfl rfl (by decide) rfl (by with_reducible rfl) rfl (by decide) (zQ rfl rfl rfl (by decide)) ?_ | ((fail_if_success refine zY.known rfl rfl rfl (by fail) ?_); refine zY.split rfl rfl rfl (fun h => ?_) (fun h => ?_) <;> first | refine zY.gY rfl rfl (by decide) rfl (by assumption) rfl (by decide) (zQ rfl rfl rfl (by decide)) ?_ | refine zY.gnT rfl rfl (by decide) rfl (by assumption) rfl (by decide) ?_)); all_goals (first | refine zY.gY rfl rfl (by decide) rfl (by first | assumption | with_reducible rfl) rfl (by decide) (xI rfl rfl rfl (by rfl) rfl (by decide)) ?_ | refine zY.gnT rfl rfl (by decide) rfl (by assumption) rfl (by decide) ?_); all_goals (first | refine zY.gY rfl rfl (by decide) rfl (by first | assumption | with_reducible rfl) rfl (by decide) (zQ rfl rfl rfl (by decide)) ?_ | refine zY.gnT rfl rfl (by decide) rfl (by assumption) rfl (by decide) ?_); all_goals (first | refine zY.gU rfl rfl (by decide) (by rfl) rfl (by decide) ?_ | ((fail_if_success refine zY.known rfl rfl rfl (by fail) ?_); refine zY.split rfl rfl rfl (fun h => ?_) (fun h => ?_) <;> first | refine zY.gY rfl rfl (by decide) rfl (by assumption) rfl (by decide) (zQ rfl rfl rfl (by decide)) ?_ | refine zY.gnF rfl rfl (by decide) rfl (by assumption) rfl (by decide) ?_)); all_goals (first | refine zY.gU rfl rfl (by decide) (by rfl) rfl (by decide) ?_ | refine zY.gY rfl rfl (by decide) rfl (by assumption) rfl (by decide) (by exact a_quo rfl rfl rfl (by decide) (by exact g6) rfl (by decide)) ?_ | refine zY.gnF rfl rfl (by decide) rfl (by assumption) rfl (by decide) ?_); all_goals (first | refine zY.gU rfl rfl (by decide) (by rfl) rfl (by decide) ?_ | refine zY.gY rfl rfl (by decide) rfl (by assumption) rfl (by decide) (by exact a_rem rfl rfl rfl (by decide) (by exact g7) rfl (by decide)) ?_ | refine zY.gnF rfl rfl (by decide) rfl (by assumption) rfl (by decide) ?_); all_goals (first | refine zY.gU rfl rfl (by decide) (by rfl) rfl (by decide) ?_ | refine zY.gY rfl rfl (by decide) rfl (by assumption) rfl (by decide) (wM rfl rfl rfl (by rfl) rfl (by decide)) ?_ | refine zY.gnF rfl rfl (by decide) rfl (by assumption) rfl (by decide) ?_); all_goals (first | refine zY.gY rfl rfl (by decide) rfl (by first | assumption | with_reducible rfl) rfl (by decide) (by first | exact yU rfl rfl (by assumption) rfl rfl (by decide) | exact yP rfl rfl (by assumption) rfl rfl (by decide)) ?_ | refine zY.gnT rfl rfl (by decide) rfl (by assumption) rfl (by decide) ?_); all_goals (refine zY.v rfl rfl (by first | exact yU rfl rfl (by first | assumption | with_reducible rfl) rfl rfl (by decide) | exact yP rfl rfl (by assumption) rfl rfl (by decide)) ?_); all_goals (refine zY.v rfl rfl (zV rfl rfl rfl (by decide)) ?_); all_goals (refine zY.nil ?_)) | refine zZ.ret ?_))
  all_goals refine ⟨.inl rfl, gives1 rfl rfl (eqB' ?_)⟩
  all_goals (unfold hasF; simp [*])
/-- where a record's field lies -/
def yC (t r f : Int) : Int := 8 + t + 8 * (r - 1) + f
def Small (x : Int) : Prop := -1073741824 ≤ x ∧ x ≤ 1073741824
theorem size_fn (t c : Int) (h0 : Small t) (h1 : Small c) : Fn Tryz.prog 161 [.val (.int .i64 t), .val (.int .i64 c)] (.p (.val (.int .i64 (8 + t + 8 * c)))) := by
  unfold Small at h0 h1
  refine wW Tryz.func161 rfl Tryz.ntmps161 (Nat.le_of_ble_eq_true rfl) ?_
  repeat' ((refine zZ.is ?_; first | refine zZ.seq ?_ | (refine zZ.isR (id := 0) ?_; refine zZ.zR [0, 1] [] (by repeat' first | exact zX.nil | apply zX.p rfl) (by repeat' exact zW.nil) ?_; (refine zY.v rfl rfl (zV rfl rfl rfl (by decide)) ?_); refine zY.nil ?_) | (refine zZ.isR (id := 1) ?_; refine zZ.zR [0, 1, 4] [] (by repeat' first | exact zX.nil | apply zX.p rfl) (by repeat' exact zW.nil) ?_; (refine zY.v rfl rfl (zQ rfl rfl rfl (by decide)) ?_); (refine zY.v rfl rfl (by exact qQ rfl rfl rfl (by exact wrap_i64 _ (by omega)) rfl (by decide)) ?_); (refine zY.v rfl rfl (zQ rfl rfl rfl (by decide)) ?_); (refine zY.v rfl rfl (by exact a_mul rfl rfl rfl (by exact wrap_i64 _ (by omega)) rfl (by decide)) ?_); (refine zY.v rfl rfl (by exact qQ rfl rfl rfl (by exact wrap_i64 _ (by omega)) rfl (by decide)) ?_); (refine zY.v rfl rfl (zV rfl rfl rfl (by decide)) ?_); refine zY.nil ?_) | refine zZ.ret ?_))
  all_goals exact ⟨.inl rfl, gives1 rfl rfl rfl⟩
theorem field_fn (t r f : Int) (h0 : Small t) (h1 : 0 ≤ r ∧ r ≤ 1048576) (h2 : Small f) : Fn Tryz.prog 104 [.val (.int .i64 t), .val (.int .i64 r), .val (.int .i64 f)] (.p (.val (.int .i64 (yC t r f)))) := by
  have c1 := size_fn t (r - 1) h0 (by unfold Small; omega)
  unfold Small at h0 h2
  refine wW Tryz.func104 rfl Tryz.ntmps104 (Nat.le_of_ble_eq_true rfl) ?_
  repeat' ((refine zZ.is ?_; first | refine zZ.seq ?_ | (refine zZ.isR (id := 0) ?_; refine zZ.zR [0, 1, 2] [] (by repeat' first | exact zX.nil | apply zX.p rfl) (by repeat' exact zW.nil) ?_; (refine zY.v rfl rfl (zV rfl rfl rfl (by decide)) ?_); refine zY.nil ?_) | (refine zZ.isR (id := 1) ?_; refine zZ.zR [0, 1, 2, 6] [] (by repeat' first | exact zX.nil | apply zX.p rfl) (by repeat' exact zW.nil) ?_; (refine zY.v rfl rfl (zQ rfl rfl rfl (by decide)) ?_); (refine zY.v rfl rfl (zQ rfl rfl rfl (by decide)) ?_); (refine zY.v rfl rfl (by exact a_sub rfl rfl rfl (by exact wrap_i64 _ (by omega)) rfl (by decide)) ?_); (refine zY.v rfl rfl (by exact zO (c1) rfl rfl rfl (by decide)) ?_); (refine zY.v rfl rfl (zQ rfl rfl rfl (by decide)) ?_); (refine zY.v rfl rfl (by exact qQ rfl rfl rfl (by exact wrap_i64 _ (by omega)) rfl (by decide)) ?_); (refine zY.v rfl rfl (zV rfl rfl rfl (by decide)) ?_); refine zY.nil ?_) | refine zZ.ret ?_))
  all_goals exact ⟨.inl rfl, gives1 rfl rfl rfl⟩
theorem fieldRef_fn (t r f : Int) (h0 : Small t) (h1 : 0 ≤ r ∧ r ≤ 1048576) (h2 : Small f) : Fn Tryz.prog 24 [.val (.int .i64 t), .val (.int .i64 r), .val (.int .i64 f)] (.p (.val (.int .i64 (yC t r f)))) := by
  unfold Small at h0 h2
  refine wW Tryz.func24 rfl Tryz.ntmps24 (Nat.le_of_ble_eq_true rfl) ?_
  repeat' ((refine zZ.is ?_; first | refine zZ.seq ?_ | (refine zZ.isR (id := 0) ?_; refine zZ.zR [0, 1, 2] [] (by repeat' first | exact zX.nil | apply zX.p rfl) (by repeat' exact zW.nil) ?_; (refine zY.v rfl rfl (zV rfl rfl rfl (by decide)) ?_); refine zY.nil ?_) | (refine zZ.isR (id := 1) ?_; refine zZ.zR [0, 1, 2, 6] [] (by repeat' first | exact zX.nil | apply zX.p rfl) (by repeat' exact zW.nil) ?_; (refine zY.v rfl rfl (zQ rfl rfl rfl (by decide)) ?_); (refine zY.v rfl rfl (by exact qQ rfl rfl rfl (by exact wrap_i64 _ (by omega)) rfl (by decide)) ?_); (refine zY.v rfl rfl (zQ rfl rfl rfl (by decide)) ?_); (refine zY.v rfl rfl (by exact a_sub rfl rfl rfl (by exact wrap_i64 _ (by omega)) rfl (by decide)) ?_); (refine zY.v rfl rfl (by exact a_mul rfl rfl rfl (by exact wrap_i64 _ (by omega)) rfl (by decide)) ?_); (refine zY.v rfl rfl (by exact qQ rfl rfl rfl (by exact wrap_i64 _ (by omega)) rfl (by decide)) ?_); (refine zY.v rfl rfl (zQ rfl rfl rfl (by decide)) ?_); (refine zY.v rfl rfl (by exact qQ rfl rfl rfl (by exact wrap_i64 _ (by omega)) rfl (by decide)) ?_); (refine zY.v rfl rfl (zV rfl rfl rfl (by decide)) ?_); refine zY.nil ?_) | refine zZ.ret ?_))
  all_goals exact ⟨.inl rfl, gives1 rfl rfl rfl⟩
/-- a flag with a bit -/
def withF (f b : Int) : Int := if hasF f b then f else f + b
theorem with_fn (f b : Int) (h0 : 0 ≤ f) (h1 : f < 18446744073709551616) (hb : b = 1 ∨ b = 2) (hn : hasF f b = false) : Fn Tryz.prog 152 [.val (.int .u64 f), .val (.int .i64 b)] (.p (.val (.int .u64 (f + b)))) := by
  have c1 : Fn Tryz.prog 151 [.val (.int .u64 f), .val (.int .i64 b)] (.p (.val (.bool false))) := hn ▸ hasRef_fn f b h0 h1
  have hlt : f + b < 18446744073709551616 := by
    unfold hasF at hn
    rcases hb with rfl | rfl
    · simp at hn; omega
    · simp at hn; omega
  refine wW Tryz.func152 rfl Tryz.ntmps152 (Nat.le_of_ble_eq_true rfl) ?_
  repeat' ((refine zZ.is ?_; first | refine zZ.seq ?_ | (refine zZ.isR (id := 0) ?_; refine zZ.zR [0, 1] [] (by repeat' first | exact zX.nil | apply zX.p rfl) (by repeat' exact zW.nil) ?_; (refine zY.v rfl rfl (zV rfl rfl rfl (by decide)) ?_); refine zY.nil ?_) | (refine zZ.isR (id := 1) ?_; refine zZ.zR [0, 1, 4] [] (by repeat' first | exact zX.nil | apply zX.p rfl) (by repeat' exact zW.nil) ?_; (refine zY.v rfl rfl (zQ rfl rfl rfl (by decide)) ?_); (refine zY.v rfl rfl (zQ rfl rfl rfl (by decide)) ?_); (refine zY.v rfl rfl (by exact zO (c1) rfl rfl rfl (by decide)) ?_); (refine zY.v rfl rfl (zV rfl rfl rfl (by decide)) ?_); refine zY.nil ?_) | (refine zZ.isR (id := 2) ?_; refine zZ.zR [0, 1, 4, 5] [] (by repeat' first | exact zX.nil | apply zX.p rfl) (by repeat' exact zW.nil) ?_; (refine zY.v rfl rfl (zQ rfl rfl rfl (by decide)) ?_); refine zY.nil ?_) | (refine zZ.isR (id := 4) ?_; refine zZ.zR [0, 1, 4] [] (by repeat' first | exact zX.nil | apply zX.p rfl) (by repeat' exact zW.nil) ?_; (refine zY.v rfl rfl (zQ rfl rfl rfl (by decide)) ?_); (refine zY.v rfl rfl (zQ rfl rfl rfl (by decide)) ?_); (refine zY.v rfl rfl (by exact wG rfl rfl (by exact wrap_u64 _ (by omega)) rfl (by decide)) ?_); (refine zY.v rfl rfl (by exact qQ rfl rfl rfl (by exact wrap_u64 _ (by omega)) rfl (by decide)) ?_); (refine zY.v rfl rfl (zV rfl rfl rfl (by decide)) ?_); refine zY.nil ?_) | refine zZ.yI rfl (by first | assumption | with_reducible rfl) ?_ | refine zZ.skip ?_ | refine zZ.ret ?_))
  all_goals exact ⟨.inl rfl, gives1 rfl rfl rfl⟩
end Go.Proofs.YtohlllohmoojiaaGreatDoor
/- Operations of records, and their answers. -/
namespace Go.Proofs.YtohlllohmoojiaaGreatDoor
set_option maxRecDepth 100000
set_option maxHeartbeats 16000000
open Go Go.RowKit
/-- a record's place -/
def Rec (t r : Int) : Prop := Small t ∧ 1 ≤ r ∧ r ≤ 1048576
/-- a record's place, or none's -/
def Rc (t r : Int) : Prop := Small t ∧ 0 ≤ r ∧ r ≤ 1048576
theorem Rec.z {t r : Int} (h : Rec t r) : Rc t r := ⟨h.1, by have := h.2.1; omega, h.2.2⟩
def outV (e : Int) (is : Bool) (n w : Int) : PV := .agg [.val (.int .i64 e), .val (.bool is), .val (.int .i64 n), .val (.int .u64 w), xW]
def opV (k u v w : Int) : PV := .agg [.val (.int .i64 k), .val (.int .i64 u), .val (.int .i64 v), .val (.int .u64 w)]
structure OutI where
  e : Int
  is : Bool
  w : Int
/-- an operation of a record, and of a bit -/
structure OpOK (t k u v w : Int) : Prop where
  rec_ : k = 20 ∨ k = 21 ∨ k = 22 ∨ k = 23 ∨ k = 7 → Rec t u
  bit : k = 7 ∨ k = 23 → v = 1 ∨ v = 2
  w : U w
def opB (k u v w : Int) : Blk := .box 24 [.p (.val (.int .i64 k)), .p (.val (.int .i64 u)), .p (.val (.int .i64 v)), .p (.val (.int .u64 w))]
def outR (o : OutI) : AV := .p (outV o.e o.is 0 o.w)
end Go.Proofs.YtohlllohmoojiaaGreatDoor
/- Records, flags, and what is durable, as trees. -/
namespace Go.Proofs.YtohlllohmoojiaaGreatDoor
set_option maxRecDepth 100000
set_option maxHeartbeats 16000000
open Go Go.RowKit
set_option linter.unusedSimpArgs false
set_option linter.unusedVariables false
theorem U.quo {f : Int} (h : U f) : U (f / 4) := ⟨by have := h.1; omega, by have := h.2; omega⟩
def aliveB (w f stamp : Int) : Bool := decide (f / 4 = stamp) && !decide (w % 2 = 1)
def ov1 (b f : Int) : Bool := hasF f b
def over2 (s b g : Int) : Bool := !decide (g / 4 = s) || hasF g b
theorem orBit (f b : Int) (h0 : 0 ≤ f) (h1 : f < 18446744073709551616) (hb : b = 1 ∨ b = 2) (hn : hasF f b = false) : bits .or .u64 f b = f + b ∧ f + b < 18446744073709551616 := by
  obtain ⟨n, rfl⟩ := Int.eq_ofNat_of_zero_le h0
  unfold hasF at hn
  rcases hb with rfl | rfl
  · simp at hn
    have e : n ||| 1 = n + 1 := by
      have h2 := Nat.shiftLeft_add_eq_or_of_lt (show 1 < 2 ^ 1 by decide) (n / 2)
      rw [Nat.shiftLeft_eq] at h2
      have h3 : n / 2 * 2 ^ 1 = n := by omega
      rw [h3] at h2
      exact h2.symm
    rw [show (1 : Int) = ((1 : Nat) : Int) from rfl, u64_or_nat n 1 (by omega) (by decide), e]
    constructor <;> omega
  · simp at hn
    have e : n ||| 2 = n + 2 := by
      have h2 := Nat.shiftLeft_add_eq_or_of_lt (show n % 4 < 2 ^ 2 by omega) (n / 4)
      have h3 := Nat.shiftLeft_add_eq_or_of_lt (show n % 4 + 2 < 2 ^ 2 by omega) (n / 4)
      rw [Nat.shiftLeft_eq] at h2 h3
      have h4 : n / 4 * 2 ^ 2 + n % 4 = n := by omega
      have h5 : n % 4 ||| 2 = n % 4 + 2 := by
        have : n % 4 = 0 ∨ n % 4 = 1 := by omega
        rcases this with h | h <;> rw [h] <;> rfl
      rw [h4] at h2
      have h6 : n ||| 2 = (n / 4 * 2 ^ 2 ||| n % 4) ||| 2 := congrArg (· ||| 2) h2
      rw [h6, Nat.or_assoc, h5, ← h3]
      omega
    rw [show (2 : Int) = ((2 : Nat) : Int) from rfl, u64_or_nat n 2 (by omega) (by decide), e]
    constructor <;> omega
theorem over2_has {s b g : Int} (h : over2 s b g = false) : hasF g b = false := by
  unfold over2 at h
  simp only [Bool.or_eq_false_iff] at h
  exact h.2
theorem orU {f b : Int} (hf : U f) (hb : b = 1 ∨ b = 2) (hn : hasF f b = false) : U (f + b) := ⟨by have := hf.1; rcases hb with rfl | rfl <;> omega, (orBit f b hf.1 hf.2 hb hn).2⟩
def flagP (t r : Int) : Pr Int := xU (yC t r 2)
def aliveP (t r s : Int) : Pr Bool := (xU (yC t r 0)).bind fun w => (flagP t r).bind fun f => .ret (aliveB w f s)
/-- one round -/
def y8 (over : Int → Bool) (c b : Int) (_ : Unit) : Pr (Unit ⊕ Unit) := (xU c).bind fun f => bif over f then .ret (.inr ()) else (casP c f (f + b)).bind fun d => .ret (bif d then .inr () else .inl ())
def setP (over : Int → Bool) (c b : Int) : Pr Unit := .loop (y8 over c b) many ()
/-- accesses of a disk, up to the first that fails -/
def diskP : List Ned → Pr Bool
  | [] => .ret true
  | q :: qs => .ask q fun r => bif r.fail then .ret false else diskP qs
def wrAcc (k s y u v x : Int) : List Ned := [qJ 5 0 0 0 (.sl (byts (bytesE k s y u v x))), qJ 6 0 0 0 xW]
def wrP (t r b k s y u v x : Int) : Pr Bool := (diskP (wrAcc k s y u v x)).bind fun ok => bif ok then (setP (over2 s b) (yC t r 2) b).bind fun _ => .ret true else .ret false
def vD (t r b f : Int) : Pr Bool :=
  bif hasF f b then .ret true else bif decide (b = 1) then
    (xU (yC t r 1)).bind fun n1 => (xU (yC t r 4)).bind fun n2 => (xU (yC t r 5)).bind fun n3 => (xU (yC t r 6)).bind fun n4 => wrP t r b 1 (f / 4) n1 n2 n3 n4
  else wrP t r b 2 (f / 4) 0 0 0 0
def saveP (t r b : Int) : Pr Bool := (flagP t r).bind fun f => vD t r b f
def deadP (t r s : Int) : Pr Bool := (flagP t r).bind fun f => bif decide (f / 4 = s) then vD t r 2 f else .ret true
def itemsOf (s y e u v x : Int) : List (Int × Int) := [(2, flagF s 0), (1, y), (3, e), (4, u), (5, v), (6, x)]
def storesP (t r : Int) : List (Int × Int) → Pr Unit
  | [] => .ret ()
  | p :: l => (storeP (yC t r p.1) p.2).bind fun _ => storesP t r l
def makeP (t r y e u v x : Int) : Pr Int := (addP 2 1).bind fun n => (storesP t r (itemsOf (IntKind.u64.wrap (n + 1)) y e u v x)).bind fun _ => .ret (IntKind.u64.wrap (n + 1))
/-! ### They ask what may be asked -/
theorem putF_range (b : List Int) (hb : ∀ x ∈ b, 0 ≤ x ∧ x < 256) (hl : putOk b) : ∀ x ∈ putF b, 0 ≤ x ∧ x < 256 := by
  intro x hx
  have h2 : b.length ≤ 65535 := hl.2
  rw [putF_ref b hl] at hx
  simp only [List.mem_cons, List.cons_append, List.nil_append] at hx
  have hm : qY 0 b < 4294967296 := moreF_lt 0 b
  rcases hx with rfl | rfl | rfl | rfl | rfl | rfl | hx
  all_goals first
    | exact hb x hx
    | omega
theorem putF_lenP (b : List Int) (hl : putOk b) : (putF b).length = 6 + b.length := by rw [putF_ref b hl]; simp; omega
theorem bytesE_ok (k s y u v x : Int) : (∀ c ∈ bytesE k s y u v x, 0 ≤ c ∧ c < 256) ∧ (bytesE k s y u v x).length ≤ 1000 := by
  unfold bytesE
  by_cases h : mayB k s y u v x = true
  · rw [if_pos h]
    refine ⟨putF_range _ (encL_range' k s y u v x) (encL_le2 k s y u v x), ?_⟩
    rw [putF_lenP _ (encL_le2 k s y u v x)]
    unfold encL
    by_cases hk : k = 1 <;> simp [hk, bytesOf]
  · rw [if_neg h]
    exact ⟨fun c hc => by simp at hc, by simp⟩
theorem asked_wr (k s y u v x : Int) : ∀ q ∈ wrAcc k s y u v x, qA q := by
  intro q hq
  simp only [wrAcc, List.mem_cons, List.not_mem_nil, or_false] at hq
  rcases hq with rfl | rfl
  · exact ⟨rfl, U.zero, U.zero, .inr ⟨rfl, _, (bytesE_ok k s y u v x).1, (bytesE_ok k s y u v x).2, rfl⟩⟩
  · exact ⟨rfl, U.zero, U.zero, .inl ⟨.inr rfl, rfl⟩⟩
theorem fine_round {over : Int → Bool} {c b : Int} (hb : b = 1 ∨ b = 2) (ho : ∀ f, over f = false → hasF f b = false) (u : Unit) : (y8 over c b u).yT (Next yes yes) :=
  .bind (yO _) fun f hf => .condB (fun _ => Pr.yT.ret trivial) fun h => .bind (qB _ hf ⟨by have := hf.1; rcases hb with rfl | rfl <;> omega, (orBit f b hf.1 hf.2 hb (ho f h)).2⟩) fun d _ => Pr.yT.ret (by cases d <;> trivial)
theorem fine_set {over : Int → Bool} {c b : Int} (hb : b = 1 ∨ b = 2) (ho : ∀ f, over f = false → hasF f b = false) : (setP over c b).yT yes :=
  Pr.yT.loop yes (fun _ => ⟨_, _, rfl⟩) (fun u _ => fine_round hb ho u) () trivial
theorem fine_disk : ∀ {qs : List Ned}, (∀ q ∈ qs, qA q) → (diskP qs).yT yes
  | [], _ => Pr.yT.ret trivial
  | q :: qs, h => fine_ask (h q (by simp)) fun r _ => .cond (Pr.yT.ret trivial) (fine_disk fun q' hq => h q' (by simp [hq]))
theorem fine_wr (t r b k s y u v x : Int) (hb : b = 1 ∨ b = 2) : (wrP t r b k s y u v x).yT yes := .bind (fine_disk (asked_wr k s y u v x)) fun _ _ => .cond (.bind (fine_set hb fun _ h => over2_has h) fun _ _ => trivial) trivial
theorem fine_rest (t r b f : Int) (hb : b = 1 ∨ b = 2) : (vD t r b f).yT yes :=
  .cond trivial (.cond (.bind (yO _) fun _ _ => .bind (yO _) fun _ _ => .bind (yO _) fun _ _ => .bind (yO _) fun _ _ => fine_wr _ _ _ _ _ _ _ _ _ hb) (fine_wr _ _ _ _ _ _ _ _ _ hb))
theorem fine_save (t r b : Int) (hb : b = 1 ∨ b = 2) : (saveP t r b).yT yes := .bind (yO _) fun _ _ => fine_rest _ _ _ _ hb
end Go.Proofs.YtohlllohmoojiaaGreatDoor
/- Flags, and what is alive: the program's, whatever makes its accesses: contracts. -/
namespace Go.Proofs.YtohlllohmoojiaaGreatDoor
set_option maxRecDepth 100000
set_option maxHeartbeats 16000000
open Go Go.RowKit
set_option linter.unusedSimpArgs false
set_option linter.unusedVariables false
attribute [local irreducible] zY zZ Step zK Sub zS zH Fn
theorem fieldR {t r : Int} (h : Rc t r) (f : Int) (hf : 0 ≤ f ∧ f ≤ 7) : Fn Tryz.prog 104 [.val (.int .i64 t), .val (.int .i64 r), .val (.int .i64 f)] (.p (.val (.int .i64 (yC t r f)))) := field_fn t r f h.1 ⟨by have := h.2.1; omega, h.2.2⟩ (by unfold Small; omega)
def vO (b : Int) : Blk := .box 3 [.p (.val (.int .i64 b))]
def entB (k s y u v x : Int) : Blk := .box 158 [.p (.val (.int .i64 k)), .p (.val (.int .u64 s)), .p (.val (.int .u64 y)), .p (.val (.int .u64 u)), .p (.val (.int .u64 v)), .p (.val (.int .u64 x))]
theorem flag_h (H : Hnd) (s0 : H.σ) {t r : Int} (h : Rc t r) : FnH H 190 [H.doA, .p (.val (.int .i64 t)), .p (.val (.int .i64 r))] [] (fun x => .p (.val (.int .u64 x))) (fun _ => []) U s0 (flagP t r) := by
  unfold Hnd.doA
  refine wY Tryz.func190 rfl Tryz.ntmps190 (Nat.le_of_ble_eq_true rfl) (by decide) (yO _) fun hok hns => ?_
  repeat' (first | (refine zY.is ?_; first | refine zY.nil ?_ | (refine zY.at_ 6 rfl ?_; refine zY.rc (.v zC .e) ?_) | (refine zY.in_ [10] rfl ?_; refine zY.v rfl rfl (zO (fieldR h 2 (by decide)) rfl rfl rfl (by decide)) ?_) | (refine zY.in_ [11] rfl ?_; refine zY.ofT rfl (zH.hd (i := []) (f := load_h H _ _) (r := fun x s e g hk => ?_) (p := fun q s e => ?_) (t := ?_)))) | (refine zZ.is ?_; first | refine zZ.seq ?_ | (refine zZ.isR (id := 0) ?_; refine zZ.rc [0, 1, 2] [1000, 1001, 1002] (r := (.v zC .e)) (h := ?_)) | (refine zZ.isR (id := 1) ?_; refine zZ.rc [0, 1, 2, 6] [1000, 1001, 1002] (r := (.v vQ (.v zJ (.v zJ .e)))) (h := ?_)) | refine zZ.ret ?_))
  all_goals (first | exact fun e => hns (by clear hns; simp only [flagP, run_bind, zP, zM, Held.zB, Held.zL, Held.zF, cond_true, cond_false, *]) | exact .pan (q := q) rfl (by repeat' first | exact trivial | rfl | constructor) (by repeat' exact trivial) (by simp only [flagP, run_bind, zP, zM, Held.zB, Held.zL, Held.zF, cond_true, cond_false, *]) | exact .ret (by exact .inl rfl) (by exact .one rfl rfl) (by repeat' first | exact trivial | rfl | constructor) (by simp only [flagP, run_bind, zP, zM, Held.zB, Held.zL, Held.zF, cond_true, cond_false, *]))
theorem flagL_h (H : Hnd) (s0 : H.σ) {t r : Int} (h : Rc t r) : FnH H 190 [H.doA, .p (.val (.int .i64 t)), .p (.val (.int .i64 r))] [] (fun x => .p (.val (.int .u64 x))) (fun _ => []) U s0 (xU (yC t r 2)) := flag_h H s0 h
theorem over1_fn (f b : Int) (h0 : 0 ≤ f) (h1 : f < 18446744073709551616) : FnE Tryz.prog 147 [.p (.val (.int .u64 f)), .ptr 1000 0] [vO b] (.ret (.p (.val (.bool (ov1 b f))))) [vO b] := by
  have c1 := has_fn f b h0 h1
  refine fn_ofE Tryz.func147 rfl Tryz.ntmps147 (Nat.le_of_ble_eq_true rfl) (by decide) ?_
  repeat' (first | (refine zY.is ?_; first | refine zY.nil ?_ | (refine zY.at_ 3 rfl ?_; refine zY.rc (.v zC .e) ?_) | (refine zY.in_ [6] rfl ?_; refine zY.v rfl rfl (zO (c1) rfl rfl rfl (by decide)) ?_)) | (refine zZ.is ?_; first | refine zZ.seq ?_ | (refine zZ.isR (id := 0) ?_; refine zZ.rc [0, 1] [1000] (r := (.v zC .e)) (h := ?_)) | (refine zZ.isR (id := 1) ?_; refine zZ.rc [0, 1, 3] [1000] (r := (.v zJ (.v yV .e))) (h := ?_)) | refine zZ.ret ?_))
  all_goals exact ⟨(by exact .inl rfl), _, Sub.refl _, .one rfl rfl, wD (by repeat' first | exact trivial | rfl | constructor)⟩
theorem over2_fn (g k s y u v x b : Int) (h0 : 0 ≤ g) (h1 : g < 18446744073709551616) : FnE Tryz.prog 213 [.p (.val (.int .u64 g)), .ptr 1000 0, .ptr 1001 0] [entB k s y u v x, vO b] (.ret (.p (.val (.bool (over2 s b g))))) [entB k s y u v x, vO b] := by
  have c1 := has_fn g b h0 h1
  have c2 := wstamp_fn g
  refine fn_ofE Tryz.func213 rfl Tryz.ntmps213 (Nat.le_of_ble_eq_true rfl) (by decide) ?_
  unfold over2
  cases hb : decide (g / 4 = s)
  case false =>
    have hb2 : (!decide (g / 4 = s)) = true := by rw [hb]; rfl
    repeat' (first | (refine zY.nil ?_) | (refine zZ.is ?_; first | refine zZ.seq ?_ | (refine zZ.isR (id := 0) ?_; refine zZ.rc [0, 1, 2] [1000, 1001] (r := (.v zC .e)) (h := ?_)) | (refine zZ.isR (id := 1) ?_; refine zZ.rk [0, 1, 2, 4] [1000, 1001] ?_; refine zZ.draws ?_) | refine zZ.ret ?_) | (refine Draws.is ?_; first | refine Draws.rc (.v zJ .e) ?_ | refine Draws.rc (.v zU (.v yV (.v qC (.v zJ (.gF (.gF (.gF (.v xA (.v zC .e))))))))) ?_ | (refine Draws.in_ [6] rfl ?_; refine Draws.v rfl rfl (zO (c2) rfl rfl rfl (by decide)) ?_) | refine Draws.done (by kernel_rfl) (by kernel_rfl) (by kernel_rfl) ?_) | (refine zS.nil ?_))
    all_goals exact ⟨(by exact .inl rfl), _, Sub.refl _, .one rfl rfl, wD (by repeat' first | exact trivial | rfl | constructor)⟩
  case true =>
    have hb2 : (!decide (g / 4 = s)) = false := by rw [hb]; rfl
    repeat' (first | (refine zY.nil ?_) | (refine zZ.is ?_; first | refine zZ.seq ?_ | (refine zZ.isR (id := 0) ?_; refine zZ.rc [0, 1, 2] [1000, 1001] (r := (.v zC .e)) (h := ?_)) | (refine zZ.isR (id := 1) ?_; refine zZ.rk [0, 1, 2, 4] [1000, 1001] ?_; refine zZ.draws ?_) | refine zZ.ret ?_) | (refine Draws.is ?_; first | refine Draws.rc (.v zJ .e) ?_ | refine Draws.rc (.v zU (.v yV (.v qC (.v zJ (.gY zJ (.gY yV .e)))))) ?_ | refine Draws.rc (.v xD (.v zC .e)) ?_ | (refine Draws.in_ [6] rfl ?_; refine Draws.v rfl rfl (zO (c2) rfl rfl rfl (by decide)) ?_) | (refine Draws.in_ [13] rfl ?_; refine Draws.gY rfl rfl (by decide) rfl bA rfl (zO (c1) rfl rfl rfl (by decide)) ?_) | refine Draws.done (by kernel_rfl) (by kernel_rfl) (by kernel_rfl) ?_) | (refine zS.nil ?_))
    all_goals exact ⟨(by exact .inl rfl), _, Sub.refl _, .one rfl rfl, wD (by repeat' first | exact trivial | rfl | constructor)⟩
end Go.Proofs.YtohlllohmoojiaaGreatDoor
/- A bit of a flag is set, unless that is done: the program's loop with its two closures, whatever makes its accesses: contracts. -/
namespace Go.Proofs.YtohlllohmoojiaaGreatDoor
set_option maxRecDepth 100000
set_option maxHeartbeats 16000000
open Go Go.RowKit
set_option linter.unusedSimpArgs false
set_option linter.unusedVariables false
attribute [local irreducible] zY zZ Step zK Sub zS zH Fn
def setS1 (H : Hnd) (t r b : Int) (s : H.σ) : AS :=
  { t := [(0, H.doA), (1, .p (.val (.int .i64 t))), (2, .p (.val (.int .i64 r))), (3, .p (.val (.int .i64 b))), (4, .clo 147 [1003])], s := [(1000, H.b0 s), (1001, H.b1 s), (1002, H.b2 s), (1003, vO b)] }
theorem set1_h (H : Hnd) (s0 : H.σ) {t r b : Int} (h : Rc t r) (hb : b = 1 ∨ b = 2) : FnH H 146 [H.doA, .p (.val (.int .i64 t)), .p (.val (.int .i64 r)), .p (.val (.int .i64 b)), .clo 147 [1003]] [vO b] (fun _ => .any) (fun _ => [vO b]) yes s0 (setP (ov1 b) (yC t r 2) b) := by
  unfold Hnd.doA
  have hwb : IntKind.u64.wrap b = b := wrap_u64 _ (by omega)
  have cf := fieldR h 2 (by decide)
  have F1 := fun f (h0 : U f) (h1 : ov1 b f = false) => (orBit f b h0.lo h0.hi hb h1).1
  refine wY Tryz.func146 rfl Tryz.ntmps146 (Nat.le_of_ble_eq_true rfl) (by decide) (fine_set hb fun _ h => h) fun hok hns => ?_
  repeat' ((refine zZ.is ?_; refine zZ.block ?_))
  refine zZ.loop (fun p : Nat × H.σ => setS1 H t r b p.2) (fun p => H.ok p.2 ∧ (Pr.loop (y8 (ov1 b) (yC t r 2) b) p.1 ()).run H.st p.2 = (setP (ov1 b) (yC t r 2) b).run H.st s0) (fun p => p.1) (many, s0) ?h0 ⟨hok, rfl⟩ ?rd
  case h0 =>
    exact yR K_o K_1d
  case rd =>
    rintro ⟨n, s1⟩ ⟨hok1, ho⟩
    cases n with
    | zero => exact absurd ho.symm hns
    | succ n =>
      dsimp only at hok1 ho ⊢
      rw [Pr.loop_succ] at ho
      rw [← ho] at hns ⊢
      repeat' (first | (refine zY.is ?_; first | refine zY.nil ?_ | (refine zY.at_ 10 rfl ?_; refine zY.rc (.v zC .e) ?_) | (refine zY.at_ 18 rfl ?_; refine zY.rc (.v zJ .e) ?_) | (refine zY.at_ 19 rfl ?_; refine zY.rc (.gY vQ (.gY zJ (.gY zJ .e))) ?_) | (refine zY.at_ 19 rfl ?_; refine zY.rc (.gF (.gF (.gF (.gF (.gF (.gF (.gF (.gF (.gF (.gF (.v xA .e))))))))))) ?_) | (refine zY.at_ 23 rfl ?_; refine zY.rc (.gY zJ (.gY zJ (.gY zJ (.gY v6_0 (.gY v36_1 .e))))) ?_) | (refine zY.at_ 29 rfl ?_; refine zY.rc (.v xD .e) ?_) | (refine zY.in_ [17] rfl ?_; refine zY.ofT rfl (zH.eR [1003] (over1_fn _ b (U.lo (by assumption)) (U.hi (by assumption))) ?_)) | (refine zY.in_ [14] rfl ?_; refine zY.ofT rfl (zH.hd (i := []) (f := flagL_h H _ h) (r := fun x s e g hk => ?_) (p := fun q s e => ?_) (t := ?_))) | (refine zY.in_ [22] rfl ?_; refine zY.gY rfl rfl (by decide) rfl bA rfl (by decide) (zO (cf) rfl rfl rfl (by decide)) ?_) | (refine zY.in_ [28] rfl ?_; refine zY.ofTg rfl rfl (by decide) rfl bA (zH.hd (i := []) (f := cas_h H _ _ _ _ (by assumption) (orU (by assumption) hb (by assumption))) (r := fun x s e g hk => ?_) (p := fun q s e => ?_) (t := ?_))) | (fail_if_success refine zY.known rfl rfl rfl (by fail) ?_); refine zY.split rfl rfl rfl (fun h => ?_) (fun h => ?_)) | (refine zZ.is ?_; first | refine zZ.seq ?_ | (refine zZ.isR (id := 0) ?_; refine zZ.rc [0, 1, 2, 3, 4, 10, 29] [1000, 1001, 1002, 1003] (r := (.v vQ (.v zJ (.v zJ .e)))) (h := ?_)) | (refine zZ.isR (id := 1) ?_; refine zZ.rc [0, 1, 2, 3, 4, 10, 29] [1000, 1001, 1002, 1003] (r := (.v vQ (.v zJ .e))) (h := ?_)) | refine zZ.yM rfl bA ?_ | refine zZ.cond rfl (fun h => ?_) (fun h => ?_) | refine zZ.skip ?_ | refine zZ.block ?_ | refine zZ.ret ?_) | refine zG.n ?_ | refine zG.r ?_ | refine yZ.n ?_ | refine yZ.r ?_)
      all_goals (first | exact fun e => hns (by clear hns; simp only [y8, run_bind, zP, zM, Held.zB, Held.zL, Held.zF, cond_true, cond_false, *]) | exact .pan (q := q) rfl (by repeat' first | exact trivial | rfl | constructor) (by repeat' first | exact trivial | exact ⟨_, rfl, rfl⟩ | constructor) (by simp only [y8, run_bind, zP, zM, Held.zB, Held.zL, Held.zF, cond_true, cond_false, *]) | exact .ret (x := ()) (by exact .inl rfl) (by exact .none rfl) (by repeat' first | exact trivial | rfl | constructor) (by simp only [y8, run_bind, zP, zM, Held.zB, Held.zL, Held.zF, cond_true, cond_false, *]) | skip)
      refine ⟨(n, s), ?_, ⟨by assumption, ?_⟩, Nat.lt_succ_self n⟩
      · exact yR K_o K_1d
      · simp only [y8, run_bind, zP, zM, Held.zB, cond_true, cond_false, *]
def setS2 (H : Hnd) (t r b ek es ey eu ev ex : Int) (s : H.σ) : AS :=
  { t := [(0, H.doA), (1, .p (.val (.int .i64 t))), (2, .p (.val (.int .i64 r))), (3, .p (.val (.int .i64 b))), (4, .clo 213 [1003, 1004])], s := [(1000, H.b0 s), (1001, H.b1 s), (1002, H.b2 s), (1003, entB ek es ey eu ev ex), (1004, vO b)] }
theorem set2_h (H : Hnd) (s0 : H.σ) {t r b : Int} (h : Rc t r) (hb : b = 1 ∨ b = 2) (ek es ey eu ev ex : Int) : FnH H 146 [H.doA, .p (.val (.int .i64 t)), .p (.val (.int .i64 r)), .p (.val (.int .i64 b)), .clo 213 [1003, 1004]] [entB ek es ey eu ev ex, vO b] (fun _ => .any) (fun _ => [entB ek es ey eu ev ex, vO b]) yes s0 (setP (over2 es b) (yC t r 2) b) := by
  unfold Hnd.doA
  have hwb : IntKind.u64.wrap b = b := wrap_u64 _ (by omega)
  have cf := fieldR h 2 (by decide)
  have F1 := fun f (h0 : U f) (h1 : over2 es b f = false) => (orBit f b h0.lo h0.hi hb (over2_has h1)).1
  refine wY Tryz.func146 rfl Tryz.ntmps146 (Nat.le_of_ble_eq_true rfl) (by decide) (fine_set hb fun _ h => over2_has h) fun hok hns => ?_
  repeat' ((refine zZ.is ?_; refine zZ.block ?_))
  refine zZ.loop (fun p : Nat × H.σ => setS2 H t r b ek es ey eu ev ex p.2) (fun p => H.ok p.2 ∧ (Pr.loop (y8 (over2 es b) (yC t r 2) b) p.1 ()).run H.st p.2 = (setP (over2 es b) (yC t r 2) b).run H.st s0) (fun p => p.1) (many, s0) ?h0 ⟨hok, rfl⟩ ?rd
  case h0 =>
    exact yR K_o K_1e
  case rd =>
    rintro ⟨n, s1⟩ ⟨hok1, ho⟩
    cases n with
    | zero => exact absurd ho.symm hns
    | succ n =>
      dsimp only at hok1 ho ⊢
      rw [Pr.loop_succ] at ho
      rw [← ho] at hns ⊢
      repeat' (first | (refine zY.is ?_; first | refine zY.nil ?_ | (refine zY.at_ 10 rfl ?_; refine zY.rc (.v zC .e) ?_) | (refine zY.at_ 18 rfl ?_; refine zY.rc (.v zJ .e) ?_) | (refine zY.at_ 19 rfl ?_; refine zY.rc (.gY vQ (.gY zJ (.gY zJ .e))) ?_) | (refine zY.at_ 19 rfl ?_; refine zY.rc (.gF (.gF (.gF (.gF (.gF (.gF (.gF (.gF (.gF (.gF (.v xA .e))))))))))) ?_) | (refine zY.at_ 23 rfl ?_; refine zY.rc (.gY zJ (.gY zJ (.gY zJ (.gY v6_0 (.gY v36_1 .e))))) ?_) | (refine zY.at_ 29 rfl ?_; refine zY.rc (.v xD .e) ?_) | (refine zY.in_ [17] rfl ?_; refine zY.ofT rfl (zH.eR [1003, 1004] (over2_fn _ ek es ey eu ev ex b (U.lo (by assumption)) (U.hi (by assumption))) ?_)) | (refine zY.in_ [14] rfl ?_; refine zY.ofT rfl (zH.hd (i := []) (f := flagL_h H _ h) (r := fun x s e g hk => ?_) (p := fun q s e => ?_) (t := ?_))) | (refine zY.in_ [22] rfl ?_; refine zY.gY rfl rfl (by decide) rfl bA rfl (by decide) (zO (cf) rfl rfl rfl (by decide)) ?_) | (refine zY.in_ [28] rfl ?_; refine zY.ofTg rfl rfl (by decide) rfl bA (zH.hd (i := []) (f := cas_h H _ _ _ _ (by assumption) (orU (by assumption) hb (over2_has (by assumption)))) (r := fun x s e g hk => ?_) (p := fun q s e => ?_) (t := ?_))) | (fail_if_success refine zY.known rfl rfl rfl (by fail) ?_); refine zY.split rfl rfl rfl (fun h => ?_) (fun h => ?_)) | (refine zZ.is ?_; first | refine zZ.seq ?_ | (refine zZ.isR (id := 0) ?_; refine zZ.rc [0, 1, 2, 3, 4, 10, 29] [1000, 1001, 1002, 1003, 1004] (r := (.v vQ (.v zJ (.v zJ .e)))) (h := ?_)) | (refine zZ.isR (id := 1) ?_; refine zZ.rc [0, 1, 2, 3, 4, 10, 29] [1000, 1001, 1002, 1003, 1004] (r := (.v vQ (.v zJ .e))) (h := ?_)) | refine zZ.yM rfl bA ?_ | refine zZ.cond rfl (fun h => ?_) (fun h => ?_) | refine zZ.skip ?_ | refine zZ.block ?_ | refine zZ.ret ?_) | refine zG.n ?_ | refine zG.r ?_ | refine yZ.n ?_ | refine yZ.r ?_)
      all_goals (first | exact fun e => hns (by clear hns; simp only [y8, run_bind, zP, zM, Held.zB, Held.zL, Held.zF, cond_true, cond_false, *]) | exact .pan (q := q) rfl (by repeat' first | exact trivial | rfl | constructor) (by repeat' first | exact trivial | exact ⟨_, rfl, rfl⟩ | constructor) (by simp only [y8, run_bind, zP, zM, Held.zB, Held.zL, Held.zF, cond_true, cond_false, *]) | exact .ret (x := ()) (by exact .inl rfl) (by exact .none rfl) (by repeat' first | exact trivial | rfl | constructor) (by simp only [y8, run_bind, zP, zM, Held.zB, Held.zL, Held.zF, cond_true, cond_false, *]) | skip)
      refine ⟨(n, s), ?_, ⟨by assumption, ?_⟩, Nat.lt_succ_self n⟩
      · exact yR K_o K_1e
      · simp only [y8, run_bind, zP, zM, Held.zB, cond_true, cond_false, *]
end Go.Proofs.YtohlllohmoojiaaGreatDoor
/- Set; accesses of a disk; what a flag hasn't is made durable: the program's, whatever makes its accesses: contracts. -/
namespace Go.Proofs.YtohlllohmoojiaaGreatDoor
set_option maxRecDepth 100000
set_option maxHeartbeats 16000000
open Go Go.RowKit
set_option linter.unusedSimpArgs false
set_option linter.unusedVariables false
attribute [local irreducible] zY zZ Step zK Sub zS zH Fn
theorem setOp_h (H : Hnd) (s0 : H.σ) {t r b : Int} (hR : Rc t r) (hb : b = 1 ∨ b = 2) : FnH H 89 [H.doA, .p (.val (.int .i64 t)), .p (.val (.int .i64 r)), .p (.val (.int .i64 b))] [] (fun _ => .any) (fun _ => []) yes s0 (setP (ov1 b) (yC t r 2) b) := by
  unfold Hnd.doA
  refine wY Tryz.func89 rfl Tryz.ntmps89 (Nat.le_of_ble_eq_true rfl) (by decide) (fine_set hb fun _ h => h) fun hok hns => ?_
  repeat' (first | (refine zY.is ?_; first | refine zY.nil ?_ | (refine zY.in_ [13] rfl ?_; refine zY.ofT rfl (zH.hd (i := [7]) (f := set1_h H _ hR hb) (r := fun x s e g hk => ?_) (p := fun q s e => ?_) (t := ?_)))) | (refine zZ.is ?_; first | refine zZ.seq ?_ | (refine zZ.isR (id := 0) ?_; refine zZ.rc [0, 1, 2, 3] [7, 1000, 1001, 1002] (r := (.m m18_1 .e)) (h := ?_)) | (refine zZ.isR (id := 1) ?_; refine zZ.rc [0, 1, 2, 7] [7, 1000, 1001, 1002] (r := (.v vQ (.v zJ (.v zJ (.v yV (.v v14_0 .e)))))) (h := ?_))))
  all_goals (first | exact fun e => hns (by clear hns; simp only [run_bind, zP, zM, Held.zB, Held.zL, Held.zF, cond_true, cond_false, *]) | exact .pan (q := q) rfl (by repeat' first | exact trivial | rfl | constructor) (by repeat' exact trivial) (by simp only [run_bind, zP, zM, Held.zB, Held.zL, Held.zF, cond_true, cond_false, *]) | exact .ret (x := ()) (by exact .inr rfl) (by exact .none rfl) (by repeat' first | exact trivial | rfl | constructor) (by simp only [run_bind, zP, zM, Held.zB, Held.zL, Held.zF, cond_true, cond_false, *]))
def doB (H : Hnd) : Blk := .box 66 [H.doA]
theorem ld_h (H : Hnd) (s0 : H.σ) {t r f : Int} (hR : Rc t r) (hf : 0 ≤ f ∧ f ≤ 7) :
    FnH H 210 [.p (.val (.int .i64 f)), .ptr 1003 0, .ptr 1004 0, .ptr 1005 0] [doB H, vO t, vO r] (fun x => .p (.val (.int .u64 x))) (fun _ => [doB H, vO t, vO r]) U s0 (xU (yC t r f)) := by
  unfold doB Hnd.doA
  refine wY Tryz.func210 rfl Tryz.ntmps210 (Nat.le_of_ble_eq_true rfl) (by decide) (yO _) fun hok hns => ?_
  repeat' (first | (refine zY.nil ?_) | (refine zZ.is ?_; first | refine zZ.seq ?_ | (refine zZ.isR (id := 0) ?_; refine zZ.rc [0, 1, 2, 3] [1000, 1001, 1002, 1003, 1004, 1005] (r := (.v zC .e)) (h := ?_)) | (refine zZ.isR (id := 1) ?_; refine zZ.rk [0, 1, 2, 3, 5] [1000, 1001, 1002, 1003, 1004, 1005] ?_; refine zZ.draws ?_) | refine zZ.ret ?_) | (refine Draws.is ?_; first | refine Draws.rc (.v v2_13 (.v yV (.v yV (.v zJ .e)))) ?_ | (refine Draws.in_ [10] rfl ?_; refine Draws.v rfl rfl (zO (fieldR hR f hf) rfl rfl rfl (by decide)) ?_) | refine Draws.done (by kernel_rfl) (by kernel_rfl) (by kernel_rfl) ?_) | (refine zS.is ?_; first | refine zS.nil ?_ | (refine zS.at_ 5 rfl ?_; refine zS.rc (.v zC .e) ?_) | (refine zS.in_ [11] rfl ?_; refine zS.ofT rfl (zH.hd (i := []) (f := load_h H _ _) (r := fun x s e g hk => ?_) (p := fun q s e => ?_) (t := ?_)))))
  all_goals (first | exact fun e => hns (by clear hns; simp only [run_bind, zP, zM, Held.zB, Held.zL, Held.zF, cond_true, cond_false, *]) | exact .pan (q := q) rfl (by repeat' first | exact trivial | rfl | constructor) (by repeat' first | exact trivial | exact ⟨_, rfl, rfl⟩ | constructor) (by simp only [run_bind, zP, zM, Held.zB, Held.zL, Held.zF, cond_true, cond_false, *]) | exact .ret (by exact .inl rfl) (by exact .one rfl rfl) (by repeat' first | exact trivial | rfl | constructor) (by simp only [run_bind, zP, zM, Held.zB, Held.zL, Held.zF, cond_true, cond_false, *]))
theorem accQ_cells (qs : List Ned) : ∀ e ∈ qs.map accQ, e.cells.length = 6 := fun e he => by
  obtain ⟨r, _, rfl⟩ := List.mem_map.1 he
  rfl
def diskS (H : Hnd) (qs : List Ned) (p : Nat × H.σ) : AS :=
  { t := [(0, H.doA), (4, .p (.val (.bool false))), (7, .p (.sl (qs.map accQ))), (8, .p (.val (.int .i64 (qs.map accQ).length))), (9, .p (.val (.int .i64 p.1)))], s := [(1000, H.b0 p.2), (1001, H.b1 p.2), (1002, H.b2 p.2)] }
theorem disk_h (H : Hnd) (s0 : H.σ) (qs : List Ned) (hq : qs.length ≤ 1000) (ha : ∀ q ∈ qs, qA q) :
    FnH H 211 [H.doA, .p (.sl (qs.map accQ))] [] (fun b => .p (.val (.bool b))) (fun _ => []) yes s0 (diskP qs) := by
  have g4 := accQ_cells qs
  unfold Hnd.doA
  refine wY Tryz.func211 rfl Tryz.ntmps211 (Nat.le_of_ble_eq_true rfl) (by decide) (fine_disk ha) fun hok hns => ?_
  repeat' (first | (refine zY.nil ?_) | (refine zZ.is ?_; first | refine zZ.seq ?_ | (refine zZ.isR (id := 0) ?_; refine zZ.rc [0, 1] [6, 1000, 1001, 1002] (r := (.v zC .e)) (h := ?_)) | (refine zZ.isR (id := 1) ?_; refine zZ.rc [0, 1, 4] [6, 1000, 1001, 1002] (r := (.v zJ (.v v57_1 (.v zJ .e)))) (h := ?_)) | refine zZ.block ?_))
  refine zZ.loop (fun p : Nat × H.σ => diskS H qs p) (fun p => p.1 ≤ qs.length ∧ H.ok p.2 ∧ (diskP (qs.drop p.1)).run H.st p.2 = (diskP qs).run H.st s0) (fun p => qs.length - p.1) (0, s0) ?h0 ⟨Nat.zero_le _, hok, rfl⟩ ?rd
  case h0 =>
    exact yR K_1f K_1g
  case rd =>
    rintro ⟨k, s1⟩ ⟨hk, hok1, ho⟩
    dsimp only at hk hok1 ho ⊢
    unfold diskS Hnd.doA
    dsimp only
    by_cases hlt : k < qs.length
    · have hdec : decide ((k : Int) < ((qs.map accQ).length : Int)) = true := decide_eq_true (by simp; omega)
      have g5 : (qs.map accQ)[k]? = some (accQ qs[k]) := by rw [List.getElem?_map, List.getElem?_eq_getElem hlt]; rfl
      have hqa : qA qs[k] := ha _ (List.getElem_mem hlt)
      rw [List.drop_eq_getElem_cons hlt, diskP] at ho
      generalize qs[k] = q at *
      have g6 : IntKind.i64.wrap ((k : Int) + 1) = ((k + 1 : Nat) : Int) := by rw [wrap_i64 _ (by omega)]; omega
      rw [← ho] at hns ⊢
      rw [show (Pr.ask q fun r => bif r.fail then Pr.ret false else diskP (qs.drop (k + 1))) = (Pr.ask q .ret).bind fun r => bif r.fail then .ret false else diskP (qs.drop (k + 1)) from rfl] at ho hns ⊢
      repeat' (first | (refine zY.is ?_; first | refine zY.nil ?_ | (refine zY.at_ 16 rfl ?_; refine zY.rc (.v v11_0 .e) ?_) | (refine zY.in_ [15] rfl ?_; refine zY.ofT rfl (zH.hd (i := []) (f := do_h H _ q hqa) (r := fun x s e g hk => ?_) (p := fun q s e => ?_) (t := ?_)))) | (refine zZ.is ?_; first | refine zZ.seq ?_ | (refine zZ.isR (id := 2) ?_; refine zZ.rc [0, 4, 6, 7, 8, 9, 10, 16] [6, 1000, 1001, 1002] (r := (.v v43_0 .e)) (h := ?_)) | (refine zZ.isR (id := 3) ?_; refine zZ.rc [0, 4, 6, 7, 8, 9, 10, 16] [6, 1000, 1001, 1002] (r := (.v v7_18 (.v v2_7 (.m yG (.w yQ .e))))) (h := ?_)) | (refine zZ.isR (id := 4) ?_; refine zZ.rc [0, 4, 6, 7, 8, 9, 10, 16] [6, 1000, 1001, 1002] (r := (.v vQ (.v vN .e))) (h := ?_)) | (refine zZ.isR (id := 5) ?_; refine zZ.rc [0, 4, 6, 7, 8, 9, 10, 16] [6, 1000, 1001, 1002] (r := (.v zC .e)) (h := ?_)) | (refine zZ.isR (id := 6) ?_; refine zZ.rc [0, 4, 6, 7, 8, 9, 10, 16] [6, 1000, 1001, 1002] (r := (.v v30_0 (.v zJ .e))) (h := ?_)) | refine zZ.yM rfl bA ?_ | refine zZ.cond rfl (fun h => ?_) (fun h => ?_) | refine zZ.skip ?_ | refine zZ.block ?_ | refine zZ.ret ?_) | refine zG.n ?_ | refine zG.r ?_ | refine yZ.r ?_)
      all_goals (first | exact fun e => hns (by clear ho; clear hns; simp only [run_bind, zP, zM, Held.zB, Held.zL, Held.zF, cond_true, cond_false, *]) | exact .pan (q := q) rfl (by repeat' first | exact trivial | rfl | constructor) (by repeat' exact trivial) (by clear ho; simp only [run_bind, zP, zM, Held.zB, Held.zL, Held.zF, cond_true, cond_false, *]) | exact .ret (by exact .inl rfl) (by exact .one rfl rfl) (by repeat' first | exact trivial | rfl | constructor) (by clear ho; simp only [run_bind, zP, zM, Held.zB, Held.zL, Held.zF, cond_true, cond_false, *]) | skip)
      refine ⟨(k + 1, _), ?_, ⟨by omega, by assumption, ?_⟩, by dsimp only; omega⟩
      · exact yR K_1f K_1g
      · clear ho
        simp only [run_bind, zP, zM, Held.zB, cond_true, cond_false, *]
    · have hdec : decide ((k : Int) < ((qs.map accQ).length : Int)) = false := decide_eq_false (by simp; omega)
      obtain rfl : k = qs.length := by omega
      rw [List.drop_length, diskP] at ho
      rw [← ho] at hns ⊢
      repeat' (first | (refine zY.nil ?_) | (refine zZ.is ?_; first | refine zZ.seq ?_ | (refine zZ.isR (id := 2) ?_; refine zZ.rc [0, 4, 6, 7, 8, 9, 10, 16] [6, 1000, 1001, 1002] (r := (.v v43_0 .e)) (h := ?_)) | (refine zZ.isR (id := 7) ?_; refine zZ.rc [4] [6, 1000, 1001, 1002] (r := (.v zC .e)) (h := ?_)) | refine zZ.yI rfl bA ?_ | refine zZ.exit ?_ | refine zZ.ret ?_))
      all_goals (exact .ret (by exact .inl rfl) (by exact .one rfl rfl) (by repeat' first | exact trivial | rfl | constructor) (by clear ho; simp only [run_bind, zP, zM, Held.zB, Held.zL, Held.zF, cond_true, cond_false, *]))
theorem disk2_h (H : Hnd) (s0 : H.σ) (k s y u v x : Int) :
    FnH H 211 [H.doA, .p (.sl [accV 5 0 0 0 (.sl (byts (bytesE k s y u v x))), accV 6 0 0 0 xW])] [] (fun b => .p (.val (.bool b))) (fun _ => []) yes s0 (diskP (wrAcc k s y u v x)) :=
  disk_h H s0 (wrAcc k s y u v x) (by unfold wrAcc; simp) (asked_wr k s y u v x)
end Go.Proofs.YtohlllohmoojiaaGreatDoor
/- What a flag hasn't is made durable; save, dead: the program's, whatever makes its accesses: contracts. -/
namespace Go.Proofs.YtohlllohmoojiaaGreatDoor
set_option maxRecDepth 100000
set_option maxHeartbeats 16000000
open Go Go.RowKit
set_option linter.unusedSimpArgs false
set_option linter.unusedVariables false
attribute [local irreducible] zY zZ Step zK Sub zS zH Fn
theorem rest_h (H : Hnd) (s0 : H.σ) {t r b f : Int} (hR : Rc t r) (hb : b = 1 ∨ b = 2) (hf : U f) :
    FnH H 192 [H.doA, .p (.val (.int .i64 t)), .p (.val (.int .i64 r)), .p (.val (.int .i64 b)), .p (.val (.int .u64 f))] [] (fun x => .p (.val (.bool x))) (fun _ => []) yes s0 (vD t r b f) := by
  have ch := has_fn f b hf.1 hf.2
  have cs0 := wstamp_fn f
  have hs : U (f / 4) := hf.quo
  have z : U 0 := U.zero
  unfold Hnd.doA
  refine wY Tryz.func192 rfl Tryz.ntmps192 (Nat.le_of_ble_eq_true rfl) (by decide) (fine_rest t r b f hb) fun hok hns => ?_
  cases hh : hasF f b <;> rw [hh] at ch
  case true =>
    repeat' (first | (refine zY.is ?_; first | refine zY.nil ?_ | (refine zY.in_ [15] rfl ?_; refine zY.v rfl rfl (zO (ch) rfl rfl rfl (by decide)) ?_)) | (refine zZ.is ?_; first | refine zZ.seq ?_ | (refine zZ.isR (id := 0) ?_; refine zZ.rc [0, 1, 2, 3, 4] [5, 6, 7, 8, 11, 40, 1000, 1001, 1002] (r := (.m m18_3 (.m m18_1 (.m m18_1 (.m m18_1 (.v zC .e)))))) (h := ?_)) | (refine zZ.isR (id := 1) ?_; refine zZ.rc [4, 5, 6, 7, 8, 10] [5, 6, 7, 8, 11, 40, 1000, 1001, 1002] (r := (.v zJ (.v yV .e))) (h := ?_)) | (refine zZ.isR (id := 2) ?_; refine zZ.rc [4, 5, 6, 7, 8, 10] [5, 6, 7, 8, 11, 40, 1000, 1001, 1002] (r := (.v zC .e)) (h := ?_)) | refine zZ.yM rfl bA ?_ | refine zZ.ret ?_) | refine zG.r ?_)
    all_goals (exact .ret (by exact .inl rfl) (by exact .one rfl rfl) (by repeat' first | exact trivial | rfl | constructor) (by simp only [vD, run_bind, zP, zM, Held.zB, Held.zL, Held.zF, cond_true, cond_false, *]))
  case false =>
    have ps_ := trivial
    repeat' (first | (refine zY.is ?_; first | refine zY.nil ?_ | (refine zY.at_ 18 rfl ?_; refine zY.rc (.v wH (.m yG (.w yQ .e))) ?_) | (refine zY.at_ 25 rfl ?_; refine zY.rc (.v zU (.w yQ .e)) ?_) | (refine zY.at_ 28 rfl ?_; refine zY.rc (.v zU (.w yQ .e)) ?_) | (refine zY.at_ 31 rfl ?_; refine zY.rc (.v zU (.w yQ .e)) ?_) | (refine zY.at_ 34 rfl ?_; refine zY.rc (.v zU (.w yQ .e)) ?_) | (refine zY.in_ [15] rfl ?_; refine zY.v rfl rfl (zO (ch) rfl rfl rfl (by decide)) ?_) | (refine zY.in_ [17] rfl ?_; refine zY.v rfl rfl (zO (cs0) rfl rfl rfl (by decide)) ?_) | (refine zY.in_ [24, 27, 30, 33] rfl ?_; refine zY.ofT rfl (zH.hd (i := [5, 6, 7]) (f := ld_h H _ hR (by decide)) (r := fun x s e g hk => ?_) (p := fun q s e => ?_) (t := ?_))) | (refine zY.in_ [48] rfl ?_; refine zY.ofT rfl (zH.hd (i := [11, 8]) (f := set2_h H _ hR hb _ _ _ _ _ _) (r := fun x s e g hk => ?_) (p := fun q s e => ?_) (t := ?_)))) | (refine zZ.is ?_; first | refine zZ.seq ?_ | (refine zZ.isR (id := 0) ?_; refine zZ.rc [0, 1, 2, 3, 4] [5, 6, 7, 8, 11, 40, 1000, 1001, 1002] (r := (.m m18_3 (.m m18_1 (.m m18_1 (.m m18_1 (.v zC .e)))))) (h := ?_)) | (refine zZ.isR (id := 1) ?_; refine zZ.rc [4, 5, 6, 7, 8, 10] [5, 6, 7, 8, 11, 40, 1000, 1001, 1002] (r := (.v zJ (.v yV .e))) (h := ?_)) | (refine zZ.isR (id := 3) ?_; refine zZ.rc [4, 5, 6, 7, 8, 10] [5, 6, 7, 8, 11, 40, 1000, 1001, 1002] (r := (.v zJ .e)) (h := ?_)) | (refine zZ.isR (id := 4) ?_; refine zZ.rc [5, 6, 7, 8, 10, 11] [5, 6, 7, 8, 11, 40, 1000, 1001, 1002] (r := (.v yV (.v vZ .e))) (h := ?_)) | (refine zZ.isR (id := 5) ?_; refine zZ.rc [5, 6, 7, 8, 10, 11] [5, 6, 7, 8, 11, 40, 1000, 1001, 1002] (r := (.v v14_0 (.v v1_5 .e))) (h := ?_)) | (refine zZ.isR (id := 6) ?_; refine zZ.rc [5, 6, 7, 8, 10, 11, 12] [5, 6, 7, 8, 11, 40, 1000, 1001, 1002] (r := (.v zU (.w yQ .e))) (h := ?_)) | (refine zZ.isR (id := 7) ?_; refine zZ.rc [5, 6, 7, 8, 10, 11, 12] [5, 6, 7, 8, 11, 40, 1000, 1001, 1002] (r := (.v vQ .e)) (h := ?_)) | (refine zZ.isR (id := 8) ?_; refine zZ.rc [5, 6, 7, 8, 10, 11, 12] [5, 6, 7, 8, 11, 40, 1000, 1001, 1002] (r := (.v vQ .e)) (h := ?_)) | (refine zZ.isR (id := 9) ?_; refine zZ.rc [5, 6, 7, 8, 10, 11, 12] [5, 6, 7, 8, 11, 40, 1000, 1001, 1002] (r := (.v vQ .e)) (h := ?_)) | (refine zZ.isR (id := 10) ?_; refine zZ.rc [5, 6, 7, 8, 10, 11, 12] [5, 6, 7, 8, 11, 40, 1000, 1001, 1002] (r := (.v vQ .e)) (h := ?_)) | (refine zZ.isR (id := 11) ?_; refine zZ.rk [5, 6, 7, 8, 10, 11] [5, 6, 7, 8, 11, 40, 1000, 1001, 1002] ?_; refine zZ.draws ?_) | (refine zZ.isR (id := 12) ?_; refine zZ.rc [5, 6, 7, 8, 10, 11] [5, 6, 7, 8, 11, 40, 1000, 1001, 1002] (r := (.v zC .e)) (h := ?_)) | (refine zZ.isR (id := 13) ?_; refine zZ.rc [5, 6, 7, 8, 10, 11] [5, 6, 7, 8, 11, 40, 1000, 1001, 1002] (r := (.v v2_13 (.v yV (.v yV (.v yV (.v v14_0 .e)))))) (h := ?_)) | (refine zZ.isR (id := 14) ?_; refine zZ.rc [10] [5, 6, 7, 8, 11, 40, 1000, 1001, 1002] (r := (.v zC .e)) (h := ?_)) | refine zZ.yI rfl bA ?_ | refine zZ.cond rfl (fun h => ?_) (fun h => ?_) | refine zZ.skip ?_ | refine zZ.ret ?_) | refine zG.r ?_ | (refine Draws.is ?_; first | refine Draws.rc (.v v2_13 (.v vN .e)) ?_ | refine Draws.rc (.v wH (.v wH (.v v20_0 .e))) ?_ | (refine Draws.in_ [37] rfl ?_; refine Draws.v rfl rfl (zO (bytes_fn _ _ _ _ _ _ (by assumption) (by assumption) (by assumption) (by assumption) (by assumption)) rfl rfl rfl (by decide)) ?_) | refine Draws.done (by kernel_rfl) (by kernel_rfl) (by kernel_rfl) ?_) | (refine zS.is ?_; first | refine zS.nil ?_ | (refine zS.at_ 42 rfl ?_; refine zS.rc (.v v52_8 .e) ?_) | (refine zS.in_ [41] rfl ?_; refine zS.ofT rfl (zH.hd (i := []) (f := disk2_h H _ _ _ _ _ _ _) (r := fun x s e g hk => ?_) (p := fun q s e => ?_) (t := ?_)))))
    all_goals try simp only [Bool.not_eq_true', Bool.not_eq_false'] at *
    all_goals (first | exact fun e => hns (by clear hns; simp only [vD, wrP, run_bind, zP, zM, Held.zB, Held.zL, Held.zF, cond_true, cond_false, *]) | exact .pan (q := q) rfl (by repeat' first | exact trivial | rfl | constructor) (by repeat' exact trivial) (by simp only [vD, wrP, run_bind, zP, zM, Held.zB, Held.zL, Held.zF, cond_true, cond_false, *]) | exact .ret (by exact .inl rfl) (by exact .one rfl rfl) (by repeat' first | exact trivial | rfl | constructor) (by simp only [vD, wrP, run_bind, zP, zM, Held.zB, Held.zL, Held.zF, cond_true, cond_false, *]))
theorem save_h (H : Hnd) (s0 : H.σ) {t r b : Int} (hR : Rc t r) (hb : b = 1 ∨ b = 2) :
    FnH H 153 [H.doA, .p (.val (.int .i64 t)), .p (.val (.int .i64 r)), .p (.val (.int .i64 b))] [] (fun x => .p (.val (.bool x))) (fun _ => []) yes s0 (saveP t r b) := by
  unfold Hnd.doA
  refine wY Tryz.func153 rfl Tryz.ntmps153 (Nat.le_of_ble_eq_true rfl) (by decide) (fine_save t r b hb) fun hok hns => ?_
  repeat' (first | (refine zY.is ?_; first | refine zY.nil ?_ | (refine zY.at_ 8 rfl ?_; refine zY.rc (.v zC .e) ?_) | (refine zY.in_ [16] rfl ?_; refine zY.ofT rfl (zH.hd (i := []) (f := flag_h H _ hR) (r := fun x s e g hk => ?_) (p := fun q s e => ?_) (t := ?_))) | (refine zY.in_ [17] rfl ?_; refine zY.ofT rfl (zH.hd (i := []) (f := rest_h H _ hR hb (by assumption)) (r := fun x s e g hk => ?_) (p := fun q s e => ?_) (t := ?_)))) | (refine zZ.is ?_; first | refine zZ.seq ?_ | (refine zZ.isR (id := 0) ?_; refine zZ.rc [0, 1, 2, 3] [1000, 1001, 1002] (r := (.v zC .e)) (h := ?_)) | (refine zZ.isR (id := 1) ?_; refine zZ.rc [0, 1, 2, 3, 8] [1000, 1001, 1002] (r := (.v vQ (.v zJ (.v zJ (.v zJ (.v vQ (.v zJ (.v zJ .e)))))))) (h := ?_)) | refine zZ.ret ?_))
  all_goals (first | exact fun e => hns (by clear hns; simp only [saveP, run_bind, zP, zM, Held.zB, Held.zL, Held.zF, cond_true, cond_false, *]) | exact .pan (q := q) rfl (by repeat' first | exact trivial | rfl | constructor) (by repeat' exact trivial) (by simp only [saveP, run_bind, zP, zM, Held.zB, Held.zL, Held.zF, cond_true, cond_false, *]) | exact .ret (by exact .inl rfl) (by exact .one rfl rfl) (by repeat' first | exact trivial | rfl | constructor) (by simp only [saveP, run_bind, zP, zM, Held.zB, Held.zL, Held.zF, cond_true, cond_false, *]))
end Go.Proofs.YtohlllohmoojiaaGreatDoor
/- References in words; the place of what follows: contracts. -/
namespace Go.Proofs.YtohlllohmoojiaaGreatDoor
set_option maxRecDepth 100000
set_option maxHeartbeats 16000000
open Go Go.RowKit
set_option linter.unusedSimpArgs false
set_option linter.unusedVariables false
attribute [local irreducible] zY zZ Step zK Sub zS zH Fn
def xX (w : Int) : Int := w / 2 % 1048576
theorem refW_lo (w : Int) : 0 ≤ xX w := by unfold xX; omega
theorem refW_hi (w : Int) : xX w < 1048576 := by unfold xX; omega
def nextF (t r : Int) : Int := bif decide (r = 0) then 0 else yC t r 0
theorem andLow (x : Int) (k : Nat) (hk : 2 ^ k ≤ 18446744073709551616) (h0 : 0 ≤ x) (h1 : x < 18446744073709551616) : bits .and .u64 x ((2 ^ k - 1 : Nat) : Int) = x % ((2 ^ k : Nat) : Int) := by
  obtain ⟨n, rfl⟩ := Int.eq_ofNat_of_zero_le h0
  rw [u64_and_nat n _ (by omega) (by omega), Nat.and_two_pow_sub_one_eq_mod]
  omega
theorem ref_fn (w : Int) (h0 : 0 ≤ w) (h1 : w < 18446744073709551616) : Fn Tryz.prog 78 [.val (.int .u64 w)] (.p (.val (.int .i64 (xX w)))) := by
  have g1 : bits .and .u64 (w / 2) 1048575 = xX w := andLow (w / 2) 20 (by decide) (by omega) (by omega)
  have g2 : IntKind.i64.wrap (xX w) = xX w := wrap_i64 _ (by have := refW_lo w; have := refW_hi w; omega)
  refine wW Tryz.func78 rfl Tryz.ntmps78 (Nat.le_of_ble_eq_true rfl) ?_
  repeat' (first | (refine zY.nil ?_) | (refine zZ.is ?_; first | refine zZ.seq ?_ | (refine zZ.isR (id := 0) ?_; refine zZ.rc [0] [] (r := (.v zC .e)) (h := ?_)) | (refine zZ.isR (id := 1) ?_; refine zZ.rc [0, 2] [] (r := (.v zJ (.v v39_1 (.v v35_0 (.v v6_0 (.v zC .e)))))) (h := ?_)) | refine zZ.ret ?_))
  all_goals exact ⟨.inl rfl, gives1 rfl rfl rfl⟩
theorem refRef_fn (w : Int) (h0 : 0 ≤ w) (h1 : w < 18446744073709551616) : Fn Tryz.prog 90 [.val (.int .u64 w)] (.p (.val (.int .i64 (xX w)))) := by
  have g1 : IntKind.u64.wrap (w.tdiv 2) = w / 2 := by rw [Int.tdiv_eq_ediv_of_nonneg h0, wrapU]; omega
  have g2 : (w / 2).tmod 1048576 = xX w := Int.tmod_eq_emod_of_nonneg (by omega)
  have g3 : IntKind.i64.wrap (xX w) = xX w := wrap_i64 _ (by have := refW_lo w; have := refW_hi w; omega)
  refine wW Tryz.func90 rfl Tryz.ntmps90 (Nat.le_of_ble_eq_true rfl) ?_
  repeat' (first | (refine zY.nil ?_) | (refine zZ.is ?_; first | refine zZ.seq ?_ | (refine zZ.isR (id := 0) ?_; refine zZ.rc [0] [] (r := (.v zC .e)) (h := ?_)) | (refine zZ.isR (id := 1) ?_; refine zZ.rc [0, 2] [] (r := (.v zJ (.v v33_0 (.v v34_0 (.v v6_0 (.v zC .e)))))) (h := ?_)) | refine zZ.ret ?_))
  all_goals exact ⟨.inl rfl, gives1 rfl rfl rfl⟩
theorem link_fn (r : Int) (h : 0 ≤ r ∧ r ≤ 1048576) : Fn Tryz.prog 82 [.val (.int .i64 r), .val (.bool false)] (.p (.val (.int .u64 (2 * r)))) := by
  have g1 : IntKind.u64.wrap r = r := wrap_u64 _ (by omega)
  have g2 : IntKind.u64.wrap (r * 2 ^ (1 : Int).toNat) = 2 * r := by rw [wrapU]; show r * 2 % _ = _; omega
  refine wW Tryz.func82 rfl Tryz.ntmps82 (Nat.le_of_ble_eq_true rfl) ?_
  repeat' (first | (refine zY.nil ?_) | (refine zZ.is ?_; first | refine zZ.seq ?_ | (refine zZ.isR (id := 0) ?_; refine zZ.rc [0, 1] [] (r := (.v zC .e)) (h := ?_)) | (refine zZ.isR (id := 1) ?_; refine zZ.rc [0, 1, 4] [] (r := (.v zJ (.v v6_0 (.v v38_0 (.v zC .e))))) (h := ?_)) | (refine zZ.isR (id := 2) ?_; refine zZ.rc [1, 4, 5] [] (r := (.v zJ .e)) (h := ?_)) | (refine zZ.isR (id := 4) ?_; refine zZ.rc [4, 5] [] (r := (.v zJ (.v zC .e))) (h := ?_)) | refine zZ.yI rfl bA ?_ | refine zZ.skip ?_ | refine zZ.ret ?_))
  all_goals exact ⟨.inl rfl, gives1 rfl rfl rfl⟩
theorem linkRef_fn (r : Int) (h : 0 ≤ r ∧ r ≤ 1048576) : Fn Tryz.prog 96 [.val (.int .i64 r), .val (.bool false)] (.p (.val (.int .u64 (2 * r)))) := by
  have g1 : IntKind.i64.wrap (2 * r) = 2 * r := wrap_i64 _ (by omega)
  have g2 : IntKind.u64.wrap (2 * r) = 2 * r := wrap_u64 _ (by omega)
  refine wW Tryz.func96 rfl Tryz.ntmps96 (Nat.le_of_ble_eq_true rfl) ?_
  repeat' (first | (refine zY.nil ?_) | (refine zZ.is ?_; first | refine zZ.seq ?_ | (refine zZ.isR (id := 0) ?_; refine zZ.rc [0, 1] [] (r := (.v zC .e)) (h := ?_)) | (refine zZ.isR (id := 1) ?_; refine zZ.rc [0, 1, 4] [] (r := (.v zJ .e)) (h := ?_)) | (refine zZ.isR (id := 3) ?_; refine zZ.rc [0, 4] [] (r := (.v zJ (.v v32_0 (.v v6_0 (.v zC .e))))) (h := ?_)) | refine zZ.yI rfl bA ?_ | refine zZ.skip ?_ | refine zZ.ret ?_))
  all_goals exact ⟨.inl rfl, gives1 rfl rfl rfl⟩
theorem cnext_fn (t r : Int) (h0 : Small t) (h1 : 0 ≤ r ∧ r ≤ 1048576) : Fn Tryz.prog 80 [.val (.int .i64 t), .val (.int .i64 r)] (.p (.val (.int .i64 (nextF t r)))) := by
  have c1 := field_fn t r 0 h0 h1 (by unfold Small; omega)
  unfold nextF
  refine wW Tryz.func80 rfl Tryz.ntmps80 (Nat.le_of_ble_eq_true rfl) ?_
  cases hb : decide (r = 0)
  all_goals
    repeat' (first | (refine zY.is ?_; first | refine zY.nil ?_ | (refine zY.at_ 4 rfl ?_; refine zY.rc (.v zC .e) ?_) | (refine zY.in_ [9] rfl ?_; refine zY.v rfl rfl (zO (c1) rfl rfl rfl (by decide)) ?_)) | (refine zZ.is ?_; first | refine zZ.seq ?_ | (refine zZ.isR (id := 0) ?_; refine zZ.rc [0, 1] [] (r := (.v zC .e)) (h := ?_)) | (refine zZ.isR (id := 1) ?_; refine zZ.rc [0, 1, 4] [] (r := (.v zJ (.v v41_0 .e))) (h := ?_)) | (refine zZ.isR (id := 2) ?_; refine zZ.rc [0, 1, 4] [] (r := (.v zC .e)) (h := ?_)) | (refine zZ.isR (id := 3) ?_; refine zZ.rc [0, 1, 4] [] (r := (.v zJ (.v zJ .e))) (h := ?_)) | refine zZ.yM rfl bA ?_ | refine zZ.yI rfl bA ?_ | refine zZ.skip ?_ | refine zZ.ret ?_) | refine zG.r ?_)
    all_goals exact ⟨.inl rfl, gives1 rfl rfl rfl⟩
theorem cnextRef_fn (t r : Int) (h0 : Small t) (h1 : 0 ≤ r ∧ r ≤ 1048576) : Fn Tryz.prog 94 [.val (.int .i64 t), .val (.int .i64 r)] (.p (.val (.int .i64 (nextF t r)))) := by
  have c1 := fieldRef_fn t r 0 h0 h1 (by unfold Small; omega)
  unfold nextF
  refine wW Tryz.func94 rfl Tryz.ntmps94 (Nat.le_of_ble_eq_true rfl) ?_
  cases hb : decide (r = 0)
  all_goals
    repeat' (first | (refine zY.is ?_; first | refine zY.nil ?_ | (refine zY.at_ 4 rfl ?_; refine zY.rc (.v zC .e) ?_) | (refine zY.in_ [9] rfl ?_; refine zY.v rfl rfl (zO (c1) rfl rfl rfl (by decide)) ?_)) | (refine zZ.is ?_; first | refine zZ.seq ?_ | (refine zZ.isR (id := 0) ?_; refine zZ.rc [0, 1] [] (r := (.v zC .e)) (h := ?_)) | (refine zZ.isR (id := 1) ?_; refine zZ.rc [0, 1, 4] [] (r := (.v zJ (.v v41_0 .e))) (h := ?_)) | (refine zZ.isR (id := 2) ?_; refine zZ.rc [0, 1, 4] [] (r := (.v zC .e)) (h := ?_)) | (refine zZ.isR (id := 3) ?_; refine zZ.rc [0, 1, 4] [] (r := (.v zJ (.v zJ .e))) (h := ?_)) | refine zZ.yM rfl bA ?_ | refine zZ.yI rfl bA ?_ | refine zZ.skip ?_ | refine zZ.ret ?_) | refine zG.r ?_)
    all_goals exact ⟨.inl rfl, gives1 rfl rfl rfl⟩
end Go.Proofs.YtohlllohmoojiaaGreatDoor
/- The document's functions over a log: where they stand in what is told. -/
namespace Go.Proofs.YtohlllohmoojiaaGreatDoor
set_option maxRecDepth 100000
set_option maxHeartbeats 16000000
open Go Go.RowKit
set_option linter.unusedSimpArgs false
set_option linter.unusedVariables false
theorem loop_elim {ι α : Type} (body : ι → Pr (ι ⊕ α)) (n : Nat) (s : ι) : Pr.loop body (n + 1) s = (body s).bind (Sum.elim (Pr.loop body n) .ret) := by
  rw [Pr.loop_succ]
  congr 1
  funext x
  cases x <;> rfl
theorem leftS_no {L : List yE} {σ : CSt} (h : σ.stop = false) : wI L σ = L.length - σ.i + 1 := by unfold wI; rw [h]; rfl
theorem leftS_yes {L : List yE} {σ : CSt} (h : σ.stop = true) : wI L σ = 0 := by unfold wI; rw [h]; rfl
/-- each round goes on in the log, or stops -/
theorem Rel.less {α : Type} {good : α → Prop} {L : List yE} {p : Pr α} {σ τ : CSt} {x : α} (hL : wF L) (hf : p.yT good) (ha : ∃ q k, p = .ask q k) (hi : σ.i ≤ L.length) (hs : σ.stop = false) (h : Rel L p σ x τ) : wI L τ < wI L σ := by
  have h1 := hf.log hL hi
  rw [leftS_no hs]
  cases m : p.run (y5 L) σ.i with
  | stuck => rw [m] at h1; exact h1.elim
  | need q j =>
    have := h.need hs q j m
    subst this
    rw [leftS_yes rfl]
    omega
  | done y j =>
    rw [m] at h1
    obtain ⟨rfl, rfl⟩ := h.done hs y j m
    rw [leftS_no rfl]
    obtain ⟨q, k, rfl⟩ := ha
    rw [wU] at m
    cases e : L[σ.i]? with
    | none =>
      have e0 : y5 L σ.i q = .need q L.length := by unfold y5; rw [e]
      rw [e0] at m
      cases m
    | some r =>
      have e0 : y5 L σ.i q = .ret r (σ.i + 1) := by unfold y5; rw [e]
      rw [e0] at m
      have h2 := run_le m
      have h3 := (List.getElem?_eq_some_iff.1 e).1
      dsimp only
      omega
/-- there q tells what is left of P -/
structure At {α : Type} (L : List yE) (P : Pr α) (σ : CSt) (q : Pr α) (τ : CSt) : Prop where
  i : τ.i ≤ L.length
  go : ∀ y υ, Rel L q τ y υ → Rel L P σ y υ
section
variable {α β ι : Type} {L : List yE} {P q : Pr α} {σ τ υ : CSt} {good : β → Prop} {m : Nat}
theorem At.refl (h : σ.i ≤ L.length) : At L P σ P σ := ⟨h, fun _ _ h => h⟩
theorem At.step {p : Pr β} {f : β → Pr α} {x : β} (h : At L P σ (p.bind f) τ) (hr : Rel L p τ x υ) (hi : υ.i ≤ L.length) : At L P σ (f x) υ := ⟨hi, fun y w hy => h.go y w (hr.bind hy)⟩
theorem At.ret {x : α} (h : At L P σ (.ret x) τ) : Rel L P σ x τ := h.go x τ (.ret x)
theorem At.halt (h : At L P σ q τ) (hs : τ.stop = true) (y : α) : Rel L P σ y τ := h.go y τ (.stop hs)
theorem At.yes {c : Bool} {q' : Pr α} (h : At L P σ (bif c then q else q') τ) (hc : c = true) : At L P σ q τ := by subst hc; exact h
theorem At.no {c : Bool} {q' : Pr α} (h : At L P σ (bif c then q else q') τ) (hc : c = false) : At L P σ q' τ := by subst hc; exact h
theorem At.round {body : ι → Pr (ι ⊕ α)} {m : Nat} {s : ι} {r : ι ⊕ α} (h : At L P σ (.loop body (m + 1) s) τ) (hr : Rel L (body s) τ r υ) (hi : υ.i ≤ L.length) : At L P σ (Sum.elim (Pr.loop body m) .ret r) υ := by
  rw [loop_elim] at h
  exact h.step hr hi
theorem At.vP {γ : Type} {body : ι → Pr (ι ⊕ γ)} {f : γ → Pr α} {s : ι} {r : ι ⊕ γ} (h : At L P σ ((Pr.loop body (m + 1) s).bind f) τ) (hr : Rel L (body s) τ r υ) (hi : υ.i ≤ L.length) : At L P σ ((Sum.elim (Pr.loop body m) .ret r).bind f) υ := by
  rw [loop_elim, Pr.bind_assoc] at h
  exact h.step hr hi
theorem q9 (h : wI L τ ≤ m) (hs : τ.stop = false) : ∃ n, m = n + 1 := by
  rw [leftS_no hs] at h
  exact ⟨m - 1, by omega⟩
theorem left_many (hL : wF L) : wI L σ ≤ many := by
  unfold wI many
  have := hL.1
  cases σ.stop
  · show L.length - σ.i + 1 ≤ _
    omega
  · exact Nat.zero_le _
end
end Go.Proofs.YtohlllohmoojiaaGreatDoor
/- The sorted list's operations, as trees. -/
namespace Go.Proofs.YtohlllohmoojiaaGreatDoor
set_option maxRecDepth 100000
set_option maxHeartbeats 16000000
open Go Go.RowKit
set_option linter.unusedSimpArgs false
set_option linter.unusedVariables false
/-- a reference, as words hold it -/
structure Rf (x : Int) : Prop where
  lo : 0 ≤ x
  hi : x ≤ 1048575
theorem wV (w : Int) : Rf (xX w) := ⟨refW_lo w, by have := refW_hi w; omega⟩
theorem rf_0 : Rf 0 := ⟨by decide, by decide⟩
theorem Rf.u {x : Int} (h : Rf x) : U x := ⟨h.lo, by have := h.hi; omega⟩
theorem Rf.u2 {x : Int} (h : Rf x) : U (2 * x) := ⟨by have := h.lo; omega, by have := h.hi; omega⟩
theorem Rf.rc {t x : Int} (h : Rf x) (ht : Small t) : Rc t x := ⟨ht, h.lo, by have := h.hi; omega⟩
theorem Rf.le {x : Int} (h : Rf x) : 0 ≤ x ∧ x ≤ 1048576 := ⟨h.lo, by have := h.hi; omega⟩
theorem hw_succ {w : Int} (h : U w) (he : decide (w % 2 = 1) = false) : 0 ≤ w + 1 ∧ w + 1 ≤ 18446744073709551615 := by
  have := of_decide_eq_false he
  have h1 := h.1
  have h2 := h.2
  omega
theorem U.succ {w : Int} (h : U w) (he : decide (w % 2 = 1) = false) : U (w + 1) := by
  have := of_decide_eq_false he
  have h1 := h.1
  have h2 := h.2
  constructor <;> omega
/-! ### A record is given back -/
def vR (t r at_ : Int) (_ : Unit) : Pr (Unit ⊕ Unit) := (xU at_).bind fun h => (storeP (yC t r 7) h).bind fun _ => (casP at_ h r).bind fun d => .ret (bif d then .inr () else .inl ())
def retLoop (t r at_ : Int) : Pr Unit := .loop (vR t r at_) many ()
def limboF (e : Int) : Int := 4 + e % 3
def retireP (t r : Int) : Pr Unit := (xU 3).bind fun e => retLoop t r (limboF e)
theorem fine_retL (t r at_ : Int) (hr : U r) : (retLoop t r at_).yT yes :=
  Pr.yT.loop yes (fun _ => ⟨_, _, rfl⟩) (fun u _ => .bind (yO _) fun _ hh => .bind (fine_store _ hh) fun _ _ => .bind (qB _ hh hr) fun d _ => Pr.yT.ret (by cases d <;> trivial)) () trivial
theorem fine_retire (t : Int) {r : Int} (hr : U r) : (retireP t r).yT yes := .bind (yO _) fun _ _ => fine_retL _ _ _ hr
/-! ### A walk along the list: it begins anew, or is at a record behind another one -/
structure wK where
  p : Int
  x : Int
  is : Bool
  ok : Bool
abbrev WSt := Option (Int × Int)
structure WOK (a b : Int) : Prop where
  p : Rf a
  x : Rf b
  n : decide (b = 0) = false
theorem WOK.one {p x : Int} (h : WOK p x) : 1 ≤ x := by have := of_decide_eq_false h.n; have := h.x.lo; omega
def wok : WSt → Prop
  | none => True
  | some (p, x) => WOK p x
structure FOK (r : wK) : Prop where
  p : Rf r.p
  x : Rf r.x
  n : r.is = true → 1 ≤ r.x
def endW (p x : Int) : WSt ⊕ wK := bif decide (x = 0) then .inr ⟨p, 0, false, true⟩ else .inl (some (p, x))
theorem endW_ok {p : Int} (w : Int) (hp : Rf p) : Next wok FOK (endW p (xX w)) := by
  unfold endW
  cases h : decide (xX w = 0)
  · exact ⟨hp, wV w, h⟩
  · exact ⟨hp, rf_0, fun h => by cases h⟩
/-- what is marked is taken out, or another one was quicker, or the disk failed -/
inductive Took where
  | fail
  | miss
  | done
def Took.d : Took → Bool
  | .done => true
  | _ => false
def Took.ok : Took → Bool
  | .fail => false
  | _ => true
def takeP (t p x w : Int) : Pr Took := (saveP t x 2).bind fun ok => bif ok then (casP (nextF t p) (2 * x) (2 * xX w)).bind fun d => bif d then (retireP t x).bind fun _ => .ret .done else .ret .miss else .ret .fail
theorem fine_take (t p w : Int) {x : Int} (hx : Rf x) : (takeP t p x w).yT yes :=
  .bind (fine_save _ _ _ (.inr rfl)) fun _ _ => .cond (.bind (qB _ hx.u2 (wV w).u2) fun _ _ => .cond (.bind (fine_retire _ hx.u) fun _ _ => trivial) trivial) trivial
def tookR (p x w : Int) : Took → WSt ⊕ wK
  | .done => endW p (xX w)
  | .miss => .inl none
  | .fail => .inr ⟨p, x, false, false⟩
def tookP (t p x w : Int) : Pr (WSt ⊕ wK) := (takeP t p x w).bind fun r => .ret (tookR p x w r)
theorem fine_took (t w : Int) {p x : Int} (h : WOK p x) : (tookP t p x w).yT (Next wok FOK) :=
  .bind (fine_take t p w h.x) fun r _ => Pr.yT.ret (by
    cases r with
    | done => exact endW_ok w h.p
    | miss => trivial
    | fail => exact ⟨h.p, h.x, fun h => by cases h⟩)
/-- a round, by what is done at a record that isn't marked -/
def yY (t : Int) (at_ : Int → Int → Int → Pr (WSt ⊕ wK)) : WSt → Pr (WSt ⊕ wK)
  | none => (xU 0).bind fun h => .ret (endW 0 (xX h))
  | some (p, x) => (xU (yC t x 0)).bind fun w => bif decide (w % 2 = 1) then tookP t p x w else at_ p x w
def walkP (t : Int) (at_ : Int → Int → Int → Pr (WSt ⊕ wK)) : Pr wK := .loop (yY t at_) many none
theorem wL {t : Int} {at_ : Int → Int → Int → Pr (WSt ⊕ wK)} (h : ∀ p x w, WOK p x → U w → decide (w % 2 = 1) = false → (at_ p x w).yT (Next wok FOK)) : ∀ s, wok s → (yY t at_ s).yT (Next wok FOK)
  | none, _ => .bind (yO _) fun w _ => Pr.yT.ret (endW_ok w rf_0)
  | some (p, x), hw => .bind (yO _) fun w hu => .condB (fun _ => fine_took t w hw) fun hm => h p x w hw hu hm
theorem fine_walk {t : Int} {at_ : Int → Int → Int → Pr (WSt ⊕ wK)} (h : ∀ p x w, WOK p x → U w → decide (w % 2 = 1) = false → (at_ p x w).yT (Next wok FOK)) : (walkP t at_).yT FOK :=
  Pr.yT.loop wok (fun s => by match s with | none => exact ⟨_, _, rfl⟩ | some (p, x) => exact ⟨_, _, rfl⟩) (wL h) none trivial
def xV (t k p x w : Int) : Pr (WSt ⊕ wK) := (xU (yC t x 1)).bind fun n => bif decide (k ≤ n) then .ret (.inr ⟨p, x, decide (n = k), true⟩) else .ret (endW x (xX w))
theorem qF (t k p x w : Int) (h : WOK p x) : (xV t k p x w).yT (Next wok FOK) :=
  .bind (yO _) fun _ _ => .cond (Pr.yT.ret ⟨h.p, h.x, fun _ => h.one⟩) (Pr.yT.ret (endW_ok w h.x))
def alongP (t k : Int) : Pr wK := walkP t (xV t k)
theorem fine_along (t k : Int) : (alongP t k).yT FOK := fine_walk fun p x w h _ _ => qF t k p x w h
def vK (t k : Int) : Pr wK := (alongP t k).bind fun r => bif r.ok then .ret r else .ret ⟨0, 0, false, false⟩
theorem fine_search (t k : Int) : (vK t k).yT FOK := .bind (fine_along t k) fun _ h => .cond (Pr.yT.ret h) (Pr.yT.ret ⟨rf_0, rf_0, fun h => by cases h⟩)
theorem nextF_pos (t : Int) {x : Int} (h : decide (x = 0) = false) : nextF t x = yC t x 0 := by unfold nextF; rw [h]; rfl
/-! ### Marks -/
def setMark (t x w : Int) : Pr Bool := casP (nextF t x) w (w + 1)
def markP (t x : Int) : Pr Bool := (xU (nextF t x)).bind fun w => bif decide (w % 2 = 1) then .ret false else setMark t x w
theorem fine_mark (t x : Int) : (markP t x).yT yes := .bind (yO _) fun _ hw => .condB (fun _ => trivial) fun h => qB _ hw (hw.succ h)
/-! ### A sweep -/
/-- a record that isn't marked: does it stay to be looked at again? -/
def sweepIn (t s x w : Int) : Pr Bool := (xU (yC t x 1)).bind fun k => bif decide (k % 2147483648 = 0) then .ret false else (xU (yC t x 4)).bind fun su => (xU (yC t x 5)).bind fun sv =>
  bif !decide (su = s) && !decide (sv = s) then .ret false else (setMark t x w).bind fun d => bif d then (setP (ov1 2) (yC t x 2) 2).bind fun _ => .ret true else .ret true
theorem fine_sweepIn (t s x w : Int) (hw : U w) (h : decide (w % 2 = 1) = false) : (sweepIn t s x w).yT yes :=
  .bind (yO _) fun _ _ => .cond trivial (.bind (yO _) fun _ _ => .bind (yO _) fun _ _ => .cond trivial (.bind (qB _ hw (hw.succ h)) fun _ _ => .cond (.bind (fine_set (.inr rfl) fun _ h => h) fun _ _ => trivial) trivial))
def xB (t s p x w : Int) : Pr (WSt ⊕ wK) := (sweepIn t s x w).bind fun b => bif b then .ret (.inl (some (p, x))) else .ret (endW x (xX w))
theorem vU (t s p x w : Int) (h : WOK p x) (hw : U w) (hm : decide (w % 2 = 1) = false) : (xB t s p x w).yT (Next wok FOK) := .bind (fine_sweepIn t s x w hw hm) fun _ _ => .cond (Pr.yT.ret h) (Pr.yT.ret (endW_ok w h.x))
def sweepL (t s : Int) : Pr wK := walkP t (xB t s)
theorem fine_sweepL (t s : Int) : (sweepL t s).yT FOK := fine_walk fun p x w h hw hm => .bind (fine_sweepIn t s x w hw hm) fun _ _ => .cond (Pr.yT.ret h) (Pr.yT.ret (endW_ok w h.x))
def sweepP (t s : Int) : Pr Bool := (sweepL t s).bind fun r => .ret r.ok
theorem fine_sweep (t s : Int) : (sweepP t s).yT yes := .bind (fine_sweepL t s) fun _ _ => trivial
/-! ### Seeks, and links -/
def endS (x : Int) : Int ⊕ (Int × Bool) := bif decide (x = 0) then .inr (0, false) else .inl x
def vY (t k x : Int) : Pr (Int ⊕ (Int × Bool)) := (xU (yC t x 1)).bind fun n => bif decide (k ≤ n) then .ret (.inr (x, decide (n = k))) else (xU (yC t x 0)).bind fun w => .ret (endS (xX w))
def seekP (t from_ k : Int) : Pr (Int × Bool) := (xU (nextF t from_)).bind fun w => bif decide (xX w = 0) then .ret (0, false) else .loop (vY t k) many (xX w)
structure SOK (a : Int) : Prop where
  x : Rf a
  n : decide (a = 0) = false
theorem SOK.one {x : Int} (h : SOK x) : 1 ≤ x := by have := of_decide_eq_false h.n; have := h.x.lo; omega
structure SFound (r : Int × Bool) : Prop where
  x : Rf r.1
  n : r.2 = true → 1 ≤ r.1
theorem endS_ok (w : Int) : Next SOK SFound (endS (xX w)) := by
  unfold endS
  cases h : decide (xX w = 0)
  · exact ⟨wV w, h⟩
  · exact ⟨rf_0, fun h => by cases h⟩
theorem fine_seekR (t k x : Int) (hx : SOK x) : (vY t k x).yT (Next SOK SFound) :=
  .bind (yO _) fun _ _ => .cond (Pr.yT.ret ⟨hx.x, fun _ => hx.one⟩) (.bind (yO _) fun w _ => Pr.yT.ret (endS_ok w))
theorem fine_seek (t from_ k : Int) : (seekP t from_ k).yT SFound :=
  .bind (yO _) fun w _ => .condB (fun _ => Pr.yT.ret ⟨rf_0, fun h => by cases h⟩) fun h0 => Pr.yT.loop SOK (fun _ => ⟨_, _, rfl⟩) (fine_seekR t k) _ ⟨wV w, h0⟩
def linkP (t p x r : Int) : Pr Bool := (storeP (nextF t r) (2 * x)).bind fun _ => casP (nextF t p) (2 * x) (2 * r)
theorem fine_link (t p : Int) {x r : Int} (hx : Rf x) (hr : Rf r) : (linkP t p x r).yT yes := .bind (fine_store _ hx.u2) fun _ _ => qB _ hx.u2 hr.u2
/-! ### What is left -/
/-- what is left, at a record or at none -/
def contS (t k : Int) (n : Nat) (x : Int) : Pr (Int × Bool) := bif decide (x = 0) then .ret (0, false) else .loop (vY t k) n x
theorem contS_eq (t k : Int) (n : Nat) (x : Int) : Sum.elim (Pr.loop (vY t k) n) .ret (endS x) = contS t k n x := by
  unfold endS contS
  cases decide (x = 0) <;> rfl
/-- the same of a walk -/
def contL (t : Int) (at_ : Int → Int → Int → Pr (WSt ⊕ wK)) (n : Nat) (p x : Int) : Pr wK := bif decide (x = 0) then .ret ⟨p, 0, false, true⟩ else .loop (yY t at_) n (some (p, x))
theorem vX (t : Int) (at_ : Int → Int → Int → Pr (WSt ⊕ wK)) (n : Nat) (p x : Int) : Sum.elim (Pr.loop (yY t at_) n) .ret (endW p x) = contL t at_ n p x := by
  unfold endW contL
  cases decide (x = 0) <;> rfl
/-! ### An operation -/
structure OutN where
  e : Int
  is : Bool
  n : Int
  w : Int
structure OpL (k u v w : Int) : Prop where
  u : k = 9 ∨ k = 24 ∨ k = 25 → Rf u
  v : k = 24 → Rf v ∧ Rf w
  w : U w
def opL (t k u v w : Int) : Pr OutN :=
  bif decide (k = 8) then (vK t w).bind fun r => bif r.ok then .ret ⟨0, r.is, r.x, r.p⟩ else .ret ⟨7, false, 0, 0⟩ else
  bif decide (k = 25) then (seekP t u w).bind fun r => .ret ⟨0, r.2, r.1, 0⟩ else
  bif decide (k = 24) then (linkP t u v w).bind fun b => .ret ⟨0, b, 0, 0⟩ else
  bif decide (k = 9) then (markP t u).bind fun b => .ret ⟨0, b, 0, 0⟩ else
  bif decide (k = 10) then (sweepP t w).bind fun b => bif b then .ret ⟨0, false, 0, 0⟩ else .ret ⟨7, false, 0, 0⟩ else .ret ⟨1, false, 0, 0⟩
theorem fine_opL {t k u v w : Int} (h : OpL k u v w) : (opL t k u v w).yT yes :=
  .condB (fun _ => .bind (fine_search t w) fun _ _ => .cond trivial trivial) fun _ => .condB (fun _ => .bind (fine_seek t u w) fun _ _ => trivial) fun _ =>
  .condB (fun e => .bind (fine_link t u (h.v (of_decide_eq_true e)).1 (h.v (of_decide_eq_true e)).2) fun _ _ => trivial) fun _ => .condB (fun _ => .bind (fine_mark t u) fun _ _ => trivial) fun _ =>
  .condB (fun _ => .bind (fine_sweep t w) fun _ _ => .cond trivial trivial) fun _ => trivial
end Go.Proofs.YtohlllohmoojiaaGreatDoor
/- A struct's literal that holds closures, in a new variable. Generic over the program. -/
namespace Go.Proofs.YtohlllohmoojiaaGreatDoor
set_option maxRecDepth 100000
set_option maxHeartbeats 16000000
open Go Go.RowKit
set_option linter.unusedSimpArgs false
set_option linter.unusedVariables false
section
variable {P : Program} {n : Nat} {ops : Array Oper} {S : AS} {K : Exit → AS → Prop}
/-- a struct's literal of which parts are closures, or pointers, in a new variable -/
theorem zY.buildBx {o1 o2 : Oper} {rest : List Oper} {d1 d2 t : Nat} {ps : Array (Nat × Operand)} {pl : List (Nat × Nat)} {z : Value} {zs : List AV} [hb : BuildA P t pl] [hz : ZeroA P t z]
    (h1 : o1.op = .build t ps) (g1 : o1.guard = none) (e1 : o1.dst = some d1)
    (h2 : o2.op = .box t (.tmp d1)) (g2 : o2.guard = none) (e2 : o2.dst = some d2)
    (hn1 : d1 < n) (hn2 : d2 < n) (hz1 : z.cells.toList.all (fun u => u.oneCell') = true)
    (hk : ps.toList.all (fun p => (S.get p.2).qW) = true)
    (hf : fillA (fun i => pl[i]?) (z.cells.toList.map fun u => .p (.val u)) (ps.toList.map fun p => (p.1, S.get p.2)) = some zs) (hl : zs.length = z.cells.toList.length)
    (hr : zY P n ops rest (((S.put d1 .any).create d2 (.box t zs)).put d2 (.ptr d2 0)) K) : zY P n ops (o1 :: o2 :: rest) S K := by
  intro M w0 ρ a w Q hs hK
  have parts : ∀ p ∈ ps.toList, yH (Mut M S ρ) ρ w (S.get p.2).wZ (a.eval p.2).cells.toList := fun p hp => repA_cells (hs.rep p.2) (List.all_eq_true.1 hk p hp)
  obtain ⟨us, hu1, hu2⟩ := fill_rep (fun i => pl[i]?) S.get a.eval ps.toList _ zs z.cells.toList parts hf (zerosA fun u hu => List.all_eq_true.1 hz1 u hu)
  have hr1 : (execOp a.eval o1).run P w = .ok (.value (.agg us.toArray)) w := by
    unfold execOp
    rw [h1]
    have e : (ps.map fun (i, x) => (i, a.eval x)) = (ps.toList.map fun p => (p.1, a.eval p.2)).toArray := by apply Array.ext'; simp
    simp only [e, Sem.run_bind, run_build (P := P) (t := t) (pl := pl) (z := z) _ w _ hu1]
    rfl
  unfold wpList
  rw [if_pos (by simp [Region.wanted, g1])]
  refine .inl ?_
  unfold Oper.wp
  rw [hr1]
  show wpList P ops Q (o2 :: rest) (a.put o1.dst (.agg us.toArray)) w
  rw [e1]
  have hs1 : Sat M n w0 (S.put d1 .any) ρ (a.put (some d1) (.agg us.toArray)) w := hs.put hn1 (.any _)
  generalize hsS1 : S.put d1 .any = S1 at hs1 hr
  have t1 : (a.put (some d1) (.agg us.toArray)).eval (.tmp d1) = .agg us.toArray := by
    have : d1 < a.tmps.size := by rw [hs.size]; exact hn1
    simp [Act.eval, Act.put, Array.getD_eq_getD_getElem?, Array.getElem?_setIfInBounds, this]
  generalize ha1 : a.put (some d1) (.agg us.toArray) = a1 at hs1 t1
  have hMut : Mut M S1 ρ = Mut M S ρ := by subst hsS1; rfl
  have hr2 : (execOp a1.eval o2).run P w = .ok (.value (.pointer (some ⟨w.heap.size, 0, none⟩))) (w.alloc (.cells us.toArray t)) := by
    unfold execOp
    rw [h2]
    simp [Instr.box, newVar, newRow, t1, Value.cells]
  unfold wpList
  rw [if_pos (by simp [Region.wanted, g2])]
  refine .inl ?_
  unfold Oper.wp
  rw [hr2]
  show wpList P ops Q rest (a1.put o2.dst (.pointer (some ⟨w.heap.size, 0, none⟩))) (w.alloc (.cells us.toArray t))
  rw [e2]
  generalize hw1 : w.alloc (.cells us.toArray t) = w1
  have hh1 : w1.heap[w.heap.size]? = some (.cells us.toArray t (0, 0)) := by rw [← hw1]; exact heap_alloc_new w _
  have hg1 : w.grownBy w1 none := by rw [← hw1]; exact World.grownBy_alloc w _ none
  have hs2 := hs1.change d2 (.box t zs) (.pointer (some ⟨w.heap.size, 0, none⟩)) none (hs1.free d2 hn2) hg1 (fun k hk => by cases hk) (fun k hk => .inl (by simp only [yA, Option.some.injEq] at hk; omega)) (by
    rw [hMut]
    refine ⟨w.heap.size, us, rfl, Nat.zero_le _, hh1, (hu2.mono fun k c hk h => ?_).keep ⟨hg1.size, fun k c hk _ => World.cell?_of_block (w := w) (hg1.block k hk (fun h => by cases h))⟩⟩
    rcases h with h | ⟨h, _⟩
    · exact h
    · simp only [yA, Option.some.injEq] at h
      omega)
  have hs3 := hs2.put (d := d2) (x := .ptr d2 0) (v := .pointer (some ⟨w.heap.size, 0, none⟩)) hn2 (.ptr d2 0 w.heap.size (by simp [upd, yA]))
  exact hr M w0 _ _ w1 Q hs3 hK
end
end Go.Proofs.YtohlllohmoojiaaGreatDoor
/- A region that draws its order, walked in each order that may be. Generic over the program. -/
namespace Go.Proofs.YtohlllohmoojiaaGreatDoor
set_option maxRecDepth 100000
set_option maxHeartbeats 16000000
open Go Go.RowKit
/-- what may come next, these being done -/
def readyD (l : List Oper) (done : List Nat) : List Nat := (List.range l.length).filter fun i => !done.contains i && (match l[i]? with
  | some o => o.after.toList.all fun e => !Region.binds .any e || done.contains e.on
  | none => false)
theorem qO {l : List Oper} {listed : Array Bool} {done : List Nat} (hs : listed.size = l.length) (h : ∀ i, listed.getD i false = done.contains i) (i : Nat) : i ∈ Region.ready .any l.toArray listed ↔ i ∈ readyD l done := by
  unfold Region.ready readyD
  simp only [List.size_toArray, List.mem_filter, List.mem_range]
  refine ⟨fun ⟨h1, h2⟩ => ⟨h1, ?_⟩, fun ⟨h1, h2⟩ => ⟨h1, ?_⟩⟩
  · have e1 : listed.getD i true = listed.getD i false := by simp [Array.getD_eq_getD_getElem?, hs, h1]
    simp only [List.getElem?_toArray, List.getElem?_eq_getElem h1, Option.map_some, Option.getD_some, Bool.and_eq_true, Bool.not_eq_true', List.all_eq_true] at h2 ⊢
    refine ⟨?_, fun e he => ?_⟩
    · rw [← h i, ← e1]; exact h2.1
    · have := Array.all_eq_true'.1 h2.2 e (by simpa using he)
      rw [← h e.on]
      exact this
  · have e1 : listed.getD i true = listed.getD i false := by simp [Array.getD_eq_getD_getElem?, hs, h1]
    simp only [List.getElem?_toArray, List.getElem?_eq_getElem h1, Option.map_some, Option.getD_some, Bool.and_eq_true, Bool.not_eq_true', List.all_eq_true] at h2 ⊢
    refine ⟨?_, Array.all_eq_true'.2 fun e he => ?_⟩
    · rw [e1, h i]; exact h2.1
    · have := h2.2 e (by simpa using he)
      rw [← h e.on] at this
      exact this
def qG (P : Program) (n : Nat) (l : List Oper) (K : Exit → AS → Prop) : Nat → List Nat → AS → Prop
  | 0, done, S => readyD l done = [] ∧ K .normal S
  | m + 1, done, S => readyD l done ≠ [] ∧ ∀ i ∈ readyD l done, ∃ o, l[i]? = some o ∧ o.guard = none ∧ zH P n o S K fun S1 => qG P n l K m (i :: done) S1
def kZ (P : Program) (n : Nat) (l : List Oper) (K : Exit → AS → Prop) (m : Nat) (done : List Nat) (S : AS) (i : Nat) : Prop :=
  ∃ o, l[i]? = some o ∧ o.guard = none ∧ zH P n o S K fun S1 => qG P n l K m (i :: done) S1
def x9 (p : Nat → Prop) : List Nat → Prop
  | [] => True
  | i :: r => p i ∧ x9 p r
theorem x9.all {p : Nat → Prop} : ∀ {rs : List Nat}, x9 p rs → ∀ i ∈ rs, p i
  | [], _, i, hi => by simp at hi
  | j :: r, h, i, hi => by
    rcases List.mem_cons.1 hi with rfl | hi
    · exact h.1
    · exact x9.all h.2 i hi
theorem x9.nil {p : Nat → Prop} : x9 p [] := trivial
theorem x9.cons {p : Nat → Prop} {i : Nat} {r : List Nat} (h : p i) (hr : x9 p r) : x9 p (i :: r) := ⟨h, hr⟩
section
variable {P : Program} {n : Nat} {l : List Oper} {K : Exit → AS → Prop} {fu : Nat} {done : List Nat} {S S1 : AS} {i d : Nat} {o : Oper}
theorem qG.is (h : qG P n l K fu done S) : qG P n l K fu done S := h
theorem qG.fin (hr : readyD l done = []) (h : K .normal S) : qG P n l K 0 done S := ⟨hr, h⟩
theorem qG.many (hr : (readyD l done).isEmpty = false) (h : x9 (kZ P n l K fu done S) (readyD l done)) : qG P n l K (fu + 1) done S :=
  ⟨(fun e => by rw [e] at hr; cases hr), h.all⟩
theorem kZ.is (h : kZ P n l K fu done S i) : kZ P n l K fu done S i := h
theorem kZ.v {bs : List Nat} {av : AV} (ho : l[i]? = some o) (hg : o.guard = none) (hd : o.dst = some d) (h : zK P n o S bs av none) (hr : qG P n l K fu (i :: done) (S.put d av)) : kZ P n l K fu done S i :=
  ⟨o, ho, hg, Step.t h.step (by rw [hd]; exact hr)⟩
theorem kZ.m {bs : List Nat} {av : AV} {b : Blk} (ho : l[i]? = some o) (hg : o.guard = none) (hd : o.dst = some d) (h : zK P n o S bs av (some b)) (hr : qG P n l K fu (i :: done) ((S.create d b).put d av)) : kZ P n l K fu done S i :=
  ⟨o, ho, hg, Step.t h.step (by rw [hd]; exact hr)⟩
theorem kZ.w (ho : l[i]? = some o) (hg : o.guard = none) (h : Step P n o S S1) (hr : qG P n l K fu (i :: done) S1) : kZ P n l K fu done S i := ⟨o, ho, hg, h.t hr⟩
theorem kZ.ofT (ho : l[i]? = some o) (hg : o.guard = none) (h : zH P n o S K fun S1 => qG P n l K fu (i :: done) S1) : kZ P n l K fu done S i := ⟨o, ho, hg, h⟩
theorem zZ.drawAll {id : Nat} (hm : P.follows .mixedOrders = true) (h : qG P n l K l.length [] S) : zZ P n (.region id l.toArray true) S K := by
  intro M w0 ρ a w Q hs hK
  have main : ∀ (m : Nat) (listed : Array Bool) (done : List Nat) (S : AS) (ρ : Nat → Value) (a : Act) (w : World), listed.size = l.length → (∀ i, listed.getD i false = done.contains i) → qG P n l K m done S → Sat M n w0 S ρ a w → wpAny P .any l.toArray Q m listed a w := by
    intro m
    induction m with
    | zero =>
      intro listed done S ρ a w hz hl hd hs
      refine ⟨List.eq_nil_iff_forall_not_mem.2 fun i hi => ?_, hK .normal S ρ a w hd.2 hs trivial⟩
      have := (qO hz hl i).1 hi
      rw [hd.1] at this
      simp at this
    | succ m ih =>
      intro listed done S ρ a w hz hl hd hs
      refine ⟨fun hnil => ?_, fun i hi => ?_⟩
      · obtain ⟨j, hj⟩ := List.exists_mem_of_ne_nil _ hd.1
        have := (qO hz hl j).2 hj
        rw [hnil] at this
        simp at this
      · obtain ⟨hil, _, _⟩ := xQ hi
        obtain ⟨o, ho, hg, ht⟩ := hd.2 i ((qO hz hl i).1 hi)
        unfold wpOp
        simp only [List.getElem?_toArray, ho]
        rw [if_pos (by simp [Region.wanted, hg])]
        refine .inl (ht M w0 ρ a w _ Q hs (fun S1 ρ' a' w' hd1 hs' => ?_) hK)
        refine ih _ _ S1 ρ' a' w' (by simp [hz]) (fun k => ?_) hd1 hs'
        simp only [Array.getD_eq_getD_getElem?, Array.getElem?_setIfInBounds, List.contains_cons]
        by_cases hik : i = k
        · subst hik
          simp [hz, hil]
        · have : (k == i) = false := by simpa using fun e => hik e.symm
          rw [if_neg hik, this, Bool.false_or, ← hl k, Array.getD_eq_getD_getElem?]
  refine wp_region_any hm ?_
  exact main _ _ [] S ρ a _ (by simp) (fun i => by rw [getD_replicate_false]; rfl) (by simpa using h) (hs.ext ((Below.refl _ _).drew))
end
attribute [irreducible] qG kZ
end Go.Proofs.YtohlllohmoojiaaGreatDoor
/- A region that draws its order, walked in each order that may be; what reads and writes registers alone comes first. Generic over the program. -/
namespace Go.Proofs.YtohlllohmoojiaaGreatDoor
set_option maxRecDepth 100000
set_option maxHeartbeats 16000000
open Go Go.RowKit
set_option linter.unusedSimpArgs false
set_option linter.unusedVariables false
/-- what is said where it panics is not of the slots -/
class PanK (K : Exit → AS → Prop) : Prop where
  h : ∀ S, K (.panic []) S → K (.panic []) { S with t := [] }
instance {next : AS → Prop} {K : Exit → AS → Prop} [h : PanK K] : PanK (zG next K) := ⟨fun S hk => h.h S hk⟩
instance {id : Nat} {K : Exit → AS → Prop} [h : PanK K] : PanK (yZ id K) := ⟨fun S hk => h.h S hk⟩
instance {P : Program} {fn : Func} {ev : EV} {B : List Blk} : PanK (EndE P fn ev B) := ⟨fun S hk => by
  cases ev with
  | ret x => rcases hk.1 with h | h <;> cases h
  | pan x => exact hk⟩
instance {G : AS → Prop} : PanK (fun e S => (e = .ret ∨ e = .normal) ∧ G S) := ⟨fun S hk => by rcases hk.1 with h | h <;> cases h⟩
theorem Sat.bareT {M : Nat → Nat → Prop} {n : Nat} {w0 : Home} {S : AS} {ρ : Nat → Value} {a : Act} {d : Option Nat} {v : Value} {w : World} (h : Sat M n w0 S ρ (a.put d v) w) : Sat M n w0 { S with t := [] } ρ a w where
  below := h.below
  out := h.out
  tab := h.tab
  size := by
    have := h.size
    cases d <;> simpa [Act.put] using this
  defers := by
    have := h.defers
    cases d <;> simpa [Act.put] using this
  tmps := fun i => .any _
  blks := h.blks
  mine := h.mine
  fix := h.fix
  free := h.free
  dist := h.dist
/-- the ways out -/
def QK (M : Nat → Nat → Prop) (n : Nat) (w0 : Home) (K : Exit → AS → Prop) (e : Exit) (a : Act) (w : World) : Prop := ∃ S ρ, K (bare e) S ∧ Sat M n w0 S ρ a w ∧ ExOK M S ρ w e
/-- these are done; the others in each order that may be -/
def DGo (P : Program) (n : Nat) (l : List Oper) (K : Exit → AS → Prop) (fu : Nat) (done : List Nat) (S : AS) : Prop :=
  ∀ (M : Nat → Nat → Prop) (w0 : Home) (ρ : Nat → Value) (a : Act) (w : World) (listed : Array Bool), listed.size = l.length → (∀ i, listed.getD i false = done.contains i) → Sat M n w0 S ρ a w → wpAny P .any l.toArray (QK M n w0 K) fu listed a w
/-- this one is next -/
def xC (P : Program) (n : Nat) (l : List Oper) (K : Exit → AS → Prop) (fu : Nat) (done : List Nat) (S : AS) (i : Nat) : Prop :=
  ∀ (M : Nat → Nat → Prop) (w0 : Home) (ρ : Nat → Value) (a : Act) (w : World) (listed : Array Bool), listed.size = l.length → i < l.length → (∀ i, listed.getD i false = done.contains i) → Sat M n w0 S ρ a w →
    wpOp P l.toArray (QK M n w0 K) i (wpAny P .any l.toArray (QK M n w0 K) fu (listed.setIfInBounds i true)) a w
/-- the operation's value hangs on its operands alone -/
def FStep (P : Program) (n : Nat) (o : Oper) (S : AS) (av : AV) : Prop :=
  ∀ (M : Nat → Nat → Prop) (w0 : Home) (ρ : Nat → Value) (a : Act) (w : World), Sat M n w0 S ρ a w → ∃ v, (∀ w', (execOp a.eval o).run P w' = .ok (.value v) w') ∧ yD (Mut M S ρ) ρ w av v
def noSel (l : List Oper) : Bool := l.all fun o => match o.op with
  | .select _ _ => false
  | _ => true
/-- what is left hangs on it, or keeps apart from it -/
def freeB (l : List Oper) (done : List Nat) (i : Nat) : Bool := match l[i]? with
  | some o => noSel l && !done.contains i && o.guard.isNone && (o.after.toList.all fun e => !Region.binds .any e || done.contains e.on) && ((List.range l.length).all fun j => j == i || done.contains j || (match l[j]? with
    | some q => q.after.toList.any (fun e => Region.binds .any e && e.on == i) || o.apart l.toArray q
    | none => true))
  | none => false
theorem listed_step {l : List Oper} {listed : Array Bool} {done : List Nat} {i : Nat} (hz : listed.size = l.length) (hil : i < l.length) (hl : ∀ i, listed.getD i false = done.contains i) (k : Nat) : (listed.setIfInBounds i true).getD k false = (i :: done).contains k := by
  simp only [Array.getD_eq_getD_getElem?, Array.getElem?_setIfInBounds, List.contains_cons]
  by_cases hik : i = k
  · subst hik
    simp [hz, hil]
  · have : (k == i) = false := by simpa using fun e => hik e.symm
    rw [if_neg hik, this, Bool.false_or, ← hl k, Array.getD_eq_getD_getElem?]
section
variable {P : Program} {n : Nat} {l : List Oper} {K : Exit → AS → Prop} {fu : Nat} {done : List Nat} {S S1 : AS} {i d : Nat} {o : Oper}
theorem DGo.at_ (k : List Nat) (h : DGo P n l K fu k S) : DGo P n l K fu k S := h
theorem DGo.fin (hr : (readyD l done).isEmpty = true) (h : K .normal S) : DGo P n l K fu done S := by
  intro M w0 ρ a w listed hz hl hs
  have hq : QK M n w0 K .normal a w := ⟨S, ρ, h, hs, trivial⟩
  have hno : ∀ j, j ∉ Region.ready .any l.toArray listed := fun j hj => by
    have := (qO hz hl j).1 hj
    rw [List.isEmpty_iff.1 hr] at this
    simp at this
  cases fu with
  | zero => exact ⟨List.eq_nil_iff_forall_not_mem.2 hno, hq⟩
  | succ fu => exact ⟨fun _ => hq, fun j hj => absurd hj (hno j)⟩
theorem DGo.all (is : List Nat) (hr : (readyD l done == is && !is.isEmpty) = true) (h : x9 (xC P n l K fu done S) is) : DGo P n l K (fu + 1) done S := by
  rw [Bool.and_eq_true, beq_iff_eq] at hr
  obtain ⟨rfl, hne⟩ := hr
  intro M w0 ρ a w listed hz hl hs
  refine ⟨fun hnil => ?_, fun j hj => ?_⟩
  · cases hd : readyD l done with
    | nil => rw [hd] at hne; cases hne
    | cons j r =>
      have := (qO hz hl j).2 (by rw [hd]; simp)
      rw [hnil] at this
      simp at this
  · have hj' := (qO hz hl j).1 hj
    exact h.all j hj' M w0 ρ a w listed hz (xQ hj).1 hl hs
theorem DGo.free [hp : PanK K] (i : Nat) {av : AV} (hf : freeB l done i = true) (ho : l[i]? = some o) (hd : o.dst = some d) (hn : d < n) (h : FStep P n o S av) (hr : DGo P n l K fu (i :: done) (S.put d av)) : DGo P n l K (fu + 1) done S := by
  intro M w0 ρ a w listed hz hl hs
  unfold freeB at hf
  rw [ho] at hf
  simp only [Bool.and_eq_true, Bool.not_eq_true', List.all_eq_true, List.mem_range, Bool.or_eq_true, beq_iff_eq] at hf
  obtain ⟨⟨⟨⟨hsel, hnd⟩, hg⟩, hrd⟩, hap⟩ := hf
  have hil : i < l.length := (List.getElem?_eq_some_iff.1 ho).1
  obtain ⟨v, hv, hrep⟩ := h M w0 ρ a w hs
  have hg' : o.guard = none := by simpa using hg
  have key := wpAny_first (P := P) (md := .any) (ops := l.toArray) (Q := QK M n w0 K) (i := i) (oi := o) (v := v) (by simpa using ho) (fun j q cs b hj e => by
      have hq : q ∈ l := List.mem_of_getElem? (by simpa using hj)
      have := List.all_eq_true.1 hsel q hq
      rw [e] at this
      cases this)
    (fun c a' w' ⟨S', ρ', h1, h2, h3⟩ => ⟨{ S' with t := [] }, ρ', hp.h S' h1, h2.bareT, by
      obtain ⟨u, hu, hx⟩ := h3
      exact ⟨u, hu, hx⟩⟩) fu listed a w
  refine key (fun j q hj hji hlj hno => ?_) ?_ (.inl ⟨by simp [Region.wanted, hg'], hv⟩) ?_
  · have hjl : j < l.length := by
      have := (Array.getElem?_eq_some_iff.1 hj).1
      simpa using this
    have hj' : l[j]? = some q := by simpa using hj
    rcases hap j hjl with (h1 | h1) | h1
    · exact absurd h1 hji
    · rw [← hl j] at h1
      have : listed.getD j true = true := by
        have hlt : j < listed.size := by rw [hz]; exact hjl
        simp only [Array.getD_eq_getD_getElem?, Array.getElem?_eq_getElem hlt, Option.getD_some] at h1 ⊢
        exact h1
      rw [this] at hlj
      cases hlj
    · rw [hj'] at h1
      simp only [Bool.or_eq_true, List.any_eq_true, Bool.and_eq_true, beq_iff_eq] at h1
      rcases h1 with ⟨e, he, hb, hon⟩ | h1
      · exact absurd hon (hno e (by simpa using he) hb)
      · exact h1
  · refine (qO hz hl i).2 ?_
    unfold readyD
    simp only [List.mem_filter, List.mem_range, ho, Bool.and_eq_true, Bool.not_eq_true', List.all_eq_true]
    exact ⟨hil, hnd, fun e he => by simpa using hrd e he⟩
  · refine hr M w0 ρ _ w _ (by simp [hz]) (listed_step hz hil hl) ?_
    rw [hd]
    exact hs.put hn hrep
theorem xC.at_ (i : Nat) (h : xC P n l K fu done S i) : xC P n l K fu done S i := h
theorem xC.ofT (ho : l[i]? = some o) (hg : o.guard = none) (h : zH P n o S K fun S1 => DGo P n l K fu (i :: done) S1) : xC P n l K fu done S i := by
  intro M w0 ρ a w listed hz hil hl hs
  unfold wpOp
  simp only [List.getElem?_toArray, ho]
  rw [if_pos (by simp [Region.wanted, hg])]
  exact .inl (h M w0 ρ a w _ _ hs (fun S1 ρ' a' w' hd1 hs' => hd1 M w0 ρ' a' w' _ (by simp [hz]) (listed_step hz hil hl) hs') fun e S' ρ' a' w' h1 h2 h3 => ⟨S', ρ', h1, h2, h3⟩)
theorem xC.ofTg {j t : Nat} {want b : Bool} (ho : l[i]? = some o) (hg : o.guard = some (j, want)) (ht : xH l j = some t) (htn : t < n) (hb : S.tmp t = .p (.val (.bool b))) (hbw : b = want) (h : zH P n o S K fun S1 => DGo P n l K fu (i :: done) S1) : xC P n l K fu done S i := by
  intro M w0 ρ a w listed hz hil hl hs
  have hw := hs.wanted (ops := l.toArray) hg (by simpa [xH] using ht) htn hb
  unfold wpOp
  simp only [List.getElem?_toArray, ho]
  rw [if_pos (by rw [hw]; simp [wantB, hbw])]
  exact .inl (h M w0 ρ a w _ _ hs (fun S1 ρ' a' w' hd1 hs' => hd1 M w0 ρ' a' w' _ (by simp [hz]) (listed_step hz hil hl) hs') fun e S' ρ' a' w' h1 h2 h3 => ⟨S', ρ', h1, h2, h3⟩)
theorem xC.gN {j t : Nat} {want b : Bool} (ho : l[i]? = some o) (hg : o.guard = some (j, want)) (ht : xH l j = some t) (htn : t < n) (hb : S.tmp t = .p (.val (.bool b))) (hbw : b = !want) (hd : o.dst = some d) (hdn : d < n) (h : DGo P n l K fu (i :: done) (S.put d xZ)) : xC P n l K fu done S i := by
  intro M w0 ρ a w listed hz hil hl hs
  have hw := hs.wanted (ops := l.toArray) hg (by simpa [xH] using ht) htn hb
  unfold wpOp
  simp only [List.getElem?_toArray, ho]
  rw [if_neg (by rw [hw]; subst hbw; cases want <;> simp [wantB])]
  refine h M w0 ρ _ w _ (by simp [hz]) (listed_step hz hil hl) ?_
  rw [hd]
  exact hs.put hdn (.p (.val _))
theorem xC.v {bs : List Nat} {av : AV} (ho : l[i]? = some o) (hg : o.guard = none) (hd : o.dst = some d) (h : zK P n o S bs av none) (hr : DGo P n l K fu (i :: done) (S.put d av)) : xC P n l K fu done S i := .ofT ho hg (Step.t h.step (by rw [hd]; exact hr))
theorem xC.m {bs : List Nat} {av : AV} {b : Blk} (ho : l[i]? = some o) (hg : o.guard = none) (hd : o.dst = some d) (h : zK P n o S bs av (some b)) (hr : DGo P n l K fu (i :: done) ((S.create d b).put d av)) : xC P n l K fu done S i := .ofT ho hg (Step.t h.step (by rw [hd]; exact hr))
theorem xC.w (ho : l[i]? = some o) (hg : o.guard = none) (h : Step P n o S S1) (hr : DGo P n l K fu (i :: done) S1) : xC P n l K fu done S i := .ofT ho hg (h.t hr)
theorem xC.split {j t : Nat} {want b : Bool} (_ho : l[i]? = some o) (_hg : o.guard = some (j, want)) (_ht : xH l j = some t) (_hb : S.tmp t = .p (.val (.bool b))) (h1 : b = true → xC P n l K fu done S i) (h2 : b = false → xC P n l K fu done S i) : xC P n l K fu done S i := by
  cases b
  · exact h2 rfl
  · exact h1 rfl
theorem zZ.drawGo {id : Nat} (hm : P.follows .mixedOrders = true) (h : DGo P n l K l.length [] S) : zZ P n (.region id l.toArray true) S K := by
  intro M w0 ρ a w Q hs hK
  refine Code.wp_mono (Q := QK M n w0 K) (fun e a w ⟨S', ρ', h1, h2, h3⟩ => hK e S' ρ' a w h1 h2 h3) (wp_region_any hm ?_)
  have := h M w0 ρ a { w with drawn := w.drawn + 1 } (Array.replicate l.length false) (by simp) (fun i => by rw [getD_replicate_false]; rfl) (hs.ext ((Below.refl _ _).drew))
  simpa using this
/-! ### Values of registers -/
theorem f_mv {x : Operand} {av : AV} (ho : o.op = .move x ∨ o.op = .assign x) (hx : S.get x = av) : FStep P n o S av := fun M w0 ρ a w hs => ⟨a.eval x, fun w' => by unfold execOp; rcases ho with ho | ho <;> rw [ho] <;> rfl, hx ▸ hs.rep x⟩
theorem f_mvP {x : Operand} {v : PV} (ho : o.op = .move x) (hx : S.get x = .p v) : FStep P n o S (.p v) := f_mv (.inl ho) hx
theorem f_mvR {x : Operand} {i k : Nat} (ho : o.op = .move x) (hx : S.get x = .ptr i k) : FStep P n o S (.ptr i k) := f_mv (.inl ho) hx
theorem f_mvT {x : Operand} {l : List AV} (ho : o.op = .move x) (hx : S.get x = .tup l) : FStep P n o S (.tup l) := f_mv (.inl ho) hx
theorem f_mvC {x : Operand} {i : Nat} {l : List Nat} (ho : o.op = .move x) (hx : S.get x = .clo i l) : FStep P n o S (.clo i l) := f_mv (.inl ho) hx
theorem f_mvS {x : Operand} {l : List PV} (ho : o.op = .move x) (hx : S.get x = .pt l) : FStep P n o S (.pt l) := f_mv (.inl ho) hx
theorem f_asP {x : Operand} {v : PV} (ho : o.op = .assign x) (hx : S.get x = .p v) : FStep P n o S (.p v) := f_mv (.inr ho) hx
theorem f_asR {x : Operand} {i k : Nat} (ho : o.op = .assign x) (hx : S.get x = .ptr i k) : FStep P n o S (.ptr i k) := f_mv (.inr ho) hx
theorem f_asC {x : Operand} {i : Nat} {l : List Nat} (ho : o.op = .assign x) (hx : S.get x = .clo i l) : FStep P n o S (.clo i l) := f_mv (.inr ho) hx
theorem f_nilR {x : Operand} {id off : Nat} (ho : o.op = .nilCheck x) (hx : S.get x = .ptr id off) : FStep P n o S (.ptr id off) := fun M w0 ρ a w hs => by
  have h1 := hs.rep x
  rw [hx] at h1
  have h2 := h1
  obtain ⟨g, hgv, hv⟩ := vV h1
  refine ⟨a.eval x, fun w' => ?_, h2⟩
  unfold execOp
  rw [ho]
  simp only [hv]
  rfl
theorem f_fieldR {x : Operand} {s f k id off : Nat} [h : FieldA P s f k] (ho : o.op = .fieldAddr s x f) (hx : S.get x = .ptr id off) : FStep P n o S (.ptr id (off + k)) := fun M w0 ρ a w hs => by
  have h1 := hs.rep x
  rw [hx] at h1
  obtain ⟨g, hgv, hv⟩ := vV h1
  refine ⟨.pointer (some ⟨g, off + k, none⟩), fun w' => ?_, .ptr id (off + k) g hgv⟩
  unfold execOp
  rw [ho]
  simp only [hv, Sem.run_bind, h.h]
  rfl
theorem f_extract {x : Operand} {avs : List AV} {ix : Nat} {v : PV} (ho : o.op = .extract x ix) (hx : S.get x = .tup avs) (hi : avs[ix]? = some (.p v)) : FStep P n o S (.p v) := fun M w0 ρ a w hs => by
  have h1 := hs.rep x
  rw [hx] at h1
  generalize hev : a.eval x = ev at h1
  cases h1 with
  | tup _ vs hl h =>
    have hlt : ix < vs.length := by rw [hl]; exact (List.getElem?_eq_some_iff.1 hi).1
    refine ⟨vs[ix], fun w' => ?_, h ix _ _ hi (List.getElem?_eq_getElem hlt)⟩
    unfold execOp
    rw [ho]
    simp [hev, Instr.extract, hlt]
/-- one of these, found by itself -/
theorem DGo.fr [hp : PanK K] (i : Nat) {av : AV} (hr : DGo P n l K fu (i :: done) (S.put d av)) (ho : l[i]? = some o := by rfl) (hd : o.dst = some d := by rfl) (hn : d < n := by decide) (hf : freeB l done i = true := by kernel_rfl)
    (h : FStep P n o S av := by first | exact f_mvR rfl rfl | exact f_mvP rfl rfl | exact f_fieldR rfl rfl | exact f_nilR rfl rfl | exact f_extract rfl rfl rfl | exact f_asP rfl rfl | exact f_mvT rfl rfl | exact f_mvC rfl rfl | exact f_mvS rfl rfl | exact f_asR rfl rfl | exact f_asC rfl rfl) : DGo P n l K (fu + 1) done S := DGo.free i hf ho hd hn h hr
end
attribute [irreducible] DGo xC FStep
end Go.Proofs.YtohlllohmoojiaaGreatDoor
/- A scope whose code jumps back to its label. Generic over the program. -/
namespace Go.Proofs.YtohlllohmoojiaaGreatDoor
set_option maxRecDepth 100000
set_option maxHeartbeats 16000000
open Go Go.RowKit
/-- by a goto to label l: J; by any other goto: no way out -/
def vE (l : Nat) (J : AS → Prop) (K : Exit → AS → Prop) : Exit → AS → Prop
  | .goto l', S => l' = l ∧ J S
  | e, S => K e S
theorem vE.n {S : AS} {l : Nat} {J : AS → Prop} {K : Exit → AS → Prop} (h : K .normal S) : vE l J K .normal S := h
theorem vE.r {S : AS} {l : Nat} {J : AS → Prop} {K : Exit → AS → Prop} (h : K .ret S) : vE l J K .ret S := h
theorem vE.e {S : AS} {l i : Nat} {J : AS → Prop} {K : Exit → AS → Prop} (h : K (.exit i) S) : vE l J K (.exit i) S := h
theorem vE.p {S : AS} {l : Nat} {J : AS → Prop} {K : Exit → AS → Prop} {c} (h : K (.panic c) S) : vE l J K (.panic c) S := h
theorem vE.g {S : AS} {l : Nat} {J : AS → Prop} {K : Exit → AS → Prop} (h : J S) : vE l J K (.goto l) S := ⟨rfl, h⟩
section
variable {P : Program} {n : Nat} {S : AS}
/-- the label stands at the scope's beginning -/
theorem zZ.scopeL {rest : Code} {K : Exit → AS → Prop} {ι : Type} (l : Nat) (inv : ι → AS) (ok : ι → Prop) (μ : ι → Nat) (i0 : ι) (h0 : Sub S (inv i0)) (hi0 : ok i0)
    (round : ∀ i, ok i → zZ P n rest (inv i) (vE l (fun S' => ∃ j, Sub S' (inv j) ∧ ok j ∧ μ j < μ i) K)) : zZ P n (.scope (.seq (.label l) rest)) S K := by
  intro M w0 ρ a w Q hs hK
  obtain ⟨ρ0, hs0⟩ := h0 M n w0 ρ a w hs
  intro b k cs
  have hg : gotoIn l (.inScope (.seq (.label l) rest) :: k) = some (.code (.seq .skip rest) :: .inScope (.seq (.label l) rest) :: k) := by simp [gotoIn, findLabel]
  have key : ∀ (m : Nat) (i : ι) (ρ : Nat → Value) (a : Act) (w : World), μ i = m → ok i → Sat M n w0 (inv i) ρ a w →
      ∃ e a' w', Q e a' w' ∧ Arrives P (lone (b.at a (.code rest :: .inScope (.seq (.label l) rest) :: k)) cs w) b k cs e a' w' := by
    intro m
    induction m using Nat.strongRecOn with
    | _ m ih =>
      intro i ρ a w hm hi hsi
      have hr := round i hi M w0 ρ a w (fun e a' w' => match e with
          | .goto l' => l' = l ∧ ∃ j ρ', ok j ∧ μ j < μ i ∧ Sat M n w0 (inv j) ρ' a' w'
          | e => Q e a' w') hsi (fun e S' ρ' a' w' hk hs' hx => by
        cases e with
        | goto l' =>
          obtain ⟨h1, j, hsub, hj, hlt⟩ := hk
          obtain ⟨ρ'', hs''⟩ := hsub M n w0 ρ' a' w' hs'
          exact ⟨h1, j, ρ'', hj, hlt, hs''⟩
        | normal => exact hK .normal S' ρ' a' w' hk hs' hx
        | exit id => exact hK (.exit id) S' ρ' a' w' hk hs' hx
        | ret => exact hK .ret S' ρ' a' w' hk hs' hx
        | panic c => exact hK (.panic c) S' ρ' a' w' hk hs' hx
        | outgrown => exact hK .outgrown S' ρ' a' w' hk hs' hx)
      obtain ⟨e, a₁, w₁, hq, harr⟩ := hr b (.inScope (.seq (.label l) rest) :: k) cs
      cases e with
      | normal => exact ⟨.normal, a₁, w₁, hq, Steps.trans harr (.one step_inScope)⟩
      | exit id => exact ⟨.exit id, a₁, w₁, hq, fun k' hk => harr k' (by simp [exitTo, hk])⟩
      | goto l' =>
        obtain ⟨rfl, j, ρ', hj, hlt, hs'⟩ := hq
        obtain ⟨e₂, a₂, w₂, hq₂, harr₂⟩ := ih (μ j) (by omega) j ρ' a₁ w₁ rfl hj hs'
        exact ⟨e₂, a₂, w₂, hq₂, .of_steps (Steps.trans (harr _ hg) (.head step_seq (.one step_skip))) harr₂⟩
      | ret => exact ⟨_, a₁, w₁, hq, harr⟩
      | panic ch => exact ⟨_, a₁, w₁, hq, harr⟩
      | outgrown => exact ⟨_, a₁, w₁, hq, harr⟩
  obtain ⟨e, a', w', hq, harr⟩ := key _ i0 ρ0 a w rfl hi0 hs0
  exact ⟨e, a', w', hq, .of_steps (.head step_scope (.head step_seq (.one step_label))) harr⟩
end
end Go.Proofs.YtohlllohmoojiaaGreatDoor
/- Where functions that make accesses, or go through a log, panic: what is said then is not of slots; nor by jumps. -/
namespace Go.Proofs.YtohlllohmoojiaaGreatDoor
set_option maxRecDepth 100000
set_option maxHeartbeats 16000000
open Go Go.RowKit
instance {l : Nat} {J : AS → Prop} {K : Exit → AS → Prop} [h : PanK K] : PanK (vE l J K) := ⟨fun S hk => h.h S hk⟩
theorem hasL_bare {S : AS} : ∀ (B : List Blk) (i : Nat), hasL S i B → hasL { S with t := [] } i B
  | [], _, _ => trivial
  | _ :: r, i, h => ⟨h.1, hasL_bare r (i + 1) h.2⟩
theorem fgL_bare {S : AS} : ∀ (B : List Blk) (i : Nat), fgL S i B → fgL { S with t := [] } i B
  | [], _, _ => trivial
  | _ :: r, i, h => ⟨h.1, fgL_bare r (i + 1) h.2⟩
instance {α : Type} {H : Hnd} {fn : Func} {res : α → AV} {bk : List Blk} {bk' : α → List Blk} {m : Held H.σ α} : PanK (EndH H fn res bk bk' m) := ⟨fun S hk => by
  cases hk with
  | pan hx hB hF h => exact .pan hx (hasL_bare _ _ hB) (fgL_bare _ _ hF) h
  | ret he hg hB h => rcases he with h | h <;> cases h⟩
instance {α : Type} {fn : Func} {res : α → AV} {bk' : α → List Blk} {good : α → Prop} {L : List yE} {p : Pr α} {σ : CSt} : PanK (EndC fn res bk' good L p σ) := ⟨fun S hk => by
  cases hk with
  | ret he hg hB hx hj h => rcases he with h | h <;> cases h⟩
end Go.Proofs.YtohlllohmoojiaaGreatDoor
/- A record is given back; a walk's steps: the program's, whatever makes its accesses: contracts. -/
namespace Go.Proofs.YtohlllohmoojiaaGreatDoor
set_option maxRecDepth 100000
set_option maxHeartbeats 16000000
open Go Go.RowKit
set_option linter.unusedSimpArgs false
set_option linter.unusedVariables false
attribute [local irreducible] zY zZ Step zK Sub zS zH Fn zG yZ
theorem limbo_fn (e : Int) (h0 : 0 ≤ e) : Fn Tryz.prog 195 [.val (.int .u64 e)] (.p (.val (.int .i64 (limboF e)))) := by
  have g1 : e.tmod 3 = e % 3 := Int.tmod_eq_emod_of_nonneg h0
  have g2 : IntKind.i64.wrap (e % 3) = e % 3 := wrap_i64 _ (by omega)
  have g3 : IntKind.i64.wrap (4 + e % 3) = limboF e := wrap_i64 _ (by omega)
  refine wW Tryz.func195 rfl Tryz.ntmps195 (Nat.le_of_ble_eq_true rfl) ?_
  repeat' (first | (refine zY.nil ?_) | (refine zZ.is ?_; first | refine zZ.seq ?_ | (refine zZ.isR (id := 0) ?_; refine zZ.rc [0] [] (r := (.v zC .e)) (h := ?_)) | (refine zZ.isR (id := 1) ?_; refine zZ.rc [0, 2] [] (r := (.v zJ (.v v34_0 (.v v6_0 (.v v30_0 (.v zC .e)))))) (h := ?_)) | refine zZ.ret ?_) | refine zG.n ?_)
  all_goals exact ⟨.inl rfl, gives1 rfl rfl rfl⟩
def retS (H : Hnd) (t r at_ : Int) (d : Bool) (s : H.σ) : AS :=
  { t := [(0, H.doA), (1, .p (.val (.int .i64 t))), (2, .p (.val (.int .i64 r))), (6, .p (.val (.int .i64 at_))), (7, .p (.val (.bool d)))], s := [(1000, H.b0 s), (1001, H.b1 s), (1002, H.b2 s)] }
/-- what is left behind a round -/
def retRest (t r at_ : Int) (n : Nat) (d : Bool) : Pr Unit := bif d then .ret () else .loop (vR t r at_) n ()
theorem retire_h (H : Hnd) (s0 : H.σ) {t r : Int} (ht : Small t) (hr : Rf r) : FnH H 189 [H.doA, .p (.val (.int .i64 t)), .p (.val (.int .i64 r))] [] (fun _ => .any) (fun _ => []) yes s0 (retireP t r) := by
  have wr : IntKind.u64.wrap r = r := wrap_u64 _ ⟨hr.lo, by have := hr.hi; omega⟩
  have hru := hr.u
  have cf := fieldR (hr.rc ht) 7 (by decide)
  unfold Hnd.doA
  refine wY Tryz.func189 rfl Tryz.ntmps189 (Nat.le_of_ble_eq_true rfl) (by decide) (fine_retire t hr.u) fun hok hns => ?_
  repeat' (first | (refine zY.is ?_; first | refine zY.nil ?_ | (refine zY.at_ 6 rfl ?_; refine zY.rc (.v zC .e) ?_) | (refine zY.in_ [11] rfl ?_; refine zY.v rfl rfl (zO (limbo_fn _ (U.lo (by assumption))) rfl rfl rfl (by decide)) ?_) | (refine zY.in_ [10] rfl ?_; refine zY.ofT rfl (zH.hd (i := []) (f := load_h H _ 3) (r := fun x s e g hk => ?_) (p := fun q s e => ?_) (t := ?_)))) | (refine zZ.is ?_; first | refine zZ.seq ?_ | (refine zZ.isR (id := 0) ?_; refine zZ.rc [0, 1, 2] [1000, 1001, 1002] (r := (.v vQ .e)) (h := ?_)) | (refine zZ.isR (id := 1) ?_; refine zZ.rc [0, 1, 2, 6] [1000, 1001, 1002] (r := (.v zC .e)) (h := ?_)) | refine zZ.block ?_) | refine zG.n ?_ | refine zG.p ?_)
  all_goals (first | exact fun e => hns (by clear hns; simp only [retireP, run_bind, zP, zM, Held.zB, Held.zL, Held.zF, cond_true, cond_false, *]) | exact .pan (q := q) rfl (by repeat' first | exact trivial | rfl | constructor) (by repeat' exact trivial) (by simp only [retireP, run_bind, zP, zM, Held.zB, Held.zL, Held.zF, cond_true, cond_false, *]) | skip)
  have ho0 : (retireP t r).run H.st s0 = (retLoop t r (limboF x)).run H.st s := by simp only [retireP, run_bind, zP, Held.zB, *]
  rw [ho0] at hns ⊢
  generalize limboF x = at_ at *
  refine zZ.loop (fun p : Bool × Nat × H.σ => retS H t r at_ p.1 p.2.2) (fun p => H.ok p.2.2 ∧ (retRest t r at_ p.2.1 p.1).run H.st p.2.2 = (retLoop t r at_).run H.st s) (fun p => p.2.1) (false, many, s) ?h0 ⟨by assumption, rfl⟩ ?rd
  case h0 =>
    refine yJ (is := [0, 1, 2, 6, 7]) (js := [1000, 1001, 1002]) ?_ ?_
    repeat' first | exact zX.nil | apply zX.p rfl | apply zX.ptr rfl | apply zX.own rfl | apply zX.clo rfl | apply zX.ifp rfl | apply zX.pt rfl | apply zX.tup rfl | apply zX.skip
    repeat' first | exact zW.nil | apply zW.boxP rfl rfl | apply zW.y7 rfl | (apply zW.at0; exact zI rfl (H.nk _).1 (by repeat' exact KB.refl)) | (apply zW.at1; exact zI rfl (H.nk _).2.1 (by repeat' exact KB.refl)) | (apply zW.at2; exact zI rfl (H.nk _).2.2 (by repeat' exact KB.refl)) | apply zW.some rfl | apply zW.skip
  case rd =>
    rintro ⟨d, n, s1⟩ ⟨hok1, ho⟩
    dsimp only at hok1 ho ⊢
    unfold retS Hnd.doA
    cases d with
    | true =>
      have ho : Held.done () s1 = (retLoop t r at_).run H.st s := ho
      rw [← ho] at hns ⊢
      repeat' (first | (refine zY.nil ?_) | (refine zZ.is ?_; first | refine zZ.seq ?_ | (refine zZ.isR (id := 2) ?_; refine zZ.rc [0, 1, 2, 6, 7, 8, 13] [1000, 1001, 1002] (r := (.v zJ (.v qD .e))) (h := ?_)) | refine zZ.yI rfl bA ?_ | refine zZ.exit ?_) | refine zG.n ?_ | refine yZ.eY ?_ | refine zG.e ?_)
      all_goals (exact .ret (x := ()) (by exact .inr rfl) (by exact .none rfl) (by repeat' first | exact trivial | rfl | constructor) (by simp only [run_bind, zP, zM, Held.zB, Held.zL, Held.zF, cond_true, cond_false, *] <;> rfl))
    | false =>
      have ho : (Pr.loop (vR t r at_) n ()).run H.st s1 = (retLoop t r at_).run H.st s := ho
      cases n with
      | zero => exact absurd ho.symm hns
      | succ n =>
        rw [Pr.loop_succ] at ho
        rw [← ho] at hns ⊢
        repeat' (first | (refine zY.is ?_; first | refine zY.nil ?_ | (refine zY.at_ 21 rfl ?_; refine zY.rc (.v zJ .e) ?_) | (refine zY.at_ 7 rfl ?_; refine zY.rc (.v zC .e) ?_) | (refine zY.at_ 8 rfl ?_; refine zY.rc (.v zC .e) ?_) | (refine zY.in_ [20] rfl ?_; refine zY.v rfl rfl (zO (cf) rfl rfl rfl (by decide)) ?_) | (refine zY.in_ [16] rfl ?_; refine zY.ofT rfl (zH.hd (i := []) (f := load_h H _ _) (r := fun x s e g hk => ?_) (p := fun q s e => ?_) (t := ?_))) | (refine zY.in_ [22] rfl ?_; refine zY.ofT rfl (zH.hd (i := []) (f := store_h H _ _ _ (by assumption)) (r := fun x s e g hk => ?_) (p := fun q s e => ?_) (t := ?_))) | (refine zY.in_ [28] rfl ?_; refine zY.ofT rfl (zH.hd (i := []) (f := cas_h H _ _ _ _ (by assumption) hru) (r := fun x s e g hk => ?_) (p := fun q s e => ?_) (t := ?_)))) | (refine zZ.is ?_; first | refine zZ.seq ?_ | (refine zZ.isR (id := 2) ?_; refine zZ.rc [0, 1, 2, 6, 7, 8, 13] [1000, 1001, 1002] (r := (.v zJ (.v qX .e))) (h := ?_)) | (refine zZ.isR (id := 3) ?_; refine zZ.rc [0, 1, 2, 6, 7, 8, 13] [1000, 1001, 1002] (r := (.v vQ (.v zJ .e))) (h := ?_)) | (refine zZ.isR (id := 4) ?_; refine zZ.rc [0, 1, 2, 6, 7, 8, 13] [1000, 1001, 1002] (r := (.v vQ (.v zJ (.v zJ .e)))) (h := ?_)) | (refine zZ.isR (id := 5) ?_; refine zZ.rc [0, 1, 2, 6, 7, 8, 13] [1000, 1001, 1002] (r := (.v vQ (.v zJ (.v zJ (.v zJ (.v v6_0 .e)))))) (h := ?_)) | refine zZ.yM rfl bA ?_ | refine zZ.skip ?_ | refine zZ.block ?_) | refine zG.n ?_ | refine zG.p ?_ | refine yZ.n ?_ | refine yZ.p ?_)
        all_goals (first | exact fun e => hns (by clear hns; simp only [vR, run_bind, zP, zM, Held.zB, Held.zL, Held.zF, cond_true, cond_false, *]) | exact .pan (q := q) rfl (by repeat' first | exact trivial | rfl | constructor) (by repeat' exact trivial) (by simp only [vR, run_bind, zP, zM, Held.zB, Held.zL, Held.zF, cond_true, cond_false, *]) | skip)
        refine ⟨(x, n, s), ?_, ⟨by assumption, ?_⟩, Nat.lt_succ_self n⟩
        · refine yJ (is := [0, 1, 2, 6, 7]) (js := [1000, 1001, 1002]) ?_ ?_
          repeat' first | exact zX.nil | apply zX.p rfl | apply zX.ptr rfl | apply zX.own rfl | apply zX.clo rfl | apply zX.ifp rfl | apply zX.pt rfl | apply zX.tup rfl | apply zX.skip
          repeat' first | exact zW.nil | apply zW.boxP rfl rfl | apply zW.y7 rfl | (apply zW.at0; exact zI rfl (H.nk _).1 (by repeat' exact KB.refl)) | (apply zW.at1; exact zI rfl (H.nk _).2.1 (by repeat' exact KB.refl)) | (apply zW.at2; exact zI rfl (H.nk _).2.2 (by repeat' exact KB.refl)) | apply zW.some rfl | apply zW.skip
        · clear ho hns
          simp only [vR, run_bind, zP, Held.zB, *]
          cases x <;> rfl
/-! ### A walk's variable, and its steps -/
def vB (H : Hnd) (t p x : Int) : Blk := .box 133 [H.doA, .p (.val (.int .i64 t)), .p (.val (.int .i64 p)), .p (.val (.int .i64 x))]
theorem start_h (H : Hnd) (s0 : H.σ) {t p x : Int} (ht : Small t) : FnH H 144 [.ptr 1003 0] [vB H t p x] (fun _ => .any) (fun w => [vB H t 0 (xX w)]) U s0 (xU 0) := by
  have cn : Fn Tryz.prog 80 [.val (.int .i64 t), .val (.int .i64 0)] (.p (.val (.int .i64 0))) := cnext_fn t 0 ht (by decide)
  unfold vB Hnd.doA
  refine wY Tryz.func144 rfl Tryz.ntmps144 (Nat.le_of_ble_eq_true rfl) (by decide) (yO _) fun hok hns => ?_
  repeat' (first | (refine zZ.is ?_; (refine zZ.isR (id := 0) ?_; refine zZ.rk [0] [1000, 1001, 1002, 1003] ?_; refine zZ.drawGo (by kernel_rfl) ?_)) | (refine DGo.at_ [] ?_; refine DGo.fr 0 ?_) | (refine DGo.at_ [0] ?_; refine DGo.fr 1 ?_) | (refine DGo.at_ [1, 0] ?_; refine DGo.fr 2 ?_) | (refine DGo.at_ [2, 1, 0] ?_; refine DGo.fr 3 ?_) | (refine DGo.at_ [3, 2, 1, 0] ?_; refine DGo.fr 4 ?_) | (refine DGo.at_ [4, 3, 2, 1, 0] ?_; refine DGo.fr 6 ?_) | (refine DGo.at_ [6, 4, 3, 2, 1, 0] ?_; refine DGo.fr 7 ?_) | (refine DGo.at_ [7, 6, 4, 3, 2, 1, 0] ?_; refine DGo.fr 8 ?_) | (refine DGo.at_ [8, 7, 6, 4, 3, 2, 1, 0] ?_; refine DGo.all [5, 9] (by kernel_rfl) ?_) | (refine DGo.at_ [9, 8, 7, 6, 4, 3, 2, 1, 0] ?_; refine DGo.all [5, 10] (by kernel_rfl) ?_) | (refine DGo.at_ [10, 9, 8, 7, 6, 4, 3, 2, 1, 0] ?_; refine DGo.all [5] (by kernel_rfl) ?_) | (refine DGo.at_ [5, 10, 9, 8, 7, 6, 4, 3, 2, 1, 0] ?_; refine DGo.all [11] (by kernel_rfl) ?_) | (refine DGo.at_ [11, 5, 10, 9, 8, 7, 6, 4, 3, 2, 1, 0] ?_; refine DGo.all [12] (by kernel_rfl) ?_) | (refine DGo.at_ [12, 11, 5, 10, 9, 8, 7, 6, 4, 3, 2, 1, 0] ?_; refine DGo.fr 13 ?_) | (refine DGo.at_ [13, 12, 11, 5, 10, 9, 8, 7, 6, 4, 3, 2, 1, 0] ?_; refine DGo.fr 14 ?_) | (refine DGo.at_ [14, 13, 12, 11, 5, 10, 9, 8, 7, 6, 4, 3, 2, 1, 0] ?_; refine DGo.all [15] (by kernel_rfl) ?_) | (refine DGo.at_ [15, 14, 13, 12, 11, 5, 10, 9, 8, 7, 6, 4, 3, 2, 1, 0] ?_; refine DGo.fr 16 ?_) | (refine DGo.at_ [16, 15, 14, 13, 12, 11, 5, 10, 9, 8, 7, 6, 4, 3, 2, 1, 0] ?_; refine DGo.fr 17 ?_) | (refine DGo.at_ [17, 16, 15, 14, 13, 12, 11, 5, 10, 9, 8, 7, 6, 4, 3, 2, 1, 0] ?_; refine DGo.all [18] (by kernel_rfl) ?_) | (refine DGo.at_ [18, 17, 16, 15, 14, 13, 12, 11, 5, 10, 9, 8, 7, 6, 4, 3, 2, 1, 0] ?_; refine DGo.fin (by kernel_rfl) ?_) | (refine DGo.at_ [5, 9, 8, 7, 6, 4, 3, 2, 1, 0] ?_; refine DGo.all [10] (by kernel_rfl) ?_) | (refine DGo.at_ [10, 5, 9, 8, 7, 6, 4, 3, 2, 1, 0] ?_; refine DGo.all [11] (by kernel_rfl) ?_) | (refine DGo.at_ [11, 10, 5, 9, 8, 7, 6, 4, 3, 2, 1, 0] ?_; refine DGo.all [12] (by kernel_rfl) ?_) | (refine DGo.at_ [12, 11, 10, 5, 9, 8, 7, 6, 4, 3, 2, 1, 0] ?_; refine DGo.fr 13 ?_) | (refine DGo.at_ [13, 12, 11, 10, 5, 9, 8, 7, 6, 4, 3, 2, 1, 0] ?_; refine DGo.fr 14 ?_) | (refine DGo.at_ [14, 13, 12, 11, 10, 5, 9, 8, 7, 6, 4, 3, 2, 1, 0] ?_; refine DGo.all [15] (by kernel_rfl) ?_) | (refine DGo.at_ [15, 14, 13, 12, 11, 10, 5, 9, 8, 7, 6, 4, 3, 2, 1, 0] ?_; refine DGo.fr 16 ?_) | (refine DGo.at_ [16, 15, 14, 13, 12, 11, 10, 5, 9, 8, 7, 6, 4, 3, 2, 1, 0] ?_; refine DGo.fr 17 ?_) | (refine DGo.at_ [17, 16, 15, 14, 13, 12, 11, 10, 5, 9, 8, 7, 6, 4, 3, 2, 1, 0] ?_; refine DGo.all [18] (by kernel_rfl) ?_) | (refine DGo.at_ [18, 17, 16, 15, 14, 13, 12, 11, 10, 5, 9, 8, 7, 6, 4, 3, 2, 1, 0] ?_; refine DGo.fin (by kernel_rfl) ?_) | (refine DGo.at_ [5, 8, 7, 6, 4, 3, 2, 1, 0] ?_; refine DGo.all [9] (by kernel_rfl) ?_) | (refine DGo.at_ [9, 5, 8, 7, 6, 4, 3, 2, 1, 0] ?_; refine DGo.all [10] (by kernel_rfl) ?_) | (refine DGo.at_ [10, 9, 5, 8, 7, 6, 4, 3, 2, 1, 0] ?_; refine DGo.all [11] (by kernel_rfl) ?_) | (refine DGo.at_ [11, 10, 9, 5, 8, 7, 6, 4, 3, 2, 1, 0] ?_; refine DGo.all [12] (by kernel_rfl) ?_) | (refine DGo.at_ [12, 11, 10, 9, 5, 8, 7, 6, 4, 3, 2, 1, 0] ?_; refine DGo.fr 13 ?_) | (refine DGo.at_ [13, 12, 11, 10, 9, 5, 8, 7, 6, 4, 3, 2, 1, 0] ?_; refine DGo.fr 14 ?_) | (refine DGo.at_ [14, 13, 12, 11, 10, 9, 5, 8, 7, 6, 4, 3, 2, 1, 0] ?_; refine DGo.all [15] (by kernel_rfl) ?_) | (refine DGo.at_ [15, 14, 13, 12, 11, 10, 9, 5, 8, 7, 6, 4, 3, 2, 1, 0] ?_; refine DGo.fr 16 ?_) | (refine DGo.at_ [16, 15, 14, 13, 12, 11, 10, 9, 5, 8, 7, 6, 4, 3, 2, 1, 0] ?_; refine DGo.fr 17 ?_) | (refine DGo.at_ [17, 16, 15, 14, 13, 12, 11, 10, 9, 5, 8, 7, 6, 4, 3, 2, 1, 0] ?_; refine DGo.all [18] (by kernel_rfl) ?_) | (refine DGo.at_ [18, 17, 16, 15, 14, 13, 12, 11, 10, 9, 5, 8, 7, 6, 4, 3, 2, 1, 0] ?_; refine DGo.fin (by kernel_rfl) ?_) | refine x9.cons ?_ ?_ | exact x9.nil | (refine xC.at_ 5 ?_; refine xC.v rfl rfl rfl (w_loadC rfl rfl rfl rfl rfl (by decide)) ?_) | (refine xC.at_ 9 ?_; refine xC.v rfl rfl rfl (zD rfl rfl rfl rfl rfl (by decide)) ?_) | (refine xC.at_ 10 ?_; refine xC.v rfl rfl rfl (by exact zO (cn) rfl rfl rfl (by decide)) ?_) | (refine xC.at_ 11 ?_; refine xC.ofT rfl rfl (zH.hd (i := []) (f := load_h H _ _) (r := fun x s e g hk => ?_) (p := fun q s e => ?_) (t := ?_))) | (refine xC.at_ 12 ?_; refine xC.v rfl rfl rfl (by exact zO (ref_fn _ (U.lo (by assumption)) (U.hi (by assumption))) rfl rfl rfl (by decide)) ?_) | (refine xC.at_ 15 ?_; refine xC.w rfl rfl (by exact zT rfl rfl rfl rfl rfl (by rfl) (by exact Nat.le_of_ble_eq_true rfl) rfl rfl) ?_) | (refine xC.at_ 18 ?_; refine xC.w rfl rfl (by exact zT rfl rfl rfl rfl rfl (by rfl) (by exact Nat.le_of_ble_eq_true rfl) rfl rfl) ?_))
  all_goals (first | exact fun e => hns (by clear hns; simp only [run_bind, zP, zM, Held.zB, Held.zL, Held.zF, cond_true, cond_false, *]) | exact .pan (q := q) rfl (by repeat' first | exact trivial | rfl | constructor) (by repeat' first | exact trivial | exact ⟨_, rfl, rfl⟩ | constructor) (by simp only [run_bind, zP, zM, Held.zB, Held.zL, Held.zF, cond_true, cond_false, *]) | exact .ret (x := x) (by exact .inr rfl) (by exact .none rfl) (by repeat' first | exact trivial | rfl | constructor) (by simp only [run_bind, zP, zM, Held.zB, Held.zL, Held.zF, cond_true, cond_false, *] <;> rfl))
theorem field_h (H : Hnd) (s0 : H.σ) {t p x f : Int} (hx : Rc t x) (hf : 0 ≤ f ∧ f ≤ 7) : FnH H 77 [.ptr 1003 0, .p (.val (.int .i64 f))] [vB H t p x] (fun w => .p (.val (.int .u64 w))) (fun _ => [vB H t p x]) U s0 (xU (yC t x f)) := by
  have cf := fieldR hx f hf
  unfold vB Hnd.doA
  refine wY Tryz.func77 rfl Tryz.ntmps77 (Nat.le_of_ble_eq_true rfl) (by decide) (yO _) fun hok hns => ?_
  repeat' (first | (refine zY.nil ?_) | (refine zZ.is ?_; first | refine zZ.seq ?_ | (refine zZ.isR (id := 0) ?_; refine zZ.rc [0, 1] [1000, 1001, 1002, 1003] (r := (.v zC .e)) (h := ?_)) | (refine zZ.isR (id := 1) ?_; refine zZ.rk [0, 1, 4] [1000, 1001, 1002, 1003] ?_; refine zZ.draws ?_) | refine zZ.ret ?_) | refine zG.n ?_ | refine zG.p ?_ | (refine Draws.is ?_; first | refine Draws.rc (.v yL (.v xO (.v zU (.v v2_13 (.v yL (.v xO (.v zU (.v yV (.v yL (.v xO (.v zU (.v yV (.v zJ .e))))))))))))) ?_ | (refine Draws.in_ [18] rfl ?_; refine Draws.v rfl rfl (zO (cf) rfl rfl rfl (by decide)) ?_) | refine Draws.done (by kernel_rfl) (by kernel_rfl) (by kernel_rfl) ?_) | (refine zS.is ?_; first | refine zS.nil ?_ | (refine zS.at_ 4 rfl ?_; refine zS.rc (.v zC .e) ?_) | (refine zS.in_ [19] rfl ?_; refine zS.ofT rfl (zH.hd (i := []) (f := load_h H _ _) (r := fun x s e g hk => ?_) (p := fun q s e => ?_) (t := ?_)))))
  all_goals (first | exact fun e => hns (by clear hns; simp only [run_bind, zP, zM, Held.zB, Held.zL, Held.zF, cond_true, cond_false, *]) | exact .pan (q := q) rfl (by repeat' first | exact trivial | rfl | constructor) (by repeat' first | exact trivial | exact ⟨_, rfl, rfl⟩ | constructor) (by simp only [run_bind, zP, zM, Held.zB, Held.zL, Held.zF, cond_true, cond_false, *]) | exact .ret (by exact .inl rfl) (by exact .one rfl rfl) (by repeat' first | exact trivial | rfl | constructor) (by simp only [run_bind, zP, zM, Held.zB, Held.zL, Held.zF, cond_true, cond_false, *] <;> rfl))
theorem on_h (H : Hnd) (s0 : H.σ) {t p x w : Int} (hw : U w) : FnH H 81 [.ptr 1003 0, .p (.val (.int .u64 w))] [vB H t p x] (fun _ => .any) (fun _ => [vB H t x (xX w)]) yes s0 (.ret ()) := by
  have cr := ref_fn w hw.1 hw.2
  unfold vB Hnd.doA
  refine wY Tryz.func81 rfl Tryz.ntmps81 (Nat.le_of_ble_eq_true rfl) (by decide) trivial fun hok hns => ?_
  repeat' (first | (refine zZ.is ?_; (refine zZ.isR (id := 0) ?_; refine zZ.rk [0, 1] [1000, 1001, 1002, 1003] ?_; refine zZ.drawGo (by kernel_rfl) ?_)) | (refine DGo.at_ [] ?_; refine DGo.fr 0 ?_) | (refine DGo.at_ [0] ?_; refine DGo.fr 1 ?_) | (refine DGo.at_ [1, 0] ?_; refine DGo.fr 2 ?_) | (refine DGo.at_ [2, 1, 0] ?_; refine DGo.fr 3 ?_) | (refine DGo.at_ [3, 2, 1, 0] ?_; refine DGo.fr 4 ?_) | (refine DGo.at_ [4, 3, 2, 1, 0] ?_; refine DGo.fr 6 ?_) | (refine DGo.at_ [6, 4, 3, 2, 1, 0] ?_; refine DGo.all [5, 7] (by kernel_rfl) ?_) | (refine DGo.at_ [7, 6, 4, 3, 2, 1, 0] ?_; refine DGo.all [5] (by kernel_rfl) ?_) | (refine DGo.at_ [5, 7, 6, 4, 3, 2, 1, 0] ?_; refine DGo.fr 8 ?_) | (refine DGo.at_ [8, 5, 7, 6, 4, 3, 2, 1, 0] ?_; refine DGo.fr 9 ?_) | (refine DGo.at_ [9, 8, 5, 7, 6, 4, 3, 2, 1, 0] ?_; refine DGo.all [10] (by kernel_rfl) ?_) | (refine DGo.at_ [10, 9, 8, 5, 7, 6, 4, 3, 2, 1, 0] ?_; refine DGo.fr 11 ?_) | (refine DGo.at_ [11, 10, 9, 8, 5, 7, 6, 4, 3, 2, 1, 0] ?_; refine DGo.fr 12 ?_) | (refine DGo.at_ [12, 11, 10, 9, 8, 5, 7, 6, 4, 3, 2, 1, 0] ?_; refine DGo.all [13] (by kernel_rfl) ?_) | (refine DGo.at_ [13, 12, 11, 10, 9, 8, 5, 7, 6, 4, 3, 2, 1, 0] ?_; refine DGo.fin (by kernel_rfl) ?_) | (refine DGo.at_ [5, 6, 4, 3, 2, 1, 0] ?_; refine DGo.all [7] (by kernel_rfl) ?_) | (refine DGo.at_ [7, 5, 6, 4, 3, 2, 1, 0] ?_; refine DGo.fr 8 ?_) | (refine DGo.at_ [8, 7, 5, 6, 4, 3, 2, 1, 0] ?_; refine DGo.fr 9 ?_) | (refine DGo.at_ [9, 8, 7, 5, 6, 4, 3, 2, 1, 0] ?_; refine DGo.all [10] (by kernel_rfl) ?_) | (refine DGo.at_ [10, 9, 8, 7, 5, 6, 4, 3, 2, 1, 0] ?_; refine DGo.fr 11 ?_) | (refine DGo.at_ [11, 10, 9, 8, 7, 5, 6, 4, 3, 2, 1, 0] ?_; refine DGo.fr 12 ?_) | (refine DGo.at_ [12, 11, 10, 9, 8, 7, 5, 6, 4, 3, 2, 1, 0] ?_; refine DGo.all [13] (by kernel_rfl) ?_) | (refine DGo.at_ [13, 12, 11, 10, 9, 8, 7, 5, 6, 4, 3, 2, 1, 0] ?_; refine DGo.fin (by kernel_rfl) ?_) | refine x9.cons ?_ ?_ | exact x9.nil | (refine xC.at_ 5 ?_; refine xC.v rfl rfl rfl (zD rfl rfl rfl rfl rfl (by decide)) ?_) | (refine xC.at_ 7 ?_; refine xC.v rfl rfl rfl (by exact zO (cr) rfl rfl rfl (by decide)) ?_) | (refine xC.at_ 10 ?_; refine xC.w rfl rfl (by exact zT rfl rfl rfl rfl rfl (by rfl) (by exact Nat.le_of_ble_eq_true rfl) rfl rfl) ?_) | (refine xC.at_ 13 ?_; refine xC.w rfl rfl (by exact zT rfl rfl rfl rfl rfl (by rfl) (by exact Nat.le_of_ble_eq_true rfl) rfl rfl) ?_))
  all_goals (exact .ret (x := ()) (by exact .inr rfl) (by exact .none rfl) (by repeat' first | exact trivial | rfl | constructor) (by simp only [run_bind, zP, zM, Held.zB, Held.zL, Held.zF, cond_true, cond_false, *] <;> rfl))
theorem save2_h (H : Hnd) (s0 : H.σ) {t x : Int} (hx : Rc t x) : FnH H 153 [H.doA, .p (.val (.int .i64 t)), .p (.val (.int .i64 x)), .p (.val (.int .i64 2))] [] (fun x => .p (.val (.bool x))) (fun _ => []) yes s0 (saveP t x 2) := save_h H s0 hx (.inr rfl)
def tookB (H : Hnd) (t p x w : Int) (r : Took) : Blk := vB H t p (bif r.d then xX w else x)
theorem out_h (H : Hnd) (s0 : H.σ) {t p x w : Int} (ht : Small t) (hW : WOK p x) (hw : U w) : FnH H 145 [.ptr 1003 0, .p (.val (.int .u64 w))] [vB H t p x] (fun r => .tup ([.val (.bool r.d), .val (.bool r.ok)].map .p)) (fun r => [tookB H t p x w r]) yes s0 (takeP t p x w) := by
  have cn := cnext_fn t p ht hW.p.le
  have c1 := link_fn x hW.x.le
  have c2 := link_fn (xX w) (wV w).le
  have c3 := ref_fn w hw.1 hw.2
  have u1 := hW.x.u2
  have u2 := (wV w).u2
  have hf := fine_take t p w hW.x
  have hx := hW.x.rc ht
  unfold tookB vB Hnd.doA
  refine wY Tryz.func145 rfl Tryz.ntmps145 (Nat.le_of_ble_eq_true rfl) (by decide) hf fun hok hns => ?_
  repeat' (first | (refine zY.is ?_; first | refine zY.nil ?_ | (refine zY.at_ 58 rfl ?_; refine zY.rc (.v xO (.v zU (.w yQ .e))) ?_) | (refine zY.in_ [57] rfl ?_; refine zY.v rfl rfl (zO (c3) rfl rfl rfl (by decide)) ?_)) | (refine zZ.is ?_; first | refine zZ.seq ?_ | (refine zZ.isR (id := 0) ?_; refine zZ.rc [0, 1] [1000, 1001, 1002, 1003] (r := (.v zC (.v zC .e))) (h := ?_)) | (refine zZ.isR (id := 1) ?_; refine zZ.rk [0, 1, 4, 5] [1000, 1001, 1002, 1003] ?_; refine zZ.draws ?_) | (refine zZ.isR (id := 2) ?_; refine zZ.rc [0, 1, 4, 5] [1000, 1001, 1002, 1003] (r := (.v zC (.v zC .e))) (h := ?_)) | (refine zZ.isR (id := 3) ?_; refine zZ.rc [0, 1, 4, 5] [1000, 1001, 1002, 1003] (r := (.v yL (.v xO (.v zU (.v yV (.v zC .e)))))) (h := ?_)) | (refine zZ.isR (id := 4) ?_; refine zZ.rk [0, 1, 4, 5, 6] [1000, 1001, 1002, 1003] ?_; refine zZ.draws ?_) | (refine zZ.isR (id := 5) ?_; refine zZ.rc [0, 1, 4, 5, 6] [1000, 1001, 1002, 1003] (r := (.v zC (.v zC .e))) (h := ?_)) | (refine zZ.isR (id := 6) ?_; refine zZ.rk [0, 1, 4, 5, 6] [1000, 1001, 1002, 1003] ?_; refine zZ.draws ?_) | (refine zZ.isR (id := 7) ?_; refine zZ.rc [0, 1, 4, 5] [1000, 1001, 1002, 1003] (r := (.v yL (.v zJ .e))) (h := ?_)) | (refine zZ.isR (id := 8) ?_; refine zZ.rc [4, 5] [1000, 1001, 1002, 1003] (r := (.v zC (.v zC .e))) (h := ?_)) | refine zZ.cond rfl (fun h => ?_) (fun h => ?_) | refine zZ.skip ?_ | refine zZ.ret ?_) | refine zG.n ?_ | refine zG.r ?_ | refine zG.p ?_ | (refine Draws.is ?_; first | refine Draws.rc (.v zJ .e) ?_ | refine Draws.rc (.v yL (.v xO (.v zU (.v v2_13 (.v yL (.v xO (.v zU (.v yV (.v zJ .e))))))))) ?_ | refine Draws.rc (.v yL (.v xO (.v zU (.v v2_13 (.v yL (.v xO (.v zU (.v yV (.v yL (.v xO (.v zU (.v yV .e)))))))))))) ?_ | (refine Draws.in_ [37] rfl ?_; refine Draws.v rfl rfl (zO (cn) rfl rfl rfl (by decide)) ?_) | (refine Draws.in_ [39] rfl ?_; refine Draws.v rfl rfl (zO (c1) rfl rfl rfl (by decide)) ?_) | (refine Draws.in_ [42] rfl ?_; refine Draws.v rfl rfl (zO (c2) rfl rfl rfl (by decide)) ?_) | (refine Draws.in_ [41] rfl ?_; refine Draws.v rfl rfl (zO (c3) rfl rfl rfl (by decide)) ?_) | refine Draws.done (by kernel_rfl) (by kernel_rfl) (by kernel_rfl) ?_) | (refine zS.is ?_; first | refine zS.nil ?_ | (refine zS.at_ 20 rfl ?_; refine zS.rc (.v v52_8 .e) ?_) | (refine zS.at_ 44 rfl ?_; refine zS.rc (.v v52_8 .e) ?_) | (refine zS.in_ [19] rfl ?_; refine zS.ofT rfl (zH.hd (i := []) (f := save2_h H _ hx) (r := fun x s e g hk => ?_) (p := fun q s e => ?_) (t := ?_))) | (refine zS.in_ [43] rfl ?_; refine zS.ofT rfl (zH.hd (i := []) (f := cas_h H _ _ _ _ u1 u2) (r := fun x s e g hk => ?_) (p := fun q s e => ?_) (t := ?_))) | (refine zS.in_ [54] rfl ?_; refine zS.ofT rfl (zH.hd (i := []) (f := retire_h H _ ht hW.x) (r := fun x s e g hk => ?_) (p := fun q s e => ?_) (t := ?_)))))
  all_goals try simp only [Bool.not_eq_true', Bool.not_eq_false'] at *
  all_goals first
    | exact .ret (x := .fail) (.inl rfl) (.tup rfl (by decide) (.cons (.tmp rfl) (.cons (.tmp rfl) .nil))) (by repeat' first | exact trivial | rfl | constructor) (by simp only [takeP, run_bind, zP, zM, Held.zB, cond_true, cond_false, *])
    | exact .ret (x := .miss) (.inl rfl) (.tup rfl (by decide) (.cons (.tmp rfl) (.cons (.tmp rfl) .nil))) (by repeat' first | exact trivial | rfl | constructor) (by simp only [takeP, run_bind, zP, zM, Held.zB, cond_true, cond_false, *])
    | skip
  all_goals (first | exact fun e => hns (by clear hns; simp only [takeP, run_bind, zP, zM, Held.zB, Held.zL, Held.zF, cond_true, cond_false, *]) | exact .pan (q := q) rfl (by repeat' first | exact trivial | rfl | constructor) (by repeat' first | exact trivial | exact ⟨_, rfl, rfl⟩ | constructor) (by simp only [takeP, run_bind, zP, zM, Held.zB, Held.zL, Held.zF, cond_true, cond_false, *]) | exact .ret (x := .done) (by exact .inl rfl) (by exact .tup rfl (by decide) (.cons (.tmp rfl) (.cons (.tmp rfl) .nil))) (by repeat' first | exact trivial | rfl | constructor) (by simp only [takeP, run_bind, zP, zM, Held.zB, Held.zL, Held.zF, cond_true, cond_false, *] <;> rfl))
end Go.Proofs.YtohlllohmoojiaaGreatDoor
/- Functions that make variables, and hand them back to their callers. Generic over the program. -/
namespace Go.Proofs.YtohlllohmoojiaaGreatDoor
set_option maxRecDepth 100000
set_option maxHeartbeats 16000000
open Go Go.RowKit
set_option linter.unusedSimpArgs false
set_option linter.unusedVariables false
/-- What function f does: of such arguments, and such variables of its callers'; it hands back new variables, numbered behind those. -/
def FnX (P : Program) (f : FuncId) (args : List AV) (B : List Blk) (x : AV) (B' New : List Blk) : Prop :=
  ∀ (M : Nat → Nat → Prop) (h : Home) (ρ : Nat → Value) (vs : List Value), Handed h B ρ → (∀ k, 1000 + B.length ≤ k → h.r k = none) → Sat M 0 h (asB B) ρ w9 h.w → vs.length = args.length →
    (∀ (i : Nat) x v, args[i]? = some x → vs[i]? = some v → yD (Mut M (asB B) ρ) ρ h.w x v) →
    Calls P f vs.toArray h.w fun e w' => ∃ ρ' v, e = .returned v ∧ Sat M 0 h (asB (B' ++ New)) ρ' w9 w' ∧ yD (Mut M (asB (B' ++ New)) ρ') ρ' w' x v
section
variable {M : Nat → Nat → Prop} {n : Nat} {w0 : Home} {w : World} {S : AS} {ρ : Nat → Value} {a : Act}
theorem Sat.dropU (h : Sat M n w0 S ρ a w) (id : Nat) (u : Value) (hr : w0.r id = none) : Sat M n w0 (S.drop id) (upd ρ id u) a w := by
  have hu : ∀ j, j ≠ id → upd ρ id u j = ρ j := fun j hj => by simp [upd, hj]
  have hm : ∀ k c, Mut M (S.drop id) (upd ρ id u) k c → Mut M S ρ k c := fun k c hk => by
    rcases hk with hk | ⟨j, b, hb, hk, ht⟩
    · exact .inl hk
    · rw [AS.wN] at hb
      split at hb
      · cases hb
      · rename_i hne
        obtain ⟨b1, h1, rfl⟩ := Option.map_eq_some_iff.1 hb
        rw [hu j (fun e => hne e.symm)] at hk
        exact .inr ⟨j, b1, h1, hk, (Blk.turns_kill b1 id c).1 ht⟩
  have hk : ∀ {x : AV} {v : Value}, yD (Mut M S ρ) ρ w x v → yD (Mut M (S.drop id) (upd ρ id u)) (upd ρ id u) w (x.kill id) v := fun {x v} hx => (hx.killed id u).mono fun k c _ hk => hm k c hk
  refine ⟨h.below, h.out, h.tab, h.size, h.defers, fun i => ?_, fun j b hb => ?_, fun j b k hb hk => ?_, fun k v hv => ?_, h.free, fun i j bi bj k hi hj h1 h2 => ?_⟩
  · have e : (S.drop id).tmp i = (S.tmp i).kill id := S.tmp_kill id i
    rw [e]
    exact hk (h.tmps i)
  · rw [AS.wN] at hb
    split at hb
    · cases hb
    · rename_i hne
      obtain ⟨b1, h1, rfl⟩ := Option.map_eq_some_iff.1 hb
      have := h.blks j b1 h1
      rw [hu j (fun e => hne e.symm)]
      cases b1 with
      | row t size m xs =>
        obtain ⟨ys, ho, hc⟩ := this
        exact ⟨ys, ho, (hc.killed id u).mono fun k c _ hk => hm k c hk⟩
      | prow t size m xs =>
        obtain ⟨ys, ho, hc⟩ := this
        exact ⟨ys, ho, (vG xs id ▸ hc.killed id u : yH _ _ _ (xs.map AV.p) ys).mono fun k c _ hk => hm k c hk⟩
      | box t xs =>
        obtain ⟨g, ys, hv, hg, hh, hc⟩ := this
        exact ⟨g, ys, hv, hg, hh, (hc.killed id u).mono fun k c _ hk => hm k c hk⟩
      | lent t size m xs =>
        obtain ⟨ys, ho, hc⟩ := this
        exact ⟨ys, ho, (vG xs id ▸ hc.killed id u : yH _ _ _ (xs.map AV.p) ys).mono fun k c _ hk => hm k c hk⟩
      | obj mp Q => exact this
  · rw [AS.wN] at hb
    split at hb
    · cases hb
    · rename_i hne
      obtain ⟨b1, h1, _⟩ := Option.map_eq_some_iff.1 hb
      rw [hu j (fun e => hne e.symm)] at hk
      exact h.mine j b1 k h1 hk
  · by_cases e : k = id
    · subst e
      rw [hr] at hv; cases hv
    · rw [hu k e]
      exact h.fix k v hv
  · rw [AS.wN] at hi hj
    split at hi
    · cases hi
    · rename_i hi1
      split at hj
      · cases hj
      · rename_i hj1
        obtain ⟨b1, h3, _⟩ := Option.map_eq_some_iff.1 hi
        obtain ⟨b2, h4, _⟩ := Option.map_eq_some_iff.1 hj
        rw [hu i (fun e => hi1 e.symm)] at h1
        rw [hu j (fun e => hj1 e.symm)] at h2
        exact h.dist i j b1 b2 k h3 h4 h1 h2
def AS.drops (S : AS) (ids : List Nat) : AS := ids.foldl AS.drop S
theorem Sat.drops : ∀ (ids : List Nat) {S : AS} {ρ : Nat → Value}, Sat M n w0 S ρ a w → (∀ j ∈ ids, w0.r j = none) → ∀ ρ', (∀ j, j ∉ ids → ρ' j = ρ j) → Sat M n w0 (S.drops ids) ρ' a w
  | [], S, ρ, h, _, ρ', e => by
    have : ρ' = ρ := funext fun j => e j (by simp)
    subst this
    exact h
  | id :: r, S, ρ, h, hr, ρ', e => by
    show Sat M n w0 ((S.drop id).drops r) ρ' a w
    refine Sat.drops r (h.dropU id (ρ' id) (hr id (by simp))) (fun j hj => hr j (by simp [hj])) ρ' fun j hj => ?_
    by_cases h1 : j = id
    · subst h1
      simp [upd]
    · rw [e j (by simp [h1, hj])]
      simp [upd, h1]
end
section
variable {P : Program} {n : Nat} {o : Oper} {S : AS} {d : Nat}
end
end Go.Proofs.YtohlllohmoojiaaGreatDoor
/- Calls that make no access. Generic over the program. -/
namespace Go.Proofs.YtohlllohmoojiaaGreatDoor
set_option maxRecDepth 100000
set_option maxHeartbeats 16000000
open Go Go.RowKit
set_option linter.unusedVariables false
section
variable {n : Nat} {o : Oper} {S : AS} {d : Nat} {K : Exit → AS → Prop}
/-- a call of what makes no access -/
theorem zH.h0 {α : Type} {f0 : FuncId} {avs xs : List AV} {bk : List Blk} {res : α → AV} {bk' : α → List Blk} {good : α → Prop} {H : Hnd} {s : H.σ} {x : α} {N : AS → Prop} (i : List Nat) (hd : o.dst = some d := by rfl) (hn : d < n := by decide) (he : Enters Tryz.prog o S f0 avs := by exact enA)
    (hx : avs = xs.map (AV.ren (sig (1000 :: 1001 :: 1002 :: i))) := by rfl) (hnd : (1000 :: 1001 :: 1002 :: i).Nodup := by decide)
    (h0 : S.blk 1000 = some (H.b0 s) := by first | rfl | exact zI rfl (H.nk _).1 (by repeat' first | exact KB.refl | apply KB.kill | decide)) (h1 : S.blk 1001 = some (H.b1 s) := by first | rfl | exact zI rfl (H.nk _).2.1 (by repeat' first | exact KB.refl | apply KB.kill | decide)) (h2 : S.blk 1002 = some (H.b2 s) := by first | rfl | exact zI rfl (H.nk _).2.2 (by repeat' first | exact KB.refl | apply KB.kill | decide))
    (hat : AtB S (1000 :: 1001 :: 1002 :: i) i bk := by repeat' first | exact trivial | rfl | constructor) (hbk : bk.all (Blk.okE (bk.length + 3)) = true := by rfl) (hxs : xs.all (AV.okE (bk.length + 3)) = true := by rfl) (hrx : ∀ x, (res x).okE (bk.length + 3) = true := by exact fun _ => rfl)
    (hbk' : ∀ x, (bk' x).length = bk.length ∧ (bk' x).all (Blk.okE (bk.length + 3)) = true := by exact fun _ => ⟨rfl, rfl⟩) (hok : H.ok s := by assumption) (f : FnH H f0 xs bk res bk' good s (.ret x))
    (r : good x → N (({ S with s := qZ (1000 :: 1001 :: 1002 :: i) (H.b0 s :: H.b1 s :: H.b2 s :: (bk' x).map (Blk.ren (sig (1000 :: 1001 :: 1002 :: i)))) S.s } : AS).put d ((res x).ren (sig (1000 :: 1001 :: 1002 :: i))))) : zH Tryz.prog n o S K N :=
  zH.held H i hd hn he hx hnd h0 h1 h2 hat hbk hxs hrx hbk' hok f (fun y s' e g _ => by rw [zP] at e; cases e; exact r g) (fun q s' e => by rw [zP] at e; cases e) (by rw [zP]; intro e; cases e)
/-- a call, two ways by what is answered -/
theorem zH.hdB {α : Type} {f0 : FuncId} {avs xs : List AV} {bk : List Blk} {res : α → AV} {bk' : α → List Blk} {good : α → Prop} {H : Hnd} {s : H.σ} {p0 : Pr α} {N : AS → Prop} (c : α → Bool) (i : List Nat) (hd : o.dst = some d := by rfl) (hn : d < n := by decide) (he : Enters Tryz.prog o S f0 avs := by exact enA)
    (hx : avs = xs.map (AV.ren (sig (1000 :: 1001 :: 1002 :: i))) := by rfl) (hnd : (1000 :: 1001 :: 1002 :: i).Nodup := by decide)
    (h0 : S.blk 1000 = some (H.b0 s) := by first | rfl | exact zI rfl (H.nk _).1 (by repeat' first | exact KB.refl | apply KB.kill | decide)) (h1 : S.blk 1001 = some (H.b1 s) := by first | rfl | exact zI rfl (H.nk _).2.1 (by repeat' first | exact KB.refl | apply KB.kill | decide)) (h2 : S.blk 1002 = some (H.b2 s) := by first | rfl | exact zI rfl (H.nk _).2.2 (by repeat' first | exact KB.refl | apply KB.kill | decide))
    (hat : AtB S (1000 :: 1001 :: 1002 :: i) i bk := by repeat' first | exact trivial | rfl | constructor) (hbk : bk.all (Blk.okE (bk.length + 3)) = true := by rfl) (hxs : xs.all (AV.okE (bk.length + 3)) = true := by rfl) (hrx : ∀ x, (res x).okE (bk.length + 3) = true := by exact fun _ => rfl)
    (hbk' : ∀ x, (bk' x).length = bk.length ∧ (bk' x).all (Blk.okE (bk.length + 3)) = true := by exact fun _ => ⟨rfl, rfl⟩) (hok : H.ok s := by assumption) (f : FnH H f0 xs bk res bk' good s p0)
    (r0 : ∀ x s', p0.run H.st s = .done x s' → good x → H.ok s' → c x = false → N (({ S with s := qZ (1000 :: 1001 :: 1002 :: i) (H.b0 s' :: H.b1 s' :: H.b2 s' :: (bk' x).map (Blk.ren (sig (1000 :: 1001 :: 1002 :: i)))) S.s } : AS).put d ((res x).ren (sig (1000 :: 1001 :: 1002 :: i)))))
    (r1 : ∀ x s', p0.run H.st s = .done x s' → good x → H.ok s' → c x = true → N (({ S with s := qZ (1000 :: 1001 :: 1002 :: i) (H.b0 s' :: H.b1 s' :: H.b2 s' :: (bk' x).map (Blk.ren (sig (1000 :: 1001 :: 1002 :: i)))) S.s } : AS).put d ((res x).ren (sig (1000 :: 1001 :: 1002 :: i)))))
    (p : ∀ q s', p0.run H.st s = .need q s' → K (.panic []) { S with s := qZ (1000 :: 1001 :: 1002 :: i) (H.b0 s' :: H.b1 s' :: H.b2 s' :: (bk.map Blk.forget).map (Blk.ren (sig (1000 :: 1001 :: 1002 :: i)))) S.s, x := needA (accQ q) })
    (t : p0.run H.st s ≠ .stuck) : zH Tryz.prog n o S K N := zH.held H i hd hn he hx hnd h0 h1 h2 hat hbk hxs hrx hbk' hok f (fun x s' e g k => by
      cases hc : c x
      · exact r0 x s' e g k hc
      · exact r1 x s' e g k hc) p t
end
end Go.Proofs.YtohlllohmoojiaaGreatDoor
/- A call of what takes a record out: three ways. (No walk here: a text with walks is cut, and what is found by itself would be cut, too.) -/
namespace Go.Proofs.YtohlllohmoojiaaGreatDoor
set_option maxRecDepth 100000
set_option maxHeartbeats 16000000
open Go Go.RowKit
set_option linter.unusedVariables false
section
variable {n : Nat} {o : Oper} {S : AS} {d : Nat} {K : Exit → AS → Prop}
/-- a call of what takes a record out -/
theorem zH.hdT {f0 : FuncId} {avs xs : List AV} {bk : List Blk} {res : Took → AV} {bk' : Took → List Blk} {good : Took → Prop} {H : Hnd} {s : H.σ} {p0 : Pr Took} {N : AS → Prop} (i : List Nat) (hd : o.dst = some d := by rfl) (hn : d < n := by decide) (he : Enters Tryz.prog o S f0 avs := by exact enA)
    (hx : avs = xs.map (AV.ren (sig (1000 :: 1001 :: 1002 :: i))) := by rfl) (hnd : (1000 :: 1001 :: 1002 :: i).Nodup := by decide)
    (h0 : S.blk 1000 = some (H.b0 s) := by first | rfl | exact zI rfl (H.nk _).1 (by repeat' first | exact KB.refl | apply KB.kill | decide)) (h1 : S.blk 1001 = some (H.b1 s) := by first | rfl | exact zI rfl (H.nk _).2.1 (by repeat' first | exact KB.refl | apply KB.kill | decide)) (h2 : S.blk 1002 = some (H.b2 s) := by first | rfl | exact zI rfl (H.nk _).2.2 (by repeat' first | exact KB.refl | apply KB.kill | decide))
    (hat : AtB S (1000 :: 1001 :: 1002 :: i) i bk := by repeat' first | exact trivial | rfl | constructor) (hbk : bk.all (Blk.okE (bk.length + 3)) = true := by rfl) (hxs : xs.all (AV.okE (bk.length + 3)) = true := by rfl) (hrx : ∀ x, (res x).okE (bk.length + 3) = true := by exact fun _ => rfl)
    (hbk' : ∀ x, (bk' x).length = bk.length ∧ (bk' x).all (Blk.okE (bk.length + 3)) = true := by exact fun _ => ⟨rfl, rfl⟩) (hok : H.ok s := by assumption) (f : FnH H f0 xs bk res bk' good s p0)
    (r0 : ∀ s', p0.run H.st s = .done .fail s' → good .fail → H.ok s' → N (({ S with s := qZ (1000 :: 1001 :: 1002 :: i) (H.b0 s' :: H.b1 s' :: H.b2 s' :: (bk' .fail).map (Blk.ren (sig (1000 :: 1001 :: 1002 :: i)))) S.s } : AS).put d ((res .fail).ren (sig (1000 :: 1001 :: 1002 :: i)))))
    (r1 : ∀ s', p0.run H.st s = .done .miss s' → good .miss → H.ok s' → N (({ S with s := qZ (1000 :: 1001 :: 1002 :: i) (H.b0 s' :: H.b1 s' :: H.b2 s' :: (bk' .miss).map (Blk.ren (sig (1000 :: 1001 :: 1002 :: i)))) S.s } : AS).put d ((res .miss).ren (sig (1000 :: 1001 :: 1002 :: i)))))
    (r2 : ∀ s', p0.run H.st s = .done .done s' → good .done → H.ok s' → N (({ S with s := qZ (1000 :: 1001 :: 1002 :: i) (H.b0 s' :: H.b1 s' :: H.b2 s' :: (bk' .done).map (Blk.ren (sig (1000 :: 1001 :: 1002 :: i)))) S.s } : AS).put d ((res .done).ren (sig (1000 :: 1001 :: 1002 :: i)))))
    (p : ∀ q s', p0.run H.st s = .need q s' → K (.panic []) { S with s := qZ (1000 :: 1001 :: 1002 :: i) (H.b0 s' :: H.b1 s' :: H.b2 s' :: (bk.map Blk.forget).map (Blk.ren (sig (1000 :: 1001 :: 1002 :: i)))) S.s, x := needA (accQ q) })
    (t : p0.run H.st s ≠ .stuck) : zH Tryz.prog n o S K N := zH.held H i hd hn he hx hnd h0 h1 h2 hat hbk hxs hrx hbk' hok f (fun x => match x with
    | .fail => r0
    | .miss => r1
    | .done => r2) p t
end
end Go.Proofs.YtohlllohmoojiaaGreatDoor
