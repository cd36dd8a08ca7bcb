/- ALONE: records of keys that are told are searched for, linked where the search says, marked, and searched for again: the list is the keys that are in, rising (Part 4 of 8.) -/
import Derived.Test.YteadaggehndacaaDoorLo3
import Derived.Laws.BitsAllLaws
import Derived.Laws.OwnMore
import Derived.ArgAppend
import Derived.Laws.Cover3
import Derived.Deep.Upon
/- Words and cells, the program's and the document's: contracts. -/
namespace Go.Proofs.YteadaggehndacaaDoor
set_option maxRecDepth 100000
set_option maxHeartbeats 16000000
open Go Go.RowKit
attribute [local irreducible] zY zZ Step zQ Sub zO Fn
def flagF (s b : Int) : Int := s % 4611686018427387904 * 4 + b % 4
def qL (w b : Int) : Bool := (decide (b % 2 = 0) || decide (w % 2 = 1)) && (decide (b % 4 < 2) || decide (w / 2 % 2 = 1))
theorem wrapU (x : Int) : IntKind.u64.wrap x = x % 18446744073709551616 := by simp [IntKind.wrap, IntKind.signed, IntKind.bits]
theorem and3 (x : Int) (h0 : 0 ≤ x) (h1 : x < 18446744073709551616) : bits .and .u64 x 3 = x % 4 := by
  obtain ⟨n, rfl⟩ := Int.eq_ofNat_of_zero_le h0
  rw [show (3 : Int) = ((3 : Nat) : Int) from rfl, u64_and_nat n 3 (by omega) (by decide)]
  have : n &&& 3 = n % 4 := Nat.and_two_pow_sub_one_eq_mod n 2
  rw [this]
  omega
theorem andHas (w q : Int) (h0 : 0 ≤ w) (h1 : w < 18446744073709551616) (q0 : 0 ≤ q) (q1 : q < 4) : decide (bits .and .u64 w q = q) = ((decide (q % 2 = 0) || decide (w % 2 = 1)) && (decide (q < 2) || decide (w / 2 % 2 = 1))) := by
  obtain ⟨n, rfl⟩ := Int.eq_ofNat_of_zero_le h0
  have e : ∀ m : Nat, m < 4 → bits .and .u64 (n : Int) (m : Int) = ((n &&& m : Nat) : Int) := fun m hm => u64_and_nat n m (by omega) (by omega)
  have h : q = ((0 : Nat) : Int) ∨ q = ((1 : Nat) : Int) ∨ q = ((2 : Nat) : Int) ∨ q = ((3 : Nat) : Int) := by omega
  have b1 : n &&& 1 = n % 2 := Nat.and_two_pow_sub_one_eq_mod n 1
  have b3 : n &&& 3 = n % 4 := Nat.and_two_pow_sub_one_eq_mod n 2
  have b2 : n &&& 2 = n / 2 % 2 * 2 := by
    apply Nat.eq_of_testBit_eq
    intro i
    rw [Nat.testBit_and]
    match i with
    | 0 => simp [Nat.testBit_zero]
    | 1 => simp [Nat.testBit_succ, Nat.testBit_zero]
    | i + 2 => simp [Nat.testBit_succ]
  rcases h with rfl | rfl | rfl | rfl
  · rw [e 0 (by decide)]; simp
  · rw [e 1 (by decide), b1]; simp only [← Bool.decide_or, ← Bool.decide_and, decide_eq_decide]; omega
  · rw [e 2 (by decide), b2]; simp only [← Bool.decide_or, ← Bool.decide_and, decide_eq_decide]; omega
  · rw [e 3 (by decide), b3]; simp only [← Bool.decide_or, ← Bool.decide_and, decide_eq_decide]; omega
theorem wstamp_fn (w : Int) : Fn Tryd.prog 87 [.val (.int .u64 w)] (.p (.val (.int .u64 (w / 4)))) := by
  refine kL Tryd.func87 rfl Tryd.ntmps87 (Nat.le_of_ble_eq_true rfl) ?_
  repeat' ((refine zZ.is ?_; first | refine zZ.seq ?_ | (refine zZ.isR (id := 0) ?_; refine zZ.yZ [0] [] (by repeat' first | exact zX.nil | apply zX.p rfl) (by repeat' exact zW.nil) ?_; (refine zY.v rfl rfl (zV rfl rfl rfl (by decide)) ?_); refine zY.nil ?_) | (refine zZ.isR (id := 1) ?_; refine zZ.yZ [0, 2] [] (by repeat' first | exact zX.nil | apply zX.p rfl) (by repeat' exact zW.nil) ?_; (refine zY.v rfl rfl (zJ rfl rfl rfl (by decide)) ?_); (refine zY.v rfl rfl (by exact a_shr rfl rfl rfl (by decide) (by decide) (by (simp only [Int.reduceToNat, Int.reducePow]; rfl)) rfl (by decide)) ?_); (refine zY.v rfl rfl (zV rfl rfl rfl (by decide)) ?_); refine zY.nil ?_) | refine zZ.ret ?_))
  all_goals exact ⟨.inl rfl, gives1 rfl rfl rfl⟩
theorem mark_fn (w : Int) (h0 : 0 ≤ w) (h1 : w < 18446744073709551616) : Fn Tryd.prog 39 [.val (.int .u64 w)] (.p (.val (.bool (decide (w % 2 = 1))))) := by
  have g1 : bits .and .u64 w 1 = w % 2 := by
    obtain ⟨n, rfl⟩ := Int.eq_ofNat_of_zero_le h0
    rw [show (1 : Int) = ((1 : Nat) : Int) from rfl, u64_and_nat n 1 (by omega) (by decide)]
    have : n &&& 1 = n % 2 := Nat.and_two_pow_sub_one_eq_mod n 1
    rw [this]
    omega
  refine kL Tryd.func39 rfl Tryd.ntmps39 (Nat.le_of_ble_eq_true rfl) ?_
  repeat' ((refine zZ.is ?_; first | refine zZ.seq ?_ | (refine zZ.isR (id := 0) ?_; refine zZ.yZ [0] [] (by repeat' first | exact zX.nil | apply zX.p rfl) (by repeat' exact zW.nil) ?_; (refine zY.v rfl rfl (zV rfl rfl rfl (by decide)) ?_); refine zY.nil ?_) | (refine zZ.isR (id := 1) ?_; refine zZ.yZ [0, 2] [] (by repeat' first | exact zX.nil | apply zX.p rfl) (by repeat' exact zW.nil) ?_; (refine zY.v rfl rfl (zJ rfl rfl rfl (by decide)) ?_); (refine zY.v rfl rfl (by exact a_and rfl rfl rfl (by exact g1) rfl (by decide)) ?_); (refine zY.v rfl rfl (r_eql rfl rfl rfl (by rfl) rfl (by decide)) ?_); (refine zY.v rfl rfl (zV rfl rfl rfl (by decide)) ?_); refine zY.nil ?_) | refine zZ.ret ?_))
  all_goals exact ⟨.inl rfl, gives1 rfl rfl rfl⟩
theorem has_fn (w b : Int) (h0 : 0 ≤ w) (h1 : w < 18446744073709551616) : Fn Tryd.prog 58 [.val (.int .u64 w), .val (.int .i64 b)] (.p (.val (.bool (qL w b)))) := by
  have g2 := wrapU b
  have g3 : bits .and .u64 (b % 18446744073709551616) 3 = b % 4 := by rw [and3 _ (by omega) (by omega)]; omega
  have g4 : decide (bits .and .u64 w (b % 4) = b % 4) = qL w b := by
    rw [andHas w (b % 4) h0 h1 (by omega) (by omega)]
    unfold qL
    have : b % 4 % 2 = b % 2 := by omega
    rw [this]
  refine kL Tryd.func58 rfl Tryd.ntmps58 (Nat.le_of_ble_eq_true rfl) ?_
  repeat' ((refine zZ.is ?_; first | refine zZ.seq ?_ | (refine zZ.isR (id := 0) ?_; refine zZ.yZ [0, 1] [] (by repeat' first | exact zX.nil | apply zX.p rfl) (by repeat' exact zW.nil) ?_; (refine zY.v rfl rfl (zV rfl rfl rfl (by decide)) ?_); refine zY.nil ?_) | (refine zZ.isR (id := 1) ?_; refine zZ.yZ [0, 1, 4] [] (by repeat' first | exact zX.nil | apply zX.p rfl) (by repeat' exact zW.nil) ?_; (refine zY.v rfl rfl (zJ rfl rfl rfl (by decide)) ?_); (refine zY.v rfl rfl (by exact w_conv rfl rfl (by exact g2) rfl (by decide)) ?_); (refine zY.v rfl rfl (by exact a_and rfl rfl rfl (by exact g3) rfl (by decide)) ?_); (refine zY.v rfl rfl (zV rfl rfl rfl (by decide)) ?_); refine zY.nil ?_) | (refine zZ.isR (id := 2) ?_; refine zZ.yZ [0, 4, 5] [] (by repeat' first | exact zX.nil | apply zX.p rfl) (by repeat' exact zW.nil) ?_; (refine zY.v rfl rfl (zJ rfl rfl rfl (by decide)) ?_); (refine zY.v rfl rfl (zJ rfl rfl rfl (by decide)) ?_); (refine zY.v rfl rfl (a_and rfl rfl rfl (by rfl) rfl (by decide)) ?_); (refine zY.v rfl rfl (zJ rfl rfl rfl (by decide)) ?_); (refine zY.v rfl rfl (by exact r_eql rfl rfl rfl (by exact g4) rfl (by decide)) ?_); (refine zY.v rfl rfl (zV rfl rfl rfl (by decide)) ?_); refine zY.nil ?_) | refine zZ.ret ?_))
  all_goals exact ⟨.inl rfl, gives1 rfl rfl rfl⟩
/-- where a record's field lies -/
def zF (t r f : Int) : Int := 8 + t + 8 * (r - 1) + f
def Small (x : Int) : Prop := -1073741824 ≤ x ∧ x ≤ 1073741824
theorem size_fn (t c : Int) (h0 : Small t) (h1 : Small c) : Fn Tryd.prog 71 [.val (.int .i64 t), .val (.int .i64 c)] (.p (.val (.int .i64 (8 + t + 8 * c)))) := by
  unfold Small at h0 h1
  refine kL Tryd.func71 rfl Tryd.ntmps71 (Nat.le_of_ble_eq_true rfl) ?_
  repeat' ((refine zZ.is ?_; first | refine zZ.seq ?_ | (refine zZ.isR (id := 0) ?_; refine zZ.yZ [0, 1] [] (by repeat' first | exact zX.nil | apply zX.p rfl) (by repeat' exact zW.nil) ?_; (refine zY.v rfl rfl (zV rfl rfl rfl (by decide)) ?_); refine zY.nil ?_) | (refine zZ.isR (id := 1) ?_; refine zZ.yZ [0, 1, 4] [] (by repeat' first | exact zX.nil | apply zX.p rfl) (by repeat' exact zW.nil) ?_; (refine zY.v rfl rfl (zJ rfl rfl rfl (by decide)) ?_); (refine zY.v rfl rfl (by exact q9 rfl rfl rfl (by exact wrap_i64 _ (by omega)) rfl (by decide)) ?_); (refine zY.v rfl rfl (zJ rfl rfl rfl (by decide)) ?_); (refine zY.v rfl rfl (by exact a_mul rfl rfl rfl (by exact wrap_i64 _ (by omega)) rfl (by decide)) ?_); (refine zY.v rfl rfl (by exact q9 rfl rfl rfl (by exact wrap_i64 _ (by omega)) rfl (by decide)) ?_); (refine zY.v rfl rfl (zV rfl rfl rfl (by decide)) ?_); refine zY.nil ?_) | refine zZ.ret ?_))
  all_goals exact ⟨.inl rfl, gives1 rfl rfl rfl⟩
theorem field_fn (t r f : Int) (h0 : Small t) (h1 : 0 ≤ r ∧ r ≤ 1048576) (h2 : Small f) : Fn Tryd.prog 55 [.val (.int .i64 t), .val (.int .i64 r), .val (.int .i64 f)] (.p (.val (.int .i64 (zF t r f)))) := by
  have c1 := size_fn t (r - 1) h0 (by unfold Small; omega)
  unfold Small at h0 h2
  refine kL Tryd.func55 rfl Tryd.ntmps55 (Nat.le_of_ble_eq_true rfl) ?_
  repeat' ((refine zZ.is ?_; first | refine zZ.seq ?_ | (refine zZ.isR (id := 0) ?_; refine zZ.yZ [0, 1, 2] [] (by repeat' first | exact zX.nil | apply zX.p rfl) (by repeat' exact zW.nil) ?_; (refine zY.v rfl rfl (zV rfl rfl rfl (by decide)) ?_); refine zY.nil ?_) | (refine zZ.isR (id := 1) ?_; refine zZ.yZ [0, 1, 2, 6] [] (by repeat' first | exact zX.nil | apply zX.p rfl) (by repeat' exact zW.nil) ?_; (refine zY.v rfl rfl (zJ rfl rfl rfl (by decide)) ?_); (refine zY.v rfl rfl (zJ rfl rfl rfl (by decide)) ?_); (refine zY.v rfl rfl (by exact a_sub rfl rfl rfl (by exact wrap_i64 _ (by omega)) rfl (by decide)) ?_); (refine zY.v rfl rfl (by exact yK (c1) rfl rfl rfl (by decide)) ?_); (refine zY.v rfl rfl (zJ rfl rfl rfl (by decide)) ?_); (refine zY.v rfl rfl (by exact q9 rfl rfl rfl (by exact wrap_i64 _ (by omega)) rfl (by decide)) ?_); (refine zY.v rfl rfl (zV rfl rfl rfl (by decide)) ?_); refine zY.nil ?_) | refine zZ.ret ?_))
  all_goals exact ⟨.inl rfl, gives1 rfl rfl rfl⟩
theorem qD (t r f : Int) (h0 : Small t) (h1 : 0 ≤ r ∧ r ≤ 1048576) (h2 : Small f) : Fn Tryd.prog 10 [.val (.int .i64 t), .val (.int .i64 r), .val (.int .i64 f)] (.p (.val (.int .i64 (zF t r f)))) := by
  unfold Small at h0 h2
  refine kL Tryd.func10 rfl Tryd.ntmps10 (Nat.le_of_ble_eq_true rfl) ?_
  repeat' ((refine zZ.is ?_; first | refine zZ.seq ?_ | (refine zZ.isR (id := 0) ?_; refine zZ.yZ [0, 1, 2] [] (by repeat' first | exact zX.nil | apply zX.p rfl) (by repeat' exact zW.nil) ?_; (refine zY.v rfl rfl (zV rfl rfl rfl (by decide)) ?_); refine zY.nil ?_) | (refine zZ.isR (id := 1) ?_; refine zZ.yZ [0, 1, 2, 6] [] (by repeat' first | exact zX.nil | apply zX.p rfl) (by repeat' exact zW.nil) ?_; (refine zY.v rfl rfl (zJ rfl rfl rfl (by decide)) ?_); (refine zY.v rfl rfl (by exact q9 rfl rfl rfl (by exact wrap_i64 _ (by omega)) rfl (by decide)) ?_); (refine zY.v rfl rfl (zJ rfl rfl rfl (by decide)) ?_); (refine zY.v rfl rfl (by exact a_sub rfl rfl rfl (by exact wrap_i64 _ (by omega)) rfl (by decide)) ?_); (refine zY.v rfl rfl (by exact a_mul rfl rfl rfl (by exact wrap_i64 _ (by omega)) rfl (by decide)) ?_); (refine zY.v rfl rfl (by exact q9 rfl rfl rfl (by exact wrap_i64 _ (by omega)) rfl (by decide)) ?_); (refine zY.v rfl rfl (zJ rfl rfl rfl (by decide)) ?_); (refine zY.v rfl rfl (by exact q9 rfl rfl rfl (by exact wrap_i64 _ (by omega)) rfl (by decide)) ?_); (refine zY.v rfl rfl (zV rfl rfl rfl (by decide)) ?_); refine zY.nil ?_) | refine zZ.ret ?_))
  all_goals exact ⟨.inl rfl, gives1 rfl rfl rfl⟩
/-- a flag with a bit -/
def withF (f b : Int) : Int := if qL f b then f else f + b
end Go.Proofs.YteadaggehndacaaDoor
/- Operations of records, and their answers. -/
namespace Go.Proofs.YteadaggehndacaaDoor
set_option maxRecDepth 100000
set_option maxHeartbeats 16000000
open Go Go.RowKit
/-- a record's place -/
def Rec (t r : Int) : Prop := Small t ∧ 1 ≤ r ∧ r ≤ 1048576
/-- a record's place, or none's -/
def Rc (t r : Int) : Prop := Small t ∧ 0 ≤ r ∧ r ≤ 1048576
theorem Rec.z {t r : Int} (h : Rec t r) : Rc t r := ⟨h.1, by have := h.2.1; omega, h.2.2⟩
def outV (e : Int) (is : Bool) (n w : Int) : PV := .agg [.val (.int .i64 e), .val (.bool is), .val (.int .i64 n), .val (.int .u64 w), xJ]
def opV (k u v w : Int) : PV := .agg [.val (.int .i64 k), .val (.int .i64 u), .val (.int .i64 v), .val (.int .u64 w)]
structure OutI where
  e : Int
  is : Bool
  w : Int
/-- an operation of a record, and of a bit -/
structure OpOK (t k u v w : Int) : Prop where
  rec_ : k = 20 ∨ k = 21 ∨ k = 22 ∨ k = 23 ∨ k = 7 → Rec t u
  bit : k = 7 ∨ k = 23 → v = 1 ∨ v = 2
  w : U w
def opB (k u v w : Int) : Blk := .box 42 [.p (.val (.int .i64 k)), .p (.val (.int .i64 u)), .p (.val (.int .i64 v)), .p (.val (.int .u64 w))]
def outR (o : OutI) : AV := .p (outV o.e o.is 0 o.w)
end Go.Proofs.YteadaggehndacaaDoor
/- Records, flags, and what is durable, as trees. -/
namespace Go.Proofs.YteadaggehndacaaDoor
set_option maxRecDepth 100000
set_option maxHeartbeats 16000000
open Go Go.RowKit
set_option linter.unusedSimpArgs false
set_option linter.unusedVariables false
theorem U.quo {f : Int} (h : U f) : U (f / 4) := ⟨by have := h.1; omega, by have := h.2; omega⟩
def aliveB (w f stamp : Int) : Bool := decide (f / 4 = stamp) && !decide (w % 2 = 1)
def ov1 (b f : Int) : Bool := qL f b
def over2 (s b g : Int) : Bool := !decide (g / 4 = s) || qL g b
theorem orBit (f b : Int) (h0 : 0 ≤ f) (h1 : f < 18446744073709551616) (hb : b = 1 ∨ b = 2) (hn : qL f b = false) : bits .or .u64 f b = f + b ∧ f + b < 18446744073709551616 := by
  obtain ⟨n, rfl⟩ := Int.eq_ofNat_of_zero_le h0
  unfold qL at hn
  rcases hb with rfl | rfl
  · simp at hn
    have e : n ||| 1 = n + 1 := by
      have h2 := Nat.shiftLeft_add_eq_or_of_lt (show 1 < 2 ^ 1 by decide) (n / 2)
      rw [Nat.shiftLeft_eq] at h2
      have h3 : n / 2 * 2 ^ 1 = n := by omega
      rw [h3] at h2
      exact h2.symm
    rw [show (1 : Int) = ((1 : Nat) : Int) from rfl, u64_or_nat n 1 (by omega) (by decide), e]
    constructor <;> omega
  · simp at hn
    have e : n ||| 2 = n + 2 := by
      have h2 := Nat.shiftLeft_add_eq_or_of_lt (show n % 4 < 2 ^ 2 by omega) (n / 4)
      have h3 := Nat.shiftLeft_add_eq_or_of_lt (show n % 4 + 2 < 2 ^ 2 by omega) (n / 4)
      rw [Nat.shiftLeft_eq] at h2 h3
      have h4 : n / 4 * 2 ^ 2 + n % 4 = n := by omega
      have h5 : n % 4 ||| 2 = n % 4 + 2 := by
        have : n % 4 = 0 ∨ n % 4 = 1 := by omega
        rcases this with h | h <;> rw [h] <;> rfl
      rw [h4] at h2
      have h6 : n ||| 2 = (n / 4 * 2 ^ 2 ||| n % 4) ||| 2 := congrArg (· ||| 2) h2
      rw [h6, Nat.or_assoc, h5, ← h3]
      omega
    rw [show (2 : Int) = ((2 : Nat) : Int) from rfl, u64_or_nat n 2 (by omega) (by decide), e]
    constructor <;> omega
theorem over2_has {s b g : Int} (h : over2 s b g = false) : qL g b = false := by
  unfold over2 at h
  simp only [Bool.or_eq_false_iff] at h
  exact h.2
theorem orU {f b : Int} (hf : U f) (hb : b = 1 ∨ b = 2) (hn : qL f b = false) : U (f + b) := ⟨by have := hf.1; rcases hb with rfl | rfl <;> omega, (orBit f b hf.1 hf.2 hb hn).2⟩
def flagP (t r : Int) : Pr Int := wH (zF t r 2)
def aliveP (t r s : Int) : Pr Bool := (wH (zF t r 0)).bind fun w => (flagP t r).bind fun f => .ret (aliveB w f s)
/-- one round -/
def vQ (over : Int → Bool) (c b : Int) (_ : Unit) : Pr (Unit ⊕ Unit) := (wH c).bind fun f => bif over f then .ret (.inr ()) else (casP c f (f + b)).bind fun d => .ret (bif d then .inr () else .inl ())
def setP (over : Int → Bool) (c b : Int) : Pr Unit := .loop (vQ over c b) many ()
/-- accesses of a disk, up to the first that fails -/
def diskP : List Ned → Pr Bool
  | [] => .ret true
  | q :: qs => .ask q fun r => bif r.fail then .ret false else diskP qs
def wrAcc (k s y u v x : Int) : List Ned := [kJ 5 0 0 0 (.sl (byts (bytesE k s y u v x))), kJ 6 0 0 0 xJ]
def wrP (t r b k s y u v x : Int) : Pr Bool := (diskP (wrAcc k s y u v x)).bind fun ok => bif ok then (setP (over2 s b) (zF t r 2) b).bind fun _ => .ret true else .ret false
def restP (t r b f : Int) : Pr Bool :=
  bif qL f b then .ret true else bif decide (b = 1) then
    (wH (zF t r 1)).bind fun n1 => (wH (zF t r 4)).bind fun n2 => (wH (zF t r 5)).bind fun n3 => (wH (zF t r 6)).bind fun n4 => wrP t r b 1 (f / 4) n1 n2 n3 n4
  else wrP t r b 2 (f / 4) 0 0 0 0
def saveP (t r b : Int) : Pr Bool := (flagP t r).bind fun f => restP t r b f
def deadP (t r s : Int) : Pr Bool := (flagP t r).bind fun f => bif decide (f / 4 = s) then restP t r 2 f else .ret true
def itemsOf (s y e u v x : Int) : List (Int × Int) := [(2, flagF s 0), (1, y), (3, e), (4, u), (5, v), (6, x)]
def storesP (t r : Int) : List (Int × Int) → Pr Unit
  | [] => .ret ()
  | p :: l => (storeP (zF t r p.1) p.2).bind fun _ => storesP t r l
def makeP (t r y e u v x : Int) : Pr Int := (addP 2 1).bind fun n => (storesP t r (itemsOf (IntKind.u64.wrap (n + 1)) y e u v x)).bind fun _ => .ret (IntKind.u64.wrap (n + 1))
/-! ### They ask what may be asked -/
theorem putF_range (b : List Int) (hb : ∀ x ∈ b, 0 ≤ x ∧ x < 256) (hl : putOk b) : ∀ x ∈ putF b, 0 ≤ x ∧ x < 256 := by
  intro x hx
  have h2 : b.length ≤ 65535 := hl.2
  rw [putF_ref b hl] at hx
  simp only [List.mem_cons, List.cons_append, List.nil_append] at hx
  have hm : moreF 0 b < 4294967296 := moreF_lt 0 b
  rcases hx with rfl | rfl | rfl | rfl | rfl | rfl | hx
  all_goals first
    | exact hb x hx
    | omega
theorem putF_lenP (b : List Int) (hl : putOk b) : (putF b).length = 6 + b.length := by rw [putF_ref b hl]; simp; omega
theorem bytesE_ok (k s y u v x : Int) : (∀ c ∈ bytesE k s y u v x, 0 ≤ c ∧ c < 256) ∧ (bytesE k s y u v x).length ≤ 1000 := by
  unfold bytesE
  by_cases h : mayB k s y u v x = true
  · rw [if_pos h]
    refine ⟨putF_range _ (encL_range' k s y u v x) (encL_le2 k s y u v x), ?_⟩
    rw [putF_lenP _ (encL_le2 k s y u v x)]
    unfold encL
    by_cases hk : k = 1 <;> simp [hk, bytesOf]
  · rw [if_neg h]
    exact ⟨fun c hc => by simp at hc, by simp⟩
theorem asked_wr (k s y u v x : Int) : ∀ q ∈ wrAcc k s y u v x, qP q := by
  intro q hq
  simp only [wrAcc, List.mem_cons, List.not_mem_nil, or_false] at hq
  rcases hq with rfl | rfl
  · exact ⟨rfl, U.zero, U.zero, .inr ⟨rfl, _, (bytesE_ok k s y u v x).1, (bytesE_ok k s y u v x).2, rfl⟩⟩
  · exact ⟨rfl, U.zero, U.zero, .inl ⟨.inr rfl, rfl⟩⟩
theorem fine_round {over : Int → Bool} {c b : Int} (hb : b = 1 ∨ b = 2) (ho : ∀ f, over f = false → qL f b = false) (u : Unit) : (vQ over c b u).xQ (Next yes yes) :=
  .bind (xZ _) fun f hf => .condB (fun _ => Pr.xQ.ret trivial) fun h => .bind (kR _ hf ⟨by have := hf.1; rcases hb with rfl | rfl <;> omega, (orBit f b hf.1 hf.2 hb (ho f h)).2⟩) fun d _ => Pr.xQ.ret (by cases d <;> trivial)
theorem fine_set {over : Int → Bool} {c b : Int} (hb : b = 1 ∨ b = 2) (ho : ∀ f, over f = false → qL f b = false) : (setP over c b).xQ yes :=
  Pr.xQ.loop yes (fun _ => ⟨_, _, rfl⟩) (fun u _ => fine_round hb ho u) () trivial
theorem fine_disk : ∀ {qs : List Ned}, (∀ q ∈ qs, qP q) → (diskP qs).xQ yes
  | [], _ => Pr.xQ.ret trivial
  | q :: qs, h => fine_ask (h q (by simp)) fun r _ => .cond (Pr.xQ.ret trivial) (fine_disk fun q' hq => h q' (by simp [hq]))
theorem fine_wr (t r b k s y u v x : Int) (hb : b = 1 ∨ b = 2) : (wrP t r b k s y u v x).xQ yes := .bind (fine_disk (asked_wr k s y u v x)) fun _ _ => .cond (.bind (fine_set hb fun _ h => over2_has h) fun _ _ => trivial) trivial
theorem fine_rest (t r b f : Int) (hb : b = 1 ∨ b = 2) : (restP t r b f).xQ yes :=
  .cond trivial (.cond (.bind (xZ _) fun _ _ => .bind (xZ _) fun _ _ => .bind (xZ _) fun _ _ => .bind (xZ _) fun _ _ => fine_wr _ _ _ _ _ _ _ _ _ hb) (fine_wr _ _ _ _ _ _ _ _ _ hb))
theorem fine_save (t r b : Int) (hb : b = 1 ∨ b = 2) : (saveP t r b).xQ yes := .bind (xZ _) fun _ _ => fine_rest _ _ _ _ hb
end Go.Proofs.YteadaggehndacaaDoor
/- References in words; the place of what follows: contracts. -/
namespace Go.Proofs.YteadaggehndacaaDoor
set_option maxRecDepth 100000
set_option maxHeartbeats 16000000
open Go Go.RowKit
set_option linter.unusedSimpArgs false
set_option linter.unusedVariables false
attribute [local irreducible] zY zZ Step zQ Sub zO zR Fn
def xL (w : Int) : Int := w / 2 % 1048576
theorem refW_lo (w : Int) : 0 ≤ xL w := by unfold xL; omega
theorem refW_hi (w : Int) : xL w < 1048576 := by unfold xL; omega
def yC (t r : Int) : Int := bif decide (r = 0) then 0 else zF t r 0
theorem andLow (x : Int) (k : Nat) (hk : 2 ^ k ≤ 18446744073709551616) (h0 : 0 ≤ x) (h1 : x < 18446744073709551616) : bits .and .u64 x ((2 ^ k - 1 : Nat) : Int) = x % ((2 ^ k : Nat) : Int) := by
  obtain ⟨n, rfl⟩ := Int.eq_ofNat_of_zero_le h0
  rw [u64_and_nat n _ (by omega) (by omega), Nat.and_two_pow_sub_one_eq_mod]
  omega
theorem ref_fn (w : Int) (h0 : 0 ≤ w) (h1 : w < 18446744073709551616) : Fn Tryd.prog 44 [.val (.int .u64 w)] (.p (.val (.int .i64 (xL w)))) := by
  have g1 : bits .and .u64 (w / 2) 1048575 = xL w := andLow (w / 2) 20 (by decide) (by omega) (by omega)
  have g2 : IntKind.i64.wrap (xL w) = xL w := wrap_i64 _ (by have := refW_lo w; have := refW_hi w; omega)
  refine kL Tryd.func44 rfl Tryd.ntmps44 (Nat.le_of_ble_eq_true rfl) ?_
  repeat' (first | (refine zY.nil ?_) | (refine zZ.is ?_; first | refine zZ.seq ?_ | (refine zZ.isR (id := 0) ?_; refine zZ.rc [0] [] (r := (.v yV .e)) (h := ?_)) | (refine zZ.isR (id := 1) ?_; refine zZ.rc [0, 2] [] (r := (.v zC (.v v39_1 (.v v35_0 (.v v6_0 (.v yV .e)))))) (h := ?_)) | refine zZ.ret ?_))
  all_goals exact ⟨.inl rfl, gives1 rfl rfl rfl⟩
theorem refRef_fn (w : Int) (h0 : 0 ≤ w) (h1 : w < 18446744073709551616) : Fn Tryd.prog 27 [.val (.int .u64 w)] (.p (.val (.int .i64 (xL w)))) := by
  have g1 : IntKind.u64.wrap (w.tdiv 2) = w / 2 := by rw [Int.tdiv_eq_ediv_of_nonneg h0, wrapU]; omega
  have g2 : (w / 2).tmod 1048576 = xL w := Int.tmod_eq_emod_of_nonneg (by omega)
  have g3 : IntKind.i64.wrap (xL w) = xL w := wrap_i64 _ (by have := refW_lo w; have := refW_hi w; omega)
  refine kL Tryd.func27 rfl Tryd.ntmps27 (Nat.le_of_ble_eq_true rfl) ?_
  repeat' (first | (refine zY.nil ?_) | (refine zZ.is ?_; first | refine zZ.seq ?_ | (refine zZ.isR (id := 0) ?_; refine zZ.rc [0] [] (r := (.v yV .e)) (h := ?_)) | (refine zZ.isR (id := 1) ?_; refine zZ.rc [0, 2] [] (r := (.v zC (.v v33_0 (.v v34_0 (.v v6_0 (.v yV .e)))))) (h := ?_)) | refine zZ.ret ?_))
  all_goals exact ⟨.inl rfl, gives1 rfl rfl rfl⟩
theorem link_fn (r : Int) (h : 0 ≤ r ∧ r ≤ 1048576) : Fn Tryd.prog 34 [.val (.int .i64 r), .val (.bool false)] (.p (.val (.int .u64 (2 * r)))) := by
  have g1 : IntKind.u64.wrap r = r := wrap_u64 _ (by omega)
  have g2 : IntKind.u64.wrap (r * 2 ^ (1 : Int).toNat) = 2 * r := by rw [wrapU]; show r * 2 % _ = _; omega
  refine kL Tryd.func34 rfl Tryd.ntmps34 (Nat.le_of_ble_eq_true rfl) ?_
  repeat' (first | (refine zY.nil ?_) | (refine zZ.is ?_; first | refine zZ.seq ?_ | (refine zZ.isR (id := 0) ?_; refine zZ.rc [0, 1] [] (r := (.v yV .e)) (h := ?_)) | (refine zZ.isR (id := 1) ?_; refine zZ.rc [0, 1, 4] [] (r := (.v zC (.v v6_0 (.v v38_0 (.v yV .e))))) (h := ?_)) | (refine zZ.isR (id := 2) ?_; refine zZ.rc [1, 4, 5] [] (r := (.v zC .e)) (h := ?_)) | (refine zZ.isR (id := 4) ?_; refine zZ.rc [4, 5] [] (r := (.v zC (.v yV .e))) (h := ?_)) | refine zZ.yU rfl bA ?_ | refine zZ.skip ?_ | refine zZ.ret ?_))
  all_goals exact ⟨.inl rfl, gives1 rfl rfl rfl⟩
theorem cnext_fn (t r : Int) (h0 : Small t) (h1 : 0 ≤ r ∧ r ≤ 1048576) : Fn Tryd.prog 36 [.val (.int .i64 t), .val (.int .i64 r)] (.p (.val (.int .i64 (yC t r)))) := by
  have c1 := field_fn t r 0 h0 h1 (by unfold Small; omega)
  unfold yC
  refine kL Tryd.func36 rfl Tryd.ntmps36 (Nat.le_of_ble_eq_true rfl) ?_
  cases hb : decide (r = 0)
  all_goals
    repeat' (first | (refine zY.is ?_; first | refine zY.nil ?_ | (refine zY.at_ 4 rfl ?_; refine zY.rc (.v yV .e) ?_) | (refine zY.in_ [9] rfl ?_; refine zY.v rfl rfl (yK (c1) rfl rfl rfl (by decide)) ?_)) | (refine zZ.is ?_; first | refine zZ.seq ?_ | (refine zZ.isR (id := 0) ?_; refine zZ.rc [0, 1] [] (r := (.v yV .e)) (h := ?_)) | (refine zZ.isR (id := 1) ?_; refine zZ.rc [0, 1, 4] [] (r := (.v zC (.v v41_0 .e))) (h := ?_)) | (refine zZ.isR (id := 2) ?_; refine zZ.rc [0, 1, 4] [] (r := (.v yV .e)) (h := ?_)) | (refine zZ.isR (id := 3) ?_; refine zZ.rc [0, 1, 4] [] (r := (.v zC (.v zC .e))) (h := ?_)) | refine zZ.yT rfl bA ?_ | refine zZ.yU rfl bA ?_ | refine zZ.skip ?_ | refine zZ.ret ?_) | refine zS.r ?_)
    all_goals exact ⟨.inl rfl, gives1 rfl rfl rfl⟩
end Go.Proofs.YteadaggehndacaaDoor
/- The document's functions over a log: where they stand in what is told. -/
namespace Go.Proofs.YteadaggehndacaaDoor
set_option maxRecDepth 100000
set_option maxHeartbeats 16000000
open Go Go.RowKit
set_option linter.unusedSimpArgs false
set_option linter.unusedVariables false
theorem kG {ι α : Type} (body : ι → Pr (ι ⊕ α)) (n : Nat) (s : ι) : Pr.loop body (n + 1) s = (body s).bind (Sum.elim (Pr.loop body n) .ret) := by
  rw [Pr.loop_succ]
  congr 1
  funext x
  cases x <;> rfl
theorem leftS_no {L : List xO} {σ : CSt} (h : σ.stop = false) : leftS L σ = L.length - σ.i + 1 := by unfold leftS; rw [h]; rfl
theorem leftS_yes {L : List xO} {σ : CSt} (h : σ.stop = true) : leftS L σ = 0 := by unfold leftS; rw [h]; rfl
/-- each round goes on in the log, or stops -/
theorem Rel.less {α : Type} {good : α → Prop} {L : List xO} {p : Pr α} {σ τ : CSt} {x : α} (hL : LogOK L) (hf : p.xQ good) (ha : ∃ q k, p = .ask q k) (hi : σ.i ≤ L.length) (hs : σ.stop = false) (h : Rel L p σ x τ) : leftS L τ < leftS L σ := by
  have h1 := hf.log hL hi
  rw [leftS_no hs]
  cases m : p.run (xU L) σ.i with
  | stuck => rw [m] at h1; exact h1.elim
  | need q j =>
    have := h.need hs q j m
    subst this
    rw [leftS_yes rfl]
    omega
  | done y j =>
    rw [m] at h1
    obtain ⟨rfl, rfl⟩ := h.done hs y j m
    rw [leftS_no rfl]
    obtain ⟨q, k, rfl⟩ := ha
    rw [vG] at m
    cases e : L[σ.i]? with
    | none =>
      have e0 : xU L σ.i q = .need q L.length := by unfold xU; rw [e]
      rw [e0] at m
      cases m
    | some r =>
      have e0 : xU L σ.i q = .ret r (σ.i + 1) := by unfold xU; rw [e]
      rw [e0] at m
      have h2 := run_le m
      have h3 := (List.getElem?_eq_some_iff.1 e).1
      dsimp only
      omega
/-- there q tells what is left of P -/
structure At {α : Type} (L : List xO) (P : Pr α) (σ : CSt) (q : Pr α) (τ : CSt) : Prop where
  i : τ.i ≤ L.length
  go : ∀ y υ, Rel L q τ y υ → Rel L P σ y υ
section
variable {α β ι : Type} {L : List xO} {P q : Pr α} {σ τ υ : CSt} {good : β → Prop} {m : Nat}
theorem At.refl (h : σ.i ≤ L.length) : At L P σ P σ := ⟨h, fun _ _ h => h⟩
theorem At.step {p : Pr β} {f : β → Pr α} {x : β} (h : At L P σ (p.bind f) τ) (hr : Rel L p τ x υ) (hi : υ.i ≤ L.length) : At L P σ (f x) υ := ⟨hi, fun y w hy => h.go y w (hr.bind hy)⟩
theorem At.ret {x : α} (h : At L P σ (.ret x) τ) : Rel L P σ x τ := h.go x τ (.ret x)
theorem At.halt (h : At L P σ q τ) (hs : τ.stop = true) (y : α) : Rel L P σ y τ := h.go y τ (.stop hs)
theorem At.yes {c : Bool} {q' : Pr α} (h : At L P σ (bif c then q else q') τ) (hc : c = true) : At L P σ q τ := by subst hc; exact h
theorem At.no {c : Bool} {q' : Pr α} (h : At L P σ (bif c then q else q') τ) (hc : c = false) : At L P σ q' τ := by subst hc; exact h
theorem At.round {body : ι → Pr (ι ⊕ α)} {m : Nat} {s : ι} {r : ι ⊕ α} (h : At L P σ (.loop body (m + 1) s) τ) (hr : Rel L (body s) τ r υ) (hi : υ.i ≤ L.length) : At L P σ (Sum.elim (Pr.loop body m) .ret r) υ := by
  rw [kG] at h
  exact h.step hr hi
end
end Go.Proofs.YteadaggehndacaaDoor
/- The sorted list's operations, as trees. -/
namespace Go.Proofs.YteadaggehndacaaDoor
set_option maxRecDepth 100000
set_option maxHeartbeats 16000000
open Go Go.RowKit
set_option linter.unusedSimpArgs false
set_option linter.unusedVariables false
/-- a reference, as words hold it -/
structure Rf (x : Int) : Prop where
  lo : 0 ≤ x
  hi : x ≤ 1048575
theorem kT (w : Int) : Rf (xL w) := ⟨refW_lo w, by have := refW_hi w; omega⟩
theorem rf_0 : Rf 0 := ⟨by decide, by decide⟩
theorem Rf.u {x : Int} (h : Rf x) : U x := ⟨h.lo, by have := h.hi; omega⟩
theorem Rf.u2 {x : Int} (h : Rf x) : U (2 * x) := ⟨by have := h.lo; omega, by have := h.hi; omega⟩
theorem Rf.rc {t x : Int} (h : Rf x) (ht : Small t) : Rc t x := ⟨ht, h.lo, by have := h.hi; omega⟩
theorem Rf.le {x : Int} (h : Rf x) : 0 ≤ x ∧ x ≤ 1048576 := ⟨h.lo, by have := h.hi; omega⟩
theorem U.succ {w : Int} (h : U w) (he : decide (w % 2 = 1) = false) : U (w + 1) := by
  have := of_decide_eq_false he
  have h1 := h.1
  have h2 := h.2
  constructor <;> omega
/-! ### A record is given back -/
def retRound (t r at_ : Int) (_ : Unit) : Pr (Unit ⊕ Unit) := (wH at_).bind fun h => (storeP (zF t r 7) h).bind fun _ => (casP at_ h r).bind fun d => .ret (bif d then .inr () else .inl ())
def retLoop (t r at_ : Int) : Pr Unit := .loop (retRound t r at_) many ()
def wZ (e : Int) : Int := 4 + e % 3
def retireP (t r : Int) : Pr Unit := (wH 3).bind fun e => retLoop t r (wZ e)
theorem fine_retL (t r at_ : Int) (hr : U r) : (retLoop t r at_).xQ yes :=
  Pr.xQ.loop yes (fun _ => ⟨_, _, rfl⟩) (fun u _ => .bind (xZ _) fun _ hh => .bind (fine_store _ hh) fun _ _ => .bind (kR _ hh hr) fun d _ => Pr.xQ.ret (by cases d <;> trivial)) () trivial
theorem fine_retire (t : Int) {r : Int} (hr : U r) : (retireP t r).xQ yes := .bind (xZ _) fun _ _ => fine_retL _ _ _ hr
/-! ### A walk along the list: it begins anew, or is at a record behind another one -/
structure wL where
  p : Int
  x : Int
  is : Bool
  ok : Bool
abbrev WSt := Option (Int × Int)
structure WOK (a b : Int) : Prop where
  p : Rf a
  x : Rf b
  n : decide (b = 0) = false
theorem WOK.one {p x : Int} (h : WOK p x) : 1 ≤ x := by have := of_decide_eq_false h.n; have := h.x.lo; omega
def wok : WSt → Prop
  | none => True
  | some (p, x) => WOK p x
structure FOK (r : wL) : Prop where
  p : Rf r.p
  x : Rf r.x
  n : r.is = true → 1 ≤ r.x
def endW (p x : Int) : WSt ⊕ wL := bif decide (x = 0) then .inr ⟨p, 0, false, true⟩ else .inl (some (p, x))
theorem endW_ok {p : Int} (w : Int) (hp : Rf p) : Next wok FOK (endW p (xL w)) := by
  unfold endW
  cases h : decide (xL w = 0)
  · exact ⟨hp, kT w, h⟩
  · exact ⟨hp, rf_0, fun h => by cases h⟩
/-- what is marked is taken out, or another one was quicker, or the disk failed -/
inductive Took where
  | fail
  | miss
  | done
def Took.d : Took → Bool
  | .done => true
  | _ => false
def Took.ok : Took → Bool
  | .fail => false
  | _ => true
def takeP (t p x w : Int) : Pr Took := (saveP t x 2).bind fun ok => bif ok then (casP (yC t p) (2 * x) (2 * xL w)).bind fun d => bif d then (retireP t x).bind fun _ => .ret .done else .ret .miss else .ret .fail
theorem fine_take (t p w : Int) {x : Int} (hx : Rf x) : (takeP t p x w).xQ yes :=
  .bind (fine_save _ _ _ (.inr rfl)) fun _ _ => .cond (.bind (kR _ hx.u2 (kT w).u2) fun _ _ => .cond (.bind (fine_retire _ hx.u) fun _ _ => trivial) trivial) trivial
def tookR (p x w : Int) : Took → WSt ⊕ wL
  | .done => endW p (xL w)
  | .miss => .inl none
  | .fail => .inr ⟨p, x, false, false⟩
def qR (t p x w : Int) : Pr (WSt ⊕ wL) := (takeP t p x w).bind fun r => .ret (tookR p x w r)
theorem fine_took (t w : Int) {p x : Int} (h : WOK p x) : (qR t p x w).xQ (Next wok FOK) :=
  .bind (fine_take t p w h.x) fun r _ => Pr.xQ.ret (by
    cases r with
    | done => exact endW_ok w h.p
    | miss => trivial
    | fail => exact ⟨h.p, h.x, fun h => by cases h⟩)
/-- a round, by what is done at a record that isn't marked -/
def yB (t : Int) (at_ : Int → Int → Int → Pr (WSt ⊕ wL)) : WSt → Pr (WSt ⊕ wL)
  | none => (wH 0).bind fun h => .ret (endW 0 (xL h))
  | some (p, x) => (wH (zF t x 0)).bind fun w => bif decide (w % 2 = 1) then qR t p x w else at_ p x w
def walkP (t : Int) (at_ : Int → Int → Int → Pr (WSt ⊕ wL)) : Pr wL := .loop (yB t at_) many none
theorem fine_walkR {t : Int} {at_ : Int → Int → Int → Pr (WSt ⊕ wL)} (h : ∀ p x w, WOK p x → U w → decide (w % 2 = 1) = false → (at_ p x w).xQ (Next wok FOK)) : ∀ s, wok s → (yB t at_ s).xQ (Next wok FOK)
  | none, _ => .bind (xZ _) fun w _ => Pr.xQ.ret (endW_ok w rf_0)
  | some (p, x), hw => .bind (xZ _) fun w hu => .condB (fun _ => fine_took t w hw) fun hm => h p x w hw hu hm
theorem fine_walk {t : Int} {at_ : Int → Int → Int → Pr (WSt ⊕ wL)} (h : ∀ p x w, WOK p x → U w → decide (w % 2 = 1) = false → (at_ p x w).xQ (Next wok FOK)) : (walkP t at_).xQ FOK :=
  Pr.xQ.loop wok (fun s => by match s with | none => exact ⟨_, _, rfl⟩ | some (p, x) => exact ⟨_, _, rfl⟩) (fine_walkR h) none trivial
def xC (t k p x w : Int) : Pr (WSt ⊕ wL) := (wH (zF t x 1)).bind fun n => bif decide (k ≤ n) then .ret (.inr ⟨p, x, decide (n = k), true⟩) else .ret (endW x (xL w))
theorem fine_searchAt (t k p x w : Int) (h : WOK p x) : (xC t k p x w).xQ (Next wok FOK) :=
  .bind (xZ _) fun _ _ => .cond (Pr.xQ.ret ⟨h.p, h.x, fun _ => h.one⟩) (Pr.xQ.ret (endW_ok w h.x))
def alongP (t k : Int) : Pr wL := walkP t (xC t k)
theorem fine_along (t k : Int) : (alongP t k).xQ FOK := fine_walk fun p x w h _ _ => fine_searchAt t k p x w h
def kU (t k : Int) : Pr wL := (alongP t k).bind fun r => bif r.ok then .ret r else .ret ⟨0, 0, false, false⟩
theorem fine_search (t k : Int) : (kU t k).xQ FOK := .bind (fine_along t k) fun _ h => .cond (Pr.xQ.ret h) (Pr.xQ.ret ⟨rf_0, rf_0, fun h => by cases h⟩)
theorem nextF_pos (t : Int) {x : Int} (h : decide (x = 0) = false) : yC t x = zF t x 0 := by unfold yC; rw [h]; rfl
/-! ### Marks -/
def setMark (t x w : Int) : Pr Bool := casP (yC t x) w (w + 1)
def markP (t x : Int) : Pr Bool := (wH (yC t x)).bind fun w => bif decide (w % 2 = 1) then .ret false else setMark t x w
theorem fine_mark (t x : Int) : (markP t x).xQ yes := .bind (xZ _) fun _ hw => .condB (fun _ => trivial) fun h => kR _ hw (hw.succ h)
/-! ### A sweep -/
/-- a record that isn't marked: does it stay to be looked at again? -/
def sweepIn (t s x w : Int) : Pr Bool := (wH (zF t x 1)).bind fun k => bif decide (k % 2147483648 = 0) then .ret false else (wH (zF t x 4)).bind fun su => (wH (zF t x 5)).bind fun sv =>
  bif !decide (su = s) && !decide (sv = s) then .ret false else (setMark t x w).bind fun d => bif d then (setP (ov1 2) (zF t x 2) 2).bind fun _ => .ret true else .ret true
theorem fine_sweepIn (t s x w : Int) (hw : U w) (h : decide (w % 2 = 1) = false) : (sweepIn t s x w).xQ yes :=
  .bind (xZ _) fun _ _ => .cond trivial (.bind (xZ _) fun _ _ => .bind (xZ _) fun _ _ => .cond trivial (.bind (kR _ hw (hw.succ h)) fun _ _ => .cond (.bind (fine_set (.inr rfl) fun _ h => h) fun _ _ => trivial) trivial))
def xA (t s p x w : Int) : Pr (WSt ⊕ wL) := (sweepIn t s x w).bind fun b => bif b then .ret (.inl (some (p, x))) else .ret (endW x (xL w))
def sweepL (t s : Int) : Pr wL := walkP t (xA t s)
theorem fine_sweepL (t s : Int) : (sweepL t s).xQ FOK := fine_walk fun p x w h hw hm => .bind (fine_sweepIn t s x w hw hm) fun _ _ => .cond (Pr.xQ.ret h) (Pr.xQ.ret (endW_ok w h.x))
def sweepP (t s : Int) : Pr Bool := (sweepL t s).bind fun r => .ret r.ok
theorem fine_sweep (t s : Int) : (sweepP t s).xQ yes := .bind (fine_sweepL t s) fun _ _ => trivial
/-! ### Seeks, and links -/
def endS (x : Int) : Int ⊕ (Int × Bool) := bif decide (x = 0) then .inr (0, false) else .inl x
def vX (t k x : Int) : Pr (Int ⊕ (Int × Bool)) := (wH (zF t x 1)).bind fun n => bif decide (k ≤ n) then .ret (.inr (x, decide (n = k))) else (wH (zF t x 0)).bind fun w => .ret (endS (xL w))
def seekP (t from_ k : Int) : Pr (Int × Bool) := (wH (yC t from_)).bind fun w => bif decide (xL w = 0) then .ret (0, false) else .loop (vX t k) many (xL w)
structure SOK (a : Int) : Prop where
  x : Rf a
  n : decide (a = 0) = false
theorem SOK.one {x : Int} (h : SOK x) : 1 ≤ x := by have := of_decide_eq_false h.n; have := h.x.lo; omega
structure SFound (r : Int × Bool) : Prop where
  x : Rf r.1
  n : r.2 = true → 1 ≤ r.1
theorem endS_ok (w : Int) : Next SOK SFound (endS (xL w)) := by
  unfold endS
  cases h : decide (xL w = 0)
  · exact ⟨kT w, h⟩
  · exact ⟨rf_0, fun h => by cases h⟩
theorem fine_seekR (t k x : Int) (hx : SOK x) : (vX t k x).xQ (Next SOK SFound) :=
  .bind (xZ _) fun _ _ => .cond (Pr.xQ.ret ⟨hx.x, fun _ => hx.one⟩) (.bind (xZ _) fun w _ => Pr.xQ.ret (endS_ok w))
theorem fine_seek (t from_ k : Int) : (seekP t from_ k).xQ SFound :=
  .bind (xZ _) fun w _ => .condB (fun _ => Pr.xQ.ret ⟨rf_0, fun h => by cases h⟩) fun h0 => Pr.xQ.loop SOK (fun _ => ⟨_, _, rfl⟩) (fine_seekR t k) _ ⟨kT w, h0⟩
def linkP (t p x r : Int) : Pr Bool := (storeP (yC t r) (2 * x)).bind fun _ => casP (yC t p) (2 * x) (2 * r)
theorem fine_link (t p : Int) {x r : Int} (hx : Rf x) (hr : Rf r) : (linkP t p x r).xQ yes := .bind (fine_store _ hx.u2) fun _ _ => kR _ hx.u2 hr.u2
/-! ### What is left -/
/-- what is left, at a record or at none -/
def contS (t k : Int) (n : Nat) (x : Int) : Pr (Int × Bool) := bif decide (x = 0) then .ret (0, false) else .loop (vX t k) n x
theorem contS_eq (t k : Int) (n : Nat) (x : Int) : Sum.elim (Pr.loop (vX t k) n) .ret (endS x) = contS t k n x := by
  unfold endS contS
  cases decide (x = 0) <;> rfl
/-- the same of a walk -/
def contL (t : Int) (at_ : Int → Int → Int → Pr (WSt ⊕ wL)) (n : Nat) (p x : Int) : Pr wL := bif decide (x = 0) then .ret ⟨p, 0, false, true⟩ else .loop (yB t at_) n (some (p, x))
theorem vI (t : Int) (at_ : Int → Int → Int → Pr (WSt ⊕ wL)) (n : Nat) (p x : Int) : Sum.elim (Pr.loop (yB t at_) n) .ret (endW p x) = contL t at_ n p x := by
  unfold endW contL
  cases decide (x = 0) <;> rfl
/-! ### An operation -/
structure OutN where
  e : Int
  is : Bool
  n : Int
  w : Int
structure OpL (k u v w : Int) : Prop where
  u : k = 9 ∨ k = 24 ∨ k = 25 → Rf u
  v : k = 24 → Rf v ∧ Rf w
  w : U w
def opL (t k u v w : Int) : Pr OutN :=
  bif decide (k = 8) then (kU t w).bind fun r => bif r.ok then .ret ⟨0, r.is, r.x, r.p⟩ else .ret ⟨7, false, 0, 0⟩ else
  bif decide (k = 25) then (seekP t u w).bind fun r => .ret ⟨0, r.2, r.1, 0⟩ else
  bif decide (k = 24) then (linkP t u v w).bind fun b => .ret ⟨0, b, 0, 0⟩ else
  bif decide (k = 9) then (markP t u).bind fun b => .ret ⟨0, b, 0, 0⟩ else
  bif decide (k = 10) then (sweepP t w).bind fun b => bif b then .ret ⟨0, false, 0, 0⟩ else .ret ⟨7, false, 0, 0⟩ else .ret ⟨1, false, 0, 0⟩
theorem fine_opL {t k u v w : Int} (h : OpL k u v w) : (opL t k u v w).xQ yes :=
  .condB (fun _ => .bind (fine_search t w) fun _ _ => .cond trivial trivial) fun _ => .condB (fun _ => .bind (fine_seek t u w) fun _ _ => trivial) fun _ =>
  .condB (fun e => .bind (fine_link t u (h.v (of_decide_eq_true e)).1 (h.v (of_decide_eq_true e)).2) fun _ _ => trivial) fun _ => .condB (fun _ => .bind (fine_mark t u) fun _ _ => trivial) fun _ =>
  .condB (fun _ => .bind (fine_sweep t w) fun _ _ => .cond trivial trivial) fun _ => trivial
end Go.Proofs.YteadaggehndacaaDoor
/- A region that draws its order, walked in each order that may be. Generic over the program. -/
namespace Go.Proofs.YteadaggehndacaaDoor
set_option maxRecDepth 100000
set_option maxHeartbeats 16000000
open Go Go.RowKit
/-- what may come next, these being done -/
def readyD (l : List Oper) (done : List Nat) : List Nat := (List.range l.length).filter fun i => !done.contains i && (match l[i]? with
  | some o => o.after.toList.all fun e => !Region.binds .any e || done.contains e.on
  | none => false)
theorem kD {l : List Oper} {listed : Array Bool} {done : List Nat} (hs : listed.size = l.length) (h : ∀ i, listed.getD i false = done.contains i) (i : Nat) : i ∈ Region.ready .any l.toArray listed ↔ i ∈ readyD l done := by
  unfold Region.ready readyD
  simp only [List.size_toArray, List.mem_filter, List.mem_range]
  refine ⟨fun ⟨h1, h2⟩ => ⟨h1, ?_⟩, fun ⟨h1, h2⟩ => ⟨h1, ?_⟩⟩
  · have e1 : listed.getD i true = listed.getD i false := by simp [Array.getD_eq_getD_getElem?, hs, h1]
    simp only [List.getElem?_toArray, List.getElem?_eq_getElem h1, Option.map_some, Option.getD_some, Bool.and_eq_true, Bool.not_eq_true', List.all_eq_true] at h2 ⊢
    refine ⟨?_, fun e he => ?_⟩
    · rw [← h i, ← e1]; exact h2.1
    · have := Array.all_eq_true'.1 h2.2 e (by simpa using he)
      rw [← h e.on]
      exact this
  · have e1 : listed.getD i true = listed.getD i false := by simp [Array.getD_eq_getD_getElem?, hs, h1]
    simp only [List.getElem?_toArray, List.getElem?_eq_getElem h1, Option.map_some, Option.getD_some, Bool.and_eq_true, Bool.not_eq_true', List.all_eq_true] at h2 ⊢
    refine ⟨?_, Array.all_eq_true'.2 fun e he => ?_⟩
    · rw [e1, h i]; exact h2.1
    · have := h2.2 e (by simpa using he)
      rw [← h e.on] at this
      exact this
def vD (P : Program) (n : Nat) (l : List Oper) (K : Exit → AS → Prop) : Nat → List Nat → AS → Prop
  | 0, done, S => readyD l done = [] ∧ K .normal S
  | m + 1, done, S => readyD l done ≠ [] ∧ ∀ i ∈ readyD l done, ∃ o, l[i]? = some o ∧ o.guard = none ∧ zR P n o S K fun S1 => vD P n l K m (i :: done) S1
def vN (P : Program) (n : Nat) (l : List Oper) (K : Exit → AS → Prop) (m : Nat) (done : List Nat) (S : AS) (i : Nat) : Prop :=
  ∃ o, l[i]? = some o ∧ o.guard = none ∧ zR P n o S K fun S1 => vD P n l K m (i :: done) S1
def zP (p : Nat → Prop) : List Nat → Prop
  | [] => True
  | i :: r => p i ∧ zP p r
theorem zP.all {p : Nat → Prop} : ∀ {rs : List Nat}, zP p rs → ∀ i ∈ rs, p i
  | [], _, i, hi => by simp at hi
  | j :: r, h, i, hi => by
    rcases List.mem_cons.1 hi with rfl | hi
    · exact h.1
    · exact zP.all h.2 i hi
theorem zP.nil {p : Nat → Prop} : zP p [] := trivial
theorem zP.cons {p : Nat → Prop} {i : Nat} {r : List Nat} (h : p i) (hr : zP p r) : zP p (i :: r) := ⟨h, hr⟩
section
variable {P : Program} {n : Nat} {l : List Oper} {K : Exit → AS → Prop} {fu : Nat} {done : List Nat} {S S1 : AS} {i d : Nat} {o : Oper}
theorem vD.is (h : vD P n l K fu done S) : vD P n l K fu done S := h
theorem vD.fin (hr : readyD l done = []) (h : K .normal S) : vD P n l K 0 done S := ⟨hr, h⟩
theorem vD.many (hr : (readyD l done).isEmpty = false) (h : zP (vN P n l K fu done S) (readyD l done)) : vD P n l K (fu + 1) done S :=
  ⟨(fun e => by rw [e] at hr; cases hr), h.all⟩
theorem vN.is (h : vN P n l K fu done S i) : vN P n l K fu done S i := h
theorem vN.v {bs : List Nat} {av : AV} (ho : l[i]? = some o) (hg : o.guard = none) (hd : o.dst = some d) (h : zQ P n o S bs av none) (hr : vD P n l K fu (i :: done) (S.put d av)) : vN P n l K fu done S i :=
  ⟨o, ho, hg, Step.t h.step (by rw [hd]; exact hr)⟩
theorem vN.m {bs : List Nat} {av : AV} {b : Blk} (ho : l[i]? = some o) (hg : o.guard = none) (hd : o.dst = some d) (h : zQ P n o S bs av (some b)) (hr : vD P n l K fu (i :: done) ((S.create d b).put d av)) : vN P n l K fu done S i :=
  ⟨o, ho, hg, Step.t h.step (by rw [hd]; exact hr)⟩
theorem vN.w (ho : l[i]? = some o) (hg : o.guard = none) (h : Step P n o S S1) (hr : vD P n l K fu (i :: done) S1) : vN P n l K fu done S i := ⟨o, ho, hg, h.t hr⟩
theorem vN.ofT (ho : l[i]? = some o) (hg : o.guard = none) (h : zR P n o S K fun S1 => vD P n l K fu (i :: done) S1) : vN P n l K fu done S i := ⟨o, ho, hg, h⟩
theorem zZ.qM {id : Nat} (hm : P.follows .mixedOrders = true) (h : vD P n l K l.length [] S) : zZ P n (.region id l.toArray true) S K := by
  intro M w0 ρ a w Q hs hK
  have main : ∀ (m : Nat) (listed : Array Bool) (done : List Nat) (S : AS) (ρ : Nat → Value) (a : Act) (w : World), listed.size = l.length → (∀ i, listed.getD i false = done.contains i) → vD P n l K m done S → Sat M n w0 S ρ a w → wpAny P .any l.toArray Q m listed a w := by
    intro m
    induction m with
    | zero =>
      intro listed done S ρ a w hz hl hd hs
      refine ⟨List.eq_nil_iff_forall_not_mem.2 fun i hi => ?_, hK .normal S ρ a w hd.2 hs trivial⟩
      have := (kD hz hl i).1 hi
      rw [hd.1] at this
      simp at this
    | succ m ih =>
      intro listed done S ρ a w hz hl hd hs
      refine ⟨fun hnil => ?_, fun i hi => ?_⟩
      · obtain ⟨j, hj⟩ := List.exists_mem_of_ne_nil _ hd.1
        have := (kD hz hl j).2 hj
        rw [hnil] at this
        simp at this
      · obtain ⟨hil, _, _⟩ := xE hi
        obtain ⟨o, ho, hg, ht⟩ := hd.2 i ((kD hz hl i).1 hi)
        unfold wpOp
        simp only [List.getElem?_toArray, ho]
        rw [if_pos (by simp [Region.wanted, hg])]
        refine .inl (ht M w0 ρ a w _ Q hs (fun S1 ρ' a' w' hd1 hs' => ?_) hK)
        refine ih _ _ S1 ρ' a' w' (by simp [hz]) (fun k => ?_) hd1 hs'
        simp only [Array.getD_eq_getD_getElem?, Array.getElem?_setIfInBounds, List.contains_cons]
        by_cases hik : i = k
        · subst hik
          simp [hz, hil]
        · have : (k == i) = false := by simpa using fun e => hik e.symm
          rw [if_neg hik, this, Bool.false_or, ← hl k, Array.getD_eq_getD_getElem?]
  refine wp_region_any hm ?_
  exact main _ _ [] S ρ a _ (by simp) (fun i => by rw [getD_replicate_false]; rfl) (by simpa using h) (hs.ext ((Below.refl _ _).drew))
end
attribute [irreducible] vD vN
end Go.Proofs.YteadaggehndacaaDoor
/- An array's literal. Generic over the program. -/
namespace Go.Proofs.YteadaggehndacaaDoor
set_option maxRecDepth 100000
set_option maxHeartbeats 16000000
open Go Go.RowKit
section
variable {P : Program} {n : Nat} {o : Oper} {S : AS} {d : Nat} {t : TypeId}
end
end Go.Proofs.YteadaggehndacaaDoor
/- Own rows of pure elements; rows that are frozen wherever they are spoken of; calls of function values. Generic over the program. -/
namespace Go.Proofs.YteadaggehndacaaDoor
set_option maxRecDepth 100000
set_option maxHeartbeats 16000000
open Go Go.RowKit
/-! ### Rows of pure elements -/
def yG (e sz : Nat) (es : List PV) : Blk := .prow e sz es.length (flat es)
theorem vO (e sz : Nat) (es : List PV) : Alike (.row e sz es.length ((flat es).map AV.p)) (yG e sz es) := .rp _ _ _ _
theorem kH (e sz : Nat) (es : List PV) : Alike (yG e sz es) (.row e sz es.length ((flat es).map AV.p)) := .pr _ _ _ _
theorem flat_append (xs ys : List PV) : flat (xs ++ ys) = flat xs ++ flat ys := by simp [flat]
section
variable {P : Program} {n : Nat} {o : Oper} {S : AS} {d : Nat} {t : TypeId} {x y : Operand}
theorem w_appV {id e sz by_ : Nat} {z : Value} {cs bs : List PV} [ht : Und P t (.slice e)] [hi : InfoA P e z sz by_] (ho : o.op = .call { callee := .builtin .append, args := #[x, y], argTypes := #[t, t] }) (hx : S.get x = .own id) (hb : S.blk id = some (yG e sz cs))
    (hy : S.get y = .p (.sl bs)) (hes : ∀ e ∈ bs, e.cells.length = sz) (hlim : (cs.length + bs.length) * by_ ≤ 140737488355328 ∧ cs.length + bs.length ≤ maxLen) (hzs : z.cells.size = sz) (hsz : 0 < sz) (hd : o.dst = some d) (hn : d < n) :
    Step P n o S ((S.create id (yG e sz (cs ++ bs))).put d (.own id)) := by
  have h := w_appendP (P := P) (S := S.tag id (.row e sz cs.length ((flat cs).map AV.p))) (o := o) (d := d) ho (by rw [AS.vV]; exact hx) (by rw [AS.wY, if_pos rfl]) (by rw [AS.vV]; exact hy) hes hlim hzs hsz hd hn
  have e1 : Blk.row e sz (cs.length + bs.length) ((flat cs).map AV.p ++ (flat bs).map AV.p) = .row e sz (cs ++ bs).length ((flat (cs ++ bs)).map AV.p) := by
    rw [flat_append, List.map_append, List.length_append]
  rw [e1] at h
  exact h.same (vH hb (kH e sz cs)) (((qA hb (vO e sz cs)).create id (vO e sz (cs ++ bs))).put d _)
theorem w_lenV {id e sz t' : Nat} {es : List PV} [ht : Und P t (.slice t')] (ho : o.op = .call { callee := .builtin .len, args := #[x], argTypes := #[t] }) (hx : S.get x = .own id) (hb : S.blk id = some (yG e sz es)) (hd : o.dst = some d) (hn : d < n) : zQ P n o S [id] (.p (.val (.int .i64 es.length))) none :=
  zQ.tag hb (kH e sz es) (vO e sz es) (by simp) (w_lenO (S := S.tag id (.row e sz es.length ((flat es).map AV.p))) ho (by rw [AS.vV]; exact hx) (by rw [AS.wY, if_pos rfl]) hd hn)
theorem xH {ix : Operand} {id e ty sz : Nat} {j : Int} {k : IntKind} {es : List PV} {agg : Bool} [ht : Und P t (.slice e)] [he : TyA P e agg sz] (ho : o.op = .indexAddr t x ix) (hx : S.get x = .own id) (hb : S.blk id = some (yG ty sz es)) (hi : S.get ix = .p (.val (.int k j)))
    (hj : 0 ≤ j ∧ j < es.length) (hd : o.dst = some d) (hn : d < n) : zQ P n o S [id] (.ptr id (j.toNat * sz)) none :=
  zQ.tag hb (kH ty sz es) (vO ty sz es) (by simp) (w_indexO (S := S.tag id (.row ty sz es.length ((flat es).map AV.p))) ho (by rw [AS.vV]; exact hx) (by rw [AS.wY, if_pos rfl]) (by rw [AS.vV]; exact hi) hj hd hn)
theorem flat_set {sz : Nat} : ∀ {es : List PV} {i : Nat} {v : PV}, (∀ e ∈ es, e.cells.length = sz) → v.cells.length = sz → i < es.length → splice (flat es) (i * sz) v.cells = flat (es.set i v)
  | [], i, v, _, _, h => by simp at h
  | e :: es, 0, v, he, hv, _ => by
    have h1 := he e (by simp)
    have : flat (e :: es) = e.cells ++ flat es := by simp [flat]
    rw [Nat.zero_mul, this, List.set_cons_zero]
    have h2 : flat (v :: es) = v.cells ++ flat es := by simp [flat]
    rw [h2]
    apply List.ext_getElem?
    intro j
    rw [xR (by simp; omega)]
    by_cases hj : j < v.cells.length
    · rw [if_neg (by omega), if_pos (by omega), List.getElem?_append_left hj, Nat.sub_zero]
    · rw [if_neg (by omega), if_neg (by omega), List.getElem?_append_right (by omega), List.getElem?_append_right (by omega), h1, hv]
  | e :: es, i + 1, v, he, hv, hi => by
    have h1 := he e (by simp)
    have ih := flat_set (es := es) (i := i) (v := v) (fun e h => he e (by simp [h])) hv (by simpa using hi)
    have h3 : flat (e :: es) = e.cells ++ flat es := by simp [flat]
    have h4 : flat ((e :: es).set (i + 1) v) = e.cells ++ flat (es.set i v) := by simp [flat]
    have hfl := flat_len (es := es) (sz := sz) (fun e h => he e (by simp [h]))
    have hi' : i < es.length := by simpa using hi
    have hle : i * sz + sz ≤ (flat es).length := by
      rw [hfl]
      have : (i + 1) * sz ≤ es.length * sz := Nat.mul_le_mul_right _ hi'
      rw [Nat.add_mul] at this
      omega
    rw [h3, h4, ← ih]
    apply List.ext_getElem?
    intro j
    have e1 : (i + 1) * sz = sz + i * sz := by rw [Nat.add_mul]; omega
    rw [xR (by rw [List.length_append, h1, hv, e1]; omega), e1]
    by_cases hj : j < e.cells.length
    · rw [if_pos (show j < sz + i * sz by omega), List.getElem?_append_left hj, List.getElem?_append_left hj]
    · rw [List.getElem?_append_right (by omega), List.getElem?_append_right (by omega), xR (by rw [hv]; omega), h1, hv]
      by_cases h5 : j < sz + i * sz
      · rw [if_pos h5, if_pos (show j - sz < i * sz by omega)]
      · rw [if_neg h5, if_neg (show ¬ j - sz < i * sz by omega)]
        by_cases h6 : j < sz + i * sz + sz
        · rw [if_pos h6, if_pos (show j - sz < i * sz + sz by omega)]
          congr 1
          omega
        · rw [if_neg h6, if_neg (show ¬ j - sz < i * sz + sz by omega)]
theorem splice_map {α β : Type} (f : α → β) (l : List α) (o : Nat) (v : List α) : splice (l.map f) o (v.map f) = (splice l o v).map f := by simp [splice, List.map_take, List.map_drop]
theorem qC {id off i e sz : Nat} {es : List PV} {v : PV} {agg : Bool} [h : TyA P t agg sz] (ho : o.op = .store t x y) (hx : S.get x = .ptr id off) (hb : S.blk id = some (yG e sz es)) (hy : S.get y = .p v) (hk : (AV.p v).q8 = true) (hes : ∀ e ∈ es, e.cells.length = sz) (hv : v.cells.length = sz) (hoff : off = i * sz) (hi : i < es.length) (hd : o.dst = none) :
    Step P n o S (S.tag id (yG e sz (es.set i v))) := by
  subst hoff
  have hfl := flat_len hes
  have hle : i * sz + sz ≤ (flat es).length := by
    rw [hfl]
    have : (i + 1) * sz ≤ es.length * sz := Nat.mul_le_mul_right _ hi
    rw [Nat.add_mul] at this
    omega
  have h1 := zH (P := P) (n := n) (S := S.tag id (.row e sz es.length ((flat es).map AV.p))) (o := o) (agg := agg) (m := sz) ho (by rw [AS.vV]; exact hx) (by rw [AS.wY, if_pos rfl]) (by rw [AS.vV, hy]) hk (by show (v.cells.map AV.p).length = sz; rw [List.length_map, hv]) (by show i * sz + sz ≤ ((flat es).map AV.p).length; rw [List.length_map]; exact hle) rfl hd
  have e1 : (Blk.row e sz es.length ((flat es).map AV.p)).setXs (splice (Blk.row e sz es.length ((flat es).map AV.p)).xs (i * sz) (AV.p v).wK) = .row e sz (es.set i v).length ((flat (es.set i v)).map AV.p) := by
    show Blk.row e sz es.length (splice ((flat es).map AV.p) (i * sz) (v.cells.map AV.p)) = _
    rw [splice_map, flat_set hes hv hi, List.length_set]
  rw [e1] at h1
  refine h1.same (vH hb (kH e sz es)) ⟨fun _ => rfl, fun j => ?_⟩
  show (if id = j then some _ else if id = j then some _ else S.blk j) = none ∧ (if id = j then some _ else S.blk j) = none ∨ ∃ b b', (if id = j then some _ else if id = j then some _ else S.blk j) = some b ∧ (if id = j then some _ else S.blk j) = some b' ∧ Alike b b'
  by_cases hj : id = j
  · subst hj
    rw [if_pos rfl, if_pos rfl]
    exact .inr ⟨_, _, rfl, rfl, vO e sz (es.set i v)⟩
  · rw [if_neg hj, if_neg hj, if_neg hj]
    cases S.blk j with
    | none => exact .inl ⟨rfl, rfl⟩
    | some b => exact .inr ⟨b, b, rfl, rfl, .refl b⟩
theorem flat_at {sz : Nat} {es : List PV} (hes : ∀ e ∈ es, e.cells.length = sz) {i : Nat} {c : PV} (hc : es[i]? = some c) : ((flat es).drop (i * sz)).take sz = c.cells := flat_get hes hc
theorem w_loadVN {id off i e sz : Nat} {es cs : List PV} [h : TyA P t true sz] (ho : o.op = .load t x) (hx : S.get x = .ptr id off) (hb : S.blk id = some (yG e sz es)) (hes : ∀ e ∈ es, e.cells.length = sz) (hoff : off = i * sz) (hc : es[i]? = some (.agg cs)) (hd : o.dst = some d) (hn : d < n) : zQ P n o S [id] (.p (.agg cs)) none := by
  subst hoff
  refine a_loadRN (b := yG e sz es) ho hx hb ?_ (hes _ (List.mem_of_getElem? hc)) h.ag h.sz hd hn
  show (((flat es).map AV.p).drop (i * sz)).take sz = cs.map AV.p
  rw [← List.map_drop, ← List.map_take, flat_at hes hc]
  rfl
theorem kZ {id off e : Nat} {es : List PV} {c : PV} {m : Nat} [h : TyA P t false m] (ho : o.op = .load t x) (hx : S.get x = .ptr id off) (hb : S.blk id = some (yG e 1 es)) (hes : ∀ e ∈ es, e.cells = [e]) (hc : es[off]? = some c) (hd : o.dst = some d) (hn : d < n) : zQ P n o S [id] (.p c) none := by
  refine a_loadR1 (b := yG e 1 es) ho hx hb ?_ h.ag hd hn
  show ((flat es).map AV.p)[off]? = _
  rw [flat_ones hes, List.getElem?_map, hc]
  rfl
theorem flat_rep {zp : PV} {sz : Nat} (hz : zp.cells.length = sz) (hsz : 0 < sz) : ∀ {m j : Nat}, j < m * sz → (flat (List.replicate m zp))[j]? = zp.cells[j % sz]?
  | 0, j, h => by omega
  | m + 1, j, h => by
    have e : flat (List.replicate (m + 1) zp) = zp.cells ++ flat (List.replicate m zp) := by simp [flat, List.replicate_succ]
    rw [e]
    by_cases hj : j < sz
    · rw [List.getElem?_append_left (by omega), Nat.mod_eq_of_lt hj]
    · rw [Nat.add_mul] at h
      rw [List.getElem?_append_right (by omega), hz, flat_rep hz hsz (by omega), Nat.mod_eq_sub_mod (show sz ≤ j by omega)]
theorem w_makeV {e sz by_ m : Nat} {k : IntKind} {z : Value} {xl xc : Operand} [ht : Und P t (.slice e)] [hi : InfoA P e z sz by_] (ho : o.op = .makeSlice t xl xc) (hl : S.get xl = .p (.val (.int k (m : Int)))) (hc : S.get xc = .p (.val (.int k (m : Int)))) (hlim : m * sz ≤ 16777216 ∧ by_ * m ≤ 281474976710656 ∧ m ≤ maxLen)
    (hzs : z.cells.size = sz) (hsz : 0 < sz) {zp : PV} (hzp : zp.cells = z.cells.toList.map PV.val) (h1 : z.cells.toList.all (fun u => u.oneCell') = true) (hd : o.dst = some d) (hn : d < n) : zQ P n o S [] (.own d) (some (yG e sz (List.replicate m zp))) :=
  zQ.made hd hn fun S2 hg _ M w0 ρ a w hs => by
    have r1 := hs.val ((hg xl (by rw [ho]; simp [Op.operands])).trans hl)
    have r2 := hs.val ((hg xc (by rw [ho]; simp [Op.operands])).trans hc)
    obtain ⟨i, hi1, hi2⟩ := Option.map_eq_some_iff.1 hi.h
    simp only [Prod.mk.injEq] at hi2
    obtain ⟨hz, hisz, hiby⟩ := hi2
    obtain ⟨w', hr, hown, hgr⟩ := run_makeSlice_full (P := P) w 0 t e i z sz ht.h hi1 hz hisz k k m hlim.1 (by rw [hiby]; exact hlim.2.1) hlim.2.2 (Nat.zero_le _)
    refine ⟨.slice (some ⟨w.heap.size, 0, none⟩) m m, w', ?_, hgr, fun k hk => ?_, ?_, .inl rfl⟩
    · unfold execOp
      rw [ho]
      simp only [r1, r2, Sem.run_bind, hr]
      rfl
    · simp only [yJ, Option.some.injEq] at hk; omega
    · have hlen : (madeCells z.cells (m * sz)).toList.length = m * sz := by rw [Array.length_toList, size_madeCells]
      have hzl : z.cells.toList.length = sz := by rw [Array.length_toList]; exact hzs
      have hat : ∀ j, j < m * sz → (madeCells z.cells (m * sz)).toList[j]? = z.cells.toList[j % sz]? := fun j hj => by
        have hjs : j % sz < z.cells.size := by rw [hzs]; exact Nat.mod_lt _ hsz
        simp only [madeCells, Array.toList_map, Array.toList_range, List.getElem?_map, List.getElem?_range hj, Option.map_some, Array.getElem?_toList, hzs]
        rw [getElem!_pos z.cells _ hjs, Array.getElem?_eq_getElem hjs]
      have hfl : flat (List.replicate m zp) = (madeCells z.cells (m * sz)).toList.map PV.val := by
        apply List.ext_getElem?
        intro j
        by_cases hj : j < m * sz
        · rw [flat_rep (sz := sz) (by rw [hzp, List.length_map, hzl]) hsz hj, hzp, List.getElem?_map, List.getElem?_map, hat j hj]
        · rw [List.getElem?_eq_none (l := (madeCells z.cells (m * sz)).toList.map PV.val) (by rw [List.length_map, hlen]; omega), List.getElem?_eq_none]
          rw [flat_len (sz := sz) (fun e he => by rw [List.eq_of_mem_replicate he, hzp, List.length_map, hzl]), List.length_replicate]
          omega
      refine ⟨_, by rw [List.length_replicate]; exact hown, ⟨by rw [hfl, List.length_map, List.length_map], fun j c v h2 h3 => ?_, fun v hv => ?_⟩⟩
      · rw [hfl, List.map_map, List.getElem?_map, h3] at h2
        cases h2
        exact .p (.val _)
      · obtain ⟨j, hj⟩ := List.getElem?_of_mem hv
        have hjl : j < m * sz := by
          have := (List.getElem?_eq_some_iff.1 hj).1
          rw [hlen] at this
          exact this
        rw [hat j hjl] at hj
        exact List.all_eq_true.1 h1 v (List.mem_of_getElem? hj)
end
end Go.Proofs.YteadaggehndacaaDoor
/- Rows that are frozen wherever they are spoken of; rows that are lent and grow; calls of function values; arrays. Generic over the program. -/
namespace Go.Proofs.YteadaggehndacaaDoor
set_option maxRecDepth 100000
set_option maxHeartbeats 16000000
open Go Go.RowKit
/-! ### Frozen wherever it is spoken of -/
def AV.frz (id : Nat) (x : PV) : AV → AV
  | .own j => if j = id then .p x else .own j
  | y => y.kill id
def Blk.frz (id : Nat) (x : PV) : Blk → Blk
  | .row t s n xs => .row t s n (xs.map (AV.frz id x))
  | .prow t s n xs => .prow t s n xs
  | .box t xs => .box t (xs.map (AV.frz id x))
  | .lent t s n xs => .lent t s n xs
  | .obj mp Q => .obj mp Q
def AS.frz (S : AS) (id : Nat) (x : PV) : AS := { t := S.t.map fun p => (p.1, p.2.frz id x), s := (dropL S.s id).map fun p => (p.1, p.2.frz id x) }
theorem AS.tmp_frz (S : AS) (id : Nat) (x : PV) (i : Nat) : (S.frz id x).tmp i = (S.tmp i).frz id x := by
  simp only [AS.tmp, AS.frz, look_map]
  cases look S.t i <;> rfl
theorem AS.blk_frz (S : AS) (id : Nat) (x : PV) (j : Nat) : (S.frz id x).blk j = if id = j then none else (S.blk j).map (Blk.frz id x) := by
  simp only [AS.blk, AS.frz, look_map, look_dropL]
  by_cases hj : id = j
  · rw [if_pos hj, if_pos hj]; rfl
  · rw [if_neg hj, if_neg hj]
theorem Blk.turns_frz (b : Blk) (id : Nat) (x : PV) (c : Nat) : (b.frz id x).turns c ↔ b.turns c := by cases b <;> exact Iff.rfl
theorem yE.frz {M : Nat → Nat → Prop} {ρ : Nat → Value} {w : World} {y : AV} {v : Value} {id : Nat} {x : PV} (h : yE M ρ w y v) (hx : Rep M w x (ρ id)) : yE M ρ w (y.frz id x) v := by
  have hk := h.killed id (ρ id)
  rw [upd_self] at hk
  cases y with
  | own j =>
    show yE M ρ w (if j = id then .p x else .own j) v
    by_cases hj : j = id
    · subst hj
      rw [if_pos rfl, kQ h]
      exact .p hx
    · rw [if_neg hj]
      exact h
  | _ => exact hk
theorem yH.frz {M : Nat → Nat → Prop} {ρ : Nat → Value} {w : World} {xs : List AV} {ys : List Value} {id : Nat} {x : PV} (h : yH M ρ w xs ys) (hx : Rep M w x (ρ id)) : yH M ρ w (xs.map (AV.frz id x)) ys :=
  ⟨by simp [h.len], fun i c v hc hv => by
    rw [List.getElem?_map, Option.map_eq_some_iff] at hc
    obtain ⟨c', hc', rfl⟩ := hc
    exact (h.each i c' v hc' hv).frz hx, h.one⟩
section
variable {M : Nat → Nat → Prop} {n : Nat} {w0 : Home} {w w' : World} {S : AS} {ρ : Nat → Value} {a : Act}
theorem Mut.frz {id k c : Nat} {x : PV} (h : Mut M (S.frz id x) ρ k c) : Mut M (S.drop id) ρ k c := by
  rcases h with h | ⟨j, b, hb, hk, ht⟩
  · exact .inl h
  · rw [AS.blk_frz] at hb
    split at hb
    · cases hb
    · rename_i hne
      obtain ⟨b1, h1, rfl⟩ := Option.map_eq_some_iff.1 hb
      exact .inr ⟨j, b1.kill id, by rw [AS.wU, if_neg hne, h1]; rfl, hk, (Blk.kV b1 id c).2 ((Blk.turns_frz b1 id x c).1 ht)⟩
theorem Sat.frz_of (h : Sat M n w0 S ρ a w) {id : Nat} {x : PV} (hx : Rep (Mut M (S.drop id) ρ) w x (ρ id)) : Sat M n w0 (S.frz id x) ρ a w := by
  have hx' : Rep (Mut M (S.frz id x) ρ) w x (ρ id) := hx.mono fun _ _ _ hk => Mut.frz hk
  have hm : ∀ k c, k < w.heap.size → Mut M (S.frz id x) ρ k c → Mut M S ρ k c := fun k c _ hk => Mut.drop (Mut.frz hk)
  refine ⟨h.below, h.out, h.tab, h.size, h.defers, fun i => ?_, fun j b hb => ?_, fun j b k hb hk => ?_, h.fix, h.free, fun i j bi bj k hi hj => ?_⟩
  · rw [AS.tmp_frz]
    exact ((h.tmps i).mono hm).frz hx'
  · rw [AS.blk_frz] at hb
    split at hb
    · cases hb
    · obtain ⟨b1, h1, rfl⟩ := Option.map_eq_some_iff.1 hb
      have := h.blks j b1 h1
      cases b1 with
      | row t size m xs =>
        obtain ⟨ys, ho, hc⟩ := this
        exact ⟨ys, ho, (hc.mono hm).frz hx'⟩
      | prow t size m xs =>
        obtain ⟨ys, ho, hc⟩ := this
        exact ⟨ys, ho, hc.mono hm⟩
      | lent t size m xs =>
        obtain ⟨ys, ho, hc⟩ := this
        exact ⟨ys, ho, hc.mono hm⟩
      | obj mp Q => exact this
      | box t xs =>
        obtain ⟨g, ys, hv, hg, hh, hc⟩ := this
        exact ⟨g, ys, hv, hg, hh, (hc.mono hm).frz hx'⟩
  · rw [AS.blk_frz] at hb
    split at hb
    · cases hb
    · obtain ⟨b1, h1, _⟩ := Option.map_eq_some_iff.1 hb
      exact h.mine j b1 k h1 hk
  · rw [AS.blk_frz] at hi hj
    split at hi
    · cases hi
    · split at hj
      · cases hj
      · obtain ⟨b1, h1, _⟩ := Option.map_eq_some_iff.1 hi
        obtain ⟨b2, h2, _⟩ := Option.map_eq_some_iff.1 hj
        exact h.dist i j b1 b2 k h1 h2
end
theorem sub_frz {S : AS} {id e sz : Nat} {es : List PV} (hb : S.blk id = some (yG e sz es)) : Sub S (S.frz id (.sl es)) :=
  fun M n w0 ρ a w hs => by
    refine ⟨ρ, hs.frz_of ?_⟩
    have h1 := ((vH hb (kH e sz es)).sat hs).frozen (id := id) (es := es) (by rw [AS.wY, if_pos rfl]) rfl
    refine h1.mono fun k c _ hk => ?_
    rcases hk with hk | ⟨j, b, hj, hk, ht⟩
    · exact .inl hk
    · rw [AS.wU] at hj
      split at hj
      · cases hj
      · rename_i hne
        refine .inr ⟨j, b, ?_, hk, ht⟩
        rw [AS.wU, if_neg hne, AS.wY, if_neg hne]
        exact hj
/-! ### Rows that are lent -/
def lentV (e sz : Nat) (es : List PV) : Blk := .lent e sz es.length (flat es)
theorem sub_lend {S : AS} {id e sz : Nat} {es : List PV} (hb : S.blk id = some (yG e sz es)) : Sub S (S.tag id (lentV e sz es)) :=
  fun M n w0 ρ a w h => by
    have hm : ∀ k c, k < w.heap.size → Mut M (S.tag id (lentV e sz es)) ρ k c → Mut M S ρ k c := fun k c _ hk => by
      rcases hk with hk | ⟨j, b, hj, hk, ht⟩
      · exact .inl hk
      · rw [AS.wY] at hj
        split at hj
        · rename_i he
          subst he
          exact .inr ⟨id, _, hb, hk, trivial⟩
        · exact .inr ⟨j, b, hj, hk, ht⟩
    have some_of : ∀ j b, (S.tag id (lentV e sz es)).blk j = some b → ∃ b1, S.blk j = some b1 := fun j b hj => by
      rw [AS.wY] at hj
      split at hj
      · rename_i he; subst he; exact ⟨_, hb⟩
      · exact ⟨b, hj⟩
    refine ⟨ρ, h.below, h.out, h.tab, h.size, h.defers, fun i => (h.tmps i).mono hm, fun j b hj => ?_, fun j b k hj hk => ?_, h.fix, h.free, fun i j bi bj k hi hj => ?_⟩
    · rw [AS.wY] at hj
      split at hj
      · rename_i he
        subst he
        obtain rfl := Option.some.inj hj
        obtain ⟨ys, ho, hc⟩ := h.blks id _ hb
        exact ⟨ys, ho, hc.mono hm⟩
      · have := h.blks j b hj
        cases b with
        | row t size m xs => obtain ⟨ys, ho, hc⟩ := this; exact ⟨ys, ho, hc.mono hm⟩
        | prow t size m xs => obtain ⟨ys, ho, hc⟩ := this; exact ⟨ys, ho, hc.mono hm⟩
        | lent t size m xs => obtain ⟨ys, ho, hc⟩ := this; exact ⟨ys, ho, hc.mono hm⟩
        | obj mp Q => exact this
        | box t xs => obtain ⟨g, ys, hv, hg, hh, hc⟩ := this; exact ⟨g, ys, hv, hg, hh, hc.mono hm⟩
    · obtain ⟨b1, h1⟩ := some_of j b hj
      exact h.mine j b1 k h1 hk
    · obtain ⟨b1, h1⟩ := some_of i bi hi
      obtain ⟨b2, h2⟩ := some_of j bj hj
      exact h.dist i j b1 b2 k h1 h2
/-- what is lent reads as a slice that nobody turns -/
theorem Sat.lentRep {M : Nat → Nat → Prop} {n : Nat} {w0 : Home} {w : World} {S : AS} {ρ : Nat → Value} {a : Act} (h : Sat M n w0 S ρ a w) {id e sz : Nat} {es : List PV} (hb : S.blk id = some (lentV e sz es)) : Rep (Mut M S ρ) w (.sl es) (ρ id) := by
  obtain ⟨ys, ho, hc⟩ := h.blks id _ hb
  have hyl : ys.length = es.length * sz := ho.1
  rcases ho.2 with ⟨hv, hm0⟩ | ⟨g, cap, cur, hv, hg, hh, hn, hcm, hs, ht⟩
  · rw [hv]
    have : es = [] := List.eq_nil_of_length_eq_zero hm0
    subst this
    exact .nil
  · rw [hv]
    have hgm : yJ (ρ id) = some g := by rw [hv]; rfl
    refine .sl es g 0 es.length cap ys rfl (by simpa using hc.len) (fun j y hy => ?_) (fun j c y hcj hy => ?_) hc.one ?_ (Array.getElem?_eq_some_iff.1 hh).1 hn hcm
    · rw [Nat.zero_add, cell_of_row w g j cur e (0, 0) hh]
      rw [← ht, List.getElem?_take] at hy
      split at hy
      · simpa using hy
      · cases hy
    · exact kM (hc.each j (.p c) y (by rw [List.getElem?_map, hcj]; rfl) hy)
    · rintro i hi (hk | ⟨j, b, hbj, hkj, htj⟩)
      · exact h.out g _ hk (h.mine id _ g hb hgm)
      · have := h.dist id j _ b g hb hbj hgm hkj
        subst this
        rw [hb] at hbj
        obtain rfl := Option.some.inj hbj
        have : es.length * sz ≤ 0 + i := htj
        omega
theorem sub_view {S : AS} {d id e sz : Nat} {es : List PV} (hd : S.tmp d = .own id) (hb : S.blk id = some (lentV e sz es)) : Sub S (S.put d (.p (.sl es))) :=
  fun M n w0 ρ a w hs => by
    refine ⟨ρ, hs.retype (.p ?_)⟩
    have h1 := hs.tmps d
    rw [hd] at h1
    rw [kQ h1]
    exact hs.lentRep hb
end Go.Proofs.YteadaggehndacaaDoor
/- A lent row grows; calls of function values; arrays in variables; slices that are compared with nil. Generic over the program. -/
namespace Go.Proofs.YteadaggehndacaaDoor
set_option maxRecDepth 100000
set_option maxHeartbeats 16000000
open Go Go.RowKit
section
variable {P : Program} {n : Nat} {o : Oper} {S : AS} {d : Nat} {t : TypeId} {x y : Operand}
theorem s_appL {id e sz by_ : Nat} {z : Value} {cs bs : List PV} [ht : Und P t (.slice e)] [hi : InfoA P e z sz by_] (ho : o.op = .call { callee := .builtin .append, args := #[x, y], argTypes := #[t, t] }) (hx : S.get x = .own id) (hb : S.blk id = some (lentV e sz cs))
    (hy : S.get y = .p (.sl bs)) (hes : ∀ e ∈ bs, e.cells.length = sz) (hlim : (cs.length + bs.length) * by_ ≤ 140737488355328 ∧ cs.length + bs.length ≤ maxLen) (hzs : z.cells.size = sz) (hsz : 0 < sz) (hd : o.dst = some d) (hn : d < n) :
    Step P n o S ((S.create id (lentV e sz (cs ++ bs))).put d (.own id)) := by
  intro M w0 ρ a w K Q hs hK
  obtain ⟨i, hi1, hi2⟩ := Option.map_eq_some_iff.1 hi.h
  simp only [Prod.mk.injEq] at hi2
  obtain ⟨hz, hisz, hiby⟩ := hi2
  have h1 := hs.rep x
  rw [hx] at h1
  have hv := kQ h1
  obtain ⟨ys, hown, hys⟩ := hs.blks id _ hb
  have hown : w.ownsRow 0 e sz (ρ id) cs.length ys := hown
  obtain ⟨us, hus, hnews⟩ := news_p (ρ := ρ) (xB hs hy) hes
  have e1 : yJ (ρ id) = (ρ id).ownBlock := own_slice hown
  have hfree : w0.r id = none := row_free hs hown
  have main : ∀ v' w' row, (Builtin.append_ #[t, t] o.type #[ρ id, a.eval y]).run P w = .ok v' w' → w.grownBy w' row → w'.ownsRow 0 e sz v' (cs.length + bs.length) (ys ++ us) → (row = none ∨ row = (ρ id).ownBlock) →
      (∀ k, yJ v' = some k → w.heap.size ≤ k ∨ row = some k) → (∀ k c, row = some k → c < cs.length * sz → w'.cell? ⟨k, c, none⟩ = w.cell? ⟨k, c, none⟩) → o.wp P a w K Q := by
    intro v' w' row hr hg hown' hrow hv' hcell
    have hall : yH (Mut M S ρ) ρ w ((flat (cs ++ bs)).map AV.p) (ys ++ us) := by
      rw [flat_append, List.map_append]
      exact ⟨by simp [hys.len, hus.len], fun i c v h1 h2 => by
        by_cases hi : i < ((flat cs).map AV.p).length
        · rw [List.getElem?_append_left hi] at h1
          rw [List.getElem?_append_left (by rw [hys.len]; exact hi)] at h2
          exact hys.each i c v h1 h2
        · rw [List.getElem?_append_right (by omega)] at h1
          rw [List.getElem?_append_right (by rw [hys.len]; omega), hys.len] at h2
          exact hus.each _ c v h1 h2, fun v hv => by
        rcases List.mem_append.1 hv with hv | hv
        · exact hys.one v hv
        · exact hus.one v hv⟩
    have hks : Keeps (fun k c => Mut M S ρ k c ∨ (yJ v' = some k ∧ (lentV e sz (cs ++ bs)).turns c)) w w' := ⟨hg.size, fun k c hk hnm => by
      by_cases hrk : row = some k
      · refine hcell k c hrk (Nat.lt_of_not_le fun hle => hnm (.inl (.inr ⟨id, _, hb, ?_, hle⟩)))
        rcases hrow with h | h
        · rw [h] at hrk; cases hrk
        · rw [e1, ← h]; exact hrk
      · exact World.cell?_of_block (w := w) (hg.block k hk fun e => hrk e.symm)⟩
    have hmut : ∀ k c, k < w.heap.size → (Mut M S ρ k c ∨ (yJ v' = some k ∧ (lentV e sz (cs ++ bs)).turns c)) → Mut M S ρ k c := fun k c hk h => by
      rcases h with h | ⟨h, ht⟩
      · exact h
      · rcases hv' k h with h2 | h2
        · omega
        · rcases hrow with h3 | h3
          · rw [h3] at h2; cases h2
          · refine .inr ⟨id, _, hb, by rw [e1, ← h3]; exact h2, ?_⟩
            have h4 : (cs ++ bs).length * sz ≤ c := ht
            have h5 : cs.length * sz ≤ (cs ++ bs).length * sz := Nat.mul_le_mul_right _ (by rw [List.length_append]; omega)
            exact Nat.le_trans h5 h4
    have hs' := hs.change id (lentV e sz (cs ++ bs)) v' row hfree hg (fun k hk => ?_) hv' ⟨ys ++ us, by rw [List.length_append]; exact hown', (hall.mono hmut).keep hks⟩
    · unfold Oper.wp execOp
      simp only [ho, resolve, invoke, builtin, Sem.run_bind, Sem.run_pure, Result.andThen_ok, List.map_toArray, List.map_cons, List.map_nil, hv, hr]
      show K (a.put o.dst v') w'
      rw [hd]
      refine hK _ _ w' (hs'.put hn ?_)
      have := yE.own (M := Mut M (S.create id (lentV e sz (cs ++ bs))) (upd ρ id v')) (ρ := upd ρ id v') (w := w') id
      simpa [upd] using this
    · refine ⟨_, hb, ?_, fun c ht => ?_, fun c hnt => hcell k c hk (Nat.lt_of_not_le hnt)⟩
      · rcases hrow with h | h
        · rw [h] at hk; cases hk
        · rw [e1, ← h]; exact hk
      · have h4 : (cs ++ bs).length * sz ≤ c := ht
        have h5 : cs.length * sz ≤ (cs ++ bs).length * sz := Nat.mul_le_mul_right _ (by rw [List.length_append]; omega)
        exact Nat.le_trans h5 h4
  rcases hnews with ⟨hyv, hk0, hu0⟩ | ⟨ad, c, hyv, hul, hcell⟩
  · have hb0 : bs = [] := List.eq_nil_of_length_eq_zero hk0
    subst hu0
    subst hb0
    exact main (ρ id) w (ρ id).ownBlock (by rw [hyv]; exact run_append_owned_none (P := P) w 0 t o.type e i sz ht.h hi1 (ρ id) cs.length ys hown) ⟨rfl, rfl, rfl, Nat.le_refl _, fun _ _ _ => rfl⟩ (by simpa using hown) (.inr rfl) (fun k hk => .inr (by rw [← e1]; exact hk)) (fun _ _ _ _ => rfl)
  · obtain ⟨v', w', hr, hown', hg, _, hob⟩ := run_append_own_at (P := P) w 0 t o.type e i z sz by_ ht.h hi1 hz hisz hiby hzs hsz (ρ id) cs.length ys hown ad bs.length c us hul hcell hus.one hlim.2 hlim.1 (Nat.zero_le _)
    have e2 : yJ v' = v'.ownBlock := own_slice hown'
    rcases hown.2 with ⟨hnil, hc0⟩ | ⟨g, cap, cur, hvg, _, hh, hncap, hcm, hcs, htk⟩
    · rw [← hyv] at hr
      refine main v' w' none hr (by rw [hnil] at hg; exact hg) hown' (.inl rfl) (fun k hk => ?_) (fun k c h => by cases h)
      rw [e2] at hk
      rcases hob with h3 | h3
      · rw [h3, hnil] at hk; cases hk
      · rw [h3] at hk; simp at hk; exact .inl (by omega)
    · have hin : ∀ j u, ys[j]? = some u → w.cell? ⟨g, 0 + j, none⟩ = some u := fun j u hu => by
        rw [Nat.zero_add, cell_of_row w g j cur e (0, 0) hh]
        rw [← htk, List.getElem?_take] at hu
        split at hu
        · simpa using hu
        · cases hu
      by_cases hroom : cs.length + bs.length ≤ cap
      · have hr2 := run_append_room_cells (P := P) w t o.type e i ht.h hi1 g 0 cs.length cap ad bs.length c us (by rw [hisz]; exact hul) hcell hus.one hroom (fun j hj => ?_) (fun j hj => frozen_of_row w g _ cur e hh)
        · rw [hvg] at hr
          have he := hr.symm.trans hr2
          injection he with he1 he2
          subst he1
          subst he2
          rw [← hyv, ← hvg] at hr
          refine main _ _ (some g) hr (by rw [hvg] at hg; exact hg) hown' (.inr (by rw [hvg]; rfl)) (fun k hk => .inr (by simpa [yJ] using hk)) (fun k c' hk hc' => ?_)
          obtain rfl : g = k := by simpa using hk
          refine World.cell?_setCells_out g us _ w ⟨g, c', none⟩ (fun _ _ => .inl ?_)
          show c' < 0 + cs.length * i.size
          rw [hisz]; omega
        · rw [cell_of_row w g _ cur e (0, 0) hh]
          have h6 : 0 + cs.length * i.size + j < cur.size := by
            rw [hcs, hisz]
            have : (cs.length + bs.length) * sz ≤ cap * sz := Nat.mul_le_mul_right _ hroom
            rw [Nat.add_mul] at this
            omega
          rw [Array.getElem?_eq_getElem h6]
          rfl
      · obtain ⟨v2, w2, hr2, hown2, hg2⟩ := run_append_arg_grows (P := P) w t o.type e i z sz by_ ht.h hi1 hz hisz hiby hzs hsz ⟨g, 0, none⟩ cs.length cap ys hown.1 (fun j u hu => by rw [add_lit]; exact hin j u hu) ad bs.length c us hul hcell (by omega) hlim.2 hlim.1
        rw [hvg] at hr
        have he := hr.symm.trans hr2
        injection he with he1 he2
        subst he1
        subst he2
        rw [← hyv, ← hvg] at hr
        refine main _ _ none hr hg2 hown' (.inl rfl) (fun k hk => ?_) (fun k c' hk => by cases hk)
        rcases hown2.2 with ⟨he3, _⟩ | ⟨g2, _, _, he3, hg3, _⟩
        · rw [he3] at hk; cases hk
        · rw [he3] at hk
          simp only [yJ, Option.some.injEq] at hk
          exact .inl (by omega)
/-! ### Calls of function values -/
theorem wI {f : FuncId} {args : Array Operand} {ts : Array TypeId} [hc : HasFn P f] (ho : o.op = .call { callee := .value x, args := args, argTypes := ts }) (hx : S.get x = .p (.val (.func (.func f) #[] #[]))) : Enters P o S f (args.toList.map S.get) :=
  fun M n w0 ρ a w hs => by
    have hv := hs.val hx
    refine ⟨args.toList.map a.eval, ?_, by simp, reps_get hs args.toList⟩
    have e : (args.toList.map a.eval).toArray = args.map a.eval := by apply Array.ext'; simp
    unfold execOp
    rw [ho, e]
    simp [resolve, Deferred.ofValue, hv, invoke, hc.h]
/-- a pure contract, as one of variables -/
theorem FnE.ofFn {f : FuncId} {xs : List PV} {r : PV} (h : Fn P f xs (.p r)) : FnE P f (xs.map AV.p) [] (.ret (.p r)) [] := by
  intro M hh ρ vs _ hs hvl hvs
  have := h (Mut M (asB []) ρ) hh.w vs ⟨hs.lays, hs.tabs⟩ (fun k c hk => Mut.lt hs hk) (by simpa using hvl) (fun i x v h1 h2 => kM (hvs i (.p x) v (by rw [List.getElem?_map, h1]; rfl) h2))
  exact this.mono fun e w' ⟨v, he, hr, hb⟩ => ⟨ρ, hs.ext hb, v, he, .p hr⟩
theorem FnE.ofFnT {f : FuncId} {xs : List PV} {l : List PV} (h : Fn P f xs (.tup l)) : FnE P f (xs.map AV.p) [] (.ret (.tup (l.map AV.p))) [] := by
  intro M hh ρ vs _ hs hvl hvs
  have := h (Mut M (asB []) ρ) hh.w vs ⟨hs.lays, hs.tabs⟩ (fun k c hk => Mut.lt hs hk) (by simpa using hvl) (fun i x v h1 h2 => kM (hvs i (.p x) v (by rw [List.getElem?_map, h1]; rfl) h2))
  refine this.mono fun e w' ⟨v, he, ⟨us, hu, hul, hue⟩, hb⟩ => ⟨ρ, hs.ext hb, v, he, ?_⟩
  subst hu
  refine .tup _ us (by simpa using hul) fun i c u h1 h2 => ?_
  rw [List.getElem?_map, Option.map_eq_some_iff] at h1
  obtain ⟨y, hy, rfl⟩ := h1
  exact .p (hue i y u hy h2)
/-! ### Compared with nil -/
theorem r_eqlNil {yt : TypeId} {es : List PV} {r : Bool} {e : TypeId} [ht : Und P t (.slice e)] (ho : o.op = .binOp .eql t x y yt) (hx : S.get x = .p (.sl es)) (hy : S.get y = .p (.val (.slice none 0 0))) (hne : es ≠ []) (hr : false = r) (hd : o.dst = some d) (hn : d < n) : zQ P n o S [] (.p (.val (.bool r))) none := by
  subst hr
  exact zQ.pure hd hn fun S2 hg _ M w0 ρ a w hs => by
    have r1 := xB hs ((hg x (by rw [ho]; simp [Op.operands])).trans hx)
    have r2 := hs.val ((hg y (by rw [ho]; simp [Op.operands])).trans hy)
    rcases rep_sl r1 with ⟨_, h0⟩ | ⟨g, off, cap, ys, hv, _⟩
    · exact (hne h0).elim
    · refine ⟨.bool false, w, ?_, Below.refl _ _, .p (.val _)⟩
      unfold execOp
      rw [ho]
      simp only [hv, r2, Sem.run_bind]
      simp [eqGuard, binOp, run_equal_slice_nil w t e (some ⟨g, off, none⟩) es.length cap ht.h]
/-! ### Arrays in variables -/
theorem qE {ix : Operand} {id off m e sz : Nat} {j : Int} {k : IntKind} {agg : Bool} [ht : Und P t (.array m e)] [he : TyA P e agg sz] (ho : o.op = .indexAddr t x ix) (hx : S.get x = .ptr id off) (hi : S.get ix = .p (.val (.int k j))) (hj : 0 ≤ j ∧ j < m) (hd : o.dst = some d) (hn : d < n) : zQ P n o S [] (.ptr id (off + j.toNat * sz)) none :=
  zQ.pure hd hn fun S2 hg _ M w0 ρ a w hs => by
    have h1 := hs.rep x
    rw [hg x (by rw [ho]; simp [Op.operands]), hx] at h1
    have h2 := hs.val ((hg ix (by rw [ho]; simp [Op.operands])).trans hi)
    obtain ⟨g, hgv, hv⟩ := vE h1
    refine ⟨.pointer (some ⟨g, off + j.toNat * sz, none⟩), w, ?_, Below.refl _ _, .ptr id _ g hgv⟩
    have hel : P.elem t = e := by simp [Program.elem, ht.h]
    have hal : P.arrayLen t = m := by simp [Program.arrayLen, ht.h]
    unfold execOp
    rw [ho]
    simp only [hv, h2, Sem.run_bind]
    rw [run_indexAt_array w t _ _ _ (by rw [hel, hal]; exact ht.h), hal, if_pos hj, hel, he.sz w]
    simp [Result.andThen, add_lit]
end
end Go.Proofs.YteadaggehndacaaDoor
/- Calls that give an own row; ends that do. Generic over the program. -/
namespace Go.Proofs.YteadaggehndacaaDoor
set_option maxRecDepth 100000
set_option maxHeartbeats 16000000
set_option linter.unusedSimpArgs false
open Go Go.RowKit
section
variable {P : Program} {n : Nat} {o : Oper} {S : AS} {d : Nat} {t : TypeId} {x y : Operand}
theorem w_build0V {e sz by_ : Nat} {z : Value} [ht : Und P t (.slice e)] [hi : InfoA P e z sz by_] (ho : o.op = .buildSlice t 0 #[]) (hd : o.dst = some d) (hn : d < n) : zQ P n o S [] (.own d) (some (yG e sz [])) := (w_build0 ho hd hn).nb (vO e sz [])
theorem vJ {f : Nat} {args : Array Operand} {ts : Array TypeId} {xs : List PV} {e sz : Nat} {es : List PV} [hc : HasFn P f] (hf : Fn P f xs (.row e sz es.length (flat es))) (ho : o.op = .call { callee := .value (.func f), args := args, argTypes := ts })
    (hx : args.toList.map S.get = xs.map AV.p) (hd : o.dst = some d) (hn : d < n) : zQ P n o S [] (.own d) (some (yG e sz es)) := by
  intro S2 hg _ M w0 ρ a w K Q hs hK
  have hargs : ∀ x ∈ args.toList, S2.get x = S.get x := fun x hx => hg x (by rw [ho]; simp [Op.operands, Call.operands]; exact .inr (by simpa using hx))
  have he : (execOp a.eval o).run P w = .ok (.enter f (args.map a.eval)) w := by
    unfold execOp
    rw [ho]
    simp [resolve, Deferred.ofValue, Act.eval, invoke, hc.h]
  unfold Oper.wp
  rw [he, Oper.upon_enter]
  have hlen : (args.toList.map a.eval).length = xs.length := by
    have := congrArg List.length hx
    simpa using this
  have := hf (Mut M S2 ρ) w (args.toList.map a.eval) ⟨hs.lays, hs.tabs⟩ (fun k c hk => Mut.lt hs hk) hlen (fun i x v h1 h2 => by
    rw [List.getElem?_map, Option.map_eq_some_iff] at h2
    obtain ⟨y, hy, rfl⟩ := h2
    have h3 : S.get y = .p x := by
      have h4 : (args.toList.map S.get)[i]? = (xs.map AV.p)[i]? := by rw [hx]
      rw [List.getElem?_map, List.getElem?_map, hy, h1] at h4
      simpa using h4
    exact xB hs ((hargs y (List.mem_of_getElem? hy)).trans h3))
  have e1 : (args.toList.map a.eval).toArray = args.map a.eval := by apply Array.ext'; simp
  rw [e1] at this
  refine this.mono ?_
  rintro en w' ⟨v, rfl, ⟨ys, hown, hl⟩, hb⟩
  show K (a.put o.dst v) w'
  rw [hd] at hK ⊢
  have hnew : ∀ k, yJ v = some k → w.heap.size ≤ k := fun k hk => by
    rcases hown.2 with ⟨rfl, _⟩ | ⟨g, cap, cur, rfl, hg2, _⟩
    · cases hk
    · simp only [yJ, Option.some.injEq] at hk; omega
  have hs' := hs.change d (yG e sz es) v none (hs.free d hn) (w' := w') ⟨hb.os, hb.tape, hb.output, hb.size, fun k hk _ => hb.block k hk⟩ (fun k hk => by cases hk) (fun k hk => .inl (hnew k hk))
    ⟨ys, qJ hown (fun _ _ => Nat.zero_le _), ⟨by simpa using hl.len, fun i c u h1 h2 => by
      rw [List.getElem?_map, Option.map_eq_some_iff] at h1
      obtain ⟨y, hy, rfl⟩ := h1
      exact .p ((hl.each i y u hy h2).mono fun k c _ hk => hk.elim .inl fun h => .inr h.1), hl.one⟩⟩
  refine hK _ _ w' (hs'.put hn ?_)
  have := yE.own (M := Mut M (S2.create d (yG e sz es)) (upd ρ d v)) (ρ := upd ρ d v) (w := w') d
  simpa [upd] using this
def Blk.isRow : Blk → Bool
  | .box _ _ => false
  | _ => true
theorem own_cell {M : Nat → Nat → Prop} {n : Nat} {w0 : Home} {w : World} {S : AS} {ρ : Nat → Value} {a : Act} (hs : Sat M n w0 S ρ a w) {id2 : Nat} {b2 : Blk} (hb2 : S.blk id2 = some b2) (hrow : b2.isRow = true) : (ρ id2).cells.toList = [ρ id2] ∧ (ρ id2).oneCell' = true := by
  have h := hs.blks id2 _ hb2
  have key : ∀ {e sz m : Nat} {ys : List Value}, w.ownsRow 0 e sz (ρ id2) m ys → (ρ id2).cells.toList = [ρ id2] ∧ (ρ id2).oneCell' = true := fun hown => by
    rcases hown.2 with ⟨e, _⟩ | ⟨g', cap, cur, e, _⟩ <;> (rw [e]; exact ⟨rfl, rfl⟩)
  cases b2 with
  | box _ _ => cases hrow
  | obj mp Q => obtain ⟨g, o, e, _⟩ := h; rw [e]; cases mp <;> exact ⟨rfl, rfl⟩
  | row _ _ _ _ => obtain ⟨ys, h, _⟩ := h; exact key h
  | prow _ _ _ _ => obtain ⟨ys, h, _⟩ := h; exact key h
  | lent _ _ _ _ => obtain ⟨ys, h, _⟩ := h; exact key h
theorem own_cells {M : Nat → Nat → Prop} {n : Nat} {w0 : Home} {w : World} {S : AS} {ρ : Nat → Value} {a : Act} (hs : Sat M n w0 S ρ a w) {id2 : Nat} {b2 : Blk} {v : Value} (hb2 : S.blk id2 = some b2) (hrow : b2.isRow = true) (h2 : yE (Mut M S ρ) ρ w (.own id2) v) :
    yH (Mut M S ρ) ρ w (AV.own id2).wK v.cells.toList := by
  obtain rfl : v = ρ id2 := by cases h2; rfl
  obtain ⟨h3, h4⟩ := own_cell hs hb2 hrow
  rw [h3]
  exact ⟨rfl, fun i c u h1 h3 => by
    cases i with
    | zero => simp [AV.wK] at h1 h3; subst h1; subst h3; exact .own id2
    | succ i => simp [AV.wK] at h1, fun u hu => by simp at hu; subst hu; exact h4⟩
/-- a store of an own row's slice -/
theorem s_storeO {id off id2 : Nat} {b b2 : Blk} (ho : o.op = .store t x y) (hx : S.get x = .ptr id off) (hb : S.blk id = some b) (hy : S.get y = .own id2) (hb2 : S.blk id2 = some b2) (hrow : b2.isRow = true) (hm : ∀ w, (sizeOf t).run P w = .ok 1 w)
    (hle : off + 1 ≤ b.xs.length) (hlb : b.lentB = false) (hd : o.dst = none) : Step P n o S { S with s := putL S.s id (b.setXs (splice b.xs off (AV.own id2).wK)) } := by
  have hlen : (AV.own id2).wK.length = 1 := rfl
  intro M w0 ρ a w K Q hs hK
  have hfr := Blk.turns_of hlb
  have h1 := hs.rep x
  rw [hx] at h1
  obtain ⟨g, hgv, hv⟩ := vE h1
  have h2 := hs.rep y
  rw [hy] at h2
  have hcy : yH (Mut M S ρ) ρ w (AV.own id2).wK (a.eval y).cells.toList := own_cells hs hb2 hrow h2
  have hB := hs.blks id b hb
  have key : ∃ cur ty, w.heap[g]? = some (.cells cur ty (0, 0)) ∧ off + (a.eval y).cells.toList.length ≤ cur.size ∧
      (∀ w' : World, w.grownBy w' (some g) → w'.heap[g]? = some (.cells (splice cur.toList off (a.eval y).cells.toList).toArray ty (0, 0)) → xX (Mut M S ρ) 0 ρ w' (ρ id) (b.setXs (splice b.xs off (AV.own id2).wK))) := by
    have keeps : ∀ {w' : World}, w.grownBy w' (some g) → Keeps (Mut M S ρ) w w' := fun {w'} hg => ⟨hg.size, fun k c hk hnm => World.cell?_of_block (w := w) (hg.block k hk (fun e => hnm (.inr ⟨id, b, hb, by rw [hgv]; exact e.symm, hfr c⟩)))⟩
    cases b with
    | lent ty size k xs => cases hlb
    | obj mp Q => cases hlb
    | box ty xs =>
      obtain ⟨g', ys, e, hg, hh, hc⟩ := hB
      have eg : g' = g := by rw [e] at hgv; simpa [yJ] using hgv
      subst eg
      refine ⟨ys.toArray, ty, hh, ?_, fun w' hgr hh' => ⟨g', splice ys off (a.eval y).cells.toList, e, hg, by simpa using hh', (hc.splice hcy (by rw [hlen]; exact hle)).keep (keeps hgr)⟩⟩
      have e1 := hcy.len
      have e2 := hc.len
      have e3 : off + 1 ≤ xs.length := hle
      simp only [List.size_toArray]
      omega
    | row ty size k xs =>
      obtain ⟨ys, ⟨hl, ho2⟩, hc⟩ := hB
      have e1 := hcy.len
      have e2 := hc.len
      have e3 : off + 1 ≤ xs.length := hle
      rcases ho2 with ⟨e, _⟩ | ⟨g', cap, cur, e, hbg, hh, hkc, hcm, hcs, htk⟩
      · rw [e] at hgv; simp [yJ] at hgv
      · have eg : g' = g := by rw [e] at hgv; simpa [yJ] using hgv
        subst eg
        have hsz : k * size ≤ cur.size := by rw [hcs]; exact Nat.mul_le_mul_right _ hkc
        refine ⟨cur, ty, hh, by omega, fun w' hgr hh' => ⟨splice ys off (a.eval y).cells.toList, ⟨by rw [vK (by omega)]; exact hl, .inr ⟨g', cap, _, e, hbg, hh', hkc, hcm, ?_, ?_⟩⟩, (hc.splice hcy (by rw [hlen]; exact hle)).keep (keeps hgr)⟩⟩
        · simp only [List.size_toArray]
          rw [vK (by simp only [Array.length_toList] at *; omega)]
          simpa using hcs
        · apply List.ext_getElem?
          intro i
          rw [List.getElem?_take]
          rw [xR (by simp only [Array.length_toList] at *; omega), xR (by omega)]
          have hi : ∀ (i : Nat), i < k * size → cur.toList[i]? = ys[i]? := fun i hi => by rw [← htk, List.getElem?_take, if_pos hi]
          by_cases h3 : i < k * size
          · rw [if_pos h3]
            split
            · exact hi i h3
            · split
              · rfl
              · exact hi i h3
          · rw [if_neg h3]
            rw [if_neg (by omega), if_neg (by omega)]
            exact (List.getElem?_eq_none (by omega)).symm
    | prow ty size k xs =>
      obtain ⟨ys, ⟨hl, ho2⟩, hc⟩ := hB
      have e1 := hcy.len
      have e2 := hc.len
      have e3 : off + 1 ≤ (xs.map AV.p).length := hle
      rcases ho2 with ⟨e, _⟩ | ⟨g', cap, cur, e, hbg, hh, hkc, hcm, hcs, htk⟩
      · rw [e] at hgv; simp [yJ] at hgv
      · have eg : g' = g := by rw [e] at hgv; simpa [yJ] using hgv
        subst eg
        have hsz : k * size ≤ cur.size := by rw [hcs]; exact Nat.mul_le_mul_right _ hkc
        refine ⟨cur, ty, hh, by omega, fun w' hgr hh' => ⟨splice ys off (a.eval y).cells.toList, ⟨by rw [vK (by omega)]; exact hl, .inr ⟨g', cap, _, e, hbg, hh', hkc, hcm, ?_, ?_⟩⟩, (hc.splice hcy (by rw [hlen]; exact hle)).keep (keeps hgr)⟩⟩
        · simp only [List.size_toArray]
          rw [vK (by simp only [Array.length_toList] at *; omega)]
          simpa using hcs
        · apply List.ext_getElem?
          intro i
          rw [List.getElem?_take]
          rw [xR (by simp only [Array.length_toList] at *; omega), xR (by omega)]
          have hi : ∀ (i : Nat), i < k * size → cur.toList[i]? = ys[i]? := fun i hi => by rw [← htk, List.getElem?_take, if_pos hi]
          by_cases h3 : i < k * size
          · rw [if_pos h3]
            split
            · exact hi i h3
            · split
              · rfl
              · exact hi i h3
          · rw [if_neg h3]
            rw [if_neg (by omega), if_neg (by omega)]
            exact (List.getElem?_eq_none (by omega)).symm
  obtain ⟨cur, ty, hh, hfit, hfin⟩ := key
  have hst := run_storeCells_at P g off ty (a.eval y).cells.toList 0 cur w hh (by simpa using hfit) hcy.one
  have hsz : (a.eval y).cells.size = 1 := by have := hcy.len; rw [hlen] at this; simpa using this
  have hrun : (execOp a.eval o).run P w = .ok .skip (w.setRow g (splice cur.toList off (a.eval y).cells.toList).toArray) := by
    unfold execOp
    rw [ho]
    simp only [hv, Instr.storeAt, Instr.sureAddr, storeVar, Sem.run_bind, Sem.run_pure, Result.andThen_ok, hm, hsz, ne_eq, not_true_eq_false, if_false]
    simp only [Nat.add_zero] at hst
    rw [hst]
    rfl
  have hgr : w.grownBy (w.setRow g (splice cur.toList off (a.eval y).cells.toList).toArray) (some g) := ⟨rfl, rfl, rfl, by simp, fun k _ hk => setRow_other w g k _ (fun e => hk (by rw [e]))⟩
  unfold Oper.wp
  rw [hrun]
  show K (a.put o.dst undef) _
  rw [hd]
  exact hK ρ a _ (hs.turn hb hgv hgr hfr (hfin _ hgr (setRow_heap w g cur _ ty _ hh)))
theorem vP {id off id2 : Nat} {b b2 : Blk} {agg : Bool} [h : TyA P t agg 1] (ho : o.op = .store t x y) (hx : S.get x = .ptr id off) (hb : S.blk id = some b) (hy : S.get y = .own id2) (hb2 : S.blk id2 = some b2) (hrow : b2.isRow = true)
    (hle : off + 1 ≤ b.xs.length) (hlb : b.lentB = false) (hd : o.dst = none) : Step P n o S { S with s := putL S.s id (b.setXs (splice b.xs off [AV.own id2])) } :=
  s_storeO ho hx hb hy hb2 hrow h.sz hle hlb hd
end
theorem givesRowV {P : Program} {fn : Func} {S : AS} {t id e sz : Nat} {es : List PV} (hr : fn.results = #[.tmp t]) (ht : S.tmp t = .own id) (hb : S.blk id = some (yG e sz es)) : ∃ S', Sub S S' ∧ GivesV P fn S' (.row e sz es.length (flat es)) :=
  ⟨_, (vH hb (kH e sz es)).sub, .row hr ht (by rw [AS.wY, if_pos rfl])⟩
end Go.Proofs.YteadaggehndacaaDoor
/- Instances that hang on functions' types. Written by inst.py. -/
namespace Go.Proofs.YteadaggehndacaaDoor
set_option maxRecDepth 100000
set_option maxHeartbeats 16000000
open Go Go.RowKit
set_option maxRecDepth 100000
instance ty1 : TyA Tryd.prog 1 false 1 := ⟨fun _ => by kernel_rfl, fun _ => by kernel_rfl⟩
instance ze1 : ZeroA Tryd.prog 1 (Value.nilFunc) := ⟨fun _ => by kernel_rfl⟩
instance in1 : InfoA Tryd.prog 1 (Value.nilFunc) 1 8 := ⟨by kernel_rfl⟩
instance ty23 : TyA Tryd.prog 23 false 1 := ⟨fun _ => by kernel_rfl, fun _ => by kernel_rfl⟩
instance ze23 : ZeroA Tryd.prog 23 (Value.nilFunc) := ⟨fun _ => by kernel_rfl⟩
instance in23 : InfoA Tryd.prog 23 (Value.nilFunc) 1 8 := ⟨by kernel_rfl⟩
instance ty34 : TyA Tryd.prog 34 false 1 := ⟨fun _ => by kernel_rfl, fun _ => by kernel_rfl⟩
instance ze34 : ZeroA Tryd.prog 34 (Value.nilFunc) := ⟨fun _ => by kernel_rfl⟩
instance in34 : InfoA Tryd.prog 34 (Value.nilFunc) 1 8 := ⟨by kernel_rfl⟩
instance ty40 : TyA Tryd.prog 40 false 1 := ⟨fun _ => by kernel_rfl, fun _ => by kernel_rfl⟩
instance ze40 : ZeroA Tryd.prog 40 (Value.nilFunc) := ⟨fun _ => by kernel_rfl⟩
instance in40 : InfoA Tryd.prog 40 (Value.nilFunc) 1 8 := ⟨by kernel_rfl⟩
instance ty43 : TyA Tryd.prog 43 false 1 := ⟨fun _ => by kernel_rfl, fun _ => by kernel_rfl⟩
instance ze43 : ZeroA Tryd.prog 43 (Value.nilFunc) := ⟨fun _ => by kernel_rfl⟩
instance in43 : InfoA Tryd.prog 43 (Value.nilFunc) 1 8 := ⟨by kernel_rfl⟩
instance ty44 : TyA Tryd.prog 44 false 1 := ⟨fun _ => by kernel_rfl, fun _ => by kernel_rfl⟩
instance ze44 : ZeroA Tryd.prog 44 (Value.nilFunc) := ⟨fun _ => by kernel_rfl⟩
instance in44 : InfoA Tryd.prog 44 (Value.nilFunc) 1 8 := ⟨by kernel_rfl⟩
instance ty45 : TyA Tryd.prog 45 false 1 := ⟨fun _ => by kernel_rfl, fun _ => by kernel_rfl⟩
instance ze45 : ZeroA Tryd.prog 45 (Value.nilFunc) := ⟨fun _ => by kernel_rfl⟩
instance in45 : InfoA Tryd.prog 45 (Value.nilFunc) 1 8 := ⟨by kernel_rfl⟩
instance ty46 : TyA Tryd.prog 46 false 1 := ⟨fun _ => by kernel_rfl, fun _ => by kernel_rfl⟩
instance ze46 : ZeroA Tryd.prog 46 (Value.nilFunc) := ⟨fun _ => by kernel_rfl⟩
instance in46 : InfoA Tryd.prog 46 (Value.nilFunc) 1 8 := ⟨by kernel_rfl⟩
instance ty48 : TyA Tryd.prog 48 false 1 := ⟨fun _ => by kernel_rfl, fun _ => by kernel_rfl⟩
instance ze48 : ZeroA Tryd.prog 48 (Value.nilFunc) := ⟨fun _ => by kernel_rfl⟩
instance in48 : InfoA Tryd.prog 48 (Value.nilFunc) 1 8 := ⟨by kernel_rfl⟩
instance ty49 : TyA Tryd.prog 49 false 1 := ⟨fun _ => by kernel_rfl, fun _ => by kernel_rfl⟩
instance ze49 : ZeroA Tryd.prog 49 (Value.nilFunc) := ⟨fun _ => by kernel_rfl⟩
instance in49 : InfoA Tryd.prog 49 (Value.nilFunc) 1 8 := ⟨by kernel_rfl⟩
instance ty50 : TyA Tryd.prog 50 false 1 := ⟨fun _ => by kernel_rfl, fun _ => by kernel_rfl⟩
instance ze50 : ZeroA Tryd.prog 50 (Value.nilFunc) := ⟨fun _ => by kernel_rfl⟩
instance in50 : InfoA Tryd.prog 50 (Value.nilFunc) 1 8 := ⟨by kernel_rfl⟩
instance ty52 : TyA Tryd.prog 52 false 1 := ⟨fun _ => by kernel_rfl, fun _ => by kernel_rfl⟩
instance ze52 : ZeroA Tryd.prog 52 (Value.nilFunc) := ⟨fun _ => by kernel_rfl⟩
instance in52 : InfoA Tryd.prog 52 (Value.nilFunc) 1 8 := ⟨by kernel_rfl⟩
instance ty53 : TyA Tryd.prog 53 false 1 := ⟨fun _ => by kernel_rfl, fun _ => by kernel_rfl⟩
instance ze53 : ZeroA Tryd.prog 53 (Value.nilFunc) := ⟨fun _ => by kernel_rfl⟩
instance in53 : InfoA Tryd.prog 53 (Value.nilFunc) 1 8 := ⟨by kernel_rfl⟩
instance ty54 : TyA Tryd.prog 54 false 1 := ⟨fun _ => by kernel_rfl, fun _ => by kernel_rfl⟩
instance ze54 : ZeroA Tryd.prog 54 (Value.nilFunc) := ⟨fun _ => by kernel_rfl⟩
instance in54 : InfoA Tryd.prog 54 (Value.nilFunc) 1 8 := ⟨by kernel_rfl⟩
instance ty56 : TyA Tryd.prog 56 false 1 := ⟨fun _ => by kernel_rfl, fun _ => by kernel_rfl⟩
instance ze56 : ZeroA Tryd.prog 56 (Value.nilFunc) := ⟨fun _ => by kernel_rfl⟩
instance in56 : InfoA Tryd.prog 56 (Value.nilFunc) 1 8 := ⟨by kernel_rfl⟩
instance ty59 : TyA Tryd.prog 59 false 1 := ⟨fun _ => by kernel_rfl, fun _ => by kernel_rfl⟩
instance ze59 : ZeroA Tryd.prog 59 (Value.nilFunc) := ⟨fun _ => by kernel_rfl⟩
instance in59 : InfoA Tryd.prog 59 (Value.nilFunc) 1 8 := ⟨by kernel_rfl⟩
instance ty60 : TyA Tryd.prog 60 false 1 := ⟨fun _ => by kernel_rfl, fun _ => by kernel_rfl⟩
instance ze60 : ZeroA Tryd.prog 60 (Value.nilFunc) := ⟨fun _ => by kernel_rfl⟩
instance in60 : InfoA Tryd.prog 60 (Value.nilFunc) 1 8 := ⟨by kernel_rfl⟩
instance ty61 : TyA Tryd.prog 61 false 1 := ⟨fun _ => by kernel_rfl, fun _ => by kernel_rfl⟩
instance ze61 : ZeroA Tryd.prog 61 (Value.nilFunc) := ⟨fun _ => by kernel_rfl⟩
instance in61 : InfoA Tryd.prog 61 (Value.nilFunc) 1 8 := ⟨by kernel_rfl⟩
instance ty62 : TyA Tryd.prog 62 false 1 := ⟨fun _ => by kernel_rfl, fun _ => by kernel_rfl⟩
instance ze62 : ZeroA Tryd.prog 62 (Value.nilFunc) := ⟨fun _ => by kernel_rfl⟩
instance in62 : InfoA Tryd.prog 62 (Value.nilFunc) 1 8 := ⟨by kernel_rfl⟩
instance ty64 : TyA Tryd.prog 64 false 1 := ⟨fun _ => by kernel_rfl, fun _ => by kernel_rfl⟩
instance ze64 : ZeroA Tryd.prog 64 (Value.nilFunc) := ⟨fun _ => by kernel_rfl⟩
instance in64 : InfoA Tryd.prog 64 (Value.nilFunc) 1 8 := ⟨by kernel_rfl⟩
instance ty65 : TyA Tryd.prog 65 false 1 := ⟨fun _ => by kernel_rfl, fun _ => by kernel_rfl⟩
instance ze65 : ZeroA Tryd.prog 65 (Value.nilFunc) := ⟨fun _ => by kernel_rfl⟩
instance in65 : InfoA Tryd.prog 65 (Value.nilFunc) 1 8 := ⟨by kernel_rfl⟩
instance ty66 : TyA Tryd.prog 66 false 1 := ⟨fun _ => by kernel_rfl, fun _ => by kernel_rfl⟩
instance ze66 : ZeroA Tryd.prog 66 (Value.nilFunc) := ⟨fun _ => by kernel_rfl⟩
instance in66 : InfoA Tryd.prog 66 (Value.nilFunc) 1 8 := ⟨by kernel_rfl⟩
instance ty68 : TyA Tryd.prog 68 false 1 := ⟨fun _ => by kernel_rfl, fun _ => by kernel_rfl⟩
instance ze68 : ZeroA Tryd.prog 68 (Value.nilFunc) := ⟨fun _ => by kernel_rfl⟩
instance in68 : InfoA Tryd.prog 68 (Value.nilFunc) 1 8 := ⟨by kernel_rfl⟩
instance ty70 : TyA Tryd.prog 70 false 1 := ⟨fun _ => by kernel_rfl, fun _ => by kernel_rfl⟩
instance ze70 : ZeroA Tryd.prog 70 (Value.nilFunc) := ⟨fun _ => by kernel_rfl⟩
instance in70 : InfoA Tryd.prog 70 (Value.nilFunc) 1 8 := ⟨by kernel_rfl⟩
instance ty75 : TyA Tryd.prog 75 false 1 := ⟨fun _ => by kernel_rfl, fun _ => by kernel_rfl⟩
instance ze75 : ZeroA Tryd.prog 75 (Value.nilFunc) := ⟨fun _ => by kernel_rfl⟩
instance in75 : InfoA Tryd.prog 75 (Value.nilFunc) 1 8 := ⟨by kernel_rfl⟩
instance ty79 : TyA Tryd.prog 79 false 1 := ⟨fun _ => by kernel_rfl, fun _ => by kernel_rfl⟩
instance ze79 : ZeroA Tryd.prog 79 (Value.nilFunc) := ⟨fun _ => by kernel_rfl⟩
instance in79 : InfoA Tryd.prog 79 (Value.nilFunc) 1 8 := ⟨by kernel_rfl⟩
instance ty80 : TyA Tryd.prog 80 false 1 := ⟨fun _ => by kernel_rfl, fun _ => by kernel_rfl⟩
instance ze80 : ZeroA Tryd.prog 80 (Value.nilFunc) := ⟨fun _ => by kernel_rfl⟩
instance in80 : InfoA Tryd.prog 80 (Value.nilFunc) 1 8 := ⟨by kernel_rfl⟩
instance ty81 : TyA Tryd.prog 81 false 1 := ⟨fun _ => by kernel_rfl, fun _ => by kernel_rfl⟩
instance ze81 : ZeroA Tryd.prog 81 (Value.nilFunc) := ⟨fun _ => by kernel_rfl⟩
instance in81 : InfoA Tryd.prog 81 (Value.nilFunc) 1 8 := ⟨by kernel_rfl⟩
instance ty82 : TyA Tryd.prog 82 false 1 := ⟨fun _ => by kernel_rfl, fun _ => by kernel_rfl⟩
instance ze82 : ZeroA Tryd.prog 82 (Value.nilFunc) := ⟨fun _ => by kernel_rfl⟩
instance in82 : InfoA Tryd.prog 82 (Value.nilFunc) 1 8 := ⟨by kernel_rfl⟩
instance ty86 : TyA Tryd.prog 86 false 1 := ⟨fun _ => by kernel_rfl, fun _ => by kernel_rfl⟩
instance ze86 : ZeroA Tryd.prog 86 (Value.nilFunc) := ⟨fun _ => by kernel_rfl⟩
instance in86 : InfoA Tryd.prog 86 (Value.nilFunc) 1 8 := ⟨by kernel_rfl⟩
instance ty87 : TyA Tryd.prog 87 false 1 := ⟨fun _ => by kernel_rfl, fun _ => by kernel_rfl⟩
instance ze87 : ZeroA Tryd.prog 87 (Value.nilFunc) := ⟨fun _ => by kernel_rfl⟩
instance in87 : InfoA Tryd.prog 87 (Value.nilFunc) 1 8 := ⟨by kernel_rfl⟩
instance ty88 : TyA Tryd.prog 88 false 1 := ⟨fun _ => by kernel_rfl, fun _ => by kernel_rfl⟩
instance ze88 : ZeroA Tryd.prog 88 (Value.nilFunc) := ⟨fun _ => by kernel_rfl⟩
instance in88 : InfoA Tryd.prog 88 (Value.nilFunc) 1 8 := ⟨by kernel_rfl⟩
instance ty89 : TyA Tryd.prog 89 false 1 := ⟨fun _ => by kernel_rfl, fun _ => by kernel_rfl⟩
instance ze89 : ZeroA Tryd.prog 89 (Value.nilFunc) := ⟨fun _ => by kernel_rfl⟩
instance in89 : InfoA Tryd.prog 89 (Value.nilFunc) 1 8 := ⟨by kernel_rfl⟩
instance ty90 : TyA Tryd.prog 90 false 1 := ⟨fun _ => by kernel_rfl, fun _ => by kernel_rfl⟩
instance ze90 : ZeroA Tryd.prog 90 (Value.nilFunc) := ⟨fun _ => by kernel_rfl⟩
instance in90 : InfoA Tryd.prog 90 (Value.nilFunc) 1 8 := ⟨by kernel_rfl⟩
instance ty91 : TyA Tryd.prog 91 false 1 := ⟨fun _ => by kernel_rfl, fun _ => by kernel_rfl⟩
instance ze91 : ZeroA Tryd.prog 91 (Value.nilFunc) := ⟨fun _ => by kernel_rfl⟩
instance in91 : InfoA Tryd.prog 91 (Value.nilFunc) 1 8 := ⟨by kernel_rfl⟩
instance ty92 : TyA Tryd.prog 92 false 1 := ⟨fun _ => by kernel_rfl, fun _ => by kernel_rfl⟩
instance ze92 : ZeroA Tryd.prog 92 (Value.nilFunc) := ⟨fun _ => by kernel_rfl⟩
instance in92 : InfoA Tryd.prog 92 (Value.nilFunc) 1 8 := ⟨by kernel_rfl⟩
instance ty93 : TyA Tryd.prog 93 false 1 := ⟨fun _ => by kernel_rfl, fun _ => by kernel_rfl⟩
instance ze93 : ZeroA Tryd.prog 93 (Value.nilFunc) := ⟨fun _ => by kernel_rfl⟩
instance in93 : InfoA Tryd.prog 93 (Value.nilFunc) 1 8 := ⟨by kernel_rfl⟩
instance ty94 : TyA Tryd.prog 94 false 1 := ⟨fun _ => by kernel_rfl, fun _ => by kernel_rfl⟩
instance ze94 : ZeroA Tryd.prog 94 (Value.nilFunc) := ⟨fun _ => by kernel_rfl⟩
instance in94 : InfoA Tryd.prog 94 (Value.nilFunc) 1 8 := ⟨by kernel_rfl⟩
instance ty96 : TyA Tryd.prog 96 false 1 := ⟨fun _ => by kernel_rfl, fun _ => by kernel_rfl⟩
instance ze96 : ZeroA Tryd.prog 96 (Value.nilFunc) := ⟨fun _ => by kernel_rfl⟩
instance in96 : InfoA Tryd.prog 96 (Value.nilFunc) 1 8 := ⟨by kernel_rfl⟩
instance ty97 : TyA Tryd.prog 97 false 1 := ⟨fun _ => by kernel_rfl, fun _ => by kernel_rfl⟩
instance ze97 : ZeroA Tryd.prog 97 (Value.nilFunc) := ⟨fun _ => by kernel_rfl⟩
instance in97 : InfoA Tryd.prog 97 (Value.nilFunc) 1 8 := ⟨by kernel_rfl⟩
instance ty98 : TyA Tryd.prog 98 false 1 := ⟨fun _ => by kernel_rfl, fun _ => by kernel_rfl⟩
instance ze98 : ZeroA Tryd.prog 98 (Value.nilFunc) := ⟨fun _ => by kernel_rfl⟩
instance in98 : InfoA Tryd.prog 98 (Value.nilFunc) 1 8 := ⟨by kernel_rfl⟩
instance ty99 : TyA Tryd.prog 99 false 1 := ⟨fun _ => by kernel_rfl, fun _ => by kernel_rfl⟩
instance ze99 : ZeroA Tryd.prog 99 (Value.nilFunc) := ⟨fun _ => by kernel_rfl⟩
instance in99 : InfoA Tryd.prog 99 (Value.nilFunc) 1 8 := ⟨by kernel_rfl⟩
instance ty100 : TyA Tryd.prog 100 false 1 := ⟨fun _ => by kernel_rfl, fun _ => by kernel_rfl⟩
instance ze100 : ZeroA Tryd.prog 100 (Value.nilFunc) := ⟨fun _ => by kernel_rfl⟩
instance in100 : InfoA Tryd.prog 100 (Value.nilFunc) 1 8 := ⟨by kernel_rfl⟩
instance ty101 : TyA Tryd.prog 101 false 1 := ⟨fun _ => by kernel_rfl, fun _ => by kernel_rfl⟩
instance ze101 : ZeroA Tryd.prog 101 (Value.nilFunc) := ⟨fun _ => by kernel_rfl⟩
instance in101 : InfoA Tryd.prog 101 (Value.nilFunc) 1 8 := ⟨by kernel_rfl⟩
instance ty103 : TyA Tryd.prog 103 false 1 := ⟨fun _ => by kernel_rfl, fun _ => by kernel_rfl⟩
instance ze103 : ZeroA Tryd.prog 103 (Value.nilFunc) := ⟨fun _ => by kernel_rfl⟩
instance in103 : InfoA Tryd.prog 103 (Value.nilFunc) 1 8 := ⟨by kernel_rfl⟩
instance ty104 : TyA Tryd.prog 104 false 1 := ⟨fun _ => by kernel_rfl, fun _ => by kernel_rfl⟩
instance ze104 : ZeroA Tryd.prog 104 (Value.nilFunc) := ⟨fun _ => by kernel_rfl⟩
instance in104 : InfoA Tryd.prog 104 (Value.nilFunc) 1 8 := ⟨by kernel_rfl⟩
instance ty106 : TyA Tryd.prog 106 false 1 := ⟨fun _ => by kernel_rfl, fun _ => by kernel_rfl⟩
instance ze106 : ZeroA Tryd.prog 106 (Value.nilFunc) := ⟨fun _ => by kernel_rfl⟩
instance in106 : InfoA Tryd.prog 106 (Value.nilFunc) 1 8 := ⟨by kernel_rfl⟩
instance ty107 : TyA Tryd.prog 107 false 1 := ⟨fun _ => by kernel_rfl, fun _ => by kernel_rfl⟩
instance ze107 : ZeroA Tryd.prog 107 (Value.nilFunc) := ⟨fun _ => by kernel_rfl⟩
instance in107 : InfoA Tryd.prog 107 (Value.nilFunc) 1 8 := ⟨by kernel_rfl⟩
instance ty110 : TyA Tryd.prog 110 false 1 := ⟨fun _ => by kernel_rfl, fun _ => by kernel_rfl⟩
instance ze110 : ZeroA Tryd.prog 110 (Value.nilFunc) := ⟨fun _ => by kernel_rfl⟩
instance in110 : InfoA Tryd.prog 110 (Value.nilFunc) 1 8 := ⟨by kernel_rfl⟩
instance ty114 : TyA Tryd.prog 114 false 1 := ⟨fun _ => by kernel_rfl, fun _ => by kernel_rfl⟩
instance ze114 : ZeroA Tryd.prog 114 (Value.nilFunc) := ⟨fun _ => by kernel_rfl⟩
instance in114 : InfoA Tryd.prog 114 (Value.nilFunc) 1 8 := ⟨by kernel_rfl⟩
instance ty116 : TyA Tryd.prog 116 false 1 := ⟨fun _ => by kernel_rfl, fun _ => by kernel_rfl⟩
instance ze116 : ZeroA Tryd.prog 116 (Value.nilFunc) := ⟨fun _ => by kernel_rfl⟩
instance in116 : InfoA Tryd.prog 116 (Value.nilFunc) 1 8 := ⟨by kernel_rfl⟩
instance ty117 : TyA Tryd.prog 117 false 1 := ⟨fun _ => by kernel_rfl, fun _ => by kernel_rfl⟩
instance ze117 : ZeroA Tryd.prog 117 (Value.nilFunc) := ⟨fun _ => by kernel_rfl⟩
instance in117 : InfoA Tryd.prog 117 (Value.nilFunc) 1 8 := ⟨by kernel_rfl⟩
instance ty119 : TyA Tryd.prog 119 false 1 := ⟨fun _ => by kernel_rfl, fun _ => by kernel_rfl⟩
instance ze119 : ZeroA Tryd.prog 119 (Value.nilFunc) := ⟨fun _ => by kernel_rfl⟩
instance in119 : InfoA Tryd.prog 119 (Value.nilFunc) 1 8 := ⟨by kernel_rfl⟩
instance ty120 : TyA Tryd.prog 120 false 1 := ⟨fun _ => by kernel_rfl, fun _ => by kernel_rfl⟩
instance ze120 : ZeroA Tryd.prog 120 (Value.nilFunc) := ⟨fun _ => by kernel_rfl⟩
instance in120 : InfoA Tryd.prog 120 (Value.nilFunc) 1 8 := ⟨by kernel_rfl⟩
instance ty121 : TyA Tryd.prog 121 false 1 := ⟨fun _ => by kernel_rfl, fun _ => by kernel_rfl⟩
instance ze121 : ZeroA Tryd.prog 121 (Value.nilFunc) := ⟨fun _ => by kernel_rfl⟩
instance in121 : InfoA Tryd.prog 121 (Value.nilFunc) 1 8 := ⟨by kernel_rfl⟩
instance ty123 : TyA Tryd.prog 123 false 1 := ⟨fun _ => by kernel_rfl, fun _ => by kernel_rfl⟩
instance ze123 : ZeroA Tryd.prog 123 (Value.nilFunc) := ⟨fun _ => by kernel_rfl⟩
instance in123 : InfoA Tryd.prog 123 (Value.nilFunc) 1 8 := ⟨by kernel_rfl⟩
instance ty124 : TyA Tryd.prog 124 false 1 := ⟨fun _ => by kernel_rfl, fun _ => by kernel_rfl⟩
instance ze124 : ZeroA Tryd.prog 124 (Value.nilFunc) := ⟨fun _ => by kernel_rfl⟩
instance in124 : InfoA Tryd.prog 124 (Value.nilFunc) 1 8 := ⟨by kernel_rfl⟩
instance bu125 : BuildA Tryd.prog 125 [(0, 1), (1, 1)] := ⟨by kernel_rfl, by kernel_rfl⟩
instance bu126 : BuildA Tryd.prog 126 [(0, 1), (1, 1)] := ⟨by kernel_rfl, by kernel_rfl⟩
instance ty128 : TyA Tryd.prog 128 false 1 := ⟨fun _ => by kernel_rfl, fun _ => by kernel_rfl⟩
instance ze128 : ZeroA Tryd.prog 128 (Value.nilFunc) := ⟨fun _ => by kernel_rfl⟩
instance in128 : InfoA Tryd.prog 128 (Value.nilFunc) 1 8 := ⟨by kernel_rfl⟩
instance ty131 : TyA Tryd.prog 131 false 1 := ⟨fun _ => by kernel_rfl, fun _ => by kernel_rfl⟩
instance ze131 : ZeroA Tryd.prog 131 (Value.nilFunc) := ⟨fun _ => by kernel_rfl⟩
instance in131 : InfoA Tryd.prog 131 (Value.nilFunc) 1 8 := ⟨by kernel_rfl⟩
instance ty132 : TyA Tryd.prog 132 false 1 := ⟨fun _ => by kernel_rfl, fun _ => by kernel_rfl⟩
instance ze132 : ZeroA Tryd.prog 132 (Value.nilFunc) := ⟨fun _ => by kernel_rfl⟩
instance in132 : InfoA Tryd.prog 132 (Value.nilFunc) 1 8 := ⟨by kernel_rfl⟩
instance ty133 : TyA Tryd.prog 133 false 1 := ⟨fun _ => by kernel_rfl, fun _ => by kernel_rfl⟩
instance ze133 : ZeroA Tryd.prog 133 (Value.nilFunc) := ⟨fun _ => by kernel_rfl⟩
instance in133 : InfoA Tryd.prog 133 (Value.nilFunc) 1 8 := ⟨by kernel_rfl⟩
instance ty134 : TyA Tryd.prog 134 false 1 := ⟨fun _ => by kernel_rfl, fun _ => by kernel_rfl⟩
instance ze134 : ZeroA Tryd.prog 134 (Value.nilFunc) := ⟨fun _ => by kernel_rfl⟩
instance in134 : InfoA Tryd.prog 134 (Value.nilFunc) 1 8 := ⟨by kernel_rfl⟩
instance ty135 : TyA Tryd.prog 135 false 1 := ⟨fun _ => by kernel_rfl, fun _ => by kernel_rfl⟩
instance ze135 : ZeroA Tryd.prog 135 (Value.nilFunc) := ⟨fun _ => by kernel_rfl⟩
instance in135 : InfoA Tryd.prog 135 (Value.nilFunc) 1 8 := ⟨by kernel_rfl⟩
instance ty136 : TyA Tryd.prog 136 false 1 := ⟨fun _ => by kernel_rfl, fun _ => by kernel_rfl⟩
instance ze136 : ZeroA Tryd.prog 136 (Value.nilFunc) := ⟨fun _ => by kernel_rfl⟩
instance in136 : InfoA Tryd.prog 136 (Value.nilFunc) 1 8 := ⟨by kernel_rfl⟩
instance ty137 : TyA Tryd.prog 137 false 1 := ⟨fun _ => by kernel_rfl, fun _ => by kernel_rfl⟩
instance ze137 : ZeroA Tryd.prog 137 (Value.nilFunc) := ⟨fun _ => by kernel_rfl⟩
instance in137 : InfoA Tryd.prog 137 (Value.nilFunc) 1 8 := ⟨by kernel_rfl⟩
instance ty138 : TyA Tryd.prog 138 false 1 := ⟨fun _ => by kernel_rfl, fun _ => by kernel_rfl⟩
instance ze138 : ZeroA Tryd.prog 138 (Value.nilFunc) := ⟨fun _ => by kernel_rfl⟩
instance in138 : InfoA Tryd.prog 138 (Value.nilFunc) 1 8 := ⟨by kernel_rfl⟩
instance ty139 : TyA Tryd.prog 139 false 1 := ⟨fun _ => by kernel_rfl, fun _ => by kernel_rfl⟩
instance ze139 : ZeroA Tryd.prog 139 (Value.nilFunc) := ⟨fun _ => by kernel_rfl⟩
instance in139 : InfoA Tryd.prog 139 (Value.nilFunc) 1 8 := ⟨by kernel_rfl⟩
instance ty140 : TyA Tryd.prog 140 false 1 := ⟨fun _ => by kernel_rfl, fun _ => by kernel_rfl⟩
instance ze140 : ZeroA Tryd.prog 140 (Value.nilFunc) := ⟨fun _ => by kernel_rfl⟩
instance in140 : InfoA Tryd.prog 140 (Value.nilFunc) 1 8 := ⟨by kernel_rfl⟩
instance ty141 : TyA Tryd.prog 141 false 1 := ⟨fun _ => by kernel_rfl, fun _ => by kernel_rfl⟩
instance ze141 : ZeroA Tryd.prog 141 (Value.nilFunc) := ⟨fun _ => by kernel_rfl⟩
instance in141 : InfoA Tryd.prog 141 (Value.nilFunc) 1 8 := ⟨by kernel_rfl⟩
instance ty144 : TyA Tryd.prog 144 false 1 := ⟨fun _ => by kernel_rfl, fun _ => by kernel_rfl⟩
instance ze144 : ZeroA Tryd.prog 144 (Value.nilFunc) := ⟨fun _ => by kernel_rfl⟩
instance in144 : InfoA Tryd.prog 144 (Value.nilFunc) 1 8 := ⟨by kernel_rfl⟩
instance ty145 : TyA Tryd.prog 145 false 1 := ⟨fun _ => by kernel_rfl, fun _ => by kernel_rfl⟩
instance ze145 : ZeroA Tryd.prog 145 (Value.nilFunc) := ⟨fun _ => by kernel_rfl⟩
instance in145 : InfoA Tryd.prog 145 (Value.nilFunc) 1 8 := ⟨by kernel_rfl⟩
instance ty147 : TyA Tryd.prog 147 false 1 := ⟨fun _ => by kernel_rfl, fun _ => by kernel_rfl⟩
instance ze147 : ZeroA Tryd.prog 147 (Value.nilFunc) := ⟨fun _ => by kernel_rfl⟩
instance in147 : InfoA Tryd.prog 147 (Value.nilFunc) 1 8 := ⟨by kernel_rfl⟩
instance ty148 : TyA Tryd.prog 148 false 1 := ⟨fun _ => by kernel_rfl, fun _ => by kernel_rfl⟩
instance ze148 : ZeroA Tryd.prog 148 (Value.nilFunc) := ⟨fun _ => by kernel_rfl⟩
instance in148 : InfoA Tryd.prog 148 (Value.nilFunc) 1 8 := ⟨by kernel_rfl⟩
instance ty149 : TyA Tryd.prog 149 false 1 := ⟨fun _ => by kernel_rfl, fun _ => by kernel_rfl⟩
instance ze149 : ZeroA Tryd.prog 149 (Value.nilFunc) := ⟨fun _ => by kernel_rfl⟩
instance in149 : InfoA Tryd.prog 149 (Value.nilFunc) 1 8 := ⟨by kernel_rfl⟩
instance ty151 : TyA Tryd.prog 151 false 1 := ⟨fun _ => by kernel_rfl, fun _ => by kernel_rfl⟩
instance ze151 : ZeroA Tryd.prog 151 (Value.nilFunc) := ⟨fun _ => by kernel_rfl⟩
instance in151 : InfoA Tryd.prog 151 (Value.nilFunc) 1 8 := ⟨by kernel_rfl⟩
instance ty154 : TyA Tryd.prog 154 false 1 := ⟨fun _ => by kernel_rfl, fun _ => by kernel_rfl⟩
instance ze154 : ZeroA Tryd.prog 154 (Value.nilFunc) := ⟨fun _ => by kernel_rfl⟩
instance in154 : InfoA Tryd.prog 154 (Value.nilFunc) 1 8 := ⟨by kernel_rfl⟩
instance ty156 : TyA Tryd.prog 156 false 1 := ⟨fun _ => by kernel_rfl, fun _ => by kernel_rfl⟩
instance ze156 : ZeroA Tryd.prog 156 (Value.nilFunc) := ⟨fun _ => by kernel_rfl⟩
instance in156 : InfoA Tryd.prog 156 (Value.nilFunc) 1 8 := ⟨by kernel_rfl⟩
instance ty157 : TyA Tryd.prog 157 false 1 := ⟨fun _ => by kernel_rfl, fun _ => by kernel_rfl⟩
instance ze157 : ZeroA Tryd.prog 157 (Value.nilFunc) := ⟨fun _ => by kernel_rfl⟩
instance in157 : InfoA Tryd.prog 157 (Value.nilFunc) 1 8 := ⟨by kernel_rfl⟩
instance ty158 : TyA Tryd.prog 158 false 1 := ⟨fun _ => by kernel_rfl, fun _ => by kernel_rfl⟩
instance ze158 : ZeroA Tryd.prog 158 (Value.nilFunc) := ⟨fun _ => by kernel_rfl⟩
instance in158 : InfoA Tryd.prog 158 (Value.nilFunc) 1 8 := ⟨by kernel_rfl⟩
instance ty159 : TyA Tryd.prog 159 false 1 := ⟨fun _ => by kernel_rfl, fun _ => by kernel_rfl⟩
instance ze159 : ZeroA Tryd.prog 159 (Value.nilFunc) := ⟨fun _ => by kernel_rfl⟩
instance in159 : InfoA Tryd.prog 159 (Value.nilFunc) 1 8 := ⟨by kernel_rfl⟩
instance ty160 : TyA Tryd.prog 160 false 1 := ⟨fun _ => by kernel_rfl, fun _ => by kernel_rfl⟩
instance ze160 : ZeroA Tryd.prog 160 (Value.nilFunc) := ⟨fun _ => by kernel_rfl⟩
instance in160 : InfoA Tryd.prog 160 (Value.nilFunc) 1 8 := ⟨by kernel_rfl⟩
instance ty162 : TyA Tryd.prog 162 false 1 := ⟨fun _ => by kernel_rfl, fun _ => by kernel_rfl⟩
instance ze162 : ZeroA Tryd.prog 162 (Value.nilFunc) := ⟨fun _ => by kernel_rfl⟩
instance in162 : InfoA Tryd.prog 162 (Value.nilFunc) 1 8 := ⟨by kernel_rfl⟩
instance ty163 : TyA Tryd.prog 163 false 1 := ⟨fun _ => by kernel_rfl, fun _ => by kernel_rfl⟩
instance ze163 : ZeroA Tryd.prog 163 (Value.nilFunc) := ⟨fun _ => by kernel_rfl⟩
instance in163 : InfoA Tryd.prog 163 (Value.nilFunc) 1 8 := ⟨by kernel_rfl⟩
instance ty169 : TyA Tryd.prog 169 false 1 := ⟨fun _ => by kernel_rfl, fun _ => by kernel_rfl⟩
instance ze169 : ZeroA Tryd.prog 169 (Value.nilFunc) := ⟨fun _ => by kernel_rfl⟩
instance in169 : InfoA Tryd.prog 169 (Value.nilFunc) 1 8 := ⟨by kernel_rfl⟩
instance ty172 : TyA Tryd.prog 172 false 1 := ⟨fun _ => by kernel_rfl, fun _ => by kernel_rfl⟩
instance ze172 : ZeroA Tryd.prog 172 (Value.nilFunc) := ⟨fun _ => by kernel_rfl⟩
instance in172 : InfoA Tryd.prog 172 (Value.nilFunc) 1 8 := ⟨by kernel_rfl⟩
instance bu176 : BuildA Tryd.prog 176 [(0, 1), (1, 1), (2, 1), (3, 1), (4, 1), (5, 1), (6, 1), (7, 1), (8, 1), (9, 1), (10, 1)] := ⟨by kernel_rfl, by kernel_rfl⟩
instance bu177 : BuildA Tryd.prog 177 [(0, 1), (1, 1), (2, 1), (3, 1), (4, 1), (5, 1), (6, 1), (7, 1), (8, 1), (9, 1), (10, 1)] := ⟨by kernel_rfl, by kernel_rfl⟩
end Go.Proofs.YteadaggehndacaaDoor
/- Worlds: copies of rows, accesses of words: contracts. -/
namespace Go.Proofs.YteadaggehndacaaDoor
set_option maxRecDepth 100000
set_option maxHeartbeats 16000000
open Go Go.RowKit
set_option linter.unusedSimpArgs false
attribute [local irreducible] zY zZ Step zQ Sub zO zR Fn
/-- words, as a slice's elements -/
def wds (ws : List Int) : List PV := ws.map fun n => .val (.int .u64 n)
theorem wR (ws : List Int) : (wds ws).length = ws.length := by simp [wds]
theorem wds_one (ws : List Int) : ∀ e ∈ wds ws, e.cells = [e] := fun e he => by
  obtain ⟨x, _, rfl⟩ := List.mem_map.1 he
  rfl
theorem vT (ws : List Int) : ∀ e ∈ wds ws, e.cells.length = 1 := fun e he => by rw [wds_one ws e he]; rfl
theorem grow_lim (n k : Nat) (h : n ≤ 1000000) (hk : k ≤ 1000) : (([] : List PV).length + n) * k ≤ 140737488355328 ∧ ([] : List PV).length + n ≤ maxLen := by
  have h2 : n * k ≤ 1000000 * 1000 := Nat.mul_le_mul h hk
  simp only [List.length_nil, Nat.zero_add, maxLen]
  omega
theorem cloneW_fn (ws : List Int) (h0 : 1 ≤ ws.length) (h1 : ws.length ≤ 1000000) : Fn Tryd.prog 50 [.sl (wds ws)] (.row 27 1 (wds ws).length (flat (wds ws))) := by
  have g1 := vT ws
  have g2 : wds ws ≠ [] := fun e => by have := congrArg List.length e; rw [wR, List.length_nil] at this; omega
  have g3 := grow_lim (wds ws).length 8 (by rw [wR]; exact h1) (by decide)
  refine xV Tryd.func50 rfl Tryd.ntmps50 (Nat.le_of_ble_eq_true rfl) ?_
  repeat' ((refine zZ.is ?_; first | refine zZ.seq ?_ | (refine zZ.iq 0 ?_; refine zZ.rqb _ K_b K_q ?_; (refine zY.v rfl rfl (zV rfl rfl rfl (by decide)) ?_); refine zY.nil ?_) | (refine zZ.iq 1 ?_; refine zZ.rqb _ K_11 K_q ?_; (refine zY.v rfl rfl (zJ rfl rfl rfl (by decide)) ?_); (refine zY.v rfl rfl (by exact r_eqlNil rfl rfl rfl (by exact g2) (by exact bF (by decide)) rfl (by decide)) ?_); refine zY.nil ?_) | (refine zZ.iq 3 ?_; refine zZ.rqb _ K_11 K_q ?_; (refine zY.m rfl rfl (w_build0V rfl rfl (by decide)) ?_); (refine zY.v rfl rfl (zJ rfl rfl rfl (by decide)) ?_); (refine zY.w rfl (by exact w_appV rfl rfl rfl rfl (by exact g1) (by exact g3) rfl (by decide) rfl (by decide)) ?_); (refine zY.v rfl rfl (vY rfl rfl rfl (by decide)) ?_); refine zY.nil ?_) | refine zZ.yU rfl (by with_reducible rfl) ?_ | refine zZ.skip ?_ | refine zZ.ret ?_))
  all_goals exact ⟨by first | exact .inl rfl | exact .inr rfl, givesRowV rfl rfl rfl⟩
/-! ### The accesses of a word -/
def funV (f : Nat) : Value := .func (.func f) #[] #[]
def turnsL : List PV := [.agg [.val (.int .i64 0), .val (funV 79)], .agg [.val (.int .i64 1), .val (funV 80)], .agg [.val (.int .i64 2), .val (funV 81)], .agg [.val (.int .i64 3), .val (funV 82)], .agg [.val (.int .i64 4), .val (funV 83)]]
theorem turns_fn : Fn Tryd.prog 67 [] (.p (.sl turnsL)) := by
  refine xV Tryd.func67 rfl Tryd.ntmps67 (Nat.le_of_ble_eq_true rfl) ?_
  repeat' ((refine zZ.is ?_; first | refine zZ.seq ?_ | (refine zZ.isR (id := 0) ?_; refine zZ.yZ [] [0, 6] (by repeat' exact zX.nil) (by repeat' first | exact zW.nil | apply zW.skip) ?_; (refine zY.v rfl rfl (zV rfl rfl rfl (by decide)) ?_); refine zY.nil ?_) | (refine zZ.iq 1 ?_; refine zZ.rqb _ K_b K_1d ?_; (refine zY.v rfl rfl (y8 rfl (by rfl) (by rfl) (by rfl) (by rfl) rfl (by decide)) ?_); (refine zY.v rfl rfl (y8 rfl (by rfl) (by rfl) (by rfl) (by rfl) rfl (by decide)) ?_); (refine zY.v rfl rfl (y8 rfl (by rfl) (by rfl) (by rfl) (by rfl) rfl (by decide)) ?_); (refine zY.v rfl rfl (y8 rfl (by rfl) (by rfl) (by rfl) (by rfl) rfl (by decide)) ?_); (refine zY.v rfl rfl (y8 rfl (by rfl) (by rfl) (by rfl) (by rfl) rfl (by decide)) ?_); (refine zY.v rfl rfl (w_buildSl rfl (by decide) (by decide) (by decide) (by decide) (by rfl) (by rfl) (by rfl) (by rfl) (by rfl) (by rfl) (by rfl) rfl (by decide)) ?_); (refine zY.v rfl rfl (zV rfl rfl rfl (by decide)) ?_); refine zY.nil ?_) | refine zZ.ret ?_))
  trace_state
  all_goals exact ⟨by first | exact .inl rfl | exact .inr rfl, _, Sub.refl _, .p rfl (.tmp rfl)⟩
/-- what an access of a word tells, and the word then -/
def xD (kind old a b : Int) : Int × Int := if kind = 0 then (old, old) else if kind = 1 then (0, a) else if kind = 2 then (if old = a then (1, b) else (0, old)) else if kind = 3 then (old, IntKind.u64.wrap (old + a)) else (old, a)
theorem turn1_fn (old kind cell a b : Int) (d w : PV) : Fn Tryd.prog 79 [.val (.int .u64 old), .agg [.val (.int .i64 kind), .val (.int .i64 cell), .val (.int .u64 a), .val (.int .u64 b), d, w]] (.tup [.val (.int .u64 old), .val (.int .u64 old)]) := by
  refine xV Tryd.func79 rfl Tryd.ntmps79 (Nat.le_of_ble_eq_true rfl) ?_
  repeat' ((refine zZ.is ?_; first | refine zZ.seq ?_ | (refine zZ.iq 0 ?_; refine zZ.rqb _ K_a K_k ?_; (refine zY.m rfl rfl (yP rfl rfl rfl (by decide)) ?_); (refine zY.v rfl rfl (zV rfl rfl rfl (by decide)) ?_); (refine zY.v rfl rfl (zV rfl rfl rfl (by decide)) ?_); refine zY.nil ?_) | (refine zZ.isR (id := 1) ?_; refine zZ.yZ [0, 4, 5] [3] (by repeat' first | exact zX.nil | apply zX.p rfl) (by repeat' first | exact zW.nil | apply zW.boxP rfl rfl) ?_; (refine zY.v rfl rfl (zJ rfl rfl rfl (by decide)) ?_); (refine zY.v rfl rfl (zJ rfl rfl rfl (by decide)) ?_); (refine zY.v rfl rfl (zV rfl rfl rfl (by decide)) ?_); (refine zY.v rfl rfl (zV rfl rfl rfl (by decide)) ?_); refine zY.nil ?_) | refine zZ.ret ?_))
  all_goals exact ⟨by first | exact .inl rfl | exact .inr rfl, _, Sub.refl _, .tupE rfl (by decide) (.cons (.tmp rfl) (.cons (.tmp rfl) .nil)) rfl⟩
theorem turn2_fn (old kind cell a b : Int) (d w : PV) : Fn Tryd.prog 80 [.val (.int .u64 old), .agg [.val (.int .i64 kind), .val (.int .i64 cell), .val (.int .u64 a), .val (.int .u64 b), d, w]] (.tup [.val (.int .u64 0), .val (.int .u64 a)]) := by
  refine xV Tryd.func80 rfl Tryd.ntmps80 (Nat.le_of_ble_eq_true rfl) ?_
  repeat' ((refine zZ.is ?_; first | refine zZ.seq ?_ | (refine zZ.iq 0 ?_; refine zZ.rqb _ K_5 K_k ?_; (refine zY.m rfl rfl (yP rfl rfl rfl (by decide)) ?_); (refine zY.v rfl rfl (zV rfl rfl rfl (by decide)) ?_); (refine zY.v rfl rfl (zV rfl rfl rfl (by decide)) ?_); refine zY.nil ?_) | (refine zZ.isR (id := 1) ?_; refine zZ.qX [3, 4, 5] [3] (by repeat' first | exact zX.nil | apply zX.p rfl | apply zX.ptr rfl) (by repeat' first | exact zW.nil | apply zW.boxP rfl rfl) (zZ.draws ?_); all_goals (refine Draws.v rfl rfl (zK rfl rfl rfl (by decide)) ?_); all_goals (refine Draws.v rfl rfl (zA rfl rfl rfl rfl rfl (by decide)) ?_); all_goals (refine Draws.v rfl rfl (zV rfl rfl rfl (by decide)) ?_); all_goals (refine Draws.v rfl rfl (zV rfl rfl rfl (by decide)) ?_); all_goals ((refine Draws.done (by kernel_rfl) (by kernel_rfl) (by kernel_rfl) ?_; refine zO.nil ?_))) | refine zZ.ret ?_))
  all_goals exact ⟨by first | exact .inl rfl | exact .inr rfl, _, Sub.refl _, .tupE rfl (by decide) (.cons (.tmp rfl) (.cons (.tmp rfl) .nil)) rfl⟩
theorem turn3_fn (old kind cell a b : Int) (d w : PV) : Fn Tryd.prog 81 [.val (.int .u64 old), .agg [.val (.int .i64 kind), .val (.int .i64 cell), .val (.int .u64 a), .val (.int .u64 b), d, w]] (.tup [.val (.int .u64 (xD 2 old a b).1), .val (.int .u64 (xD 2 old a b).2)]) := by
  refine xV Tryd.func81 rfl Tryd.ntmps81 (Nat.le_of_ble_eq_true rfl) ?_
  repeat' (first | (refine zZ.is ?_; first | refine zZ.seq ?_ | (refine zZ.iq 0 ?_; refine zZ.rqb _ K_a K_k ?_; (refine zY.m rfl rfl (yP rfl rfl rfl (by decide)) ?_); (refine zY.v rfl rfl (zV rfl rfl rfl (by decide)) ?_); (refine zY.v rfl rfl (zV rfl rfl rfl (by decide)) ?_); refine zY.nil ?_) | (refine zZ.iq 1 ?_; refine zZ.rqa _ K_22 K_k ?_; (refine zY.v rfl rfl (zJ rfl rfl rfl (by decide)) ?_); (refine zY.v rfl rfl (zK rfl rfl rfl (by decide)) ?_); (refine zY.v rfl rfl (zA rfl rfl rfl rfl rfl (by decide)) ?_); (refine zY.v rfl rfl (r_eql rfl rfl rfl (by rfl) rfl (by decide)) ?_); refine zY.nil ?_) | (refine zZ.isR (id := 2) ?_; refine zZ.qX [0, 3, 4, 5] [3] (by repeat' first | exact zX.nil | apply zX.p rfl | apply zX.ptr rfl) (by repeat' first | exact zW.nil | apply zW.boxP rfl rfl) (zZ.draws ?_); all_goals (refine Draws.v rfl rfl (zK rfl rfl rfl (by decide)) ?_); all_goals (refine Draws.v rfl rfl (zA rfl rfl rfl rfl rfl (by decide)) ?_); all_goals (refine Draws.v rfl rfl (zV rfl rfl rfl (by decide)) ?_); all_goals (refine Draws.v rfl rfl (zV rfl rfl rfl (by decide)) ?_); all_goals ((refine Draws.done (by kernel_rfl) (by kernel_rfl) (by kernel_rfl) ?_; refine zO.nil ?_))) | (refine zZ.isR (id := 3) ?_; refine zZ.yZ [0, 4, 5] [3] (by repeat' first | exact zX.nil | apply zX.p rfl) (by repeat' first | exact zW.nil | apply zW.boxP rfl rfl) ?_; (refine zY.v rfl rfl (zJ rfl rfl rfl (by decide)) ?_); (refine zY.v rfl rfl (zV rfl rfl rfl (by decide)) ?_); (refine zY.v rfl rfl (zV rfl rfl rfl (by decide)) ?_); refine zY.nil ?_) | refine zZ.cond rfl (fun h => ?_) (fun h => ?_) | refine zZ.skip ?_ | refine zZ.ret ?_) | refine zS.r ?_)
  all_goals exact ⟨by first | exact .inl rfl | exact .inr rfl, _, Sub.refl _, .tupE rfl (by decide) (.cons (.tmp rfl) (.cons (.tmp rfl) .nil)) (by simp_all [xD])⟩
theorem turn4_fn (old kind cell a b : Int) (d w : PV) : Fn Tryd.prog 82 [.val (.int .u64 old), .agg [.val (.int .i64 kind), .val (.int .i64 cell), .val (.int .u64 a), .val (.int .u64 b), d, w]] (.tup [.val (.int .u64 old), .val (.int .u64 (IntKind.u64.wrap (old + a)))]) := by
  refine xV Tryd.func82 rfl Tryd.ntmps82 (Nat.le_of_ble_eq_true rfl) ?_
  repeat' ((refine zZ.is ?_; first | refine zZ.seq ?_ | (refine zZ.iq 0 ?_; refine zZ.rqb _ K_a K_k ?_; (refine zY.m rfl rfl (yP rfl rfl rfl (by decide)) ?_); (refine zY.v rfl rfl (zV rfl rfl rfl (by decide)) ?_); (refine zY.v rfl rfl (zV rfl rfl rfl (by decide)) ?_); refine zY.nil ?_) | (refine zZ.isR (id := 1) ?_; refine zZ.qX [0, 3, 4, 5] [3] (by repeat' first | exact zX.nil | apply zX.p rfl | apply zX.ptr rfl) (by repeat' first | exact zW.nil | apply zW.boxP rfl rfl) (zZ.draws ?_); all_goals (refine Draws.v rfl rfl (zJ rfl rfl rfl (by decide)) ?_); all_goals (refine Draws.v rfl rfl (zJ rfl rfl rfl (by decide)) ?_); all_goals (refine Draws.v rfl rfl (zK rfl rfl rfl (by decide)) ?_); all_goals (refine Draws.v rfl rfl (zA rfl rfl rfl rfl rfl (by decide)) ?_); all_goals (refine Draws.v rfl rfl (q9 rfl rfl rfl (by rfl) rfl (by decide)) ?_); all_goals (refine Draws.v rfl rfl (zV rfl rfl rfl (by decide)) ?_); all_goals (refine Draws.v rfl rfl (zV rfl rfl rfl (by decide)) ?_); all_goals ((refine Draws.done (by kernel_rfl) (by kernel_rfl) (by kernel_rfl) ?_; refine zO.nil ?_))) | refine zZ.ret ?_))
  all_goals exact ⟨by first | exact .inl rfl | exact .inr rfl, _, Sub.refl _, .tupE rfl (by decide) (.cons (.tmp rfl) (.cons (.tmp rfl) .nil)) rfl⟩
theorem turn5_fn (old kind cell a b : Int) (d w : PV) : Fn Tryd.prog 83 [.val (.int .u64 old), .agg [.val (.int .i64 kind), .val (.int .i64 cell), .val (.int .u64 a), .val (.int .u64 b), d, w]] (.tup [.val (.int .u64 old), .val (.int .u64 (a))]) := by
  refine xV Tryd.func83 rfl Tryd.ntmps83 (Nat.le_of_ble_eq_true rfl) ?_
  repeat' ((refine zZ.is ?_; first | refine zZ.seq ?_ | (refine zZ.iq 0 ?_; refine zZ.rqb _ K_a K_k ?_; (refine zY.m rfl rfl (yP rfl rfl rfl (by decide)) ?_); (refine zY.v rfl rfl (zV rfl rfl rfl (by decide)) ?_); (refine zY.v rfl rfl (zV rfl rfl rfl (by decide)) ?_); refine zY.nil ?_) | (refine zZ.isR (id := 1) ?_; refine zZ.qX [0, 3, 4, 5] [3] (by repeat' first | exact zX.nil | apply zX.p rfl | apply zX.ptr rfl) (by repeat' first | exact zW.nil | apply zW.boxP rfl rfl) (zZ.draws ?_); all_goals (refine Draws.v rfl rfl (zJ rfl rfl rfl (by decide)) ?_); all_goals (refine Draws.v rfl rfl (zK rfl rfl rfl (by decide)) ?_); all_goals (refine Draws.v rfl rfl (zA rfl rfl rfl rfl rfl (by decide)) ?_); all_goals (refine Draws.v rfl rfl (zV rfl rfl rfl (by decide)) ?_); all_goals (refine Draws.v rfl rfl (zV rfl rfl rfl (by decide)) ?_); all_goals ((refine Draws.done (by kernel_rfl) (by kernel_rfl) (by kernel_rfl) ?_; refine zO.nil ?_))) | refine zZ.ret ?_))
  all_goals exact ⟨by first | exact .inl rfl | exact .inr rfl, _, Sub.refl _, .tupE rfl (by decide) (.cons (.tmp rfl) (.cons (.tmp rfl) .nil)) rfl⟩
end Go.Proofs.YteadaggehndacaaDoor
/- An access of a word: contracts. -/
namespace Go.Proofs.YteadaggehndacaaDoor
set_option maxRecDepth 100000
set_option maxHeartbeats 16000000
open Go Go.RowKit
set_option linter.unusedSimpArgs false
attribute [local irreducible] zY zZ Step zQ Sub zO zR Fn
def memV (t c : Int) (ws : List Int) : PV := .agg [.val (.int .i64 t), .val (.int .i64 c), .sl (wds ws)]
def resN (n : Int) : PV := .agg [.val (.int .u64 n), .val (.slice none 0 0), .val (.bool false)]
theorem turns_cells : ∀ e ∈ turnsL, e.cells.length = 2 := fun e he => by
  simp only [turnsL, List.mem_cons, List.not_mem_nil, or_false] at he
  rcases he with rfl | rfl | rfl | rfl | rfl <;> rfl
theorem kY (ws : List Int) (i : Nat) (x : Int) : (wds ws).set i (.val (.int .u64 x)) = wds (ws.set i x) := by simp [wds, List.map_set]
theorem wds_at {ws : List Int} {i : Nat} {x : Int} (h : ws[i]? = some x) : (wds ws)[i]? = some (.val (.int .u64 x)) := by simp [wds, h]
theorem qF {ws : List Int} {i : Nat} {x : Int} (h : ws[i]? = some x) : ws.set i x = ws := by
  apply List.ext_getElem?
  intro j
  rw [List.getElem?_set]
  by_cases hj : i = j
  · subst hj
    have := (List.getElem?_eq_some_iff.1 h).1
    rw [if_pos rfl, if_pos this, h]
  · rw [if_neg hj]
theorem eq_of_nd {x y : Int} (h : (!decide (x = y)) = false) : x = y := by simpa using h
theorem wB {t c n n' : Int} {ws' : List Int} {W : List PV} (h1 : W = wds ws') (h2 : n = n') : [memV t c ws', resN n'] = [.agg [.val (.int .i64 t), .val (.int .i64 c), .sl W], .agg [.val (.int .u64 n), .val (.slice none 0 0), .val (.bool false)]] := by
  subst h1 h2
  rfl
def wordsS (t c kind a b old : Int) (i : Nat) (ws : List Int) (d : PV) (k : Nat) : AS :=
  { t := [(2, .ptr 2 0), (3, .ptr 3 0), (4, .ptr 4 0), (5, .ptr 5 0), (6, .p (.val (.int .u64 old))), (30, .p (.sl turnsL)), (31, .p (.val (.int .i64 5))), (32, .p (.val (.int .i64 (k : Nat))))],
    s := [(2, .box 26 [.p (.val (.int .i64 t)), .p (.val (.int .i64 c)), .p (.sl (wds ws))]), (3, .box 73 [.p (.val (.int .i64 kind)), .p (.val (.int .i64 i)), .p (.val (.int .u64 a)), .p (.val (.int .u64 b)), .p d, .p xJ]),
      (4, .box 26 [.p (.val (.int .i64 0)), .p (.val (.int .i64 0)), .p (.val (.slice none 0 0))]), (5, .box 77 [.p (.val (.int .u64 0)), .p (.val (.slice none 0 0)), .p (.val (.bool false))])] }
theorem words_fn (t c kd a b old : Int) (hkd : 0 ≤ kd ∧ kd ≤ 4) (i : Nat) (ws : List Int) (d : PV) (hi : ws[i]? = some old) (h1 : ws.length ≤ 1000000) :
    Fn Tryd.prog 51 [memV t c ws, accV kd i a b d] (.tup [memV t c (ws.set i (xD kd old a b).2), resN (xD kd old a b).1]) := by
  have hlt : i < ws.length := (List.getElem?_eq_some_iff.1 hi).1
  have g1 := vT ws
  have g2 := turns_cells
  have g3 := wds_at hi
  have g4 : decide ((i : Int) < 0) = false := decide_eq_false (by omega)
  have g5 : decide (((wds ws).length : Int) ≤ (i : Int)) = false := decide_eq_false (by rw [wR]; omega)
  have g6 : (0 : Int) ≤ (i : Int) ∧ (i : Int) < (wds ws).length := by rw [wR]; omega
  have g7 : (i : Int).toNat < (wds ws).length := by rw [wR]; omega
  have c1 := cloneW_fn ws (by omega) h1
  refine xV Tryd.func51 rfl Tryd.ntmps51 (Nat.le_of_ble_eq_true rfl) ?_
  repeat' ((refine zZ.is ?_; first | refine zZ.seq ?_ | (refine zZ.iq 0 ?_; refine zZ.rqb _ K_a K_1 ?_; (refine zY.m rfl rfl (yP rfl rfl rfl (by decide)) ?_); (refine zY.m rfl rfl (yP rfl rfl rfl (by decide)) ?_); (refine zY.m rfl rfl (zG rfl (by decide) rfl (by decide)) ?_); (refine zY.m rfl rfl (zG rfl (by decide) rfl (by decide)) ?_); refine zY.nil ?_) | (refine zZ.iq 1 ?_; refine zZ.rql _ K_4 K_1 ?_; all_goals (refine zY.v rfl rfl (zK rfl rfl rfl (by decide)) ?_); all_goals (refine zY.v rfl rfl (zA rfl rfl rfl (by rfl) rfl (by decide)) ?_); all_goals (refine zY.v rfl rfl (by exact xP rfl rfl rfl (by exact g4) rfl (by decide)) ?_); all_goals (refine zY.v rfl rfl (zJ rfl rfl rfl (by decide)) ?_); all_goals (refine zY.gY rfl rfl (by decide) rfl (by assumption) rfl (by decide) (zK rfl rfl rfl (by decide)) ?_); all_goals (refine zY.gY rfl rfl (by decide) rfl (by assumption) rfl (by decide) (zA rfl rfl rfl (by rfl) rfl (by decide)) ?_); all_goals (refine zY.gY rfl rfl (by decide) rfl (by assumption) rfl (by decide) (zK rfl rfl rfl (by decide)) ?_); all_goals (refine zY.gY rfl rfl (by decide) rfl (by assumption) rfl (by decide) (zA rfl rfl rfl (by rfl) rfl (by decide)) ?_); all_goals (refine zY.gY rfl rfl (by decide) rfl (by assumption) rfl (by decide) (w_lenS rfl rfl rfl (by decide)) ?_); all_goals (refine zY.gY rfl rfl (by decide) rfl (by assumption) rfl (by decide) (by exact r_geq rfl rfl rfl (by exact g5) rfl (by decide)) ?_); all_goals (refine zY.v rfl rfl (by exact wP rfl rfl (by assumption) rfl rfl (by decide)) ?_); all_goals (refine zY.nil ?_)) | (refine zZ.iq 3 ?_; refine zZ.rql _ K_4 K_1 ?_; (refine zY.v rfl rfl (zK rfl rfl rfl (by decide)) ?_); (refine zY.v rfl rfl (zA rfl rfl rfl (by rfl) rfl (by decide)) ?_); (refine zY.v rfl rfl (zK rfl rfl rfl (by decide)) ?_); (refine zY.v rfl rfl (zA rfl rfl rfl (by rfl) rfl (by decide)) ?_); (refine zY.v rfl rfl (by exact xM rfl rfl rfl (by exact g1) (by exact g3) rfl (by decide)) ?_); (refine zY.v rfl rfl (w_load1 rfl rfl rfl rfl (by decide)) ?_); (refine zY.v rfl rfl (zV rfl rfl rfl (by decide)) ?_); refine zY.nil ?_) | (refine zZ.iq 4 ?_; refine zZ.rqc _ K_16 K_1 ?_; (refine zY.v rfl rfl (by exact yK (turns_fn) rfl rfl rfl (by decide)) ?_); (refine zY.v rfl rfl (w_lenS rfl rfl rfl (by decide)) ?_); (refine zY.v rfl rfl (zJ rfl rfl rfl (by decide)) ?_); refine zY.nil ?_) | refine zZ.yU rfl (by assumption) ?_ | refine zZ.skip ?_ | refine zZ.block ?_))
  refine zZ.loop (wordsS t c kd a b old i ws d) (fun k => (k : Int) ≤ kd) (fun k => 5 - k) 0 ?h0 hkd.1 ?rd
  case h0 =>
    exact yS K_e K_4
  case rd =>
    rintro k hk
    have hk6 : k = 0 ∨ k = 1 ∨ k = 2 ∨ k = 3 ∨ k = 4 := by omega
    rcases hk6 with rfl | rfl | rfl | rfl | rfl
    · have gl : decide (((0 : Nat) : Int) < 5) = true := rfl
      by_cases hke : kd = 0
      case neg =>
        have gw : IntKind.i64.wrap (((0 : Nat) : Int) + 1) = ((1 : Nat) : Int) := rfl
        have gd : (!decide ((0 : Int) = kd)) = true := by simp; omega
        repeat' (first | (refine zZ.is ?_; first | refine zZ.seq ?_ | (refine zZ.iq 5 ?_; refine zZ.rqd _ K_0 K_1 ?_; (refine zY.v rfl rfl (by exact xP rfl rfl rfl (by exact gl) rfl (by decide)) ?_); refine zY.nil ?_) | (refine zZ.iq 6 ?_; refine zZ.rqd _ K_0 K_1 ?_; (refine zY.v rfl rfl (by exact xM rfl rfl rfl (by exact g2) (by rfl) rfl (by decide)) ?_); (refine zY.v rfl rfl (by exact wO rfl rfl (by exact Nat.le_of_ble_eq_true rfl) rfl (by decide)) ?_); (refine zY.m rfl rfl (zG rfl (by decide) rfl (by decide)) ?_); (refine zY.w rfl (by exact zH rfl rfl rfl rfl rfl (by rfl) (by exact Nat.le_of_ble_eq_true rfl) rfl rfl) ?_); refine zY.nil ?_) | (refine zZ.iq 7 ?_; refine zZ.rqd _ K_0 K_1 ?_; (refine zY.v rfl rfl (zK rfl rfl rfl (by decide)) ?_); (refine zY.v rfl rfl (zA rfl rfl rfl (by rfl) rfl (by decide)) ?_); (refine zY.v rfl rfl (zK rfl rfl rfl (by decide)) ?_); (refine zY.v rfl rfl (zA rfl rfl rfl (by rfl) rfl (by decide)) ?_); (refine zY.v rfl rfl (by exact vZ rfl rfl rfl (by exact gd) rfl (by decide)) ?_); refine zY.nil ?_) | (refine zZ.iq 13 ?_; refine zZ.rqd _ K_0 K_1 ?_; (refine zY.v rfl rfl (by exact q9 rfl rfl rfl (by exact gw) rfl (by decide)) ?_); (refine zY.v rfl rfl (zJ rfl rfl rfl (by decide)) ?_); refine zY.nil ?_) | refine zZ.yT rfl (by assumption) ?_ | refine zZ.skip ?_ | refine zZ.block ?_ | refine zZ.exit ?_) | refine zS.n ?_)
        refine ⟨1, ?_, (by omega), by decide⟩
        exact yS K_e K_4
      case pos =>
        subst hke
        have gx : ∀ x : Int, (!decide (x = x)) = false := fun x => by simp
        repeat' (first | (refine zZ.is ?_; first | refine zZ.seq ?_ | (refine zZ.iq 5 ?_; refine zZ.rqd _ K_0 K_1 ?_; (refine zY.v rfl rfl (by exact xP rfl rfl rfl (by exact gl) rfl (by decide)) ?_); refine zY.nil ?_) | (refine zZ.iq 6 ?_; refine zZ.rqd _ K_0 K_1 ?_; (refine zY.v rfl rfl (by exact xM rfl rfl rfl (by exact g2) (by rfl) rfl (by decide)) ?_); (refine zY.v rfl rfl (by exact wO rfl rfl (by exact Nat.le_of_ble_eq_true rfl) rfl (by decide)) ?_); (refine zY.m rfl rfl (zG rfl (by decide) rfl (by decide)) ?_); (refine zY.w rfl (by exact zH rfl rfl rfl rfl rfl (by rfl) (by exact Nat.le_of_ble_eq_true rfl) rfl rfl) ?_); refine zY.nil ?_) | (refine zZ.iq 7 ?_; refine zZ.rqd _ K_0 K_1 ?_; (refine zY.v rfl rfl (zK rfl rfl rfl (by decide)) ?_); (refine zY.v rfl rfl (zA rfl rfl rfl (by rfl) rfl (by decide)) ?_); (refine zY.v rfl rfl (zK rfl rfl rfl (by decide)) ?_); (refine zY.v rfl rfl (zA rfl rfl rfl (by rfl) rfl (by decide)) ?_); (refine zY.v rfl rfl (by exact vZ rfl rfl rfl (by exact gx _) rfl (by decide)) ?_); refine zY.nil ?_) | (refine zZ.iq 8 ?_; refine zZ.rqd _ K_0 K_1 ?_; (refine zY.v rfl rfl (zK rfl rfl rfl (by decide)) ?_); (refine zY.v rfl rfl (zA rfl rfl rfl (by rfl) rfl (by decide)) ?_); (refine zY.v rfl rfl (zJ rfl rfl rfl (by decide)) ?_); (refine zY.v rfl rfl (zT rfl rfl rfl (by rfl) (by rfl) rfl (by decide)) ?_); (refine zY.ofT rfl (zR.eRet [] (FnE.ofFnT (turn1_fn old 0 i a b d xJ)) rfl (by decide) (wI rfl rfl) (by rfl) (wX (by decide) rfl (by repeat' exact trivial)) rfl rfl rfl rfl ?_)); (refine zY.v rfl rfl (xW rfl rfl rfl (by decide)) ?_); (refine zY.v rfl rfl (yY rfl rfl rfl rfl (by decide)) ?_); (refine zY.v rfl rfl (yY rfl rfl rfl rfl (by decide)) ?_); (refine zY.v rfl rfl (zV rfl rfl rfl (by decide)) ?_); (refine zY.v rfl rfl (zV rfl rfl rfl (by decide)) ?_); refine zY.nil ?_) | (refine zZ.iq 9 ?_; refine zZ.rqd _ K_0 K_1 ?_; (refine zY.v rfl rfl (zJ rfl rfl rfl (by decide)) ?_); (refine zY.v rfl rfl (zJ rfl rfl rfl (by decide)) ?_); (refine zY.v rfl rfl (by exact vZ rfl rfl rfl (by exact gx _) rfl (by decide)) ?_); refine zY.nil ?_) | (refine zZ.iq 12 ?_; refine zZ.rqc _ K_0 K_1 ?_; (refine zY.v rfl rfl (zT rfl rfl rfl (by rfl) (by rfl) rfl (by decide)) ?_); (refine zY.v rfl rfl (zJ rfl rfl rfl (by decide)) ?_); (refine zY.v rfl rfl (y8 rfl (by rfl) (by rfl) (by rfl) (by rfl) rfl (by decide)) ?_); (refine zY.w rfl (by exact zH rfl rfl rfl rfl rfl (by rfl) (by exact Nat.le_of_ble_eq_true rfl) rfl rfl) ?_); (refine zY.w rfl (by exact zH rfl rfl rfl rfl rfl (by rfl) (by exact Nat.le_of_ble_eq_true rfl) rfl rfl) ?_); refine zY.nil ?_) | refine zZ.yT rfl (by assumption) ?_ | refine zZ.yU rfl (by assumption) ?_ | refine zZ.skip ?_ | refine zZ.block ?_ | refine zZ.ret ?_) | refine zS.r ?_ | refine yA.r ?_)
        all_goals refine ⟨by first | exact .inl rfl | exact .inr rfl, _, Sub.refl _, .tupE (rs := [.cell 4 26, .cell 5 77]) rfl (by decide) (.cons (.cellN rfl rfl (by rfl) (by rfl)) (.cons (.cellN rfl rfl (by rfl) (by rfl)) .nil)) ?_⟩
        all_goals first
          | exact wB (kY ws i _) rfl
          | exact wB (congrArg wds (qF (hi.trans (congrArg some (eq_of_nd h).symm))).symm) rfl
          | exact wB (congrArg wds (qF hi).symm) rfl
    · have gl : decide (((1 : Nat) : Int) < 5) = true := rfl
      by_cases hke : kd = 1
      case neg =>
        have gw : IntKind.i64.wrap (((1 : Nat) : Int) + 1) = ((2 : Nat) : Int) := rfl
        have gd : (!decide ((1 : Int) = kd)) = true := by simp; omega
        repeat' (first | (refine zZ.is ?_; first | refine zZ.seq ?_ | (refine zZ.iq 5 ?_; refine zZ.rqd _ K_0 K_1 ?_; (refine zY.v rfl rfl (by exact xP rfl rfl rfl (by exact gl) rfl (by decide)) ?_); refine zY.nil ?_) | (refine zZ.iq 6 ?_; refine zZ.rqd _ K_0 K_1 ?_; (refine zY.v rfl rfl (by exact xM rfl rfl rfl (by exact g2) (by rfl) rfl (by decide)) ?_); (refine zY.v rfl rfl (by exact wO rfl rfl (by exact Nat.le_of_ble_eq_true rfl) rfl (by decide)) ?_); (refine zY.m rfl rfl (zG rfl (by decide) rfl (by decide)) ?_); (refine zY.w rfl (by exact zH rfl rfl rfl rfl rfl (by rfl) (by exact Nat.le_of_ble_eq_true rfl) rfl rfl) ?_); refine zY.nil ?_) | (refine zZ.iq 7 ?_; refine zZ.rqd _ K_0 K_1 ?_; (refine zY.v rfl rfl (zK rfl rfl rfl (by decide)) ?_); (refine zY.v rfl rfl (zA rfl rfl rfl (by rfl) rfl (by decide)) ?_); (refine zY.v rfl rfl (zK rfl rfl rfl (by decide)) ?_); (refine zY.v rfl rfl (zA rfl rfl rfl (by rfl) rfl (by decide)) ?_); (refine zY.v rfl rfl (by exact vZ rfl rfl rfl (by exact gd) rfl (by decide)) ?_); refine zY.nil ?_) | (refine zZ.iq 13 ?_; refine zZ.rqd _ K_0 K_1 ?_; (refine zY.v rfl rfl (by exact q9 rfl rfl rfl (by exact gw) rfl (by decide)) ?_); (refine zY.v rfl rfl (zJ rfl rfl rfl (by decide)) ?_); refine zY.nil ?_) | refine zZ.yT rfl (by assumption) ?_ | refine zZ.skip ?_ | refine zZ.block ?_ | refine zZ.exit ?_) | refine zS.n ?_)
        refine ⟨2, ?_, (by omega), by decide⟩
        exact yS K_e K_4
      case pos =>
        subst hke
        have gx : ∀ x : Int, (!decide (x = x)) = false := fun x => by simp
        repeat' (first | (refine zZ.is ?_; first | refine zZ.seq ?_ | (refine zZ.iq 5 ?_; refine zZ.rqd _ K_0 K_1 ?_; (refine zY.v rfl rfl (by exact xP rfl rfl rfl (by exact gl) rfl (by decide)) ?_); refine zY.nil ?_) | (refine zZ.iq 6 ?_; refine zZ.rqd _ K_0 K_1 ?_; (refine zY.v rfl rfl (by exact xM rfl rfl rfl (by exact g2) (by rfl) rfl (by decide)) ?_); (refine zY.v rfl rfl (by exact wO rfl rfl (by exact Nat.le_of_ble_eq_true rfl) rfl (by decide)) ?_); (refine zY.m rfl rfl (zG rfl (by decide) rfl (by decide)) ?_); (refine zY.w rfl (by exact zH rfl rfl rfl rfl rfl (by rfl) (by exact Nat.le_of_ble_eq_true rfl) rfl rfl) ?_); refine zY.nil ?_) | (refine zZ.iq 7 ?_; refine zZ.rqd _ K_0 K_1 ?_; (refine zY.v rfl rfl (zK rfl rfl rfl (by decide)) ?_); (refine zY.v rfl rfl (zA rfl rfl rfl (by rfl) rfl (by decide)) ?_); (refine zY.v rfl rfl (zK rfl rfl rfl (by decide)) ?_); (refine zY.v rfl rfl (zA rfl rfl rfl (by rfl) rfl (by decide)) ?_); (refine zY.v rfl rfl (by exact vZ rfl rfl rfl (by exact gx _) rfl (by decide)) ?_); refine zY.nil ?_) | (refine zZ.iq 8 ?_; refine zZ.rqd _ K_0 K_1 ?_; (refine zY.v rfl rfl (zK rfl rfl rfl (by decide)) ?_); (refine zY.v rfl rfl (zA rfl rfl rfl (by rfl) rfl (by decide)) ?_); (refine zY.v rfl rfl (zJ rfl rfl rfl (by decide)) ?_); (refine zY.v rfl rfl (zT rfl rfl rfl (by rfl) (by rfl) rfl (by decide)) ?_); (refine zY.ofT rfl (zR.eRet [] (FnE.ofFnT (turn2_fn old 1 i a b d xJ)) rfl (by decide) (wI rfl rfl) (by rfl) (wX (by decide) rfl (by repeat' exact trivial)) rfl rfl rfl rfl ?_)); (refine zY.v rfl rfl (xW rfl rfl rfl (by decide)) ?_); (refine zY.v rfl rfl (yY rfl rfl rfl rfl (by decide)) ?_); (refine zY.v rfl rfl (yY rfl rfl rfl rfl (by decide)) ?_); (refine zY.v rfl rfl (zV rfl rfl rfl (by decide)) ?_); (refine zY.v rfl rfl (zV rfl rfl rfl (by decide)) ?_); refine zY.nil ?_) | (refine zZ.iq 9 ?_; refine zZ.rqd _ K_0 K_1 ?_; (refine zY.v rfl rfl (zJ rfl rfl rfl (by decide)) ?_); (refine zY.v rfl rfl (zJ rfl rfl rfl (by decide)) ?_); (refine zY.v rfl rfl (vZ rfl rfl rfl (by rfl) rfl (by decide)) ?_); refine zY.nil ?_) | (refine zZ.iq 10 ?_; refine zZ.rqc _ K_0 K_1 ?_; (refine zY.v rfl rfl (zK rfl rfl rfl (by decide)) ?_); (refine zY.v rfl rfl (zA rfl rfl rfl (by rfl) rfl (by decide)) ?_); (refine zY.m rfl rfl (by exact vJ c1 rfl rfl rfl (by decide)) ?_); (refine zY.v rfl rfl (zK rfl rfl rfl (by decide)) ?_); (refine zY.w rfl (by exact vP rfl rfl rfl rfl rfl rfl (by exact Nat.le_of_ble_eq_true rfl) rfl rfl) ?_); refine zY.nil ?_) | (refine zZ.iq 11 ?_; refine zZ.rqf _ K_0 K_1 ?_; (refine zY.v rfl rfl (zK rfl rfl rfl (by decide)) ?_); (refine zY.v rfl rfl (vF rfl rfl rfl rfl rfl (by decide)) ?_); (refine zY.v rfl rfl (zK rfl rfl rfl (by decide)) ?_); (refine zY.v rfl rfl (zA rfl rfl rfl (by rfl) rfl (by decide)) ?_); (refine zY.v rfl rfl (zJ rfl rfl rfl (by decide)) ?_); (refine zY.v rfl rfl (by exact xH rfl rfl rfl rfl (by exact g6) rfl (by decide)) ?_); (refine zY.w rfl (by exact qC rfl rfl rfl rfl rfl (by exact g1) (by rfl) rfl (by exact g7) rfl) ?_); refine zY.nil ?_) | (refine zZ.isR (id := 12) ?_; refine zZ.sub (sub_frz (id := 54) rfl) ?_; refine zZ.rqc _ K_0 K_1 ?_; (refine zY.v rfl rfl (zT rfl rfl rfl (by rfl) (by rfl) rfl (by decide)) ?_); (refine zY.v rfl rfl (zJ rfl rfl rfl (by decide)) ?_); (refine zY.v rfl rfl (y8 rfl (by rfl) (by rfl) (by rfl) (by rfl) rfl (by decide)) ?_); (refine zY.w rfl (by exact zH rfl rfl rfl rfl rfl (by rfl) (by exact Nat.le_of_ble_eq_true rfl) rfl rfl) ?_); (refine zY.w rfl (by exact zH rfl rfl rfl rfl rfl (by rfl) (by exact Nat.le_of_ble_eq_true rfl) rfl rfl) ?_); refine zY.nil ?_) | (refine zZ.iq 12 ?_; refine zZ.rqc _ K_0 K_1 ?_; (refine zY.v rfl rfl (zT rfl rfl rfl (by rfl) (by rfl) rfl (by decide)) ?_); (refine zY.v rfl rfl (zJ rfl rfl rfl (by decide)) ?_); (refine zY.v rfl rfl (y8 rfl (by rfl) (by rfl) (by rfl) (by rfl) rfl (by decide)) ?_); (refine zY.w rfl (by exact zH rfl rfl rfl rfl rfl (by rfl) (by exact Nat.le_of_ble_eq_true rfl) rfl rfl) ?_); (refine zY.w rfl (by exact zH rfl rfl rfl rfl rfl (by rfl) (by exact Nat.le_of_ble_eq_true rfl) rfl rfl) ?_); refine zY.nil ?_) | refine zZ.yT rfl (by assumption) ?_ | refine zZ.yU rfl (by assumption) ?_ | refine zZ.cond rfl (fun h => ?_) (fun h => ?_) | refine zZ.skip ?_ | refine zZ.block ?_ | refine zZ.ret ?_) | refine zS.r ?_ | refine yA.r ?_)
        all_goals refine ⟨by first | exact .inl rfl | exact .inr rfl, _, Sub.refl _, .tupE (rs := [.cell 4 26, .cell 5 77]) rfl (by decide) (.cons (.cellN rfl rfl (by rfl) (by rfl)) (.cons (.cellN rfl rfl (by rfl) (by rfl)) .nil)) ?_⟩
        all_goals first
          | exact wB (kY ws i _) rfl
          | exact wB (congrArg wds (qF (hi.trans (congrArg some (eq_of_nd h).symm))).symm) rfl
          | exact wB (congrArg wds (qF hi).symm) rfl
    · have gl : decide (((2 : Nat) : Int) < 5) = true := rfl
      by_cases hke : kd = 2
      case neg =>
        have gw : IntKind.i64.wrap (((2 : Nat) : Int) + 1) = ((3 : Nat) : Int) := rfl
        have gd : (!decide ((2 : Int) = kd)) = true := by simp; omega
        repeat' (first | (refine zZ.is ?_; first | refine zZ.seq ?_ | (refine zZ.iq 5 ?_; refine zZ.rqd _ K_0 K_1 ?_; (refine zY.v rfl rfl (by exact xP rfl rfl rfl (by exact gl) rfl (by decide)) ?_); refine zY.nil ?_) | (refine zZ.iq 6 ?_; refine zZ.rqd _ K_0 K_1 ?_; (refine zY.v rfl rfl (by exact xM rfl rfl rfl (by exact g2) (by rfl) rfl (by decide)) ?_); (refine zY.v rfl rfl (by exact wO rfl rfl (by exact Nat.le_of_ble_eq_true rfl) rfl (by decide)) ?_); (refine zY.m rfl rfl (zG rfl (by decide) rfl (by decide)) ?_); (refine zY.w rfl (by exact zH rfl rfl rfl rfl rfl (by rfl) (by exact Nat.le_of_ble_eq_true rfl) rfl rfl) ?_); refine zY.nil ?_) | (refine zZ.iq 7 ?_; refine zZ.rqd _ K_0 K_1 ?_; (refine zY.v rfl rfl (zK rfl rfl rfl (by decide)) ?_); (refine zY.v rfl rfl (zA rfl rfl rfl (by rfl) rfl (by decide)) ?_); (refine zY.v rfl rfl (zK rfl rfl rfl (by decide)) ?_); (refine zY.v rfl rfl (zA rfl rfl rfl (by rfl) rfl (by decide)) ?_); (refine zY.v rfl rfl (by exact vZ rfl rfl rfl (by exact gd) rfl (by decide)) ?_); refine zY.nil ?_) | (refine zZ.iq 13 ?_; refine zZ.rqd _ K_0 K_1 ?_; (refine zY.v rfl rfl (by exact q9 rfl rfl rfl (by exact gw) rfl (by decide)) ?_); (refine zY.v rfl rfl (zJ rfl rfl rfl (by decide)) ?_); refine zY.nil ?_) | refine zZ.yT rfl (by assumption) ?_ | refine zZ.skip ?_ | refine zZ.block ?_ | refine zZ.exit ?_) | refine zS.n ?_)
        refine ⟨3, ?_, (by omega), by decide⟩
        exact yS K_e K_4
      case pos =>
        subst hke
        have gx : ∀ x : Int, (!decide (x = x)) = false := fun x => by simp
        repeat' (first | (refine zZ.is ?_; first | refine zZ.seq ?_ | (refine zZ.iq 5 ?_; refine zZ.rqd _ K_0 K_1 ?_; (refine zY.v rfl rfl (by exact xP rfl rfl rfl (by exact gl) rfl (by decide)) ?_); refine zY.nil ?_) | (refine zZ.iq 6 ?_; refine zZ.rqd _ K_0 K_1 ?_; (refine zY.v rfl rfl (by exact xM rfl rfl rfl (by exact g2) (by rfl) rfl (by decide)) ?_); (refine zY.v rfl rfl (by exact wO rfl rfl (by exact Nat.le_of_ble_eq_true rfl) rfl (by decide)) ?_); (refine zY.m rfl rfl (zG rfl (by decide) rfl (by decide)) ?_); (refine zY.w rfl (by exact zH rfl rfl rfl rfl rfl (by rfl) (by exact Nat.le_of_ble_eq_true rfl) rfl rfl) ?_); refine zY.nil ?_) | (refine zZ.iq 7 ?_; refine zZ.rqd _ K_0 K_1 ?_; (refine zY.v rfl rfl (zK rfl rfl rfl (by decide)) ?_); (refine zY.v rfl rfl (zA rfl rfl rfl (by rfl) rfl (by decide)) ?_); (refine zY.v rfl rfl (zK rfl rfl rfl (by decide)) ?_); (refine zY.v rfl rfl (zA rfl rfl rfl (by rfl) rfl (by decide)) ?_); (refine zY.v rfl rfl (by exact vZ rfl rfl rfl (by exact gx _) rfl (by decide)) ?_); refine zY.nil ?_) | (refine zZ.iq 8 ?_; refine zZ.rqd _ K_0 K_1 ?_; (refine zY.v rfl rfl (zK rfl rfl rfl (by decide)) ?_); (refine zY.v rfl rfl (zA rfl rfl rfl (by rfl) rfl (by decide)) ?_); (refine zY.v rfl rfl (zJ rfl rfl rfl (by decide)) ?_); (refine zY.v rfl rfl (zT rfl rfl rfl (by rfl) (by rfl) rfl (by decide)) ?_); (refine zY.ofT rfl (zR.eRet [] (FnE.ofFnT (turn3_fn old 2 i a b d xJ)) rfl (by decide) (wI rfl rfl) (by rfl) (wX (by decide) rfl (by repeat' exact trivial)) rfl rfl rfl rfl ?_)); (refine zY.v rfl rfl (xW rfl rfl rfl (by decide)) ?_); (refine zY.v rfl rfl (yY rfl rfl rfl rfl (by decide)) ?_); (refine zY.v rfl rfl (yY rfl rfl rfl rfl (by decide)) ?_); (refine zY.v rfl rfl (zV rfl rfl rfl (by decide)) ?_); (refine zY.v rfl rfl (zV rfl rfl rfl (by decide)) ?_); refine zY.nil ?_) | (refine zZ.iq 9 ?_; refine zZ.rqd _ K_0 K_1 ?_; (refine zY.v rfl rfl (zJ rfl rfl rfl (by decide)) ?_); (refine zY.v rfl rfl (zJ rfl rfl rfl (by decide)) ?_); (refine zY.v rfl rfl (vZ rfl rfl rfl (by rfl) rfl (by decide)) ?_); refine zY.nil ?_) | (refine zZ.iq 10 ?_; refine zZ.rqc _ K_0 K_1 ?_; (refine zY.v rfl rfl (zK rfl rfl rfl (by decide)) ?_); (refine zY.v rfl rfl (zA rfl rfl rfl (by rfl) rfl (by decide)) ?_); (refine zY.m rfl rfl (by exact vJ c1 rfl rfl rfl (by decide)) ?_); (refine zY.v rfl rfl (zK rfl rfl rfl (by decide)) ?_); (refine zY.w rfl (by exact vP rfl rfl rfl rfl rfl rfl (by exact Nat.le_of_ble_eq_true rfl) rfl rfl) ?_); refine zY.nil ?_) | (refine zZ.iq 11 ?_; refine zZ.rqf _ K_0 K_1 ?_; (refine zY.v rfl rfl (zK rfl rfl rfl (by decide)) ?_); (refine zY.v rfl rfl (vF rfl rfl rfl rfl rfl (by decide)) ?_); (refine zY.v rfl rfl (zK rfl rfl rfl (by decide)) ?_); (refine zY.v rfl rfl (zA rfl rfl rfl (by rfl) rfl (by decide)) ?_); (refine zY.v rfl rfl (zJ rfl rfl rfl (by decide)) ?_); (refine zY.v rfl rfl (by exact xH rfl rfl rfl rfl (by exact g6) rfl (by decide)) ?_); (refine zY.w rfl (by exact qC rfl rfl rfl rfl rfl (by exact g1) (by rfl) rfl (by exact g7) rfl) ?_); refine zY.nil ?_) | (refine zZ.isR (id := 12) ?_; refine zZ.sub (sub_frz (id := 54) rfl) ?_; refine zZ.rqc _ K_0 K_1 ?_; (refine zY.v rfl rfl (zT rfl rfl rfl (by rfl) (by rfl) rfl (by decide)) ?_); (refine zY.v rfl rfl (zJ rfl rfl rfl (by decide)) ?_); (refine zY.v rfl rfl (y8 rfl (by rfl) (by rfl) (by rfl) (by rfl) rfl (by decide)) ?_); (refine zY.w rfl (by exact zH rfl rfl rfl rfl rfl (by rfl) (by exact Nat.le_of_ble_eq_true rfl) rfl rfl) ?_); (refine zY.w rfl (by exact zH rfl rfl rfl rfl rfl (by rfl) (by exact Nat.le_of_ble_eq_true rfl) rfl rfl) ?_); refine zY.nil ?_) | (refine zZ.iq 12 ?_; refine zZ.rqc _ K_0 K_1 ?_; (refine zY.v rfl rfl (zT rfl rfl rfl (by rfl) (by rfl) rfl (by decide)) ?_); (refine zY.v rfl rfl (zJ rfl rfl rfl (by decide)) ?_); (refine zY.v rfl rfl (y8 rfl (by rfl) (by rfl) (by rfl) (by rfl) rfl (by decide)) ?_); (refine zY.w rfl (by exact zH rfl rfl rfl rfl rfl (by rfl) (by exact Nat.le_of_ble_eq_true rfl) rfl rfl) ?_); (refine zY.w rfl (by exact zH rfl rfl rfl rfl rfl (by rfl) (by exact Nat.le_of_ble_eq_true rfl) rfl rfl) ?_); refine zY.nil ?_) | refine zZ.yT rfl (by assumption) ?_ | refine zZ.yU rfl (by assumption) ?_ | refine zZ.cond rfl (fun h => ?_) (fun h => ?_) | refine zZ.skip ?_ | refine zZ.block ?_ | refine zZ.ret ?_) | refine zS.r ?_ | refine yA.r ?_)
        all_goals refine ⟨by first | exact .inl rfl | exact .inr rfl, _, Sub.refl _, .tupE (rs := [.cell 4 26, .cell 5 77]) rfl (by decide) (.cons (.cellN rfl rfl (by rfl) (by rfl)) (.cons (.cellN rfl rfl (by rfl) (by rfl)) .nil)) ?_⟩
        all_goals first
          | exact wB (kY ws i _) rfl
          | exact wB (congrArg wds (qF (hi.trans (congrArg some (eq_of_nd h).symm))).symm) rfl
          | exact wB (congrArg wds (qF hi).symm) rfl
    · have gl : decide (((3 : Nat) : Int) < 5) = true := rfl
      by_cases hke : kd = 3
      case neg =>
        have gw : IntKind.i64.wrap (((3 : Nat) : Int) + 1) = ((4 : Nat) : Int) := rfl
        have gd : (!decide ((3 : Int) = kd)) = true := by simp; omega
        repeat' (first | (refine zZ.is ?_; first | refine zZ.seq ?_ | (refine zZ.iq 5 ?_; refine zZ.rqd _ K_0 K_1 ?_; (refine zY.v rfl rfl (by exact xP rfl rfl rfl (by exact gl) rfl (by decide)) ?_); refine zY.nil ?_) | (refine zZ.iq 6 ?_; refine zZ.rqd _ K_0 K_1 ?_; (refine zY.v rfl rfl (by exact xM rfl rfl rfl (by exact g2) (by rfl) rfl (by decide)) ?_); (refine zY.v rfl rfl (by exact wO rfl rfl (by exact Nat.le_of_ble_eq_true rfl) rfl (by decide)) ?_); (refine zY.m rfl rfl (zG rfl (by decide) rfl (by decide)) ?_); (refine zY.w rfl (by exact zH rfl rfl rfl rfl rfl (by rfl) (by exact Nat.le_of_ble_eq_true rfl) rfl rfl) ?_); refine zY.nil ?_) | (refine zZ.iq 7 ?_; refine zZ.rqd _ K_0 K_1 ?_; (refine zY.v rfl rfl (zK rfl rfl rfl (by decide)) ?_); (refine zY.v rfl rfl (zA rfl rfl rfl (by rfl) rfl (by decide)) ?_); (refine zY.v rfl rfl (zK rfl rfl rfl (by decide)) ?_); (refine zY.v rfl rfl (zA rfl rfl rfl (by rfl) rfl (by decide)) ?_); (refine zY.v rfl rfl (by exact vZ rfl rfl rfl (by exact gd) rfl (by decide)) ?_); refine zY.nil ?_) | (refine zZ.iq 13 ?_; refine zZ.rqd _ K_0 K_1 ?_; (refine zY.v rfl rfl (by exact q9 rfl rfl rfl (by exact gw) rfl (by decide)) ?_); (refine zY.v rfl rfl (zJ rfl rfl rfl (by decide)) ?_); refine zY.nil ?_) | refine zZ.yT rfl (by assumption) ?_ | refine zZ.skip ?_ | refine zZ.block ?_ | refine zZ.exit ?_) | refine zS.n ?_)
        refine ⟨4, ?_, (by omega), by decide⟩
        exact yS K_e K_4
      case pos =>
        subst hke
        have gx : ∀ x : Int, (!decide (x = x)) = false := fun x => by simp
        repeat' (first | (refine zZ.is ?_; first | refine zZ.seq ?_ | (refine zZ.iq 5 ?_; refine zZ.rqd _ K_0 K_1 ?_; (refine zY.v rfl rfl (by exact xP rfl rfl rfl (by exact gl) rfl (by decide)) ?_); refine zY.nil ?_) | (refine zZ.iq 6 ?_; refine zZ.rqd _ K_0 K_1 ?_; (refine zY.v rfl rfl (by exact xM rfl rfl rfl (by exact g2) (by rfl) rfl (by decide)) ?_); (refine zY.v rfl rfl (by exact wO rfl rfl (by exact Nat.le_of_ble_eq_true rfl) rfl (by decide)) ?_); (refine zY.m rfl rfl (zG rfl (by decide) rfl (by decide)) ?_); (refine zY.w rfl (by exact zH rfl rfl rfl rfl rfl (by rfl) (by exact Nat.le_of_ble_eq_true rfl) rfl rfl) ?_); refine zY.nil ?_) | (refine zZ.iq 7 ?_; refine zZ.rqd _ K_0 K_1 ?_; (refine zY.v rfl rfl (zK rfl rfl rfl (by decide)) ?_); (refine zY.v rfl rfl (zA rfl rfl rfl (by rfl) rfl (by decide)) ?_); (refine zY.v rfl rfl (zK rfl rfl rfl (by decide)) ?_); (refine zY.v rfl rfl (zA rfl rfl rfl (by rfl) rfl (by decide)) ?_); (refine zY.v rfl rfl (by exact vZ rfl rfl rfl (by exact gx _) rfl (by decide)) ?_); refine zY.nil ?_) | (refine zZ.iq 8 ?_; refine zZ.rqd _ K_0 K_1 ?_; (refine zY.v rfl rfl (zK rfl rfl rfl (by decide)) ?_); (refine zY.v rfl rfl (zA rfl rfl rfl (by rfl) rfl (by decide)) ?_); (refine zY.v rfl rfl (zJ rfl rfl rfl (by decide)) ?_); (refine zY.v rfl rfl (zT rfl rfl rfl (by rfl) (by rfl) rfl (by decide)) ?_); (refine zY.ofT rfl (zR.eRet [] (FnE.ofFnT (turn4_fn old 3 i a b d xJ)) rfl (by decide) (wI rfl rfl) (by rfl) (wX (by decide) rfl (by repeat' exact trivial)) rfl rfl rfl rfl ?_)); (refine zY.v rfl rfl (xW rfl rfl rfl (by decide)) ?_); (refine zY.v rfl rfl (yY rfl rfl rfl rfl (by decide)) ?_); (refine zY.v rfl rfl (yY rfl rfl rfl rfl (by decide)) ?_); (refine zY.v rfl rfl (zV rfl rfl rfl (by decide)) ?_); (refine zY.v rfl rfl (zV rfl rfl rfl (by decide)) ?_); refine zY.nil ?_) | (refine zZ.iq 9 ?_; refine zZ.rqd _ K_0 K_1 ?_; (refine zY.v rfl rfl (zJ rfl rfl rfl (by decide)) ?_); (refine zY.v rfl rfl (zJ rfl rfl rfl (by decide)) ?_); (refine zY.v rfl rfl (vZ rfl rfl rfl (by rfl) rfl (by decide)) ?_); refine zY.nil ?_) | (refine zZ.iq 10 ?_; refine zZ.rqc _ K_0 K_1 ?_; (refine zY.v rfl rfl (zK rfl rfl rfl (by decide)) ?_); (refine zY.v rfl rfl (zA rfl rfl rfl (by rfl) rfl (by decide)) ?_); (refine zY.m rfl rfl (by exact vJ c1 rfl rfl rfl (by decide)) ?_); (refine zY.v rfl rfl (zK rfl rfl rfl (by decide)) ?_); (refine zY.w rfl (by exact vP rfl rfl rfl rfl rfl rfl (by exact Nat.le_of_ble_eq_true rfl) rfl rfl) ?_); refine zY.nil ?_) | (refine zZ.iq 11 ?_; refine zZ.rqf _ K_0 K_1 ?_; (refine zY.v rfl rfl (zK rfl rfl rfl (by decide)) ?_); (refine zY.v rfl rfl (vF rfl rfl rfl rfl rfl (by decide)) ?_); (refine zY.v rfl rfl (zK rfl rfl rfl (by decide)) ?_); (refine zY.v rfl rfl (zA rfl rfl rfl (by rfl) rfl (by decide)) ?_); (refine zY.v rfl rfl (zJ rfl rfl rfl (by decide)) ?_); (refine zY.v rfl rfl (by exact xH rfl rfl rfl rfl (by exact g6) rfl (by decide)) ?_); (refine zY.w rfl (by exact qC rfl rfl rfl rfl rfl (by exact g1) (by rfl) rfl (by exact g7) rfl) ?_); refine zY.nil ?_) | (refine zZ.isR (id := 12) ?_; refine zZ.sub (sub_frz (id := 54) rfl) ?_; refine zZ.rqc _ K_0 K_1 ?_; (refine zY.v rfl rfl (zT rfl rfl rfl (by rfl) (by rfl) rfl (by decide)) ?_); (refine zY.v rfl rfl (zJ rfl rfl rfl (by decide)) ?_); (refine zY.v rfl rfl (y8 rfl (by rfl) (by rfl) (by rfl) (by rfl) rfl (by decide)) ?_); (refine zY.w rfl (by exact zH rfl rfl rfl rfl rfl (by rfl) (by exact Nat.le_of_ble_eq_true rfl) rfl rfl) ?_); (refine zY.w rfl (by exact zH rfl rfl rfl rfl rfl (by rfl) (by exact Nat.le_of_ble_eq_true rfl) rfl rfl) ?_); refine zY.nil ?_) | (refine zZ.iq 12 ?_; refine zZ.rqc _ K_0 K_1 ?_; (refine zY.v rfl rfl (zT rfl rfl rfl (by rfl) (by rfl) rfl (by decide)) ?_); (refine zY.v rfl rfl (zJ rfl rfl rfl (by decide)) ?_); (refine zY.v rfl rfl (y8 rfl (by rfl) (by rfl) (by rfl) (by rfl) rfl (by decide)) ?_); (refine zY.w rfl (by exact zH rfl rfl rfl rfl rfl (by rfl) (by exact Nat.le_of_ble_eq_true rfl) rfl rfl) ?_); (refine zY.w rfl (by exact zH rfl rfl rfl rfl rfl (by rfl) (by exact Nat.le_of_ble_eq_true rfl) rfl rfl) ?_); refine zY.nil ?_) | refine zZ.yT rfl (by assumption) ?_ | refine zZ.yU rfl (by assumption) ?_ | refine zZ.cond rfl (fun h => ?_) (fun h => ?_) | refine zZ.skip ?_ | refine zZ.block ?_ | refine zZ.ret ?_) | refine zS.r ?_ | refine yA.r ?_)
        all_goals refine ⟨by first | exact .inl rfl | exact .inr rfl, _, Sub.refl _, .tupE (rs := [.cell 4 26, .cell 5 77]) rfl (by decide) (.cons (.cellN rfl rfl (by rfl) (by rfl)) (.cons (.cellN rfl rfl (by rfl) (by rfl)) .nil)) ?_⟩
        all_goals first
          | exact wB (kY ws i _) rfl
          | exact wB (congrArg wds (qF (hi.trans (congrArg some (eq_of_nd h).symm))).symm) rfl
          | exact wB (congrArg wds (qF hi).symm) rfl
    · have gl : decide (((4 : Nat) : Int) < 5) = true := rfl
      obtain rfl : kd = 4 := by omega
      have gx : ∀ x : Int, (!decide (x = x)) = false := fun x => by simp
      repeat' (first | (refine zZ.is ?_; first | refine zZ.seq ?_ | (refine zZ.iq 5 ?_; refine zZ.rqd _ K_0 K_1 ?_; (refine zY.v rfl rfl (by exact xP rfl rfl rfl (by exact gl) rfl (by decide)) ?_); refine zY.nil ?_) | (refine zZ.iq 6 ?_; refine zZ.rqd _ K_0 K_1 ?_; (refine zY.v rfl rfl (by exact xM rfl rfl rfl (by exact g2) (by rfl) rfl (by decide)) ?_); (refine zY.v rfl rfl (by exact wO rfl rfl (by exact Nat.le_of_ble_eq_true rfl) rfl (by decide)) ?_); (refine zY.m rfl rfl (zG rfl (by decide) rfl (by decide)) ?_); (refine zY.w rfl (by exact zH rfl rfl rfl rfl rfl (by rfl) (by exact Nat.le_of_ble_eq_true rfl) rfl rfl) ?_); refine zY.nil ?_) | (refine zZ.iq 7 ?_; refine zZ.rqd _ K_0 K_1 ?_; (refine zY.v rfl rfl (zK rfl rfl rfl (by decide)) ?_); (refine zY.v rfl rfl (zA rfl rfl rfl (by rfl) rfl (by decide)) ?_); (refine zY.v rfl rfl (zK rfl rfl rfl (by decide)) ?_); (refine zY.v rfl rfl (zA rfl rfl rfl (by rfl) rfl (by decide)) ?_); (refine zY.v rfl rfl (by exact vZ rfl rfl rfl (by exact gx _) rfl (by decide)) ?_); refine zY.nil ?_) | (refine zZ.iq 8 ?_; refine zZ.rqd _ K_0 K_1 ?_; (refine zY.v rfl rfl (zK rfl rfl rfl (by decide)) ?_); (refine zY.v rfl rfl (zA rfl rfl rfl (by rfl) rfl (by decide)) ?_); (refine zY.v rfl rfl (zJ rfl rfl rfl (by decide)) ?_); (refine zY.v rfl rfl (zT rfl rfl rfl (by rfl) (by rfl) rfl (by decide)) ?_); (refine zY.ofT rfl (zR.eRet [] (FnE.ofFnT (turn5_fn old 4 i a b d xJ)) rfl (by decide) (wI rfl rfl) (by rfl) (wX (by decide) rfl (by repeat' exact trivial)) rfl rfl rfl rfl ?_)); (refine zY.v rfl rfl (xW rfl rfl rfl (by decide)) ?_); (refine zY.v rfl rfl (yY rfl rfl rfl rfl (by decide)) ?_); (refine zY.v rfl rfl (yY rfl rfl rfl rfl (by decide)) ?_); (refine zY.v rfl rfl (zV rfl rfl rfl (by decide)) ?_); (refine zY.v rfl rfl (zV rfl rfl rfl (by decide)) ?_); refine zY.nil ?_) | (refine zZ.iq 9 ?_; refine zZ.rqd _ K_0 K_1 ?_; (refine zY.v rfl rfl (zJ rfl rfl rfl (by decide)) ?_); (refine zY.v rfl rfl (zJ rfl rfl rfl (by decide)) ?_); (refine zY.v rfl rfl (vZ rfl rfl rfl (by rfl) rfl (by decide)) ?_); refine zY.nil ?_) | (refine zZ.iq 10 ?_; refine zZ.rqc _ K_0 K_1 ?_; (refine zY.v rfl rfl (zK rfl rfl rfl (by decide)) ?_); (refine zY.v rfl rfl (zA rfl rfl rfl (by rfl) rfl (by decide)) ?_); (refine zY.m rfl rfl (by exact vJ c1 rfl rfl rfl (by decide)) ?_); (refine zY.v rfl rfl (zK rfl rfl rfl (by decide)) ?_); (refine zY.w rfl (by exact vP rfl rfl rfl rfl rfl rfl (by exact Nat.le_of_ble_eq_true rfl) rfl rfl) ?_); refine zY.nil ?_) | (refine zZ.iq 11 ?_; refine zZ.rqf _ K_0 K_1 ?_; (refine zY.v rfl rfl (zK rfl rfl rfl (by decide)) ?_); (refine zY.v rfl rfl (vF rfl rfl rfl rfl rfl (by decide)) ?_); (refine zY.v rfl rfl (zK rfl rfl rfl (by decide)) ?_); (refine zY.v rfl rfl (zA rfl rfl rfl (by rfl) rfl (by decide)) ?_); (refine zY.v rfl rfl (zJ rfl rfl rfl (by decide)) ?_); (refine zY.v rfl rfl (by exact xH rfl rfl rfl rfl (by exact g6) rfl (by decide)) ?_); (refine zY.w rfl (by exact qC rfl rfl rfl rfl rfl (by exact g1) (by rfl) rfl (by exact g7) rfl) ?_); refine zY.nil ?_) | (refine zZ.isR (id := 12) ?_; refine zZ.sub (sub_frz (id := 54) rfl) ?_; refine zZ.rqc _ K_0 K_1 ?_; (refine zY.v rfl rfl (zT rfl rfl rfl (by rfl) (by rfl) rfl (by decide)) ?_); (refine zY.v rfl rfl (zJ rfl rfl rfl (by decide)) ?_); (refine zY.v rfl rfl (y8 rfl (by rfl) (by rfl) (by rfl) (by rfl) rfl (by decide)) ?_); (refine zY.w rfl (by exact zH rfl rfl rfl rfl rfl (by rfl) (by exact Nat.le_of_ble_eq_true rfl) rfl rfl) ?_); (refine zY.w rfl (by exact zH rfl rfl rfl rfl rfl (by rfl) (by exact Nat.le_of_ble_eq_true rfl) rfl rfl) ?_); refine zY.nil ?_) | (refine zZ.iq 12 ?_; refine zZ.rqc _ K_0 K_1 ?_; (refine zY.v rfl rfl (zT rfl rfl rfl (by rfl) (by rfl) rfl (by decide)) ?_); (refine zY.v rfl rfl (zJ rfl rfl rfl (by decide)) ?_); (refine zY.v rfl rfl (y8 rfl (by rfl) (by rfl) (by rfl) (by rfl) rfl (by decide)) ?_); (refine zY.w rfl (by exact zH rfl rfl rfl rfl rfl (by rfl) (by exact Nat.le_of_ble_eq_true rfl) rfl rfl) ?_); (refine zY.w rfl (by exact zH rfl rfl rfl rfl rfl (by rfl) (by exact Nat.le_of_ble_eq_true rfl) rfl rfl) ?_); refine zY.nil ?_) | refine zZ.yT rfl (by assumption) ?_ | refine zZ.yU rfl (by assumption) ?_ | refine zZ.cond rfl (fun h => ?_) (fun h => ?_) | refine zZ.skip ?_ | refine zZ.block ?_ | refine zZ.ret ?_) | refine zS.r ?_ | refine yA.r ?_)
      all_goals refine ⟨by first | exact .inl rfl | exact .inr rfl, _, Sub.refl _, .tupE (rs := [.cell 4 26, .cell 5 77]) rfl (by decide) (.cons (.cellN rfl rfl (by rfl) (by rfl)) (.cons (.cellN rfl rfl (by rfl) (by rfl)) .nil)) ?_⟩
      all_goals first
        | exact wB (kY ws i _) rfl
        | exact wB (congrArg wds (qF (hi.trans (congrArg some (eq_of_nd h).symm))).symm) rfl
        | exact wB (congrArg wds (qF hi).symm) rfl
theorem wordsOut_fn (t c kd cell a b : Int) (ws : List Int) (d : PV) (hi : cell < 0 ∨ (ws.length : Int) ≤ cell) :
    Fn Tryd.prog 51 [memV t c ws, accV kd cell a b d] (.tup [memV t c ws, resN 0]) := by
  by_cases hn : cell < 0
  case pos =>
    have g4 : decide (cell < 0) = true := decide_eq_true hn
    refine xV Tryd.func51 rfl Tryd.ntmps51 (Nat.le_of_ble_eq_true rfl) ?_
    repeat' (first | (refine zZ.is ?_; first | refine zZ.seq ?_ | (refine zZ.iq 0 ?_; refine zZ.rqb _ K_a K_1 ?_; (refine zY.m rfl rfl (yP rfl rfl rfl (by decide)) ?_); (refine zY.m rfl rfl (yP rfl rfl rfl (by decide)) ?_); (refine zY.m rfl rfl (zG rfl (by decide) rfl (by decide)) ?_); (refine zY.m rfl rfl (zG rfl (by decide) rfl (by decide)) ?_); refine zY.nil ?_) | (refine zZ.iq 1 ?_; refine zZ.rql _ K_4 K_1 ?_; all_goals (refine zY.v rfl rfl (zK rfl rfl rfl (by decide)) ?_); all_goals (refine zY.v rfl rfl (zA rfl rfl rfl (by rfl) rfl (by decide)) ?_); all_goals (refine zY.v rfl rfl (by exact xP rfl rfl rfl (by exact g4) rfl (by decide)) ?_); all_goals (refine zY.v rfl rfl (zJ rfl rfl rfl (by decide)) ?_); all_goals (refine zY.gnF rfl rfl (by decide) rfl (by with_reducible rfl) rfl (by decide) ?_); all_goals (refine zY.gnF rfl rfl (by decide) rfl (by with_reducible rfl) rfl (by decide) ?_); all_goals (refine zY.gnF rfl rfl (by decide) rfl (by with_reducible rfl) rfl (by decide) ?_); all_goals (refine zY.gnF rfl rfl (by decide) rfl (by with_reducible rfl) rfl (by decide) ?_); all_goals (refine zY.gnF rfl rfl (by decide) rfl (by with_reducible rfl) rfl (by decide) ?_); all_goals (refine zY.gnF rfl rfl (by decide) rfl (by with_reducible rfl) rfl (by decide) ?_); all_goals (refine zY.v rfl rfl (by exact wC rfl rfl (by with_reducible rfl) rfl rfl (by decide)) ?_); all_goals (refine zY.nil ?_)) | (refine zZ.iq 2 ?_; refine zZ.rql _ K_4 K_1 ?_; (refine zY.v rfl rfl (zT rfl rfl rfl (by rfl) (by rfl) rfl (by decide)) ?_); (refine zY.v rfl rfl (y8 rfl (by rfl) (by rfl) (by rfl) (by rfl) rfl (by decide)) ?_); (refine zY.w rfl (by exact zH rfl rfl rfl rfl rfl (by rfl) (by exact Nat.le_of_ble_eq_true rfl) rfl rfl) ?_); (refine zY.w rfl (by exact zH rfl rfl rfl rfl rfl (by rfl) (by exact Nat.le_of_ble_eq_true rfl) rfl rfl) ?_); refine zY.nil ?_) | refine zZ.yT rfl (by first | assumption | with_reducible rfl) ?_ | refine zZ.ret ?_) | refine zS.r ?_)
    all_goals exact ⟨by first | exact .inl rfl | exact .inr rfl, _, Sub.refl _, .tupE (rs := [.cell 4 26, .cell 5 77]) rfl (by decide) (.cons (.cellN rfl rfl (by rfl) (by rfl)) (.cons (.cellN rfl rfl (by rfl) (by rfl)) .nil)) rfl⟩
  case neg =>
    have g4 : decide (cell < 0) = false := decide_eq_false hn
    have g5 : decide (((wds ws).length : Int) ≤ cell) = true := decide_eq_true (by rw [wR]; omega)
    refine xV Tryd.func51 rfl Tryd.ntmps51 (Nat.le_of_ble_eq_true rfl) ?_
    repeat' (first | (refine zZ.is ?_; first | refine zZ.seq ?_ | (refine zZ.iq 0 ?_; refine zZ.rqb _ K_a K_1 ?_; (refine zY.m rfl rfl (yP rfl rfl rfl (by decide)) ?_); (refine zY.m rfl rfl (yP rfl rfl rfl (by decide)) ?_); (refine zY.m rfl rfl (zG rfl (by decide) rfl (by decide)) ?_); (refine zY.m rfl rfl (zG rfl (by decide) rfl (by decide)) ?_); refine zY.nil ?_) | (refine zZ.iq 1 ?_; refine zZ.rql _ K_4 K_1 ?_; all_goals (refine zY.v rfl rfl (zK rfl rfl rfl (by decide)) ?_); all_goals (refine zY.v rfl rfl (zA rfl rfl rfl (by rfl) rfl (by decide)) ?_); all_goals (refine zY.v rfl rfl (by exact xP rfl rfl rfl (by exact g4) rfl (by decide)) ?_); all_goals (refine zY.v rfl rfl (zJ rfl rfl rfl (by decide)) ?_); all_goals (refine zY.gY rfl rfl (by decide) rfl (by with_reducible rfl) rfl (by decide) (zK rfl rfl rfl (by decide)) ?_); all_goals (refine zY.gY rfl rfl (by decide) rfl (by with_reducible rfl) rfl (by decide) (zA rfl rfl rfl (by rfl) rfl (by decide)) ?_); all_goals (refine zY.gY rfl rfl (by decide) rfl (by with_reducible rfl) rfl (by decide) (zK rfl rfl rfl (by decide)) ?_); all_goals (refine zY.gY rfl rfl (by decide) rfl (by with_reducible rfl) rfl (by decide) (zA rfl rfl rfl (by rfl) rfl (by decide)) ?_); all_goals (refine zY.gY rfl rfl (by decide) rfl (by with_reducible rfl) rfl (by decide) (w_lenS rfl rfl rfl (by decide)) ?_); all_goals (refine zY.gY rfl rfl (by decide) rfl (by with_reducible rfl) rfl (by decide) (by exact r_geq rfl rfl rfl (by exact g5) rfl (by decide)) ?_); all_goals (refine zY.v rfl rfl (by exact wP rfl rfl (by with_reducible rfl) rfl rfl (by decide)) ?_); all_goals (refine zY.nil ?_)) | (refine zZ.iq 2 ?_; refine zZ.rql _ K_4 K_1 ?_; (refine zY.v rfl rfl (zT rfl rfl rfl (by rfl) (by rfl) rfl (by decide)) ?_); (refine zY.v rfl rfl (y8 rfl (by rfl) (by rfl) (by rfl) (by rfl) rfl (by decide)) ?_); (refine zY.w rfl (by exact zH rfl rfl rfl rfl rfl (by rfl) (by exact Nat.le_of_ble_eq_true rfl) rfl rfl) ?_); (refine zY.w rfl (by exact zH rfl rfl rfl rfl rfl (by rfl) (by exact Nat.le_of_ble_eq_true rfl) rfl rfl) ?_); refine zY.nil ?_) | refine zZ.yT rfl (by first | assumption | with_reducible rfl) ?_ | refine zZ.ret ?_) | refine zS.r ?_)
    all_goals exact ⟨by first | exact .inl rfl | exact .inr rfl, _, Sub.refl _, .tupE (rs := [.cell 4 26, .cell 5 77]) rfl (by decide) (.cons (.cellN rfl rfl (by rfl) (by rfl)) (.cons (.cellN rfl rfl (by rfl) (by rfl)) .nil)) rfl⟩
end Go.Proofs.YteadaggehndacaaDoor
/- Appending to a slice cut to its length: s[:n:n]. Generic over the program. -/
namespace Go.Proofs.YteadaggehndacaaDoor
set_option maxRecDepth 100000
set_option maxHeartbeats 16000000
open Go Go.RowKit
set_option linter.unusedSimpArgs false
theorem RepL.append {M : Nat → Nat → Prop} {w : World} {xs xs' : List PV} {ys ys' : List Value} (h : RepL M w xs ys) (h' : RepL M w xs' ys') : RepL M w (xs ++ xs') (ys ++ ys') :=
  ⟨by rw [List.length_append, List.length_append, h.len, h'.len], fun i c v h1 h2 => by
    by_cases hi : i < xs.length
    · rw [List.getElem?_append_left hi] at h1
      rw [List.getElem?_append_left (by rw [h.len]; exact hi)] at h2
      exact h.each i c v h1 h2
    · rw [List.getElem?_append_right (by omega)] at h1
      rw [List.getElem?_append_right (by rw [h.len]; omega), h.len] at h2
      exact h'.each _ c v h1 h2, fun v hv => by
    rcases List.mem_append.1 hv with hv | hv
    · exact h.one v hv
    · exact h'.one v hv⟩
theorem cellsA_pure {M : Nat → Nat → Prop} {ρ : Nat → Value} {w : World} {xs : List PV} {ys : List Value} (h : yH M ρ w (xs.map AV.p) ys) : RepL M w xs ys :=
  ⟨by simpa using h.len, fun i c v h1 h2 => kM (h.each i (.p c) v (by rw [List.getElem?_map, h1]; rfl) h2), h.one⟩
theorem rep_ownsRow {M : Nat → Nat → Prop} {w w' : World} {e sz : Nat} {v : Value} {k : Nat} {es : List PV} {us : List Value} (hM : ∀ k c, M k c → k < w.heap.size) (h : w'.ownsRow w.heap.size e sz v k us) (hk : k = es.length) (hu : RepL M w' (flat es) us) : Rep M w' (.sl es) v := by
  rcases h.2 with ⟨rfl, h0⟩ | ⟨g, cap, cur, rfl, hg, hh, hkc, hcm, hcs, htk⟩
  · have : es = [] := List.eq_nil_of_length_eq_zero (by omega)
    subst this
    exact .nil
  · refine .sl es g 0 k cap us hk hu.len (fun j y hy => ?_) hu.each hu.one (fun j hj hm => ?_) (Array.getElem?_eq_some_iff.1 hh).1 hkc hcm
    · rw [Nat.zero_add, cell_of_row w' g j cur e (0, 0) hh]
      rw [← htk, List.getElem?_take] at hy
      split at hy
      · simpa using hy
      · cases hy
    · have := hM _ _ hm
      omega
section
variable {P : Program} {n : Nat} {ops : Array Oper} {S : AS} {K : Exit → AS → Prop}
theorem zY.appTight {o1 o2 o3 : Oper} {rest : List Oper} {d1 d2 d3 t e sz by_ : Nat} {x y xh xm : Operand} {z : Value} {es bs : List PV} {k2 k3 : IntKind} {h m : Int} {agg : Bool} [ht : Und P t (.slice e)] [hi : InfoA P e z sz by_] [he : TyA P e agg sz]
    (h1 : o1.op = .slice t x none (some xh) (some xm)) (g1 : o1.guard = none) (e1 : o1.dst = some d1)
    (h2 : o2.op = .move y) (g2 : o2.guard = none) (e2 : o2.dst = some d2)
    (h3 : o3.op = .call { callee := .builtin .append, args := #[.tmp d1, .tmp d2], argTypes := #[t, t] }) (g3 : o3.guard = none) (e3 : o3.dst = some d3)
    (hx : S.get x = .p (.sl es)) (hh : S.get xh = .p (.val (.int k2 h))) (hm : S.get xm = .p (.val (.int k3 m))) (hhe : h = es.length) (hme : m = es.length) (hy : S.get y = .p (.sl bs)) (hne : d2 ≠ d1) (hyd : (S.put d1 .any).get y = .p (.sl bs))
    (hn1 : d1 < n) (hn2 : d2 < n) (hn3 : d3 < n) (hes : ∀ e ∈ es, e.cells.length = sz) (hbs : ∀ e ∈ bs, e.cells.length = sz)
    (hlim : (es.length + bs.length) * by_ ≤ 140737488355328 ∧ es.length + bs.length ≤ maxLen) (hzs : z.cells.size = sz) (hsz : 0 < sz)
    (hr : zY P n ops rest (((S.put d1 .any).put d2 (.p (.sl bs))).put d3 (.p (.sl (es ++ bs)))) K) : zY P n ops (o1 :: o2 :: o3 :: rest) S K := by
  subst hhe hme
  intro M w0 ρ a w Q hs hK
  obtain ⟨i, hi1, hi2⟩ := Option.map_eq_some_iff.1 hi.h
  simp only [Prod.mk.injEq] at hi2
  obtain ⟨hz, hisz, hiby⟩ := hi2
  have hel : P.elem t = e := by simp [Program.elem, ht.h]
  have ht2 : P.underlying t = some (.slice (P.elem t)) := by rw [hel]; exact ht.h
  have r1 := xB hs hx
  have r2 := hs.val hh
  have r3 := hs.val hm
  -- the slice cut to its length
  have key : ∃ v1, (execOp a.eval o1).run P w = .ok (.value v1) w ∧ (((∃ b, v1 = .slice b 0 0) ∧ es = []) ∨ ∃ g off ys, v1 = .slice (some ⟨g, off, none⟩) es.length es.length ∧ RepL (Mut M S ρ) w (flat es) ys ∧ (∀ v ∈ ys, v.oneCell' = true) ∧ (∀ (j : Nat) y, ys[j]? = some y → w.cell? ⟨g, off + j, none⟩ = some y) ∧ (∀ j, j < ys.length → ¬ Mut M S ρ g (off + j)) ∧ g < w.heap.size ∧ es.length ≤ maxLen) := by
    rcases rep_sl r1 with ⟨⟨b, hv⟩, h0⟩ | ⟨g, off, cap, ys, hv, hly, hcell, hM, hgl, hcap, hmx⟩
    · subst h0
      refine ⟨.slice b 0 0, ?_, .inl ⟨⟨b, rfl⟩, rfl⟩⟩
      unfold execOp
      rw [h1]
      simp only [Option.map_some, Option.map_none, hv, r2, r3, Sem.run_bind, run_sliceAt_slice w t _ _ _ _ ht2, run_slice_hm w t b 0 0 ht2 _ _ (([] : List PV).length : Int) (([] : List PV).length : Int) (by simp) (by simp) (by simp)]
      rw [hel, he.sz w]
      rfl
    · refine ⟨.slice (some ⟨g, off, none⟩) es.length es.length, ?_, .inr ⟨g, off, ys, rfl, hly, hly.one, hcell, hM, hgl, by omega⟩⟩
      unfold execOp
      rw [h1]
      simp only [Option.map_some, Option.map_none, hv, r2, r3, Sem.run_bind, run_sliceAt_slice w t _ _ _ _ ht2, run_slice_hm w t (some ⟨g, off, none⟩) es.length cap ht2 _ _ (es.length : Int) (es.length : Int) (by omega) (by omega) (by omega)]
      rw [hel, he.sz w]
      simp [sliced, Result.andThen, Addr.add]
  obtain ⟨v1, hr1, hv1⟩ := key
  unfold wpList
  rw [if_pos (by simp [Region.wanted, g1])]
  refine .inl ?_
  unfold Oper.wp
  rw [hr1]
  show wpList P ops Q (o2 :: o3 :: rest) (a.put o1.dst v1) w
  rw [e1]
  have hs1 : Sat M n w0 (S.put d1 .any) ρ (a.put (some d1) v1) w := hs.put hn1 (.any v1)
  have ry := xB hs1 hyd
  unfold wpList
  rw [if_pos (by simp [Region.wanted, g2])]
  refine .inl ?_
  unfold Oper.wp
  have hr2 : (execOp (a.put (some d1) v1).eval o2).run P w = .ok (.value ((a.put (some d1) v1).eval y)) w := by
    unfold execOp
    rw [h2]
    rfl
  rw [hr2]
  show wpList P ops Q (o3 :: rest) ((a.put (some d1) v1).put o2.dst _) w
  rw [e2]
  generalize hvy : (a.put (some d1) v1).eval y = vy at ry ⊢
  have hs2 := hs1.put (d := d2) hn2 (.p ry)
  have t1 : ((a.put (some d1) v1).put (some d2) vy).eval (.tmp d1) = v1 := by
    have : d1 < a.tmps.size := by rw [hs.size]; exact hn1
    simp [Act.eval, Act.put, Array.getD_eq_getD_getElem?, Array.getElem?_setIfInBounds, hne, this]
  have t2 : ((a.put (some d1) v1).put (some d2) vy).eval (.tmp d2) = vy := by
    have : d2 < a.tmps.size := by rw [hs.size]; exact hn2
    simp [Act.eval, Act.put, Array.getD_eq_getD_getElem?, Array.getElem?_setIfInBounds, this]
  obtain ⟨us, hus, hnews⟩ := news_p (ρ := ρ) ry hbs
  have hMut : Mut M ((S.put d1 .any).put d2 (.p (.sl bs))) ρ = Mut M S ρ := rfl
  have main : ∀ v' w', (Builtin.append_ #[t, t] o3.type #[v1, vy]).run P w = .ok v' w' → Below w.heap.size w w' → Rep (Mut M S ρ) w' (.sl (es ++ bs)) v' → wpList P ops Q (o3 :: rest) ((a.put (some d1) v1).put (some d2) vy) w := by
    intro v' w' hr3 hb hrep
    unfold wpList
    rw [if_pos (by simp [Region.wanted, g3])]
    refine .inl ?_
    unfold Oper.wp execOp
    simp only [h3, resolve, invoke, builtin, Sem.run_bind, Sem.run_pure, Result.andThen_ok, List.map_toArray, List.map_cons, List.map_nil, t1, t2, hr3]
    show wpList P ops Q rest (((a.put (some d1) v1).put (some d2) vy).put o3.dst v') w'
    rw [e3]
    exact hr M w0 ρ _ w' Q ((hs2.ext hb).put hn3 (.p hrep)) hK
  have hflat : flat (es ++ bs) = flat es ++ flat bs := by simp [flat]
  have hlt : ∀ k c, Mut M S ρ k c → k < w.heap.size := fun k c hk => Mut.lt hs hk
  have grown : ∀ v' w' ys, w.grownBy w' none → w'.ownsRow w.heap.size e sz v' (es.length + bs.length) (ys ++ us) → RepL (Mut M S ρ) w (flat es) ys → Rep (Mut M S ρ) w' (.sl (es ++ bs)) v' := by
    intro v' w' ys hg hown hys
    have hk : Keeps (Mut M S ρ) w w' := ⟨hg.size, fun k c hk _ => World.cell?_of_block (w := w) (hg.block k hk (by simp))⟩
    have hus2 : RepL (Mut M S ρ) w (flat bs) us := cellsA_pure (hMut ▸ hus)
    refine rep_ownsRow hlt hown (by rw [List.length_append]) ?_
    rw [hflat]
    exact (hys.keep hk).append (hus2.keep hk)
  rcases hv1 with ⟨⟨b, hv1⟩, h0⟩ | ⟨g, off, ys, hv1, hys, hone, hcell, hM, hgl, hmx⟩
  · subst h0
    cases b with
    | some b =>
      rcases Nat.eq_zero_or_pos bs.length with hb | hb
      · have hb0 : bs = [] := List.eq_nil_of_length_eq_zero hb
        subst hb0
        refine main v1 w ?_ (Below.refl _ _) ?_
        · have hv : vy = .slice none 0 0 ∨ ∃ ad c, vy = .slice (some ad) 0 c := by
            rcases hnews with ⟨hyv, _, _⟩ | ⟨ad, c, hyv, _⟩
            · exact .inl hyv
            · exact .inr ⟨ad, c, hyv⟩
          rw [hv1]
          refine run_append_nothing w t t o3.type e i ht.h hi1 _ _ _ (Nat.le_refl _) _ ?_
          rcases hv with hv | ⟨ad, c, hv⟩ <;> rw [hv]
          · exact .ofNil w ht.h 0
          · exact .ofSlice w ht.h ad 0 c [] (by simp) (fun j u h => by simp at h) (fun u h => by simp at h)
        · rw [hv1]
          exact .nil
      · rcases hnews with ⟨hyv, hk0, hu0⟩ | ⟨ad, c, hyv, hul, hcell2⟩
        · omega
        · obtain ⟨v', w', hr, hown', hg⟩ := run_append_arg_grows (P := P) w t o3.type e i z sz by_ ht.h hi1 hz hisz hiby hzs hsz b 0 0 [] (by simp) (fun j u hu => by simp at hu) ad bs.length c us hul hcell2 (by omega) (by simpa using hlim.2) (by simpa using hlim.1)
          rw [← hv1, ← hyv] at hr
          exact main v' w' hr ⟨hg.os, hg.tape, hg.output, hg.size, fun k hk => hg.block k hk (by simp)⟩ (grown v' w' [] hg (by simpa using hown') ⟨rfl, fun i c v h => by simp [flat] at h, fun v h => by simp at h⟩)
    | none =>
    have hown : ∀ B, w.ownsRow B e sz (.slice none 0 0) 0 [] := fun B => ⟨by simp, .inl ⟨rfl, rfl⟩⟩
    rcases hnews with ⟨hyv, hk0, hu0⟩ | ⟨ad, c, hyv, hul, hcell2⟩
    · have hb0 : bs = [] := List.eq_nil_of_length_eq_zero hk0
      subst hb0
      refine main (.slice none 0 0) w ?_ (Below.refl _ _) .nil
      rw [hyv, hv1]
      exact run_append_owned_none (P := P) w 0 t o3.type e i sz ht.h hi1 (.slice none 0 0) 0 [] (hown 0)
    · obtain ⟨v', w', hr, hown', hg, _, _⟩ := run_append_own_at (P := P) w w.heap.size t o3.type e i z sz by_ ht.h hi1 hz hisz hiby hzs hsz (.slice none 0 0) 0 [] (hown _) ad bs.length c us hul hcell2 hus.one (by simpa using hlim.2) (by simpa using hlim.1) (Nat.le_refl _)
      rw [← hv1, ← hyv] at hr
      exact main v' w' hr ⟨hg.os, hg.tape, hg.output, hg.size, fun k hk => hg.block k hk (fun h => by cases h)⟩ (grown v' w' [] hg (by simpa using hown') ⟨rfl, fun i c v h => by simp [flat] at h, fun v h => by simp at h⟩)
  · have hyl : ys.length = es.length * sz := by rw [hys.len, flat_len hes]
    rcases Nat.eq_zero_or_pos bs.length with hb | hb
    · have hb0 : bs = [] := List.eq_nil_of_length_eq_zero hb
      subst hb0
      refine main v1 w ?_ (Below.refl _ _) ?_
      · have hv : vy = .slice none 0 0 ∨ ∃ ad c, vy = .slice (some ad) 0 c := by
          rcases hnews with ⟨hyv, _, _⟩ | ⟨ad, c, hyv, _⟩
          · exact .inl hyv
          · exact .inr ⟨ad, c, hyv⟩
        rw [hv1]
        refine run_append_nothing w t t o3.type e i ht.h hi1 _ _ _ (Nat.le_refl _) _ ?_
        rcases hv with hv | ⟨ad, c, hv⟩ <;> rw [hv]
        · exact .ofNil w ht.h 0
        · exact .ofSlice w ht.h ad 0 c [] (by simp) (fun j u h => by simp at h) (fun u h => by simp at h)
      · rw [hv1, List.append_nil]
        exact .sl es g off es.length es.length ys rfl hys.len hcell hys.each hone hM hgl (Nat.le_refl _) hmx
    · rcases hnews with ⟨hyv, hk0, hu0⟩ | ⟨ad, c, hyv, hul, hcell2⟩
      · omega
      · obtain ⟨v', w', hr, hown', hg⟩ := run_append_arg_grows (P := P) w t o3.type e i z sz by_ ht.h hi1 hz hisz hiby hzs hsz ⟨g, off, none⟩ es.length es.length ys hyl (fun j u hu => by rw [add_lit]; exact hcell j u hu) ad bs.length c us hul hcell2 (by omega) hlim.2 hlim.1
        rw [← hv1, ← hyv] at hr
        exact main v' w' hr ⟨hg.os, hg.tape, hg.output, hg.size, fun k hk => hg.block k hk (by simp)⟩ (grown v' w' ys hg hown' hys)
/-- A call of a closure that turns nothing, by its contract: a value. -/
theorem w_callClo {o : Oper} {d k : Nat} {x : Operand} {f : FuncId} {args : Array Operand} {ts : Array TypeId} {ys : List PV} {b : Blk} {r : PV} [hc : HasFn P f] (hf : FnE P f (ys.map AV.p ++ [.ptr 1000 0]) [b] (.ret (.p r)) [b])
    (ho : o.op = .call { callee := .value x, args := args, argTypes := ts }) (hx : S.get x = .clo f [k]) (hargs : args.toList.map S.get = ys.map AV.p) (hb : S.blk k = some b) (hren : b.ren (sig [k]) = b) (hok : b.okE 1 = true) (hd : o.dst = some d) (hn : d < n) :
    zQ P n o S [k] (.p r) none := by
  intro S2 hg hbk M w0 ρ a w KK Q hs hK
  have hbk2 : S2.blk k = some b := by rw [hbk k (by simp), hb]
  have hx2 : S2.get x = .clo f [k] := by rw [hg x (by rw [ho]; simp [Op.operands, Call.operands]), hx]
  have ha2 : args.toList.map S2.get = ys.map AV.p := by
    rw [← hargs]
    exact List.map_congr_left fun y hy => hg y (by rw [ho]; simp [Op.operands, Call.operands]; exact .inr (by simpa using hy))
  have hh : Hands S2 [k] [b] := wX (by simp) (by simpa using hok) ⟨by rw [hbk2, hren], trivial⟩
  have st := zR.eRet (P := P) (n := n) (o := o) (S := S2) (K := fun _ _ => False) (N := fun S1 => S1 = (S2.after [k] [b]).put d (.p r)) [k] hf hd hn (enters_clo ho hx2) (by
    rw [ha2, List.map_append, List.map_map]
    rfl) hh rfl (by simpa using hok) (by
    rw [List.all_append]
    simp only [List.all_map, Bool.and_eq_true, List.all_cons, List.all_nil]
    exact ⟨List.all_eq_true.2 fun _ _ => rfl, rfl, trivial⟩) rfl rfl
  refine st M w0 ρ a w KK Q hs ?_ ?_
  · intro S1 ρ' a' w' hN hs'
    subst hN
    rw [hd] at hK
    refine hK ρ' a' w' ?_
    refine wM.sat (S := (S2.after [k] [b]).put d (.p r)) (S' := S2.put d (.p r)) ⟨fun _ => rfl, fun j => ?_⟩ hs'
    show (look (qO [k] [b.ren (sig [k])] S2.s) j = none ∧ S2.blk j = none) ∨ ∃ b1 b2, look (qO [k] [b.ren (sig [k])] S2.s) j = some b1 ∧ S2.blk j = some b2 ∧ Alike b1 b2
    rw [hren]
    by_cases hj : k = j
    · subst hj
      exact .inr ⟨b, b, by simp [qO, look_putL], hbk2, .refl b⟩
    · have e : look (qO [k] [b] S2.s) j = S2.blk j := by simp [qO, look_putL, hj, AS.blk]
      rw [e]
      cases h : S2.blk j with
      | none => exact .inl ⟨rfl, rfl⟩
      | some c => exact .inr ⟨c, c, rfl, rfl, .refl c⟩
  · intro e S' _ _ _ h
    exact h.elim
/-- A call of a function value, by its contract: a value. -/
theorem w_callFV {o : Oper} {d : Nat} {x : Operand} {f : FuncId} {args : Array Operand} {ts : Array TypeId} {ys : List PV} {r : PV} [hc : HasFn P f] (hf : Fn P f ys (.p r))
    (ho : o.op = .call { callee := .value x, args := args, argTypes := ts }) (hx : S.get x = .p (.val (.func (.func f) #[] #[]))) (hargs : args.toList.map S.get = ys.map AV.p) (hd : o.dst = some d) (hn : d < n) :
    zQ P n o S [] (.p r) none := by
  intro S2 hg _ M w0 ρ a w KK Q hs hK
  have hx2 : S2.get x = .p (.val (.func (.func f) #[] #[])) := by rw [hg x (by rw [ho]; simp [Op.operands, Call.operands]), hx]
  have ha2 : args.toList.map S2.get = ys.map AV.p := by
    rw [← hargs]
    exact List.map_congr_left fun y hy => hg y (by rw [ho]; simp [Op.operands, Call.operands]; exact .inr (by simpa using hy))
  have st := zR.eRet (P := P) (n := n) (o := o) (S := S2) (K := fun _ _ => False) (N := fun S1 => S1 = (S2.after [] []).put d (.p r)) [] (FnE.ofFn hf) hd hn (wI ho hx2) (by
    rw [ha2, List.map_map]
    rfl) (wX (by simp) (by simp) trivial) rfl (by simp) (by
    simp only [List.all_map]
    exact List.all_eq_true.2 fun _ _ => rfl) rfl rfl
  refine st M w0 ρ a w KK Q hs ?_ ?_
  · intro S1 ρ' a' w' hN hs'
    subst hN
    rw [hd] at hK
    exact hK ρ' a' w' hs'
  · intro e S' _ _ _ h
    exact h.elim
end
end Go.Proofs.YteadaggehndacaaDoor
