/- For every input SaveNext returns true, and leaves its argument as it was; tied: Rows.SaveNextCardSaid. Conditions: none beyond the given statement's own. (Part 8 of 8.) -/
import Derived.Test.YtlfkofkdigmnpaaGreatDoorJn7
import Derived.ProofKit
import Derived.OpenShut
import Derived.Below
import Derived.LaidMore
import Derived.Deep.Fields
import Derived.Deep.Slices
import Derived.Test.YtlfkofkdigmnpaaGreatDoorRows
import Derived.LaidLaws
import Derived.ChangeSame
import Derived.ChangeVars
import Derived.JoinedOf
import Derived.Stop.Joined
import Derived.RowKitTokens
import Derived.Test.YtlfkofkdigmnpaaGreatDoorCards
import Derived.Test.YtlfkofkdigmnpaaGreatDoorTie
import Derived.SevenTiedAt
/- The law SaveNext: its function's contract. -/
namespace Go.Proofs.YtlfkofkdigmnpaaGreatDoor
set_option maxRecDepth 100000
set_option maxHeartbeats 16000000
open Go Go.RowKit
set_option linter.unusedSimpArgs false
attribute [local irreducible] zZ zX Step zG Sub zP zM Fn
def tupS (m : Told OutI) : List PV := match m with
  | .done o _ => [accS 0 0 0 0 [], outV o.e o.is 0 o.w, .val (.bool true)]
  | .need q => [accS q.kind q.cell q.a q.b (bytsOf q.d), outV 0 false 0 0, .val (.bool false)]
theorem tupS_le (t k u v w : Int) (L : List zO) : PLet (runV (opT t k u v w L 0)) (tupS (opT t k u v w L 0)) := by
  have hn := nice_op t k u v w L 0
  cases hm : opT t k u v w L 0 with
  | done o j => exact .cons (.agg (.cons (.refl _) (.cons (.refl _) (.cons (.refl _) (.cons (.refl _) (.cons .nil (.cons .nil .nil))))))) (.cons (.refl _) (.cons (.refl _) .nil))
  | need q =>
    refine .cons (.agg (.cons (.refl _) (.cons (.refl _) (.cons (.refl _) (.cons (.refl _) (.cons ?_ (.cons .nil .nil))))))) (.cons (.refl _) (.cons (.refl _) .nil))
    rcases (hn q hm).2 with e | ⟨bs, e⟩
    · rw [e]; exact .nil
    · rw [e, bytsOf_byts]; exact .refl _
theorem tupS_form (m : Told OutI) : ∃ K C A B D E I N F, tupS m = [accS K C A B D, outV E I 0 N, .val (.bool F)] := by
  cases m with
  | done o j => exact ⟨0, 0, 0, 0, [], o.e, o.is, o.w, true, rfl⟩
  | need q => exact ⟨q.kind, q.cell, q.a, q.b, bytsOf q.d, 0, false, 0, false, rfl⟩
def inV (t c me k u v w : Int) (L : List zO) : PV := .agg [.val (.int .i64 t), .val (.int .i64 c), .val (.int .i64 me), .val (.int .i64 k), .val (.int .i64 u), .val (.int .i64 v), .val (.int .u64 w), logV L]
theorem opOK_may {t c k u v w : Int} (hd : dimsB t c = true) (hm : may14B c k u v = true) (hw : U w) : OpOK t k u v w := by
  unfold dimsB at hd
  simp only [Bool.and_eq_true, decide_eq_true_eq] at hd
  unfold may14B at hm
  refine ⟨fun hk => ?_, fun hk => ?_, hw⟩
  · have e : ((decide (k < 20) && !decide (k = 7)) || decide (23 < k)) = false := by
      rcases hk with rfl | rfl | rfl | rfl | rfl <;> rfl
    rw [e, cond_false] at hm
    cases hu : (decide (u < 1) || decide (c < u)) with
    | true => rw [hu, cond_true] at hm; cases hm
    | false =>
      simp only [Bool.or_eq_false_iff, decide_eq_false_iff_not] at hu
      exact ⟨by unfold Small; omega, by omega, by omega⟩
  · have e : ((decide (k < 20) && !decide (k = 7)) || decide (23 < k)) = false := by
      rcases hk with rfl | rfl <;> rfl
    rw [e, cond_false] at hm
    cases hu : (decide (u < 1) || decide (c < u)) with
    | true => rw [hu, cond_true] at hm; cases hm
    | false =>
      rw [hu, cond_false] at hm
      have e2 : (!decide (k = 7) && !decide (k = 23)) = false := by rcases hk with rfl | rfl <;> rfl
      rw [e2, Bool.false_or, Bool.or_eq_true, decide_eq_true_eq, decide_eq_true_eq] at hm
      exact hm
theorem saveNextLaw_fn (t c me k u v w : Int) (L : List zO) (hw : U w) (hL : ∀ r ∈ L, 0 ≤ r.n ∧ r.n < 18446744073709551616) : Fn Tryz.prog 3 [inV t c me k u v w L] (.p (.val (.bool true))) := by
  have c0 := shown14_fn
  have c1 := dims_fn t c
  have c2 := may14_fn c k u v w
  refine yI Tryz.func3 rfl Tryz.ntmps3 (Nat.le_of_ble_eq_true rfl) ?_
  cases hd : dimsB t c with
  | false =>
    have h1 : (!dimsB t c) = true := by rw [hd]; rfl
    rw [hd] at c1
    repeat' (first | (refine zX.is ?_; first | refine zX.seq ?_ | (refine zX.isR (id := 0) ?_; refine zX.zV [0] [1, 6, 9, 10, 12, 13] (by repeat' first | exact zY.nil | apply zY.p rfl) (by repeat' first | exact zW.nil | apply zW.skip) ?_; (refine zZ.m rfl rfl (z8 rfl rfl rfl (by decide)) ?_); (refine zZ.v rfl rfl (zK rfl rfl rfl (by decide)) ?_); refine zZ.nil ?_) | (refine zX.isR (id := 1) ?_; refine zX.zV [1, 2] [1, 6, 9, 10, 12, 13] (by repeat' first | exact zY.nil | apply zY.p rfl | apply zY.ptr rfl) (by repeat' first | exact zW.nil | apply zW.boxP rfl rfl | apply zW.skip) ?_; (refine zZ.v rfl rfl (zJ rfl rfl rfl (by decide)) ?_); (refine zZ.v rfl rfl (zA rfl rfl rfl rfl rfl (by decide)) ?_); (refine zZ.v rfl rfl (zK rfl rfl rfl (by decide)) ?_); refine zZ.nil ?_) | (refine zX.isR (id := 2) ?_; refine zX.zV [1, 2, 3] [1, 6, 9, 10, 12, 13] (by repeat' first | exact zY.nil | apply zY.p rfl | apply zY.ptr rfl) (by repeat' first | exact zW.nil | apply zW.boxP rfl rfl | apply zW.skip) ?_; (refine zZ.v rfl rfl (zJ rfl rfl rfl (by decide)) ?_); (refine zZ.v rfl rfl (zA rfl rfl rfl rfl rfl (by decide)) ?_); (refine zZ.v rfl rfl (zK rfl rfl rfl (by decide)) ?_); refine zZ.nil ?_) | (refine zX.isR (id := 3) ?_; refine zX.zV [1, 2, 3, 4] [1, 6, 9, 10, 12, 13] (by repeat' first | exact zY.nil | apply zY.p rfl | apply zY.ptr rfl) (by repeat' first | exact zW.nil | apply zW.boxP rfl rfl | apply zW.skip) ?_; (refine zZ.v rfl rfl (zJ rfl rfl rfl (by decide)) ?_); (refine zZ.v rfl rfl (zA rfl rfl rfl rfl rfl (by decide)) ?_); (refine zZ.v rfl rfl (zK rfl rfl rfl (by decide)) ?_); refine zZ.nil ?_) | (refine zX.isR (id := 4) ?_; refine zX.zV [1, 2, 3, 4, 5] [1, 6, 9, 10, 12, 13] (by repeat' first | exact zY.nil | apply zY.p rfl | apply zY.ptr rfl) (by repeat' first | exact zW.nil | apply zW.boxP rfl rfl | apply zW.skip) ?_; (refine zZ.v rfl rfl (zJ rfl rfl rfl (by decide)) ?_); (refine zZ.v rfl rfl (zI rfl rfl rfl (by rfl) (by rfl) rfl (by decide)) ?_); (refine zZ.m rfl rfl (zC rfl (by decide) rfl (by decide)) ?_); (refine zZ.w rfl (by exact zB rfl rfl rfl rfl rfl (by rfl) (by exact Nat.le_of_ble_eq_true rfl) rfl rfl) ?_); refine zZ.nil ?_) | (refine zX.isR (id := 5) ?_; refine zX.zV [1, 2, 3, 4, 5, 6] [1, 6, 9, 10, 12, 13] (by repeat' first | exact zY.nil | apply zY.p rfl | apply zY.ptr rfl) (by repeat' first | exact zW.nil | apply zW.boxP rfl rfl | apply zW.skip) ?_; (refine zZ.v rfl rfl (zJ rfl rfl rfl (by decide)) ?_); (refine zZ.v rfl rfl (zA rfl rfl rfl rfl rfl (by decide)) ?_); (refine zZ.v rfl rfl (zK rfl rfl rfl (by decide)) ?_); refine zZ.nil ?_) | (refine zX.isR (id := 6) ?_; refine zX.zV [2, 3, 4, 5, 6, 7] [1, 6, 9, 10, 12, 13] (by repeat' first | exact zY.nil | apply zY.p rfl | apply zY.ptr rfl) (by repeat' first | exact zW.nil | apply zW.boxP rfl rfl | apply zW.skip) ?_; (refine zZ.v rfl rfl (by exact zL (c0) rfl rfl rfl (by decide)) ?_); (refine zZ.v rfl rfl (zK rfl rfl rfl (by decide)) ?_); refine zZ.nil ?_) | (refine zX.isR (id := 7) ?_; refine zX.zV [2, 3, 4, 5, 6, 7, 8] [1, 6, 9, 10, 12, 13] (by repeat' first | exact zY.nil | apply zY.p rfl | apply zY.ptr rfl) (by repeat' first | exact zW.nil | apply zW.boxP rfl rfl | apply zW.skip) ?_; all_goals (refine zZ.v rfl rfl (zQ rfl rfl rfl (by decide)) ?_); all_goals (refine zZ.v rfl rfl (zQ rfl rfl rfl (by decide)) ?_); all_goals (refine zZ.v rfl rfl (by exact zL (c1) rfl rfl rfl (by decide)) ?_); all_goals (refine zZ.v rfl rfl (by exact xL rfl rfl (by exact bT (by decide)) rfl (by decide)) ?_); all_goals (refine zZ.v rfl rfl (zQ rfl rfl rfl (by decide)) ?_); all_goals (refine zZ.gnF rfl rfl (by decide) rfl (by with_reducible rfl) rfl (by decide) ?_); all_goals (refine zZ.gnF rfl rfl (by decide) rfl (by with_reducible rfl) rfl (by decide) ?_); all_goals (refine zZ.v rfl rfl (by exact zT rfl rfl (by with_reducible rfl) rfl rfl (by decide)) ?_); all_goals (refine zZ.v rfl rfl (zQ rfl rfl rfl (by decide)) ?_); all_goals (refine zZ.gnF rfl rfl (by decide) rfl (by with_reducible rfl) rfl (by decide) ?_); all_goals (refine zZ.gnF rfl rfl (by decide) rfl (by with_reducible rfl) rfl (by decide) ?_); all_goals (refine zZ.gnF rfl rfl (by decide) rfl (by with_reducible rfl) rfl (by decide) ?_); all_goals (refine zZ.v rfl rfl (by exact zT rfl rfl (by with_reducible rfl) rfl rfl (by decide)) ?_); all_goals (refine zZ.v rfl rfl (zQ rfl rfl rfl (by decide)) ?_); all_goals (refine zZ.gnF rfl rfl (by decide) rfl (by with_reducible rfl) rfl (by decide) ?_); all_goals (refine zZ.gnF rfl rfl (by decide) rfl (by with_reducible rfl) rfl (by decide) ?_); all_goals (refine zZ.gnF rfl rfl (by decide) rfl (by with_reducible rfl) rfl (by decide) ?_); all_goals (refine zZ.v rfl rfl (by exact zT rfl rfl (by with_reducible rfl) rfl rfl (by decide)) ?_); all_goals (refine zZ.v rfl rfl (zQ rfl rfl rfl (by decide)) ?_); all_goals (refine zZ.gnF rfl rfl (by decide) rfl (by with_reducible rfl) rfl (by decide) ?_); all_goals (refine zZ.gnF rfl rfl (by decide) rfl (by with_reducible rfl) rfl (by decide) ?_); all_goals (refine zZ.gnF rfl rfl (by decide) rfl (by with_reducible rfl) rfl (by decide) ?_); all_goals (refine zZ.gnF rfl rfl (by decide) rfl (by with_reducible rfl) rfl (by decide) ?_); all_goals (refine zZ.v rfl rfl (by exact zT rfl rfl (by with_reducible rfl) rfl rfl (by decide)) ?_); all_goals (refine zZ.nil ?_)) | (refine zX.isR (id := 8) ?_; refine zX.zV [2, 3, 4, 5, 6, 7, 8] [1, 6, 9, 10, 12, 13] (by repeat' first | exact zY.nil | apply zY.p rfl | apply zY.ptr rfl) (by repeat' first | exact zW.nil | apply zW.boxP rfl rfl | apply zW.skip) ?_; (refine zZ.v rfl rfl (zQ rfl rfl rfl (by decide)) ?_); (refine zZ.v rfl rfl (zK rfl rfl rfl (by decide)) ?_); refine zZ.nil ?_) | refine zX.yE rfl (by first | assumption | with_reducible rfl) ?_ | refine zX.ret ?_) | refine yJ.r ?_)
    all_goals exact ⟨by first | exact .inl rfl | exact .inr rfl, _, Sub.refl _, .p rfl (.tmp rfl)⟩
  | true =>
    rw [hd] at c1
    rcases Int.lt_or_le me 0 with hme | hme
    · have f1 : decide (me < 0) = true := decide_eq_true hme
      repeat' (first | (refine zX.is ?_; first | refine zX.seq ?_ | (refine zX.isR (id := 0) ?_; refine zX.zV [0] [1, 6, 9, 10, 12, 13] (by repeat' first | exact zY.nil | apply zY.p rfl) (by repeat' first | exact zW.nil | apply zW.skip) ?_; (refine zZ.m rfl rfl (z8 rfl rfl rfl (by decide)) ?_); (refine zZ.v rfl rfl (zK rfl rfl rfl (by decide)) ?_); refine zZ.nil ?_) | (refine zX.isR (id := 1) ?_; refine zX.zV [1, 2] [1, 6, 9, 10, 12, 13] (by repeat' first | exact zY.nil | apply zY.p rfl | apply zY.ptr rfl) (by repeat' first | exact zW.nil | apply zW.boxP rfl rfl | apply zW.skip) ?_; (refine zZ.v rfl rfl (zJ rfl rfl rfl (by decide)) ?_); (refine zZ.v rfl rfl (zA rfl rfl rfl (by rfl) rfl (by decide)) ?_); (refine zZ.v rfl rfl (zK rfl rfl rfl (by decide)) ?_); refine zZ.nil ?_) | (refine zX.isR (id := 2) ?_; refine zX.zV [1, 2, 3] [1, 6, 9, 10, 12, 13] (by repeat' first | exact zY.nil | apply zY.p rfl | apply zY.ptr rfl) (by repeat' first | exact zW.nil | apply zW.boxP rfl rfl | apply zW.skip) ?_; (refine zZ.v rfl rfl (zJ rfl rfl rfl (by decide)) ?_); (refine zZ.v rfl rfl (zA rfl rfl rfl (by rfl) rfl (by decide)) ?_); (refine zZ.v rfl rfl (zK rfl rfl rfl (by decide)) ?_); refine zZ.nil ?_) | (refine zX.isR (id := 3) ?_; refine zX.zV [1, 2, 3, 4] [1, 6, 9, 10, 12, 13] (by repeat' first | exact zY.nil | apply zY.p rfl | apply zY.ptr rfl) (by repeat' first | exact zW.nil | apply zW.boxP rfl rfl | apply zW.skip) ?_; (refine zZ.v rfl rfl (zJ rfl rfl rfl (by decide)) ?_); (refine zZ.v rfl rfl (zA rfl rfl rfl (by rfl) rfl (by decide)) ?_); (refine zZ.v rfl rfl (zK rfl rfl rfl (by decide)) ?_); refine zZ.nil ?_) | (refine zX.isR (id := 4) ?_; refine zX.zV [1, 2, 3, 4, 5] [1, 6, 9, 10, 12, 13] (by repeat' first | exact zY.nil | apply zY.p rfl | apply zY.ptr rfl) (by repeat' first | exact zW.nil | apply zW.boxP rfl rfl | apply zW.skip) ?_; (refine zZ.v rfl rfl (zJ rfl rfl rfl (by decide)) ?_); (refine zZ.v rfl rfl (zI rfl rfl rfl (by rfl) (by rfl) rfl (by decide)) ?_); (refine zZ.m rfl rfl (zC rfl (by decide) rfl (by decide)) ?_); (refine zZ.w rfl (by exact zB rfl rfl rfl rfl rfl (by rfl) (by exact Nat.le_of_ble_eq_true rfl) rfl rfl) ?_); refine zZ.nil ?_) | (refine zX.isR (id := 5) ?_; refine zX.zV [1, 2, 3, 4, 5, 6] [1, 6, 9, 10, 12, 13] (by repeat' first | exact zY.nil | apply zY.p rfl | apply zY.ptr rfl) (by repeat' first | exact zW.nil | apply zW.boxP rfl rfl | apply zW.skip) ?_; (refine zZ.v rfl rfl (zJ rfl rfl rfl (by decide)) ?_); (refine zZ.v rfl rfl (zA rfl rfl rfl (by rfl) rfl (by decide)) ?_); (refine zZ.v rfl rfl (zK rfl rfl rfl (by decide)) ?_); refine zZ.nil ?_) | (refine zX.isR (id := 6) ?_; refine zX.zV [2, 3, 4, 5, 6, 7] [1, 6, 9, 10, 12, 13] (by repeat' first | exact zY.nil | apply zY.p rfl | apply zY.ptr rfl) (by repeat' first | exact zW.nil | apply zW.boxP rfl rfl | apply zW.skip) ?_; (refine zZ.v rfl rfl (by exact zL (c0) rfl rfl rfl (by decide)) ?_); (refine zZ.v rfl rfl (zK rfl rfl rfl (by decide)) ?_); refine zZ.nil ?_) | (refine zX.isR (id := 7) ?_; refine zX.zV [2, 3, 4, 5, 6, 7, 8] [1, 6, 9, 10, 12, 13] (by repeat' first | exact zY.nil | apply zY.p rfl | apply zY.ptr rfl) (by repeat' first | exact zW.nil | apply zW.boxP rfl rfl | apply zW.skip) ?_; all_goals (refine zZ.v rfl rfl (zQ rfl rfl rfl (by decide)) ?_); all_goals (refine zZ.v rfl rfl (zQ rfl rfl rfl (by decide)) ?_); all_goals (refine zZ.v rfl rfl (by exact zL (c1) rfl rfl rfl (by decide)) ?_); all_goals (refine zZ.v rfl rfl (by exact xL rfl rfl (by exact bF (by decide)) rfl (by decide)) ?_); all_goals (refine zZ.v rfl rfl (zQ rfl rfl rfl (by decide)) ?_); all_goals (refine zZ.gY rfl rfl (by decide) rfl (by with_reducible rfl) rfl (by decide) (zQ rfl rfl rfl (by decide)) ?_); all_goals (refine zZ.gY rfl rfl (by decide) rfl (by with_reducible rfl) rfl (by decide) (by exact yL rfl rfl rfl (by exact f1) rfl (by decide)) ?_); all_goals (refine zZ.v rfl rfl (by exact zR rfl rfl (by with_reducible rfl) rfl rfl (by decide)) ?_); all_goals (refine zZ.v rfl rfl (zQ rfl rfl rfl (by decide)) ?_); all_goals (refine zZ.gnF rfl rfl (by decide) rfl (by with_reducible rfl) rfl (by decide) ?_); all_goals (refine zZ.gnF rfl rfl (by decide) rfl (by with_reducible rfl) rfl (by decide) ?_); all_goals (refine zZ.gnF rfl rfl (by decide) rfl (by with_reducible rfl) rfl (by decide) ?_); all_goals (refine zZ.v rfl rfl (by exact zT rfl rfl (by with_reducible rfl) rfl rfl (by decide)) ?_); all_goals (refine zZ.v rfl rfl (zQ rfl rfl rfl (by decide)) ?_); all_goals (refine zZ.gnF rfl rfl (by decide) rfl (by with_reducible rfl) rfl (by decide) ?_); all_goals (refine zZ.gnF rfl rfl (by decide) rfl (by with_reducible rfl) rfl (by decide) ?_); all_goals (refine zZ.gnF rfl rfl (by decide) rfl (by with_reducible rfl) rfl (by decide) ?_); all_goals (refine zZ.v rfl rfl (by exact zT rfl rfl (by with_reducible rfl) rfl rfl (by decide)) ?_); all_goals (refine zZ.v rfl rfl (zQ rfl rfl rfl (by decide)) ?_); all_goals (refine zZ.gnF rfl rfl (by decide) rfl (by with_reducible rfl) rfl (by decide) ?_); all_goals (refine zZ.gnF rfl rfl (by decide) rfl (by with_reducible rfl) rfl (by decide) ?_); all_goals (refine zZ.gnF rfl rfl (by decide) rfl (by with_reducible rfl) rfl (by decide) ?_); all_goals (refine zZ.gnF rfl rfl (by decide) rfl (by with_reducible rfl) rfl (by decide) ?_); all_goals (refine zZ.v rfl rfl (by exact zT rfl rfl (by with_reducible rfl) rfl rfl (by decide)) ?_); all_goals (refine zZ.nil ?_)) | (refine zX.isR (id := 8) ?_; refine zX.zV [2, 3, 4, 5, 6, 7, 8] [1, 6, 9, 10, 12, 13] (by repeat' first | exact zY.nil | apply zY.p rfl | apply zY.ptr rfl) (by repeat' first | exact zW.nil | apply zW.boxP rfl rfl | apply zW.skip) ?_; (refine zZ.v rfl rfl (zQ rfl rfl rfl (by decide)) ?_); (refine zZ.v rfl rfl (zK rfl rfl rfl (by decide)) ?_); refine zZ.nil ?_) | refine zX.yE rfl (by first | assumption | with_reducible rfl) ?_ | refine zX.ret ?_) | refine yJ.r ?_)
      all_goals exact ⟨by first | exact .inl rfl | exact .inr rfl, _, Sub.refl _, .p rfl (.tmp rfl)⟩
    · have f1 : decide (me < 0) = false := decide_eq_false (by omega)
      rcases Int.lt_or_le me t with hmt | hmt
      · have f2 : decide (t ≤ me) = false := decide_eq_false (by omega)
        rcases Nat.lt_or_ge 60 L.length with hl | hl
        · have f3 : decide ((60 : Int) < ((L.map resV).length : Int)) = true := decide_eq_true (by rw [List.length_map]; omega)
          repeat' (first | (refine zX.is ?_; first | refine zX.seq ?_ | (refine zX.isR (id := 0) ?_; refine zX.zV [0] [1, 6, 9, 10, 12, 13] (by repeat' first | exact zY.nil | apply zY.p rfl) (by repeat' first | exact zW.nil | apply zW.skip) ?_; (refine zZ.m rfl rfl (z8 rfl rfl rfl (by decide)) ?_); (refine zZ.v rfl rfl (zK rfl rfl rfl (by decide)) ?_); refine zZ.nil ?_) | (refine zX.isR (id := 1) ?_; refine zX.zV [1, 2] [1, 6, 9, 10, 12, 13] (by repeat' first | exact zY.nil | apply zY.p rfl | apply zY.ptr rfl) (by repeat' first | exact zW.nil | apply zW.boxP rfl rfl | apply zW.skip) ?_; (refine zZ.v rfl rfl (zJ rfl rfl rfl (by decide)) ?_); (refine zZ.v rfl rfl (zA rfl rfl rfl (by rfl) rfl (by decide)) ?_); (refine zZ.v rfl rfl (zK rfl rfl rfl (by decide)) ?_); refine zZ.nil ?_) | (refine zX.isR (id := 2) ?_; refine zX.zV [1, 2, 3] [1, 6, 9, 10, 12, 13] (by repeat' first | exact zY.nil | apply zY.p rfl | apply zY.ptr rfl) (by repeat' first | exact zW.nil | apply zW.boxP rfl rfl | apply zW.skip) ?_; (refine zZ.v rfl rfl (zJ rfl rfl rfl (by decide)) ?_); (refine zZ.v rfl rfl (zA rfl rfl rfl (by rfl) rfl (by decide)) ?_); (refine zZ.v rfl rfl (zK rfl rfl rfl (by decide)) ?_); refine zZ.nil ?_) | (refine zX.isR (id := 3) ?_; refine zX.zV [1, 2, 3, 4] [1, 6, 9, 10, 12, 13] (by repeat' first | exact zY.nil | apply zY.p rfl | apply zY.ptr rfl) (by repeat' first | exact zW.nil | apply zW.boxP rfl rfl | apply zW.skip) ?_; (refine zZ.v rfl rfl (zJ rfl rfl rfl (by decide)) ?_); (refine zZ.v rfl rfl (zA rfl rfl rfl (by rfl) rfl (by decide)) ?_); (refine zZ.v rfl rfl (zK rfl rfl rfl (by decide)) ?_); refine zZ.nil ?_) | (refine zX.isR (id := 4) ?_; refine zX.zV [1, 2, 3, 4, 5] [1, 6, 9, 10, 12, 13] (by repeat' first | exact zY.nil | apply zY.p rfl | apply zY.ptr rfl) (by repeat' first | exact zW.nil | apply zW.boxP rfl rfl | apply zW.skip) ?_; (refine zZ.v rfl rfl (zJ rfl rfl rfl (by decide)) ?_); (refine zZ.v rfl rfl (zI rfl rfl rfl (by rfl) (by rfl) rfl (by decide)) ?_); (refine zZ.m rfl rfl (zC rfl (by decide) rfl (by decide)) ?_); (refine zZ.w rfl (by exact zB rfl rfl rfl rfl rfl (by rfl) (by exact Nat.le_of_ble_eq_true rfl) rfl rfl) ?_); refine zZ.nil ?_) | (refine zX.isR (id := 5) ?_; refine zX.zV [1, 2, 3, 4, 5, 6] [1, 6, 9, 10, 12, 13] (by repeat' first | exact zY.nil | apply zY.p rfl | apply zY.ptr rfl) (by repeat' first | exact zW.nil | apply zW.boxP rfl rfl | apply zW.skip) ?_; (refine zZ.v rfl rfl (zJ rfl rfl rfl (by decide)) ?_); (refine zZ.v rfl rfl (zA rfl rfl rfl (by rfl) rfl (by decide)) ?_); (refine zZ.v rfl rfl (zK rfl rfl rfl (by decide)) ?_); refine zZ.nil ?_) | (refine zX.isR (id := 6) ?_; refine zX.zV [2, 3, 4, 5, 6, 7] [1, 6, 9, 10, 12, 13] (by repeat' first | exact zY.nil | apply zY.p rfl | apply zY.ptr rfl) (by repeat' first | exact zW.nil | apply zW.boxP rfl rfl | apply zW.skip) ?_; (refine zZ.v rfl rfl (by exact zL (c0) rfl rfl rfl (by decide)) ?_); (refine zZ.v rfl rfl (zK rfl rfl rfl (by decide)) ?_); refine zZ.nil ?_) | (refine zX.isR (id := 7) ?_; refine zX.zV [2, 3, 4, 5, 6, 7, 8] [1, 6, 9, 10, 12, 13] (by repeat' first | exact zY.nil | apply zY.p rfl | apply zY.ptr rfl) (by repeat' first | exact zW.nil | apply zW.boxP rfl rfl | apply zW.skip) ?_; all_goals (refine zZ.v rfl rfl (zQ rfl rfl rfl (by decide)) ?_); all_goals (refine zZ.v rfl rfl (zQ rfl rfl rfl (by decide)) ?_); all_goals (refine zZ.v rfl rfl (by exact zL (c1) rfl rfl rfl (by decide)) ?_); all_goals (refine zZ.v rfl rfl (by exact xL rfl rfl (by exact bF (by decide)) rfl (by decide)) ?_); all_goals (refine zZ.v rfl rfl (zQ rfl rfl rfl (by decide)) ?_); all_goals (refine zZ.gY rfl rfl (by decide) rfl (by with_reducible rfl) rfl (by decide) (zQ rfl rfl rfl (by decide)) ?_); all_goals (refine zZ.gY rfl rfl (by decide) rfl (by with_reducible rfl) rfl (by decide) (by exact yL rfl rfl rfl (by exact f1) rfl (by decide)) ?_); all_goals (refine zZ.v rfl rfl (by exact zR rfl rfl (by with_reducible rfl) rfl rfl (by decide)) ?_); all_goals (refine zZ.v rfl rfl (zQ rfl rfl rfl (by decide)) ?_); all_goals (refine zZ.gY rfl rfl (by decide) rfl (by with_reducible rfl) rfl (by decide) (zQ rfl rfl rfl (by decide)) ?_); all_goals (refine zZ.gY rfl rfl (by decide) rfl (by with_reducible rfl) rfl (by decide) (zQ rfl rfl rfl (by decide)) ?_); all_goals (refine zZ.gY rfl rfl (by decide) rfl (by with_reducible rfl) rfl (by decide) (by exact r_geq rfl rfl rfl (by exact f2) rfl (by decide)) ?_); all_goals (refine zZ.v rfl rfl (by exact zR rfl rfl (by with_reducible rfl) rfl rfl (by decide)) ?_); all_goals (refine zZ.v rfl rfl (zQ rfl rfl rfl (by decide)) ?_); all_goals (refine zZ.gY rfl rfl (by decide) rfl (by with_reducible rfl) rfl (by decide) (zQ rfl rfl rfl (by decide)) ?_); all_goals (refine zZ.gY rfl rfl (by decide) rfl (by with_reducible rfl) rfl (by decide) (xE rfl rfl rfl (by decide)) ?_); all_goals (refine zZ.gY rfl rfl (by decide) rfl (by with_reducible rfl) rfl (by decide) (by exact r_gtr rfl rfl rfl (by exact f3) rfl (by decide)) ?_); all_goals (refine zZ.v rfl rfl (by exact zR rfl rfl (by with_reducible rfl) rfl rfl (by decide)) ?_); all_goals (refine zZ.v rfl rfl (zQ rfl rfl rfl (by decide)) ?_); all_goals (refine zZ.gnF rfl rfl (by decide) rfl (by with_reducible rfl) rfl (by decide) ?_); all_goals (refine zZ.gnF rfl rfl (by decide) rfl (by with_reducible rfl) rfl (by decide) ?_); all_goals (refine zZ.gnF rfl rfl (by decide) rfl (by with_reducible rfl) rfl (by decide) ?_); all_goals (refine zZ.gnF rfl rfl (by decide) rfl (by with_reducible rfl) rfl (by decide) ?_); all_goals (refine zZ.v rfl rfl (by exact zT rfl rfl (by with_reducible rfl) rfl rfl (by decide)) ?_); all_goals (refine zZ.nil ?_)) | (refine zX.isR (id := 8) ?_; refine zX.zV [2, 3, 4, 5, 6, 7, 8] [1, 6, 9, 10, 12, 13] (by repeat' first | exact zY.nil | apply zY.p rfl | apply zY.ptr rfl) (by repeat' first | exact zW.nil | apply zW.boxP rfl rfl | apply zW.skip) ?_; (refine zZ.v rfl rfl (zQ rfl rfl rfl (by decide)) ?_); (refine zZ.v rfl rfl (zK rfl rfl rfl (by decide)) ?_); refine zZ.nil ?_) | refine zX.yE rfl (by first | assumption | with_reducible rfl) ?_ | refine zX.ret ?_) | refine yJ.r ?_)
          all_goals exact ⟨by first | exact .inl rfl | exact .inr rfl, _, Sub.refl _, .p rfl (.tmp rfl)⟩
        · have f3 : decide ((60 : Int) < ((L.map resV).length : Int)) = false := decide_eq_false (by rw [List.length_map]; omega)
          cases hm : may14B c k u v with
          | false =>
            rw [hm] at c2
            repeat' (first | (refine zX.is ?_; first | refine zX.seq ?_ | (refine zX.isR (id := 0) ?_; refine zX.zV [0] [1, 6, 9, 10, 12, 13] (by repeat' first | exact zY.nil | apply zY.p rfl) (by repeat' first | exact zW.nil | apply zW.skip) ?_; (refine zZ.m rfl rfl (z8 rfl rfl rfl (by decide)) ?_); (refine zZ.v rfl rfl (zK rfl rfl rfl (by decide)) ?_); refine zZ.nil ?_) | (refine zX.isR (id := 1) ?_; refine zX.zV [1, 2] [1, 6, 9, 10, 12, 13] (by repeat' first | exact zY.nil | apply zY.p rfl | apply zY.ptr rfl) (by repeat' first | exact zW.nil | apply zW.boxP rfl rfl | apply zW.skip) ?_; (refine zZ.v rfl rfl (zJ rfl rfl rfl (by decide)) ?_); (refine zZ.v rfl rfl (zA rfl rfl rfl (by rfl) rfl (by decide)) ?_); (refine zZ.v rfl rfl (zK rfl rfl rfl (by decide)) ?_); refine zZ.nil ?_) | (refine zX.isR (id := 2) ?_; refine zX.zV [1, 2, 3] [1, 6, 9, 10, 12, 13] (by repeat' first | exact zY.nil | apply zY.p rfl | apply zY.ptr rfl) (by repeat' first | exact zW.nil | apply zW.boxP rfl rfl | apply zW.skip) ?_; (refine zZ.v rfl rfl (zJ rfl rfl rfl (by decide)) ?_); (refine zZ.v rfl rfl (zA rfl rfl rfl (by rfl) rfl (by decide)) ?_); (refine zZ.v rfl rfl (zK rfl rfl rfl (by decide)) ?_); refine zZ.nil ?_) | (refine zX.isR (id := 3) ?_; refine zX.zV [1, 2, 3, 4] [1, 6, 9, 10, 12, 13] (by repeat' first | exact zY.nil | apply zY.p rfl | apply zY.ptr rfl) (by repeat' first | exact zW.nil | apply zW.boxP rfl rfl | apply zW.skip) ?_; (refine zZ.v rfl rfl (zJ rfl rfl rfl (by decide)) ?_); (refine zZ.v rfl rfl (zA rfl rfl rfl (by rfl) rfl (by decide)) ?_); (refine zZ.v rfl rfl (zK rfl rfl rfl (by decide)) ?_); refine zZ.nil ?_) | (refine zX.isR (id := 4) ?_; refine zX.zV [1, 2, 3, 4, 5] [1, 6, 9, 10, 12, 13] (by repeat' first | exact zY.nil | apply zY.p rfl | apply zY.ptr rfl) (by repeat' first | exact zW.nil | apply zW.boxP rfl rfl | apply zW.skip) ?_; (refine zZ.v rfl rfl (zJ rfl rfl rfl (by decide)) ?_); (refine zZ.v rfl rfl (zI rfl rfl rfl (by rfl) (by rfl) rfl (by decide)) ?_); (refine zZ.m rfl rfl (zC rfl (by decide) rfl (by decide)) ?_); (refine zZ.w rfl (by exact zB rfl rfl rfl rfl rfl (by rfl) (by exact Nat.le_of_ble_eq_true rfl) rfl rfl) ?_); refine zZ.nil ?_) | (refine zX.isR (id := 5) ?_; refine zX.zV [1, 2, 3, 4, 5, 6] [1, 6, 9, 10, 12, 13] (by repeat' first | exact zY.nil | apply zY.p rfl | apply zY.ptr rfl) (by repeat' first | exact zW.nil | apply zW.boxP rfl rfl | apply zW.skip) ?_; (refine zZ.v rfl rfl (zJ rfl rfl rfl (by decide)) ?_); (refine zZ.v rfl rfl (zA rfl rfl rfl (by rfl) rfl (by decide)) ?_); (refine zZ.v rfl rfl (zK rfl rfl rfl (by decide)) ?_); refine zZ.nil ?_) | (refine zX.isR (id := 6) ?_; refine zX.zV [2, 3, 4, 5, 6, 7] [1, 6, 9, 10, 12, 13] (by repeat' first | exact zY.nil | apply zY.p rfl | apply zY.ptr rfl) (by repeat' first | exact zW.nil | apply zW.boxP rfl rfl | apply zW.skip) ?_; (refine zZ.v rfl rfl (by exact zL (c0) rfl rfl rfl (by decide)) ?_); (refine zZ.v rfl rfl (zK rfl rfl rfl (by decide)) ?_); refine zZ.nil ?_) | (refine zX.isR (id := 7) ?_; refine zX.zV [2, 3, 4, 5, 6, 7, 8] [1, 6, 9, 10, 12, 13] (by repeat' first | exact zY.nil | apply zY.p rfl | apply zY.ptr rfl) (by repeat' first | exact zW.nil | apply zW.boxP rfl rfl | apply zW.skip) ?_; all_goals (refine zZ.v rfl rfl (zQ rfl rfl rfl (by decide)) ?_); all_goals (refine zZ.v rfl rfl (zQ rfl rfl rfl (by decide)) ?_); all_goals (refine zZ.v rfl rfl (by exact zL (c1) rfl rfl rfl (by decide)) ?_); all_goals (refine zZ.v rfl rfl (by exact xL rfl rfl (by exact bF (by decide)) rfl (by decide)) ?_); all_goals (refine zZ.v rfl rfl (zQ rfl rfl rfl (by decide)) ?_); all_goals (refine zZ.gY rfl rfl (by decide) rfl (by with_reducible rfl) rfl (by decide) (zQ rfl rfl rfl (by decide)) ?_); all_goals (refine zZ.gY rfl rfl (by decide) rfl (by with_reducible rfl) rfl (by decide) (by exact yL rfl rfl rfl (by exact f1) rfl (by decide)) ?_); all_goals (refine zZ.v rfl rfl (by exact zR rfl rfl (by with_reducible rfl) rfl rfl (by decide)) ?_); all_goals (refine zZ.v rfl rfl (zQ rfl rfl rfl (by decide)) ?_); all_goals (refine zZ.gY rfl rfl (by decide) rfl (by with_reducible rfl) rfl (by decide) (zQ rfl rfl rfl (by decide)) ?_); all_goals (refine zZ.gY rfl rfl (by decide) rfl (by with_reducible rfl) rfl (by decide) (zQ rfl rfl rfl (by decide)) ?_); all_goals (refine zZ.gY rfl rfl (by decide) rfl (by with_reducible rfl) rfl (by decide) (by exact r_geq rfl rfl rfl (by exact f2) rfl (by decide)) ?_); all_goals (refine zZ.v rfl rfl (by exact zR rfl rfl (by with_reducible rfl) rfl rfl (by decide)) ?_); all_goals (refine zZ.v rfl rfl (zQ rfl rfl rfl (by decide)) ?_); all_goals (refine zZ.gY rfl rfl (by decide) rfl (by with_reducible rfl) rfl (by decide) (zQ rfl rfl rfl (by decide)) ?_); all_goals (refine zZ.gY rfl rfl (by decide) rfl (by with_reducible rfl) rfl (by decide) (xE rfl rfl rfl (by decide)) ?_); all_goals (refine zZ.gY rfl rfl (by decide) rfl (by with_reducible rfl) rfl (by decide) (by exact r_gtr rfl rfl rfl (by exact f3) rfl (by decide)) ?_); all_goals (refine zZ.v rfl rfl (by exact zR rfl rfl (by with_reducible rfl) rfl rfl (by decide)) ?_); all_goals (refine zZ.v rfl rfl (zQ rfl rfl rfl (by decide)) ?_); all_goals (refine zZ.gY rfl rfl (by decide) rfl (by with_reducible rfl) rfl (by decide) (zQ rfl rfl rfl (by decide)) ?_); all_goals (refine zZ.gY rfl rfl (by decide) rfl (by with_reducible rfl) rfl (by decide) (zI rfl rfl rfl (by rfl) (by rfl) rfl (by decide)) ?_); all_goals (refine zZ.gY rfl rfl (by decide) rfl (by with_reducible rfl) rfl (by decide) (by exact zL (c2) rfl rfl rfl (by decide)) ?_); all_goals (refine zZ.gY rfl rfl (by decide) rfl (by with_reducible rfl) rfl (by decide) (by exact xL rfl rfl (by exact bT (by decide)) rfl (by decide)) ?_); all_goals (refine zZ.v rfl rfl (by exact zR rfl rfl (by with_reducible rfl) rfl rfl (by decide)) ?_); all_goals (refine zZ.nil ?_)) | (refine zX.isR (id := 8) ?_; refine zX.zV [2, 3, 4, 5, 6, 7, 8] [1, 6, 9, 10, 12, 13] (by repeat' first | exact zY.nil | apply zY.p rfl | apply zY.ptr rfl) (by repeat' first | exact zW.nil | apply zW.boxP rfl rfl | apply zW.skip) ?_; (refine zZ.v rfl rfl (zQ rfl rfl rfl (by decide)) ?_); (refine zZ.v rfl rfl (zK rfl rfl rfl (by decide)) ?_); refine zZ.nil ?_) | refine zX.yE rfl (by first | assumption | with_reducible rfl) ?_ | refine zX.ret ?_) | refine yJ.r ?_)
            all_goals exact ⟨by first | exact .inl rfl | exact .inr rfl, _, Sub.refl _, .p rfl (.tmp rfl)⟩
          | true =>
            rw [hm] at c2
            have hLog : yC L := ⟨by omega, hL⟩
            have hop := opOK_may hd hm hw
            have c3 := (saveNext_fn L hLog t c me k u v w hop).weakT (tupS_le t k u v w L)
            have c4 := (saveNextRef_fn L hLog t k u v w hop).weakT (tupS_le t k u v w L)
            obtain ⟨K, C, A, B, D, E, I, N, F, e⟩ := tupS_form (opT t k u v w L 0)
            rw [e] at c3 c4
            have c5 := asks_fn K C A B D
            have c6 := outs_fn E I 0 N
            have g1 : (F == F) = true := by simp
            repeat' ((refine zX.is ?_; first | refine zX.seq ?_ | (refine zX.isR (id := 0) ?_; refine zX.zV [0] [1, 6, 9, 10, 12, 13] (by repeat' first | exact zY.nil | apply zY.p rfl) (by repeat' first | exact zW.nil | apply zW.skip) ?_; (refine zZ.m rfl rfl (z8 rfl rfl rfl (by decide)) ?_); (refine zZ.v rfl rfl (zK rfl rfl rfl (by decide)) ?_); refine zZ.nil ?_) | (refine zX.isR (id := 1) ?_; refine zX.zV [1, 2] [1, 6, 9, 10, 12, 13] (by repeat' first | exact zY.nil | apply zY.p rfl | apply zY.ptr rfl) (by repeat' first | exact zW.nil | apply zW.boxP rfl rfl | apply zW.skip) ?_; (refine zZ.v rfl rfl (zJ rfl rfl rfl (by decide)) ?_); (refine zZ.v rfl rfl (zA rfl rfl rfl (by rfl) rfl (by decide)) ?_); (refine zZ.v rfl rfl (zK rfl rfl rfl (by decide)) ?_); refine zZ.nil ?_) | (refine zX.isR (id := 2) ?_; refine zX.zV [1, 2, 3] [1, 6, 9, 10, 12, 13] (by repeat' first | exact zY.nil | apply zY.p rfl | apply zY.ptr rfl) (by repeat' first | exact zW.nil | apply zW.boxP rfl rfl | apply zW.skip) ?_; (refine zZ.v rfl rfl (zJ rfl rfl rfl (by decide)) ?_); (refine zZ.v rfl rfl (zA rfl rfl rfl (by rfl) rfl (by decide)) ?_); (refine zZ.v rfl rfl (zK rfl rfl rfl (by decide)) ?_); refine zZ.nil ?_) | (refine zX.isR (id := 3) ?_; refine zX.zV [1, 2, 3, 4] [1, 6, 9, 10, 12, 13] (by repeat' first | exact zY.nil | apply zY.p rfl | apply zY.ptr rfl) (by repeat' first | exact zW.nil | apply zW.boxP rfl rfl | apply zW.skip) ?_; (refine zZ.v rfl rfl (zJ rfl rfl rfl (by decide)) ?_); (refine zZ.v rfl rfl (zA rfl rfl rfl (by rfl) rfl (by decide)) ?_); (refine zZ.v rfl rfl (zK rfl rfl rfl (by decide)) ?_); refine zZ.nil ?_) | (refine zX.isR (id := 4) ?_; refine zX.zV [1, 2, 3, 4, 5] [1, 6, 9, 10, 12, 13] (by repeat' first | exact zY.nil | apply zY.p rfl | apply zY.ptr rfl) (by repeat' first | exact zW.nil | apply zW.boxP rfl rfl | apply zW.skip) ?_; (refine zZ.v rfl rfl (zJ rfl rfl rfl (by decide)) ?_); (refine zZ.v rfl rfl (zI rfl rfl rfl (by rfl) (by rfl) rfl (by decide)) ?_); (refine zZ.m rfl rfl (zC rfl (by decide) rfl (by decide)) ?_); (refine zZ.w rfl (by exact zB rfl rfl rfl rfl rfl (by rfl) (by exact Nat.le_of_ble_eq_true rfl) rfl rfl) ?_); refine zZ.nil ?_) | (refine zX.isR (id := 5) ?_; refine zX.zV [1, 2, 3, 4, 5, 6] [1, 6, 9, 10, 12, 13] (by repeat' first | exact zY.nil | apply zY.p rfl | apply zY.ptr rfl) (by repeat' first | exact zW.nil | apply zW.boxP rfl rfl | apply zW.skip) ?_; (refine zZ.v rfl rfl (zJ rfl rfl rfl (by decide)) ?_); (refine zZ.v rfl rfl (zA rfl rfl rfl (by rfl) rfl (by decide)) ?_); (refine zZ.v rfl rfl (zK rfl rfl rfl (by decide)) ?_); refine zZ.nil ?_) | (refine zX.isR (id := 6) ?_; refine zX.zV [2, 3, 4, 5, 6, 7] [1, 6, 9, 10, 12, 13] (by repeat' first | exact zY.nil | apply zY.p rfl | apply zY.ptr rfl) (by repeat' first | exact zW.nil | apply zW.boxP rfl rfl | apply zW.skip) ?_; (refine zZ.v rfl rfl (by exact zL (c0) rfl rfl rfl (by decide)) ?_); (refine zZ.v rfl rfl (zK rfl rfl rfl (by decide)) ?_); refine zZ.nil ?_) | (refine zX.isR (id := 7) ?_; refine zX.zV [2, 3, 4, 5, 6, 7, 8] [1, 6, 9, 10, 12, 13] (by repeat' first | exact zY.nil | apply zY.p rfl | apply zY.ptr rfl) (by repeat' first | exact zW.nil | apply zW.boxP rfl rfl | apply zW.skip) ?_; all_goals (refine zZ.v rfl rfl (zQ rfl rfl rfl (by decide)) ?_); all_goals (refine zZ.v rfl rfl (zQ rfl rfl rfl (by decide)) ?_); all_goals (refine zZ.v rfl rfl (by exact zL (c1) rfl rfl rfl (by decide)) ?_); all_goals (refine zZ.v rfl rfl (by exact xL rfl rfl (by exact bF (by decide)) rfl (by decide)) ?_); all_goals (refine zZ.v rfl rfl (zQ rfl rfl rfl (by decide)) ?_); all_goals (refine zZ.gY rfl rfl (by decide) rfl (by with_reducible rfl) rfl (by decide) (zQ rfl rfl rfl (by decide)) ?_); all_goals (refine zZ.gY rfl rfl (by decide) rfl (by with_reducible rfl) rfl (by decide) (by exact yL rfl rfl rfl (by exact f1) rfl (by decide)) ?_); all_goals (refine zZ.v rfl rfl (by exact zR rfl rfl (by with_reducible rfl) rfl rfl (by decide)) ?_); all_goals (refine zZ.v rfl rfl (zQ rfl rfl rfl (by decide)) ?_); all_goals (refine zZ.gY rfl rfl (by decide) rfl (by with_reducible rfl) rfl (by decide) (zQ rfl rfl rfl (by decide)) ?_); all_goals (refine zZ.gY rfl rfl (by decide) rfl (by with_reducible rfl) rfl (by decide) (zQ rfl rfl rfl (by decide)) ?_); all_goals (refine zZ.gY rfl rfl (by decide) rfl (by with_reducible rfl) rfl (by decide) (by exact r_geq rfl rfl rfl (by exact f2) rfl (by decide)) ?_); all_goals (refine zZ.v rfl rfl (by exact zR rfl rfl (by with_reducible rfl) rfl rfl (by decide)) ?_); all_goals (refine zZ.v rfl rfl (zQ rfl rfl rfl (by decide)) ?_); all_goals (refine zZ.gY rfl rfl (by decide) rfl (by with_reducible rfl) rfl (by decide) (zQ rfl rfl rfl (by decide)) ?_); all_goals (refine zZ.gY rfl rfl (by decide) rfl (by with_reducible rfl) rfl (by decide) (xE rfl rfl rfl (by decide)) ?_); all_goals (refine zZ.gY rfl rfl (by decide) rfl (by with_reducible rfl) rfl (by decide) (by exact r_gtr rfl rfl rfl (by exact f3) rfl (by decide)) ?_); all_goals (refine zZ.v rfl rfl (by exact zR rfl rfl (by with_reducible rfl) rfl rfl (by decide)) ?_); all_goals (refine zZ.v rfl rfl (zQ rfl rfl rfl (by decide)) ?_); all_goals (refine zZ.gY rfl rfl (by decide) rfl (by with_reducible rfl) rfl (by decide) (zQ rfl rfl rfl (by decide)) ?_); all_goals (refine zZ.gY rfl rfl (by decide) rfl (by with_reducible rfl) rfl (by decide) (zI rfl rfl rfl (by rfl) (by rfl) rfl (by decide)) ?_); all_goals (refine zZ.gY rfl rfl (by decide) rfl (by with_reducible rfl) rfl (by decide) (by exact zL (c2) rfl rfl rfl (by decide)) ?_); all_goals (refine zZ.gY rfl rfl (by decide) rfl (by with_reducible rfl) rfl (by decide) (by exact xL rfl rfl (by exact bF (by decide)) rfl (by decide)) ?_); all_goals (refine zZ.v rfl rfl (by exact zR rfl rfl (by with_reducible rfl) rfl rfl (by decide)) ?_); all_goals (refine zZ.nil ?_)) | (refine zX.isR (id := 9) ?_; refine zX.zV [2, 3, 4, 5, 6, 7, 8] [1, 6, 9, 10, 12, 13] (by repeat' first | exact zY.nil | apply zY.p rfl | apply zY.ptr rfl) (by repeat' first | exact zW.nil | apply zW.boxP rfl rfl | apply zW.skip) ?_; (refine zZ.v rfl rfl (zQ rfl rfl rfl (by decide)) ?_); (refine zZ.v rfl rfl (zQ rfl rfl rfl (by decide)) ?_); (refine zZ.v rfl rfl (zQ rfl rfl rfl (by decide)) ?_); (refine zZ.v rfl rfl (zI rfl rfl rfl (by rfl) (by rfl) rfl (by decide)) ?_); (refine zZ.v rfl rfl (zQ rfl rfl rfl (by decide)) ?_); (refine zZ.v rfl rfl (by exact yU (c3) rfl rfl rfl (by decide)) ?_); (refine zZ.v rfl rfl (yO rfl rfl rfl (by decide)) ?_); (refine zZ.v rfl rfl (zF rfl rfl rfl rfl (by decide)) ?_); (refine zZ.v rfl rfl (zF rfl rfl rfl rfl (by decide)) ?_); (refine zZ.v rfl rfl (zF rfl rfl rfl rfl (by decide)) ?_); (refine zZ.m rfl rfl (zC rfl (by decide) rfl (by decide)) ?_); (refine zZ.m rfl rfl (zC rfl (by decide) rfl (by decide)) ?_); (refine zZ.w rfl (by exact zB rfl rfl rfl rfl rfl (by rfl) (by exact Nat.le_of_ble_eq_true rfl) rfl rfl) ?_); (refine zZ.w rfl (by exact zB rfl rfl rfl rfl rfl (by rfl) (by exact Nat.le_of_ble_eq_true rfl) rfl rfl) ?_); (refine zZ.v rfl rfl (zK rfl rfl rfl (by decide)) ?_); refine zZ.nil ?_) | (refine zX.isR (id := 10) ?_; refine zX.zV [2, 3, 6, 7, 8, 9, 10, 11] [1, 6, 9, 10, 12, 13] (by repeat' first | exact zY.nil | apply zY.p rfl | apply zY.ptr rfl) (by repeat' first | exact zW.nil | apply zW.boxP rfl rfl | apply zW.skip) ?_; (refine zZ.v rfl rfl (zQ rfl rfl rfl (by decide)) ?_); (refine zZ.v rfl rfl (zI rfl rfl rfl (by rfl) (by rfl) rfl (by decide)) ?_); (refine zZ.v rfl rfl (zQ rfl rfl rfl (by decide)) ?_); (refine zZ.v rfl rfl (by exact yU (c4) rfl rfl rfl (by decide)) ?_); (refine zZ.v rfl rfl (yO rfl rfl rfl (by decide)) ?_); (refine zZ.v rfl rfl (zF rfl rfl rfl rfl (by decide)) ?_); (refine zZ.v rfl rfl (zF rfl rfl rfl rfl (by decide)) ?_); (refine zZ.v rfl rfl (zF rfl rfl rfl rfl (by decide)) ?_); (refine zZ.m rfl rfl (zC rfl (by decide) rfl (by decide)) ?_); (refine zZ.m rfl rfl (zC rfl (by decide) rfl (by decide)) ?_); (refine zZ.w rfl (by exact zB rfl rfl rfl rfl rfl (by rfl) (by exact Nat.le_of_ble_eq_true rfl) rfl rfl) ?_); (refine zZ.w rfl (by exact zB rfl rfl rfl rfl rfl (by rfl) (by exact Nat.le_of_ble_eq_true rfl) rfl rfl) ?_); (refine zZ.v rfl rfl (zK rfl rfl rfl (by decide)) ?_); refine zZ.nil ?_) | (refine zX.isR (id := 11) ?_; refine zX.zV [2, 8, 9, 10, 11, 12, 13, 14] [1, 6, 9, 10, 12, 13] (by repeat' first | exact zY.nil | apply zY.p rfl | apply zY.ptr rfl) (by repeat' first | exact zW.nil | apply zW.boxP rfl rfl) ?_; all_goals (refine zZ.v rfl rfl (zQ rfl rfl rfl (by decide)) ?_); all_goals (refine zZ.v rfl rfl (zQ rfl rfl rfl (by decide)) ?_); all_goals (refine zZ.gY rfl rfl (by decide) rfl (by with_reducible rfl) rfl (by decide) (zI rfl rfl rfl (by rfl) (by rfl) rfl (by decide)) ?_); all_goals (refine zZ.gY rfl rfl (by decide) rfl (by with_reducible rfl) rfl (by decide) (zI rfl rfl rfl (by rfl) (by rfl) rfl (by decide)) ?_); all_goals (refine zZ.gY rfl rfl (by decide) rfl (by with_reducible rfl) rfl (by decide) (by exact zL (c5) rfl rfl rfl (by decide)) ?_); all_goals (refine zZ.v rfl rfl (by exact zT rfl rfl (by with_reducible rfl) rfl rfl (by decide)) ?_); all_goals (refine zZ.v rfl rfl (zQ rfl rfl rfl (by decide)) ?_); all_goals (refine zZ.gY rfl rfl (by decide) rfl (by with_reducible rfl) rfl (by decide) (zI rfl rfl rfl (by rfl) (by rfl) rfl (by decide)) ?_); all_goals (refine zZ.gY rfl rfl (by decide) rfl (by with_reducible rfl) rfl (by decide) (zI rfl rfl rfl (by rfl) (by rfl) rfl (by decide)) ?_); all_goals (refine zZ.gY rfl rfl (by decide) rfl (by with_reducible rfl) rfl (by decide) (by exact zL (c6) rfl rfl rfl (by decide)) ?_); all_goals (refine zZ.v rfl rfl (by exact zT rfl rfl (by with_reducible rfl) rfl rfl (by decide)) ?_); all_goals (refine zZ.v rfl rfl (zQ rfl rfl rfl (by decide)) ?_); all_goals (refine zZ.gY rfl rfl (by decide) rfl (by with_reducible rfl) rfl (by decide) (zQ rfl rfl rfl (by decide)) ?_); all_goals (refine zZ.gY rfl rfl (by decide) rfl (by with_reducible rfl) rfl (by decide) (zQ rfl rfl rfl (by decide)) ?_); all_goals (refine zZ.gY rfl rfl (by decide) rfl (by with_reducible rfl) rfl (by decide) (by exact r_eqlB rfl rfl rfl (by exact g1) rfl (by decide)) ?_); all_goals (refine zZ.v rfl rfl (by exact zT rfl rfl (by with_reducible rfl) rfl rfl (by decide)) ?_); all_goals (refine zZ.v rfl rfl (zK rfl rfl rfl (by decide)) ?_); all_goals (refine zZ.nil ?_)) | refine zX.yG rfl (by first | assumption | with_reducible rfl) ?_ | refine zX.skip ?_ | refine zX.ret ?_))
            all_goals exact ⟨by first | exact .inl rfl | exact .inr rfl, _, Sub.refl _, .p rfl (.tmp (by rfl))⟩
      · have f2 : decide (t ≤ me) = true := decide_eq_true (by omega)
        repeat' (first | (refine zX.is ?_; first | refine zX.seq ?_ | (refine zX.isR (id := 0) ?_; refine zX.zV [0] [1, 6, 9, 10, 12, 13] (by repeat' first | exact zY.nil | apply zY.p rfl) (by repeat' first | exact zW.nil | apply zW.skip) ?_; (refine zZ.m rfl rfl (z8 rfl rfl rfl (by decide)) ?_); (refine zZ.v rfl rfl (zK rfl rfl rfl (by decide)) ?_); refine zZ.nil ?_) | (refine zX.isR (id := 1) ?_; refine zX.zV [1, 2] [1, 6, 9, 10, 12, 13] (by repeat' first | exact zY.nil | apply zY.p rfl | apply zY.ptr rfl) (by repeat' first | exact zW.nil | apply zW.boxP rfl rfl | apply zW.skip) ?_; (refine zZ.v rfl rfl (zJ rfl rfl rfl (by decide)) ?_); (refine zZ.v rfl rfl (zA rfl rfl rfl (by rfl) rfl (by decide)) ?_); (refine zZ.v rfl rfl (zK rfl rfl rfl (by decide)) ?_); refine zZ.nil ?_) | (refine zX.isR (id := 2) ?_; refine zX.zV [1, 2, 3] [1, 6, 9, 10, 12, 13] (by repeat' first | exact zY.nil | apply zY.p rfl | apply zY.ptr rfl) (by repeat' first | exact zW.nil | apply zW.boxP rfl rfl | apply zW.skip) ?_; (refine zZ.v rfl rfl (zJ rfl rfl rfl (by decide)) ?_); (refine zZ.v rfl rfl (zA rfl rfl rfl (by rfl) rfl (by decide)) ?_); (refine zZ.v rfl rfl (zK rfl rfl rfl (by decide)) ?_); refine zZ.nil ?_) | (refine zX.isR (id := 3) ?_; refine zX.zV [1, 2, 3, 4] [1, 6, 9, 10, 12, 13] (by repeat' first | exact zY.nil | apply zY.p rfl | apply zY.ptr rfl) (by repeat' first | exact zW.nil | apply zW.boxP rfl rfl | apply zW.skip) ?_; (refine zZ.v rfl rfl (zJ rfl rfl rfl (by decide)) ?_); (refine zZ.v rfl rfl (zA rfl rfl rfl (by rfl) rfl (by decide)) ?_); (refine zZ.v rfl rfl (zK rfl rfl rfl (by decide)) ?_); refine zZ.nil ?_) | (refine zX.isR (id := 4) ?_; refine zX.zV [1, 2, 3, 4, 5] [1, 6, 9, 10, 12, 13] (by repeat' first | exact zY.nil | apply zY.p rfl | apply zY.ptr rfl) (by repeat' first | exact zW.nil | apply zW.boxP rfl rfl | apply zW.skip) ?_; (refine zZ.v rfl rfl (zJ rfl rfl rfl (by decide)) ?_); (refine zZ.v rfl rfl (zI rfl rfl rfl (by rfl) (by rfl) rfl (by decide)) ?_); (refine zZ.m rfl rfl (zC rfl (by decide) rfl (by decide)) ?_); (refine zZ.w rfl (by exact zB rfl rfl rfl rfl rfl (by rfl) (by exact Nat.le_of_ble_eq_true rfl) rfl rfl) ?_); refine zZ.nil ?_) | (refine zX.isR (id := 5) ?_; refine zX.zV [1, 2, 3, 4, 5, 6] [1, 6, 9, 10, 12, 13] (by repeat' first | exact zY.nil | apply zY.p rfl | apply zY.ptr rfl) (by repeat' first | exact zW.nil | apply zW.boxP rfl rfl | apply zW.skip) ?_; (refine zZ.v rfl rfl (zJ rfl rfl rfl (by decide)) ?_); (refine zZ.v rfl rfl (zA rfl rfl rfl (by rfl) rfl (by decide)) ?_); (refine zZ.v rfl rfl (zK rfl rfl rfl (by decide)) ?_); refine zZ.nil ?_) | (refine zX.isR (id := 6) ?_; refine zX.zV [2, 3, 4, 5, 6, 7] [1, 6, 9, 10, 12, 13] (by repeat' first | exact zY.nil | apply zY.p rfl | apply zY.ptr rfl) (by repeat' first | exact zW.nil | apply zW.boxP rfl rfl | apply zW.skip) ?_; (refine zZ.v rfl rfl (by exact zL (c0) rfl rfl rfl (by decide)) ?_); (refine zZ.v rfl rfl (zK rfl rfl rfl (by decide)) ?_); refine zZ.nil ?_) | (refine zX.isR (id := 7) ?_; refine zX.zV [2, 3, 4, 5, 6, 7, 8] [1, 6, 9, 10, 12, 13] (by repeat' first | exact zY.nil | apply zY.p rfl | apply zY.ptr rfl) (by repeat' first | exact zW.nil | apply zW.boxP rfl rfl | apply zW.skip) ?_; all_goals (refine zZ.v rfl rfl (zQ rfl rfl rfl (by decide)) ?_); all_goals (refine zZ.v rfl rfl (zQ rfl rfl rfl (by decide)) ?_); all_goals (refine zZ.v rfl rfl (by exact zL (c1) rfl rfl rfl (by decide)) ?_); all_goals (refine zZ.v rfl rfl (by exact xL rfl rfl (by exact bF (by decide)) rfl (by decide)) ?_); all_goals (refine zZ.v rfl rfl (zQ rfl rfl rfl (by decide)) ?_); all_goals (refine zZ.gY rfl rfl (by decide) rfl (by with_reducible rfl) rfl (by decide) (zQ rfl rfl rfl (by decide)) ?_); all_goals (refine zZ.gY rfl rfl (by decide) rfl (by with_reducible rfl) rfl (by decide) (by exact yL rfl rfl rfl (by exact f1) rfl (by decide)) ?_); all_goals (refine zZ.v rfl rfl (by exact zR rfl rfl (by with_reducible rfl) rfl rfl (by decide)) ?_); all_goals (refine zZ.v rfl rfl (zQ rfl rfl rfl (by decide)) ?_); all_goals (refine zZ.gY rfl rfl (by decide) rfl (by with_reducible rfl) rfl (by decide) (zQ rfl rfl rfl (by decide)) ?_); all_goals (refine zZ.gY rfl rfl (by decide) rfl (by with_reducible rfl) rfl (by decide) (zQ rfl rfl rfl (by decide)) ?_); all_goals (refine zZ.gY rfl rfl (by decide) rfl (by with_reducible rfl) rfl (by decide) (by exact r_geq rfl rfl rfl (by exact f2) rfl (by decide)) ?_); all_goals (refine zZ.v rfl rfl (by exact zR rfl rfl (by with_reducible rfl) rfl rfl (by decide)) ?_); all_goals (refine zZ.v rfl rfl (zQ rfl rfl rfl (by decide)) ?_); all_goals (refine zZ.gnF rfl rfl (by decide) rfl (by with_reducible rfl) rfl (by decide) ?_); all_goals (refine zZ.gnF rfl rfl (by decide) rfl (by with_reducible rfl) rfl (by decide) ?_); all_goals (refine zZ.gnF rfl rfl (by decide) rfl (by with_reducible rfl) rfl (by decide) ?_); all_goals (refine zZ.v rfl rfl (by exact zT rfl rfl (by with_reducible rfl) rfl rfl (by decide)) ?_); all_goals (refine zZ.v rfl rfl (zQ rfl rfl rfl (by decide)) ?_); all_goals (refine zZ.gnF rfl rfl (by decide) rfl (by with_reducible rfl) rfl (by decide) ?_); all_goals (refine zZ.gnF rfl rfl (by decide) rfl (by with_reducible rfl) rfl (by decide) ?_); all_goals (refine zZ.gnF rfl rfl (by decide) rfl (by with_reducible rfl) rfl (by decide) ?_); all_goals (refine zZ.gnF rfl rfl (by decide) rfl (by with_reducible rfl) rfl (by decide) ?_); all_goals (refine zZ.v rfl rfl (by exact zT rfl rfl (by with_reducible rfl) rfl rfl (by decide)) ?_); all_goals (refine zZ.nil ?_)) | (refine zX.isR (id := 8) ?_; refine zX.zV [2, 3, 4, 5, 6, 7, 8] [1, 6, 9, 10, 12, 13] (by repeat' first | exact zY.nil | apply zY.p rfl | apply zY.ptr rfl) (by repeat' first | exact zW.nil | apply zW.boxP rfl rfl | apply zW.skip) ?_; (refine zZ.v rfl rfl (zQ rfl rfl rfl (by decide)) ?_); (refine zZ.v rfl rfl (zK rfl rfl rfl (by decide)) ?_); refine zZ.nil ?_) | refine zX.yE rfl (by first | assumption | with_reducible rfl) ?_ | refine zX.ret ?_) | refine yJ.r ?_)
        all_goals exact ⟨by first | exact .inl rfl | exact .inr rfl, _, Sub.refl _, .p rfl (.tmp rfl)⟩
end Go.Proofs.YtlfkofkdigmnpaaGreatDoor
/- A law's arguments, as they come in, by their shapes. Generic over the program. -/
namespace Go.Proofs.YtlfkofkdigmnpaaGreatDoor
set_option maxRecDepth 100000
set_option maxHeartbeats 16000000
open Go Go.RowKit Go.ChangeShapes Go.WideShapes Go.ChangeAt
def NoM : Nat → Nat → Prop := fun _ _ => False
/-- what a cell may hold -/
inductive Leaf where
  | int (k : IntKind)
  | bool
  | any
deriving DecidableEq
def leafOK : Leaf → Value → Prop
  | .int k, v => ∃ n, v = .int k n ∧ (Lit.int k n).wf = true
  | .bool, v => ∃ b, v = .bool b
  | .any, v => v.oneCell' = true
/-- type t's cells, one behind the other, are of these kinds (any: a slice) -/
def flatB (P : Program) : Nat → TypeId → List Leaf → Bool
  | 0, _, _ => false
  | d + 1, t, ls => match P.underlying t with
    | some (.int k) => decide (ls = [.int k])
    | some .bool => decide (ls = [.bool])
    | some (.slice _) => decide (ls = [.any])
    | some (.struct fs) => (ls.length == P.cellsOf t) && (fs.toList.all fun f => flatB P d f.type ((ls.drop f.offset).take (P.cellsOf f.type)) && (((ls.drop f.offset).take (P.cellsOf f.type)).length == P.cellsOf f.type)) &&
      (List.range ls.length).all fun c => fs.toList.any fun f => decide (f.offset ≤ c) && decide (c < f.offset + P.cellsOf f.type)
    | _ => false
section
variable {H : Type} {enc : TypeId × Value → H} {P : Program} {W : World} {base : Nat} {spare : Nat → Bool} {held : Bool}
theorem flat_trod : ∀ (d : Nat) {t : TypeId} {ls : List Leaf}, flatB P d t ls = true → ∀ {fuel : Nat} {cs : List Value} {x : DataW H × List MemPlace}, DataW.trod enc P W base spare held fuel t cs = some x →
    cs.length = ls.length ∧ ∀ (i : Nat) l v, ls[i]? = some l → cs[i]? = some v → leafOK l v
  | 0, _, _, h, _, _, _, _ => by cases h
  | d + 1, t, ls, h, fuel, cs, x, hx => by
    unfold flatB at h
    cases hu : P.underlying t with
    | none => rw [hu] at h; cases h
    | some ds =>
      rw [hu] at h
      cases ds with
      | int k =>
        obtain rfl : ls = [.int k] := of_decide_eq_true h
        obtain ⟨n, rfl, _, hw⟩ := DataW.trod_int hu hx
        refine ⟨rfl, fun i l v hl hv => ?_⟩
        match i with
        | 0 => simp at hl hv; subst hl hv; exact ⟨n, rfl, hw⟩
        | i + 1 => simp at hl
      | bool =>
        obtain rfl : ls = [.bool] := of_decide_eq_true h
        obtain ⟨b, rfl, _⟩ := DataW.trod_bool hu hx
        refine ⟨rfl, fun i l v hl hv => ?_⟩
        match i with
        | 0 => simp at hl hv; subst hl hv; exact ⟨b, rfl⟩
        | i + 1 => simp at hl
      | slice e =>
        obtain rfl : ls = [.any] := of_decide_eq_true h
        have key : ∀ w : Value, w.oneCell' = true → cs = [w] → cs.length = [Leaf.any].length ∧ ∀ (i : Nat) l v, [Leaf.any][i]? = some l → cs[i]? = some v → leafOK l v := fun w hw e => by
          subst e
          refine ⟨rfl, fun i l v hl hv => ?_⟩
          match i with
          | 0 => simp at hl hv; subst hl hv; exact hw
          | i + 1 => simp at hl
        rcases DataW.trod_slice hu hx with ⟨e, _⟩ | ⟨a, len, cap, _, _, _, _, e, _⟩
        · exact key _ rfl e
        · exact key _ rfl e
      | struct fs =>
        simp only [Bool.and_eq_true, beq_iff_eq, List.all_eq_true, List.mem_range, List.any_eq_true, decide_eq_true_eq] at h
        obtain ⟨⟨hlen, hfs⟩, hcov⟩ := h
        obtain ⟨xs, n, _, _, hcl, hxl, hg⟩ := DataW.trod_struct hu hx
        refine ⟨by omega, fun i l v hl hv => ?_⟩
        have hil : i < ls.length := (List.getElem?_eq_some_iff.1 hl).1
        obtain ⟨f, hf, hf1, hf2⟩ := hcov i hil
        obtain ⟨hfl, hfn⟩ := hfs f hf
        obtain ⟨j, hj, hfj⟩ := List.getElem_of_mem hf
        have hfj2 : fs[j]? = some f := by
          rw [← hfj, Array.getElem_toList]
          exact Array.getElem?_eq_getElem _
        have h2 := hg j f hfj2
        have hjx : j < xs.length := by rw [hxl]; simpa using hj
        rw [List.getElem?_eq_getElem hjx] at h2
        obtain ⟨_, h3⟩ := flat_trod d hfl h2
        refine h3 (i - f.offset) l v ?_ ?_
        · rw [List.getElem?_take_of_lt (by omega), List.getElem?_drop, show f.offset + (i - f.offset) = i by omega]
          exact hl
        · rw [List.getElem?_take_of_lt (by omega), List.getElem?_drop, show f.offset + (i - f.offset) = i by omega]
          exact hv
      | _ => cases h
theorem has_block {r : Reach} {a : Addr} {e : TypeId} {n : Nat} (h : W.has P r base a e n) : a.spot = none ∧ a.block < W.heap.size := by
  obtain ⟨_, h1, row, cells, h2, _⟩ := h
  refine ⟨h1, ?_⟩
  unfold World.shape? at h2
  cases hb : W.heap[a.block]? with
  | none => rw [hb] at h2; cases h2
  | some o => exact (Array.getElem?_eq_some_iff.1 hb).1
theorem cell_slice {t e : TypeId} {a : Addr} {len cap : Nat} (ht : P.underlying t = some (.slice e)) (h : Cell.okWide P W .any base t (.slice (some a) len cap)) : a.spot = none ∧ a.block < W.heap.size ∧ len ≤ cap := by
  simp only [Cell.okWide, ht, Cell.ok] at h
  exact ⟨(has_block h.2.2).1, (has_block h.2.2).2, h.1⟩
/-- a struct's cell, as the form lays it -/
theorem wide_cell {t u : TypeId} {fs : Array Field} {cs : Array Value} {ts : List TypeId} {i : Nat} {v : Value} (ht : P.underlying t = some (.struct fs)) (h : Value.okWide P W .any base t (.agg cs)) (hts : P.cellTypes P.depth t = some ts) (hi : ts[i]? = some u) (hv : cs[i]? = some v) : Cell.okWide P W .any base u v := by
  simp only [Value.okWide, ht] at h
  obtain ⟨cs', e, _, ts', h1, _, h2⟩ := h
  injection e with e
  subst e
  obtain rfl : ts = ts' := Option.some.inj (hts.symm.trans h1)
  obtain ⟨u', hu', hc⟩ := h2 i v hv
  have hlt : i < ts.length := (List.getElem?_eq_some_iff.1 hi).1
  rw [Nat.mod_eq_of_lt hlt, hi] at hu'
  obtain rfl := Option.some.inj hu'
  exact hc
theorem leaf_one {l : Leaf} {v : Value} (h : leafOK l v) : v.oneCell' = true := by
  cases l with
  | int k => obtain ⟨n, rfl, _⟩ := h; rfl
  | bool => obtain ⟨b, rfl⟩ := h; rfl
  | any => exact h
theorem flatten_len {n : Nat} : ∀ {rs : List (List Value)}, (∀ r ∈ rs, r.length = n) → rs.flatten.length = rs.length * n
  | [], _ => by simp
  | r :: rs, h => by
    rw [List.flatten_cons, List.length_append, h r (by simp), flatten_len fun x hx => h x (by simp [hx]), List.length_cons, Nat.add_mul]
    omega
theorem flatten_get {n : Nat} : ∀ {rs : List (List Value)}, (∀ r ∈ rs, r.length = n) → ∀ (i c : Nat), c < n → rs.flatten[i * n + c]? = (rs[i]?).bind (·[c]?)
  | [], _, i, c, _ => by simp
  | r :: rs, h, 0, c, hc => by
    rw [List.flatten_cons, Nat.zero_mul, Nat.zero_add, List.getElem?_append_left (by rw [h r (by simp)]; exact hc)]
    rfl
  | r :: rs, h, i + 1, c, hc => by
    have hr := h r (by simp)
    rw [List.flatten_cons, List.getElem?_append_right (by rw [hr, Nat.add_mul]; omega), hr]
    have e : (i + 1) * n + c - n = i * n + c := by rw [Nat.add_mul]; omega
    rw [e, flatten_get (fun x hx => h x (by simp [hx])) i c hc]
    rfl
/-- a slice of plain structs (of slices, as they are) that came in -/
theorem arg_rows {t e : TypeId} {ls : List Leaf} {dep : Nat} {v : Value} {fuel : Nat} {x : DataW H × List MemPlace} (ht : P.underlying t = some (.slice e)) (hfl : flatB P dep e ls = true) (hn : P.cellsOf e = ls.length)
    (hok : ∀ a len cap, v = .slice (some a) len cap → a.spot = none ∧ a.block < W.heap.size) (h : DataW.trod enc P W base (fun _ => true) held fuel t [v] = some x) :
    ∃ rows : List (List Value), (∀ r ∈ rows, r.length = ls.length ∧ ∀ (i : Nat) l u, ls[i]? = some l → r[i]? = some u → leafOK l u) ∧ rows.length ≤ maxLen ∧
      ∀ es : List PV, es.map PV.cells = rows.map (fun r => r.map PV.val) → Rep NoM W (.sl es) v := by
  rcases DataW.trod_slice ht h with ⟨hv, _⟩ | ⟨a, len, cap, elems, rest, n, _, hv, _, hb, hlc, hm, hlen, hel, _⟩
  · simp only [List.cons.injEq, and_true] at hv
    subst hv
    refine ⟨[], fun r hr => by simp at hr, Nat.zero_le _, fun es he => ?_⟩
    have : es = [] := by simpa using he
    subst this
    exact .nil
  · simp only [List.cons.injEq, and_true] at hv
    subst hv
    obtain ⟨hs, hbk⟩ := hok a len cap rfl
    obtain ⟨g, off, spot⟩ := a
    simp only at hs hbk
    subst hs
    have row : ∀ i, i < len → ∃ r : List Value, W.cells? base (Addr.add ⟨g, off, none⟩ (i * P.cellsOf e)) (P.cellsOf e) = some r ∧ r.length = ls.length ∧ ∀ (j : Nat) l u, ls[j]? = some l → r[j]? = some u → leafOK l u := by
      intro i hi
      have h1 := hel i hi
      rw [List.getElem?_eq_getElem (by omega : i < elems.length)] at h1
      obtain ⟨r, hr, h2⟩ := Option.bind_eq_some_iff.1 h1
      obtain ⟨h3, h4⟩ := flat_trod dep hfl h2
      exact ⟨r, hr, h3, h4⟩
    have rows : ∀ m, m ≤ len → ∃ rs : List (List Value), rs.length = m ∧ ∀ (i : Nat) r, rs[i]? = some r → W.cells? base (Addr.add ⟨g, off, none⟩ (i * P.cellsOf e)) (P.cellsOf e) = some r ∧ r.length = ls.length ∧ ∀ (j : Nat) l u, ls[j]? = some l → r[j]? = some u → leafOK l u := by
      intro m
      induction m with
      | zero => exact fun _ => ⟨[], rfl, fun i r h => by simp at h⟩
      | succ m ih =>
        intro hm2
        obtain ⟨rs, h1, h2⟩ := ih (by omega)
        obtain ⟨r, hr⟩ := row m (by omega)
        refine ⟨rs ++ [r], by simp [h1], fun i r' hi => ?_⟩
        rcases Nat.lt_or_ge i rs.length with h3 | h3
        · rw [List.getElem?_append_left h3] at hi
          exact h2 i r' hi
        · rw [List.getElem?_append_right h3] at hi
          have e0 : i - rs.length = 0 := by
            rcases Nat.eq_zero_or_pos (i - rs.length) with h | h
            · exact h
            · rw [List.getElem?_eq_none (by simp; omega)] at hi; cases hi
          rw [e0] at hi
          simp at hi
          subst hi
          rw [show i = m by omega]
          exact hr
    obtain ⟨rs, hrl, hrs⟩ := rows len (Nat.le_refl _)
    refine ⟨rs, fun r hr => ?_, by omega, fun es he => ?_⟩
    · obtain ⟨i, hi, rfl⟩ := List.getElem_of_mem hr
      exact (hrs i _ (List.getElem?_eq_getElem hi)).2
    · have hn0 : P.cellsOf e = ls.length := hn
      have hesl : es.length = rs.length := by simpa using congrArg List.length he
      have hflat : flat es = rs.flatten.map PV.val := by
        show es.flatMap PV.cells = _
        rw [List.flatMap_def, he, List.map_flatten]
      have hrn : ∀ r ∈ rs, r.length = ls.length := fun r hr => by
        obtain ⟨i, hi, rfl⟩ := List.getElem_of_mem hr
        exact (hrs i _ (List.getElem?_eq_getElem hi)).2.1
      have hyl : rs.flatten.length = rs.length * ls.length := flatten_len hrn
      have at_ : ∀ (j : Nat) y, rs.flatten[j]? = some y → ∃ i c r, j = i * ls.length + c ∧ rs[i]? = some r ∧ r[c]? = some y := fun j y hy => by
        have hj : j < rs.length * ls.length := by rw [← hyl]; exact (List.getElem?_eq_some_iff.1 hy).1
        have hpos : 0 < ls.length := by
          rcases Nat.eq_zero_or_pos ls.length with h | h
          · rw [h] at hj; omega
          · exact h
        have e1 : j = (j / ls.length) * ls.length + j % ls.length := by
          have := Nat.div_add_mod j ls.length
          rw [Nat.mul_comm] at this
          omega
        have hi : j / ls.length < rs.length := (Nat.div_lt_iff_lt_mul hpos).2 hj
        have hc : j % ls.length < ls.length := Nat.mod_lt _ hpos
        have h1 := flatten_get hrn (j / ls.length) (j % ls.length) hc
        rw [← e1, hy, List.getElem?_eq_getElem hi] at h1
        exact ⟨_, _, _, e1, List.getElem?_eq_getElem hi, h1.symm⟩
      refine .sl es g off len cap rs.flatten (by omega) (by rw [hflat, List.length_map]) (fun j y hy => ?_) (fun j c y hc hy => ?_) (fun y hy => ?_) (fun _ _ h => h) hbk hlc hm
      · obtain ⟨i, c, r, rfl, hr, hc⟩ := at_ j y hy
        have h1 := World.cells?_some (hrs i r hr).1
        have hcl : c < P.cellsOf e := by
          rw [hn0, ← (hrs i r hr).2.1]
          exact (List.getElem?_eq_some_iff.1 hc).1
        have h2 := h1.2.2 c hcl
        rw [hc, add_lit, add_lit, hn0, Nat.add_assoc] at h2
        exact h2
      · rw [hflat, List.getElem?_map, hy] at hc
        simp only [Option.map_some, Option.some.injEq] at hc
        subst hc
        exact .val _
      · obtain ⟨j, hj, rfl⟩ := List.getElem_of_mem hy
        obtain ⟨i, c, r, _, hr, hc⟩ := at_ j _ (List.getElem?_eq_getElem hj)
        have hcl : c < ls.length := by
          rw [← (hrs i r hr).2.1]
          exact (List.getElem?_eq_some_iff.1 hc).1
        exact leaf_one ((hrs i r hr).2.2 c _ _ (List.getElem?_eq_getElem hcl) hc)
end
end Go.Proofs.YtlfkofkdigmnpaaGreatDoor
/- A law's call, by its contract; the table that the row lists; a world that fits. -/
namespace Go.Proofs.YtlfkofkdigmnpaaGreatDoor
set_option maxRecDepth 100000
set_option maxHeartbeats 16000000
open Go Go.RowKit Go.ChangeShapes Go.WideShapes Go.ChangeAt
set_option linter.unusedVariables false
theorem ownT : ownKnob Tryz.prog.godebug = none := by kernel_rfl
theorem laidOutT : laidOutB Tryz.prog = true := by kernel_rfl
section
variable {P : Program} {W : World}
theorem wf_u64 {n : Int} (h : (Lit.int .u64 n).wf = true) : 0 ≤ n ∧ n < 18446744073709551616 := by
  have := bounds_u64 h
  omega
/-- A law's call, by its contract. -/
theorem Fn.law {f : FuncId} {args : List PV} (h : Fn P f args (.p (.val (.bool true)))) (hlay : Lays W) {vs : List Value} (hl : vs.length = args.length) (hr : ∀ (i : Nat) x v, args[i]? = some x → vs[i]? = some v → Rep NoM W x v) :
    Calls P f vs.toArray W fun e W' => e = .returned (.bool true) ∧ Below W.heap.size W W' :=
  (h NoM W vs ⟨hlay, fun _ _ _ h => h⟩ (fun _ _ h => h.elim) hl hr).mono fun e W' ⟨v, he, hv, hb⟩ => by
    cases hv
    exact ⟨he, hb⟩
theorem reps1 {M : Nat → Nat → Prop} {x0 : PV} {v0 : Value} (h0 : Rep M W x0 v0) : ∀ (i : Nat) x v, [x0][i]? = some x → [v0][i]? = some v → Rep M W x v := by
  intro i x v hx hv
  match i with
  | 0 => simp at hx hv; subst hx; subst hv; exact h0
  | i + 1 => simp at hx
end
/-! ### The listed table -/
theorem gTbl : Tryz.prog.globalNamed "weald/crc.halves" = some 0 := by kernel_rfl
theorem tTbl : (Tryz.prog.globals[0]?).map (·.type) = some 161 := by kernel_rfl
def laidL : List (String × DataW Unit) := [("weald/crc.halves", Rows.laid_weald_crc_halves)]
theorem lays_of_laid {W : World} (h : laidMetH Tryz.prog laidL W) : Lays W := by
  rw [MakeChecks.laidMetH_plain _ _ _ (by kernel_rfl)] at h
  obtain ⟨ps, ⟨g0, t0, cs0, f0, p0, q0, hg0, ht0, hv0, hd0, _, _⟩, _⟩ := h
  obtain rfl := Option.some.inj (gTbl.symm.trans hg0)
  obtain rfl := Option.some.inj (tTbl.symm.trans ht0)
  have hcell := World.var?_cell hg0 hv0
  obtain ⟨xs, m1, _, hx1, hlen, hn, hel⟩ := DataW.trod_array Tryz.underlying161 hd0
  have c1 : Tryz.prog.cellsOf 118 = 1 := by kernel_rfl
  have c16 : Tryz.prog.cellsOf 161 = 16 := by kernel_rfl
  rw [c16] at hlen
  have hdat : Rows.laid_weald_crc_halves (H := Unit) = .agg (tbl0.map fun p => .lit (.int p.1 p.2)) := by kernel_rfl
  simp only [Prod.mk.injEq] at hx1
  have hxs : xs.map (·.1) = tbl0.map fun p => .lit (.int p.1 p.2) := by
    have := hx1.1
    rw [hdat] at this
    simpa using this.symm
  have hk : ∀ p ∈ tbl0, p.1 = .u32 := by decide +kernel
  intro g ys hg
  have hgy : g = 0 ∧ ys = tbl0 := by
    unfold seatTbl at hg
    split at hg
    · next h => exact ⟨h, (Option.some.inj hg).symm⟩
    · cases hg
  obtain ⟨rfl, rfl⟩ := hgy
  have at_ : ∀ (j : Nat) p, tbl0[j]? = some p → W.cell? ⟨0, j, none⟩ = some (.int p.1 p.2) := by
    intro j p hp
    have hj : j < 16 := (List.getElem?_eq_some_iff.1 hp).1
    have h1 := hel j hj
    have hxj : xs[j]? = some xs[j] := List.getElem?_eq_getElem (by omega)
    rw [hxj, c1, Nat.mul_one] at h1
    obtain ⟨k, e1, e2, _⟩ := DataW.trod_int Tryz.underlying118 h1
    have h3 : (xs.map (·.1))[j]? = some (.lit (.int .u32 k)) := by rw [List.getElem?_map, hxj, e2]; rfl
    rw [hxs, List.getElem?_map, hp] at h3
    simp only [Option.map_some, Option.some.injEq, DataW.lit.injEq, Lit.int.injEq] at h3
    obtain ⟨h4, h5⟩ := h3
    have h6 : cs0[j]? = some (.int .u32 k) := by
      have : (cs0.toList.drop j).take 1 = [cs0.toList[j]'(by rw [hlen]; exact hj)] := by
        rw [List.drop_eq_getElem_cons (by rw [hlen]; exact hj)]
        rfl
      rw [this] at e1
      simp only [List.cons.injEq, and_true] at e1
      rw [← e1]
      simp [Array.getElem?_eq_getElem (show j < cs0.size by simpa using (by rw [hlen]; exact hj : j < cs0.toList.length))]
    rw [hcell j, h6, h4, h5]
  refine ⟨?_, at_⟩
  have h0 := at_ 0 _ rfl
  unfold World.cell? at h0
  cases hh : W.heap[0]? with
  | none => rw [hh] at h0; cases h0
  | some o => exact (Array.getElem?_eq_some_iff.1 hh).1
/-- The door's own heap fits. -/
theorem door_met (os : Os) (args : Array Value) : laidMetH Tryz.prog laidL ((World.doorLaid Tryz.prog 400 os).forCall (fun _ _ => 0) ⟨#[], args, []⟩).memory :=
  laidMetH_of_parts3 (fuel := 8) (laidMet_of_run' 8 (by kernel_rfl) (by kernel_rfl)) (by kernel_rfl) (by kernel_rfl)
end Go.Proofs.YtlfkofkdigmnpaaGreatDoor
/- For every input SaveNext returns true, and leaves its argument as it was; tied: Rows.SaveNextCardSaid. Conditions: none beyond the given statement's own. -/
namespace Go.Proofs.YtlfkofkdigmnpaaGreatDoor
set_option maxRecDepth 100000
set_option maxHeartbeats 16000000
open Go Go.RowKit Go.ChangeShapes Go.WideShapes Go.ChangeAt
set_option linter.unusedVariables false
def resOf (r : List Value) : zO := match r with
  | [.int _ n, d, .bool b] => ⟨n, .val d, b⟩
  | _ => ⟨0, yD, false⟩
theorem resOf_cells {r : List Value} (hl : r.length = 3) (h : ∀ (i : Nat) l u, [Leaf.int .u64, .any, .bool][i]? = some l → r[i]? = some u → leafOK l u) : (resV (resOf r)).cells = r.map PV.val ∧ 0 ≤ (resOf r).n ∧ (resOf r).n < 18446744073709551616 := by
  match r, hl with
  | [a, b, c], _ =>
    obtain ⟨n, rfl, hn⟩ := h 0 _ a rfl rfl
    obtain ⟨f, rfl⟩ := h 2 _ c rfl rfl
    exact ⟨rfl, wf_u64 hn⟩
/-- the law's argument -/
theorem arg_saveIn {H : Type} {enc : TypeId × Value → H} {W : World} {base : Nat} {v : Value} {d : DataW H} {p : List MemPlace} (hv : Value.okWide Tryz.prog W .any base 27 v) (h : DataW.Trod enc Tryz.prog W 0 (fun _ => true) true 27 v d p) :
    ∃ t c me k u v' w L, Rep NoM W (inV t c me k u v' w L) v ∧ U w ∧ ∀ r ∈ L, 0 ≤ r.n ∧ r.n < 18446744073709551616 := by
  obtain ⟨cs, rfl, hsz⟩ := okWide_struct Tryz.underlying27 hv
  obtain ⟨cl⟩ := cs
  obtain ⟨fuel, hf⟩ := h
  have hf : DataW.trod enc Tryz.prog W 0 (fun _ => true) true fuel 27 cl = some (d, p) := hf
  obtain ⟨hlen, hlf⟩ := flat_trod (ls := [.int .i64, .int .i64, .int .i64, .int .i64, .int .i64, .int .i64, .int .u64, .any]) 8 (by kernel_rfl) hf
  obtain ⟨xs, n, _, _, _, hxl, hg⟩ := DataW.trod_struct Tryz.underlying27 hf
  match cl, hlen with
  | [a0, a1, a2, a3, a4, a5, a6, a7], _ =>
    obtain ⟨n0, rfl, h0⟩ := hlf 0 _ a0 rfl rfl
    obtain ⟨n1, rfl, h1⟩ := hlf 1 _ a1 rfl rfl
    obtain ⟨n2, rfl, h2⟩ := hlf 2 _ a2 rfl rfl
    obtain ⟨n3, rfl, h3⟩ := hlf 3 _ a3 rfl rfl
    obtain ⟨n4, rfl, h4⟩ := hlf 4 _ a4 rfl rfl
    obtain ⟨n5, rfl, h5⟩ := hlf 5 _ a5 rfl rfl
    obtain ⟨n6, rfl, h6⟩ := hlf 6 _ a6 rfl rfl
    have h7 := hlf 7 _ a7 rfl rfl
    have hlog := hg 4 _ rfl
    have hx4 : ∃ y, xs[4]? = some y := ⟨xs[4]'(by rw [hxl]; decide), List.getElem?_eq_getElem _⟩
    obtain ⟨y, hy⟩ := hx4
    rw [hy] at hlog
    have hcell := wide_cell (i := 7) (ts := [3, 3, 3, 3, 3, 3, 22, 25]) (u := 25) (v := a7) Tryz.underlying27 hv (by kernel_rfl) (by kernel_rfl) rfl
    obtain ⟨rows, hr1, hr2, hr3⟩ := arg_rows (ls := [.int .u64, .any, .bool]) (dep := 8) (v := a7) (x := y) Tryz.underlying25 (by kernel_rfl) (by kernel_rfl) (fun a len cap e => by
      subst e
      have := cell_slice Tryz.underlying25 hcell
      exact ⟨this.1, this.2.1⟩) hlog
    refine ⟨n0, n1, n2, n3, n4, n5, n6, rows.map resOf, ?_, wf_u64 h6, fun r hr => ?_⟩
    · have hL : Rep NoM W (logV (rows.map resOf)) a7 := hr3 _ (by
        rw [List.map_map, List.map_map]
        exact List.map_congr_left fun r hr => (resOf_cells (hr1 r hr).1 (hr1 r hr).2).1)
      refine .agg _ [.int .i64 n0, .int .i64 n1, .int .i64 n2, .int .i64 n3, .int .i64 n4, .int .i64 n5, .int .u64 n6, a7] rfl (fun i c u hc hu => ?_) (fun u hu => ?_)
      · match i with
        | 0 => simp at hc hu; subst hc hu; exact .val _
        | 1 => simp at hc hu; subst hc hu; exact .val _
        | 2 => simp at hc hu; subst hc hu; exact .val _
        | 3 => simp at hc hu; subst hc hu; exact .val _
        | 4 => simp at hc hu; subst hc hu; exact .val _
        | 5 => simp at hc hu; subst hc hu; exact .val _
        | 6 => simp at hc hu; subst hc hu; exact .val _
        | 7 => simp at hc hu; subst hc hu; exact hL
        | i + 8 => simp at hc
      · simp only [List.mem_cons, List.not_mem_nil, or_false] at hu
        rcases hu with rfl | rfl | rfl | rfl | rfl | rfl | rfl | rfl
        · rfl
        · rfl
        · rfl
        · rfl
        · rfl
        · rfl
        · rfl
        · exact h7
    · obtain ⟨r', hr', rfl⟩ := List.mem_map.1 hr
      exact (resOf_cells (hr1 r' hr').1 (hr1 r' hr').2).2
theorem saveNext_lifted (os : Os) (started : os.Started) (H : Type) (enc : TypeId × Value → H) :
    ReturnsInHanded {} Tryz.checked os 3 .any (fun w args => (Rows.saveNextSpec.pre enc Tryz.prog Tryz.f3 [] false w args ∧ laidMetH Tryz.prog laidL w) ∧ sizedMet enc Tryz.prog Tryz.f3 (OpenSpec.ofChange Rows.saveNextSpec) false w args)
      (Rows.saveNextSpec.post enc Tryz.prog Tryz.f3 false true false false) := by
  refine returnsInHanded_of_change_and (C := Tryz.checked) (X := fun w _ => laidMetH Tryz.prog laidL w) (fun _ _ _ hh h => h.of_heap hh) ownT started (by kernel_rfl) Tryz.func3
    (ChangeSpec.witness_shaped (enc := enc) (C := Tryz.checked) (os := os) (X := fun w _ => laidMetH Tryz.prog laidL w) false (World.doorLaid Tryz.prog 400 os) #[.agg #[.int .i64 0, .int .i64 0, .int .i64 0, .int .i64 0, .int .i64 0, .int .i64 0, .int .u64 0, .slice none 0 0]] 8 rfl (World.shaped_of_RefB (by kernel_rfl) (by kernel_rfl)) (by kernel_rfl) (by kernel_rfl) (by kernel_rfl) (door_met os _)) ?_
  intro W base args ds gs before hval0 hW hcnd _ hL _
  have hval : ∀ (j : Nat) t v, Tryz.f3.params[j]? = some t → args[j]? = some v → Value.okWide Tryz.prog W .any base t v := hval0
  have hW' := hW
  obtain ⟨p, q, hA0, hV, rfl, hfz, hnd⟩ := hW
  have hA : DataW.TrodAll enc Tryz.prog W 0 (fun _ => true) true Tryz.f3.params.toList args.toList ds p := hA0
  rw [Tryz.params3] at hA hval
  obtain ⟨v0, vs0, d0, ds0, p0, q0, hargs, rfl, rfl, h0, r0⟩ := trodAll_cons hA
  obtain ⟨rfl, rfl, rfl⟩ := trodAll_nil r0
  obtain rfl : args = #[v0] := by cases args; simp_all
  obtain ⟨rfl, rfl⟩ := trodVars_none hV
  have lt0 : ∀ x ∈ p0, x.block < W.heap.size := by obtain ⟨m, hm⟩ := h0; exact DataW.trod_lt m _ _ _ hm
  obtain ⟨t, c, me, k, u, v, w, L, e0, hw, hLr⟩ := arg_saveIn (hval 0 27 v0 rfl rfl) h0
  clear hA0 hval0
  refine ((saveNextLaw_fn t c me k u v w L hw hLr).law (lays_of_laid hL) (vs := [v0]) rfl (reps1 e0)).mono fun e W' ⟨he, bel⟩ => ?_
  subst he
  exact ⟨_, rfl, _, _, _, [], _, [], hW', trodAll_mk1 (shut_bool Tryz.underlying4 _), (trodAll_cons_mk (Below.trod laidOutT (by kernel_rfl) (of_decide_eq_true (by kernel_rfl)) h0 bel lt0) trodAll_mk0), rfl, bel.frame _, fun h => by cases h⟩
theorem saveNext_holds : Rows.SaveNextSaid :=
  OpenClaim.holds_of_wide 3 Tryz.f3 rfl rfl rfl rfl rfl rfl rfl ⟨rfl, rfl, rfl, rfl, rfl⟩ rfl rfl rfl rfl rfl (by kernel_rfl) Tryz.func3 (by kernel_rfl)
    (of_decide_eq_true (by kernel_rfl)) (by unfold Func.isWrapper; first | (rw [if_pos (by decide +kernel)]; kernel_rfl) | (rw [if_neg (by decide +kernel)]; exact ⟨rfl, rfl⟩))
    (fun os started H enc _ => saveNext_lifted os started H enc)
theorem saveNextCard_holds : Rows.SaveNextCardSaid :=
  Claim7.holds_tied_plain_at .later [] [.data] true _ true
    saveNext_holds (fun _ h => by cases h) (by kernel_rfl) (fun _ h => by cases h) saveNext_row_tie rfl ⟨rfl, rfl⟩ (by kernel_rfl) rfl
    (fun f fn hf hfn => by
      obtain rfl : f = 3 := Option.some.inj ((show Tryz.prog.funcNamed "weald/wealdlaw14.SaveNext" = some 3 by kernel_rfl).symm.trans hf) |>.symm
      obtain rfl : fn = Tryz.f3 := (Option.some.inj (Tryz.func3.symm.trans hfn)).symm
      exact ⟨by kernel_rfl, fun j t ht => by
        rw [Tryz.params3] at ht
        have hm : t ∈ [27] := by simpa using Array.mem_of_getElem? ht
        have hall : ([27].all fun u => !Tryz.prog.wantsStandIn u) = true := by kernel_rfl
        exact (show Tryz.prog.wantsStandIn t = false by simpa using List.all_eq_true.1 hall t hm)⟩)
    (by kernel_rfl)
#print axioms saveNextCard_holds
end Go.Proofs.YtlfkofkdigmnpaaGreatDoor
