/- For every input SaveNext returns true, and leaves its argument as it was; tied: Rows.SaveNextCardSaid. Conditions: none beyond the given statement's own. (Part 6 of 8.) -/
import Derived.Test.YtlfkofkdigmnpaaGreatDoorJn5
import Derived.Deep.Upon
/- What the document's operation tells is what the program's does; what is asked is an access of the kinds that there are. -/
namespace Go.Proofs.YtlfkofkdigmnpaaGreatDoor
set_option maxRecDepth 100000
set_option maxHeartbeats 16000000
open Go Go.RowKit
set_option linter.unusedSimpArgs false
theorem yR.store {α : Type} {L : List zO} (p : Ned) {m2 : CSt → α × CSt} {o2 : Nat → Told α} (h : yR L m2 o2) : yR L (fun σ => seqS (unitS (doS L σ p)) fun _ τ => m2 τ) (fun i => (vM L i p).bind fun _ j => o2 j) :=
  (yR.ask L p).bind fun _ => h
theorem tells_stores (t r : Int) (L : List zO) : ∀ (l : List (Int × Int)), yR L (storesS t r L l) (fun i => vX t r l L i)
  | [] => yR.pure ()
  | _ :: l => yR.store _ (tells_stores t r L l)
theorem tells_make (t r y e u v x : Int) (L : List zO) : yR L (makeSt t r y e u v x L) (fun i => makeT t r y e u v x L i) :=
  (yR.ask L _).bind fun _ => (tells_stores t r L _).bind fun _ => yR.pure _
theorem tells_alive (t r s : Int) (L : List zO) : yR L (aliveS t r s L) (fun i => aliveT t r s L i) :=
  (yR.ask L _).bind fun _ => (yR.ask L _).bind fun _ => yR.pure _
theorem tells_set (over : Int → Bool) (c b : Int) (L : List zO) : yR L (fun σ => unit2 (setS over c b L σ)) (fun i => xU over c b (L.drop i) i) := by
  refine ⟨fun q i x j hi h => ⟨(setL_ok over c b L i hi x j h).2, ?_⟩, fun q i p hi h => ?_, fun σ hσ => ?_⟩
  · show unit2 (outS (xR q i) L.length (xU over c b (L.drop i) i)) = _
    rw [h]
    rfl
  · show outS (xR q i) L.length (xU over c b (L.drop i) i) = _
    rw [h]
    rfl
  · exact setS_stop hσ
theorem tells_set2 {α : Type} (over : Int → Bool) (c b : Int) (L : List zO) (x : α) : yR L (fun σ => (x, setS over c b L σ)) (fun i => (xU over c b (L.drop i) i).bind fun _ j => .done x j) :=
  (tells_set over c b L).bind fun _ => yR.pure x
theorem disk2_eq (bs : List Int) (L : List zO) (i : Nat) (hi : i ≤ L.length) : disk2 bs L i = (askR L i (xB 5 0 0 0 (.sl (byts bs)))).bind fun a j => bif a.fail then .done false j else (askR L j (xB 6 0 0 0 yD)).bind fun c j2 => bif c.fail then .done false j2 else .done true j2 := by
  unfold disk2 askR
  cases hd : L.drop i with
  | nil =>
    have he := vB hi hd
    have hn : L[i]? = none := by rw [he]; exact List.getElem?_eq_none (Nat.le_refl _)
    rw [hn]
    rfl
  | cons a l =>
    obtain ⟨ha, hl⟩ := drop_at hd
    rw [ha]
    have hlt : i < L.length := (List.getElem?_eq_some_iff.1 ha).1
    simp only [vD, Told.bind]
    cases hf : a.fail
    · simp only [Bool.false_eq_true, if_false, cond_false]
      cases l with
      | nil =>
        have he := vB (by omega) hl
        have hn : L[i + 1]? = none := by rw [he]; exact List.getElem?_eq_none (Nat.le_refl _)
        rw [hn]
        rfl
      | cons c l2 =>
        obtain ⟨hc, _⟩ := drop_at hl
        rw [hc]
        simp only [vD]
        cases c.fail <;> rfl
    · rfl
theorem yR.congr {α : Type} {L : List zO} {m : CSt → α × CSt} {o o' : Nat → Told α} (h : yR L m o) (e : ∀ i, i ≤ L.length → o' i = o i) : yR L m o' :=
  ⟨fun q i x j hi he => h.done q i x j hi (by rw [← e i hi]; exact he), fun q i p hi he => h.need q i p hi (by rw [← e i hi]; exact he), h.halt⟩
theorem tells_wr (t r b k s y u v x : Int) (L : List zO) : yR L (wrS t r b k s y u v x L) (fun i => wrT t r b k s y u v x L i) := by
  have h1 : yR L (wrS t r b k s y u v x L) (fun i => (askR L i (xB 5 0 0 0 (.sl (byts (bytesE k s y u v x))))).bind fun a j => bif a.fail then .done false j else (askR L j (xB 6 0 0 0 yD)).bind fun c j2 => bif c.fail then .done false j2 else (xU (over2 s b) (yX t r 2) b (L.drop j2) j2).bind fun _ j3 => .done true j3) :=
    (yR.doR L _).bind fun a => .cond a.fail (yR.pure false) ((yR.doR L _).bind fun c => .cond c.fail (yR.pure false) (tells_set2 _ _ _ L true))
  refine h1.congr fun i hi => ?_
  unfold wrT
  rw [disk2_eq _ _ _ hi]
  cases askR L i (xB 5 0 0 0 (.sl (byts (bytesE k s y u v x)))) with
  | need q => rfl
  | done a j =>
    simp only [Told.bind]
    cases a.fail
    · simp only [cond_false]
      cases askR L j (xB 6 0 0 0 yD) with
      | need q => rfl
      | done c j2 =>
        simp only [Told.bind]
        cases c.fail <;> rfl
    · rfl
theorem tells_rest (t r b f : Int) (L : List zO) : yR L (restS t r b f L) (fun i => restT t r b f L i) :=
  .cond (hasF f b) (yR.pure true) (.cond (decide (b = 1)) ((yR.ask L _).bind fun _ => (yR.ask L _).bind fun _ => (yR.ask L _).bind fun _ => (yR.ask L _).bind fun _ => tells_wr _ _ _ _ _ _ _ _ _ L) (tells_wr _ _ _ _ _ _ _ _ _ L))
theorem tells_save (t r b : Int) (L : List zO) : yR L (saveS t r b L) (fun i => saveT t r b L i) := (yR.ask L _).bind fun _ => tells_rest _ _ _ _ L
theorem tells_dead (t r s : Int) (L : List zO) : yR L (deadS t r s L) (fun i => deadT t r s L i) := (yR.ask L _).bind fun f => .cond (decide (f / 4 = s)) (tells_rest _ _ _ _ L) (yR.pure true)
theorem tells_op (t k u v w : Int) (L : List zO) : yR L (opS t k u v w L) (fun i => opT t k u v w L i) :=
  .cond _ ((tells_make _ _ _ _ _ _ _ L).bind fun _ => yR.pure _) (.cond _ ((tells_alive _ _ _ L).bind fun _ => yR.pure _) (.cond _ (tells_set2 _ _ _ L _)
    (.cond _ ((tells_save _ _ _ L).bind fun _ => yR.pure _) (.cond _ ((tells_dead _ _ _ L).bind fun _ => yR.pure _) (yR.pure _)))))
/-! ### What may be asked -/
def NiceQ (q : Ned) : Prop := q.w = yD ∧ (q.d = yD ∨ ∃ bs, q.d = .sl (byts bs))
def vQ {α : Type} (o : Told α) : Prop := ∀ q, o = .need q → NiceQ q
theorem vQ.done {α : Type} {x : α} {j : Nat} : vQ (.done x j) := fun _ h => by cases h
theorem vQ.bind {α β : Type} {o : Told α} {f : α → Nat → Told β} (h : vQ o) (hf : ∀ x j, vQ (f x j)) : vQ (o.bind f) := by
  cases o with
  | done x j => exact hf x j
  | need q => intro q' h'; cases h'; exact h q rfl
theorem vQ.cond {α : Type} {c : Bool} {x y : Told α} (hx : vQ x) (hy : vQ y) : vQ (bif c then x else y) := by cases c <;> assumption
theorem niceN (k c a b : Int) : NiceQ (xB k c a b yD) := ⟨rfl, .inl rfl⟩
theorem vQ.ask {L : List zO} {i : Nat} {q : Ned} (h : NiceQ q) : vQ (vM L i q) := by
  unfold vM
  split
  · exact .done
  · intro q' h'; cases h'; exact h
theorem nice_stores (t r : Int) (L : List zO) : ∀ (l : List (Int × Int)) (i : Nat), vQ (vX t r l L i)
  | [], _ => .done
  | _ :: l, _ => (vQ.ask (niceN _ _ _ _)).bind fun _ j => nice_stores t r L l j
theorem nice_set {over : Int → Bool} {c b : Int} : ∀ {n : Nat} {l : List zO} {i : Nat}, l.length ≤ n → vQ (xU over c b l i)
  | _, [], _, _ => by unfold xU; intro q h; cases h; exact niceN _ _ _ _
  | _, [r], _, _ => by
    unfold xU
    split
    · exact .done
    · intro q h; cases h; exact niceN _ _ _ _
  | 0, _ :: _ :: _, _, h => by simp at h
  | n + 1, r :: r2 :: l2, _, hn => by
    simp only [List.length_cons] at hn
    unfold xU
    split
    · exact .done
    · split
      · exact .done
      · exact nice_set (n := n) (by omega)
theorem nice_disk : ∀ {qs : List Ned} {l : List zO} {i : Nat}, (∀ q ∈ qs, NiceQ q) → vQ (vD qs l i)
  | [], _, _, _ => by rw [vD]; exact .done
  | q :: _, [], _, h => by rw [vD]; intro q' h'; cases h'; exact h q (by simp)
  | q :: qs, r :: l, i, h => by
    rw [vD]
    split
    · exact .done
    · exact nice_disk fun q hq => h q (by simp [hq])
theorem nice_wr (t r b k s y u v x : Int) (L : List zO) (i : Nat) : vQ (wrT t r b k s y u v x L i) :=
  vQ.bind (nice_disk fun q hq => by
    simp only [List.mem_cons, List.not_mem_nil, or_false] at hq
    rcases hq with rfl | rfl
    · exact ⟨rfl, .inr ⟨_, rfl⟩⟩
    · exact niceN _ _ _ _) fun _ _ => .cond ((nice_set (Nat.le_refl _)).bind fun _ _ => .done) .done
theorem nice_rest (t r b f : Int) (L : List zO) (i : Nat) : vQ (restT t r b f L i) :=
  .cond .done (.cond ((vQ.ask (niceN _ _ _ _)).bind fun _ _ => (vQ.ask (niceN _ _ _ _)).bind fun _ _ => (vQ.ask (niceN _ _ _ _)).bind fun _ _ => (vQ.ask (niceN _ _ _ _)).bind fun _ _ => nice_wr _ _ _ _ _ _ _ _ _ L _) (nice_wr _ _ _ _ _ _ _ _ _ L _))
theorem nice_op (t k u v w : Int) (L : List zO) (i : Nat) : vQ (opT t k u v w L i) :=
  .cond (vQ.bind ((vQ.ask (niceN _ _ _ _)).bind fun _ _ => (nice_stores _ _ L _ _).bind fun _ _ => .done) fun _ _ => .done)
    (.cond (vQ.bind ((vQ.ask (niceN _ _ _ _)).bind fun _ _ => (vQ.ask (niceN _ _ _ _)).bind fun _ _ => .done) fun _ _ => .done)
    (.cond ((nice_set (Nat.le_refl _)).bind fun _ _ => .done)
    (.cond (vQ.bind ((vQ.ask (niceN _ _ _ _)).bind fun _ _ => nice_rest _ _ _ _ L _) fun _ _ => .done)
    (.cond (vQ.bind ((vQ.ask (niceN _ _ _ _)).bind fun _ _ => .cond (nice_rest _ _ _ _ L _) .done) fun _ _ => .done) .done))))
end Go.Proofs.YtlfkofkdigmnpaaGreatDoor
/- What runs a program over a log, and recovers what it panics with: contracts. -/
namespace Go.Proofs.YtlfkofkdigmnpaaGreatDoor
set_option maxRecDepth 100000
set_option maxHeartbeats 16000000
open Go Go.RowKit
set_option linter.unusedSimpArgs false
attribute [local irreducible] zZ zX Step zG Sub zP zM Fn
section
variable {P : Program} {n : Nat} {o : Oper} {S : AS} {d : Nat} {x : Operand}
theorem w_assertY {s t : Nat} {y : PV} {pl : List (Nat × Nat)} [hb : BuildA P t pl] (ho : o.op = .typeAssert x s t true) (hx : S.get x = .p (.ifc t y)) (hd : o.dst = some d) (hn : d < n) : zG P n o S [] (.tup [.p y, .p (.val (.bool true))]) none :=
  zG.pure hd hn fun S2 hg _ M w0 ρ a w hs => by
    have h1 := yT hs ((hg x (by rw [ho]; simp [Op.operands])).trans hx)
    generalize hv : a.eval x = v at h1
    cases h1 with
    | ifc _ _ u h =>
      refine ⟨.tuple [u, .bool true].toArray, w, ?_, Below.refl _ _, .tup _ [u, .bool true] rfl fun i c v hc hv => ?_⟩
      · unfold execOp
        rw [ho]
        simp [Instr.typeAssert, run_underlying hb.st, hv]
      · match i with
        | 0 => cases hc; cases hv; exact .p h
        | 1 => cases hc; cases hv; exact .p (.val _)
        | i + 2 => simp at hc
theorem w_assertN {s t : Nat} {pl : List (Nat × Nat)} {z : Value} {cl : List Value} [hb : BuildA P t pl] [hz : ZeroA P t z] (ho : o.op = .typeAssert x s t true) (hx : S.get x = .p (.val .nilIface)) (hc0 : z = .agg cl.toArray) (h1 : cl.all (fun u => u.oneCell') = true) (hd : o.dst = some d) (hn : d < n) : zG P n o S [] (.tup [.p (.agg (cl.map PV.val)), .p (.val (.bool false))]) none :=
  zG.pure hd hn fun S2 hg _ M w0 ρ a w hs => by
    have h2 := yT hs ((hg x (by rw [ho]; simp [Op.operands])).trans hx)
    generalize hv : a.eval x = v at h2
    cases h2
    refine ⟨.tuple [z, .bool false].toArray, w, ?_, Below.refl _ _, .tup _ [z, .bool false] rfl fun i c v hc hv => ?_⟩
    · unfold execOp
      rw [ho]
      simp [Instr.typeAssert, run_underlying hb.st, hv, hz.h]
    · match i with
      | 0 =>
        cases hc; cases hv
        subst hc0
        refine .p (.agg _ cl (by simp) (fun i c v hc hv => ?_) fun u hu => List.all_eq_true.1 h1 u hu)
        rw [List.getElem?_map, hv] at hc
        cases hc
        exact .val _
      | 1 => cases hc; cases hv; exact .p (.val _)
      | i + 2 => simp at hc
end
def accB (kind cell a b : Int) (data : PV) : Blk := .box 34 [.p (.val (.int .i64 kind)), .p (.val (.int .i64 cell)), .p (.val (.int .u64 a)), .p (.val (.int .u64 b)), .p data, .p yD]
def outB (e : Int) (is : Bool) (n w : Int) : Blk := .box 38 [.p (.val (.int .i64 e)), .p (.val (.bool is)), .p (.val (.int .i64 n)), .p (.val (.int .u64 w)), .p yD]
def isB (b : Bool) : Blk := .box 4 [.p (.val (.bool b))]
theorem run1_none (e : Int) (is : Bool) (n w : Int) (b : Bool) : FnD Tryz.prog 31 [accB 0 0 0 0 yD, outB e is n w, isB b] none [accB 0 0 0 0 yD, outB e is n w, isB b] := by
  refine fn_ofDef Tryz.func31 rfl Tryz.ntmps31 (Nat.le_of_ble_eq_true rfl) (by decide) rfl rfl rfl (by decide) rfl ?_
  repeat' (first | (refine zZ.is ?_; first | refine zZ.nil ?_ | refine zZ.v rfl rfl (by first | exact zK rfl rfl rfl (by decide) | exact zF rfl rfl rfl rfl (by decide) | exact yO rfl rfl rfl (by decide) | exact w_assertN rfl rfl rfl rfl rfl (by decide)) ?_ | refine zZ.m rfl rfl (zC rfl (by decide) rfl (by decide)) ?_ | refine zZ.w rfl (by exact zB rfl rfl rfl rfl rfl (by rfl) (by exact Nat.le_of_ble_eq_true rfl) rfl rfl) ?_) | (refine zX.is ?_; first | refine zX.seq ?_ | (refine zX.isR (id := 1) ?_; refine zX.zV [0, 1, 2, 3, 4] [3, 1000, 1001, 1002] (by repeat' first | exact zY.nil | apply zY.p rfl | apply zY.ptr rfl) (by repeat' first | exact zW.nil | apply zW.boxP rfl rfl) ?_; (refine zZ.v rfl rfl (zQ rfl rfl rfl (by decide)) ?_); refine zZ.nil ?_) | refine zX.yG rfl (by with_reducible rfl) ?_ | refine zX.skip ?_))
  all_goals exact ⟨by first | exact .inl rfl | exact .inr rfl, yV (by repeat' first | exact trivial | rfl | constructor)⟩
theorem run1_need (kind cell a b : Int) (data : PV) (e : Int) (is : Bool) (n w : Int) (c : Bool) : FnD Tryz.prog 31 [accB 0 0 0 0 yD, outB e is n w, isB c] (some (.ifc 91 (xP kind cell a b data))) [accB kind cell a b data, outB 0 false 0 0, isB false] := by
  refine fn_ofDef Tryz.func31 rfl Tryz.ntmps31 (Nat.le_of_ble_eq_true rfl) (by decide) rfl rfl rfl (by decide) rfl ?_
  repeat' (first | (refine zZ.is ?_; first | refine zZ.nil ?_ | refine zZ.v rfl rfl (by first | exact zK rfl rfl rfl (by decide) | exact zF rfl rfl rfl rfl (by decide) | exact yO rfl rfl rfl (by decide) | exact w_assertY rfl rfl rfl (by decide)) ?_ | refine zZ.m rfl rfl (zC rfl (by decide) rfl (by decide)) ?_ | refine zZ.w rfl (by exact zB rfl rfl rfl rfl rfl (by rfl) (by exact Nat.le_of_ble_eq_true rfl) rfl rfl) ?_) | (refine zX.is ?_; first | refine zX.seq ?_ | (refine zX.isR (id := 1) ?_; refine zX.zV [0, 1, 2, 3, 4] [3, 1000, 1001, 1002] (by repeat' first | exact zY.nil | apply zY.p rfl | apply zY.ptr rfl) (by repeat' first | exact zW.nil | apply zW.boxP rfl rfl) ?_; (refine zZ.v rfl rfl (zQ rfl rfl rfl (by decide)) ?_); refine zZ.nil ?_) | (refine zX.isR (id := 2) ?_; refine zX.zV [0, 1, 2, 3] [3, 1000, 1001, 1002] (by repeat' first | exact zY.nil | apply zY.ptr rfl) (by repeat' first | exact zW.nil | apply zW.boxP rfl rfl) ?_; (refine zZ.v rfl rfl (zJ rfl rfl rfl (by decide)) ?_); (refine zZ.v rfl rfl (zI rfl rfl rfl (by rfl) (by rfl) rfl (by decide)) ?_); (refine zZ.v rfl rfl (zS rfl (by rfl) (by rfl) (by rfl) (by rfl) rfl (by decide)) ?_); (refine zZ.w rfl (by exact zB rfl rfl rfl rfl rfl (by rfl) (by exact Nat.le_of_ble_eq_true rfl) rfl rfl) ?_); (refine zZ.w rfl (by exact zB rfl rfl rfl rfl rfl (by rfl) (by exact Nat.le_of_ble_eq_true rfl) rfl rfl) ?_); (refine zZ.w rfl (by exact zB rfl rfl rfl rfl rfl (by rfl) (by exact Nat.le_of_ble_eq_true rfl) rfl rfl) ?_); refine zZ.nil ?_) | refine zX.yE rfl (by with_reducible rfl) ?_))
  all_goals exact ⟨by first | exact .inl rfl | exact .inr rfl, yV (by repeat' first | exact trivial | rfl | constructor)⟩
def runV (m : Told OutI) : List PV := match m with
  | .done o _ => [xP 0 0 0 0 yD, outV o.e o.is 0 o.w, .val (.bool true)]
  | .need q => [xP q.kind q.cell q.a q.b q.d, outV 0 false 0 0, .val (.bool false)]
/-- the frame behind Run's results -/
def runS1 (k u v w t : Int) (L : List zO) : AS := { t := [(6, .ptr 6 0), (5, .ptr 5 0), (4, .ptr 4 0), (3, .ptr 3 0), (0, .clo 15 [1000, 1001]), (1, .p (logV L))], s := [(6, isB false), (5, outB 0 false 0 0), (4, accB 0 0 0 0 yD), (3, xM L), (1000, opB k u v w), (1001, xG t)] }
def runT : List (Nat × AV) := [(0, .clo 15 [1004, 1005]), (3, .ptr 1000 0), (4, .ptr 1001 0), (5, .ptr 1002 0), (6, .ptr 1003 0)]
theorem run_fn (L : List zO) (hL : yC L) (t k u v w : Int) (h : OpOK t k u v w) :
    FnE Tryz.prog 14 [.clo 15 [1000, 1001], .p (logV L)] [opB k u v w, xG t] (.ret (.tup ((runV (opT t k u v w L 0)).map .p))) [opB k u v w, xG t] := by
  have hn := next1_g L hL t k u v w h 0 (Nat.zero_le _)
  cases hm : opT t k u v w L 0 with
  | done o j =>
    rw [hm] at hn
    have hn2 : FnE Tryz.prog 15 [doA, .ptr 1002 0, .ptr 1003 0] [atB 0, xM L, opB k u v w, xG t] (.ret (outR o)) [atB j, xM L, opB k u v w, xG t] := hn.2.2
    refine fn_ofD (S1 := runS1 k u v w t L) (ids := [3, 4, 5, 6, 1000, 1001]) (Bi := [xM L, accB 0 0 0 0 yD, outB 0 false 0 0, isB false, opB k u v w, xG t]) (Bi' := [xM L, accB 0 0 0 0 yD, outB o.e o.is 0 o.w, isB true, opB k u v w, xG t]) (T := runT) (dj := [1001, 1002, 1003])
      Tryz.func14 rfl Tryz.ntmps14 (Nat.le_of_ble_eq_true rfl) (by decide) ?_ rfl rfl (by decide) rfl (by rfl) rfl rfl rfl (by rfl) (by rfl) (zD (by decide) rfl (by repeat' first | exact trivial | rfl | constructor)) rfl rfl rfl (by
        intro p hp
        simp only [runT, List.mem_cons, List.not_mem_nil, or_false] at hp
        rcases hp with rfl | rfl | rfl | rfl | rfl <;> exact ⟨rfl, by decide⟩) ?_ rfl rfl (yV (by repeat' first | exact trivial | rfl | constructor))
    case refine_1 =>
      repeat' ((refine zX.is ?_; (refine zX.isR (id := 0) ?_; refine zX.zV [0, 1] [3, 4, 5, 6, 7, 1000, 1001] (by repeat' first | exact zY.nil | apply zY.p rfl | apply zY.clo rfl) (by repeat' first | exact zW.nil | apply zW.boxP rfl rfl | apply zW.skip) ?_; (refine zZ.m rfl rfl (w_boxS rfl rfl rfl (by decide)) ?_); (refine zZ.m rfl rfl (zC rfl (by decide) rfl (by decide)) ?_); (refine zZ.m rfl rfl (zC rfl (by decide) rfl (by decide)) ?_); (refine zZ.m rfl rfl (zC rfl (by decide) rfl (by decide)) ?_); refine zZ.nil ?_)))
      exact ⟨rfl, rfl⟩
    case refine_2 =>
      unfold runT
      repeat' ((refine zX.is ?_; first | refine zX.seq ?_ | (refine zX.isR (id := 2) ?_; refine zX.zV [0, 3, 4, 5, 6] [3, 4, 5, 6, 7, 1000, 1001, 1002, 1003, 1004, 1005] (by repeat' first | exact zY.nil | apply zY.ptr rfl | apply zY.clo rfl) (by repeat' first | exact zW.nil | apply zW.boxP rfl rfl | apply zW.skip) ?_; (refine zZ.m rfl rfl (zC rfl (by decide) rfl (by decide)) ?_); (refine zZ.w rfl (by exact zB rfl rfl rfl rfl rfl (by rfl) (by exact Nat.le_of_ble_eq_true rfl) rfl rfl) ?_); refine zZ.nil ?_) | (refine zX.isR (id := 3) ?_; refine zX.zV [0, 3, 4, 5, 6, 7] [3, 4, 5, 6, 7, 1000, 1001, 1002, 1003, 1004, 1005] (by repeat' first | exact zY.nil | apply zY.ptr rfl | apply zY.clo rfl) (by repeat' first | exact zW.nil | apply zW.boxP rfl rfl | apply zW.skip) ?_; (refine zZ.v rfl rfl (zU rfl rfl rfl (by decide)) ?_); (refine zZ.v rfl rfl (vJ rfl (by rfl) rfl (by decide)) ?_); (refine zZ.ofT rfl (zM.xA [7, 1000, 1004, 1005] (hn2) rfl (by decide) (yF rfl rfl) (by rfl) (zD (by decide) rfl (by repeat' first | exact trivial | rfl | constructor)) rfl rfl rfl rfl ?_)); (refine zZ.w rfl (by exact zB rfl rfl rfl rfl rfl (by rfl) (by exact Nat.le_of_ble_eq_true rfl) rfl rfl) ?_); refine zZ.nil ?_) | (refine zX.isR (id := 4) ?_; refine zX.yA [4, 5, 6] [3, 4, 5, 6, 7, 1000, 1001, 1002, 1003, 1004, 1005] (by repeat' first | exact zY.nil | apply zY.ptr rfl) (by repeat' first | exact zW.nil | apply zW.boxP rfl rfl | apply zW.skip) (zX.w9 (by kernel_rfl) ?_); repeat' (first | refine xX.many (by rfl) ?_ | refine xK.cons ?_ ?_ | exact xK.nil | refine wB.v rfl rfl rfl (by first | exact zS rfl (by rfl) (by rfl) (by rfl) (by rfl) rfl (by decide) | exact zI rfl rfl rfl (by rfl) (by rfl) rfl (by decide)) ?_ | refine wB.w rfl rfl (by exact zB rfl rfl rfl rfl rfl (by rfl) (by exact Nat.le_of_ble_eq_true rfl) rfl rfl) ?_ | refine xX.fin (by rfl) ?_)) | refine zX.ret ?_))
      all_goals exact ⟨_, _, _, run1_none o.e o.is 0 o.w true, .inl ⟨rfl, by first | exact .inl rfl | exact .inr rfl⟩, zD (by decide) rfl (by repeat' first | exact trivial | rfl | constructor), rfl, rfl, .tup rfl (by decide) (.cons (.cellN rfl rfl (by rfl) (by rfl)) (.cons (.cellN rfl rfl (by rfl) (by rfl)) (.cons (.cell1 rfl rfl rfl) .nil))), yV (by repeat' first | exact trivial | rfl | constructor)⟩
  | need q =>
    rw [hm] at hn
    have hn2 : FnE Tryz.prog 15 [doA, .ptr 1002 0, .ptr 1003 0] [atB 0, xM L, opB k u v w, xG t] (.pan (needA (xP q.kind q.cell q.a q.b q.d))) [atB L.length, xM L, opB k u v w, xG t] := hn
    refine fn_ofD (S1 := runS1 k u v w t L) (ids := [3, 4, 5, 6, 1000, 1001]) (Bi := [xM L, accB 0 0 0 0 yD, outB 0 false 0 0, isB false, opB k u v w, xG t]) (Bi' := [xM L, accB q.kind q.cell q.a q.b q.d, outB 0 false 0 0, isB false, opB k u v w, xG t]) (T := runT) (dj := [1001, 1002, 1003])
      Tryz.func14 rfl Tryz.ntmps14 (Nat.le_of_ble_eq_true rfl) (by decide) ?_ rfl rfl (by decide) rfl (by rfl) rfl rfl rfl (by rfl) (by rfl) (zD (by decide) rfl (by repeat' first | exact trivial | rfl | constructor)) rfl rfl rfl (by
        intro p hp
        simp only [runT, List.mem_cons, List.not_mem_nil, or_false] at hp
        rcases hp with rfl | rfl | rfl | rfl | rfl <;> exact ⟨rfl, by decide⟩) ?_ rfl rfl (yV (by repeat' first | exact trivial | rfl | constructor))
    case refine_1 =>
      repeat' ((refine zX.is ?_; (refine zX.isR (id := 0) ?_; refine zX.zV [0, 1] [3, 4, 5, 6, 7, 1000, 1001] (by repeat' first | exact zY.nil | apply zY.p rfl | apply zY.clo rfl) (by repeat' first | exact zW.nil | apply zW.boxP rfl rfl | apply zW.skip) ?_; (refine zZ.m rfl rfl (w_boxS rfl rfl rfl (by decide)) ?_); (refine zZ.m rfl rfl (zC rfl (by decide) rfl (by decide)) ?_); (refine zZ.m rfl rfl (zC rfl (by decide) rfl (by decide)) ?_); (refine zZ.m rfl rfl (zC rfl (by decide) rfl (by decide)) ?_); refine zZ.nil ?_)))
      exact ⟨rfl, rfl⟩
    case refine_2 =>
      unfold runT
      repeat' (first | (refine zZ.is ?_; first | refine zZ.v rfl rfl (by first | exact vJ rfl (by rfl) rfl (by decide) | exact zU rfl rfl rfl (by decide)) ?_ | refine zZ.ofT rfl (zM.ePan [7, 1000, 1004, 1005] (hn2) (yF rfl rfl) (by rfl) (zD (by decide) rfl (by repeat' first | exact trivial | rfl | constructor)) rfl rfl rfl rfl ?_)) | (refine zX.is ?_; first | refine zX.seq ?_ | (refine zX.isR (id := 2) ?_; refine zX.zV [0, 3, 4, 5, 6] [3, 4, 5, 6, 7, 1000, 1001, 1002, 1003, 1004, 1005] (by repeat' first | exact zY.nil | apply zY.ptr rfl | apply zY.clo rfl) (by repeat' first | exact zW.nil | apply zW.boxP rfl rfl | apply zW.skip) ?_; (refine zZ.m rfl rfl (zC rfl (by decide) rfl (by decide)) ?_); (refine zZ.w rfl (by exact zB rfl rfl rfl rfl rfl (by rfl) (by exact Nat.le_of_ble_eq_true rfl) rfl rfl) ?_); refine zZ.nil ?_) | (refine zX.isR (id := 3) ?_; refine zX.zV [0, 3, 4, 5, 6, 7] [3, 4, 5, 6, 7, 1000, 1001, 1002, 1003, 1004, 1005] (by repeat' first | exact zY.nil | apply zY.ptr rfl | apply zY.clo rfl) (by repeat' first | exact zW.nil | apply zW.boxP rfl rfl | apply zW.skip) ?_)))
      all_goals exact ⟨_, _, _, run1_need q.kind q.cell q.a q.b q.d 0 false 0 0 false, .inr ⟨_, rfl, rfl, rfl⟩, zD (by decide) rfl (by repeat' first | exact trivial | rfl | constructor), rfl, rfl, .tup rfl (by decide) (.cons (.cellN rfl rfl (by rfl) (by rfl)) (.cons (.cellN rfl rfl (by rfl) (by rfl)) (.cons (.cell1 rfl rfl rfl) .nil))), yV (by repeat' first | exact trivial | rfl | constructor)⟩
end Go.Proofs.YtlfkofkdigmnpaaGreatDoor
/- What an operation asks next: the program's: a contract; and the document's says the same. -/
namespace Go.Proofs.YtlfkofkdigmnpaaGreatDoor
set_option maxRecDepth 100000
set_option maxHeartbeats 16000000
open Go Go.RowKit
set_option linter.unusedSimpArgs false
attribute [local irreducible] zZ zX Step zG Sub zP zM Fn
theorem saveNext_fn (L : List zO) (hL : yC L) (t c me k u v w : Int) (h : OpOK t k u v w) :
    Fn Tryz.prog 7 [.val (.int .i64 t), .val (.int .i64 c), .val (.int .i64 me), opV k u v w, logV L] (.tup (runV (opT t k u v w L 0))) := by
  have hr := run_fn L hL t k u v w h
  cases hm : opT t k u v w L 0 with
  | done o j =>
    rw [hm] at hr
    refine yI Tryz.func7 rfl Tryz.ntmps7 (Nat.le_of_ble_eq_true rfl) ?_
    repeat' ((refine zX.is ?_; first | refine zX.seq ?_ | (refine zX.isR (id := 0) ?_; refine zX.zV [0, 3, 4] [5, 8, 10, 11] (by repeat' first | exact zY.nil | apply zY.p rfl) (by repeat' first | exact zW.nil | apply zW.skip) ?_; (refine zZ.m rfl rfl (w_boxV rfl rfl rfl rfl (by decide)) ?_); (refine zZ.m rfl rfl (z8 rfl rfl rfl (by decide)) ?_); (refine zZ.m rfl rfl (zC rfl (by decide) rfl (by decide)) ?_); (refine zZ.m rfl rfl (zC rfl (by decide) rfl (by decide)) ?_); (refine zZ.v rfl rfl (zK rfl rfl rfl (by decide)) ?_); refine zZ.nil ?_) | (refine zX.isR (id := 1) ?_; refine zX.zV [4, 5, 8, 10, 11, 12] [5, 8, 10, 11] (by repeat' first | exact zY.nil | apply zY.p rfl | apply zY.ptr rfl) (by repeat' first | exact zW.nil | apply zW.boxP rfl rfl) ?_; (refine zZ.v rfl rfl (vJ rfl (by rfl) rfl (by decide)) ?_); (refine zZ.v rfl rfl (zQ rfl rfl rfl (by decide)) ?_); (refine zZ.ofT rfl (zM.xA [8, 5] (hr) rfl (by decide) (zH rfl) (by rfl) (zD (by decide) rfl (by repeat' first | exact trivial | rfl | constructor)) rfl rfl rfl rfl ?_)); (refine zZ.v rfl rfl (zF rfl rfl rfl rfl (by decide)) ?_); (refine zZ.v rfl rfl (zF rfl rfl rfl rfl (by decide)) ?_); (refine zZ.v rfl rfl (zF rfl rfl rfl rfl (by decide)) ?_); (refine zZ.w rfl (by exact zB rfl rfl rfl rfl rfl (by rfl) (by exact Nat.le_of_ble_eq_true rfl) rfl rfl) ?_); (refine zZ.w rfl (by exact zB rfl rfl rfl rfl rfl (by rfl) (by exact Nat.le_of_ble_eq_true rfl) rfl rfl) ?_); (refine zZ.v rfl rfl (zK rfl rfl rfl (by decide)) ?_); refine zZ.nil ?_) | refine zX.ret ?_))
    all_goals exact ⟨by first | exact .inl rfl | exact .inr rfl, _, Sub.refl _, .tupE rfl (by decide) (.cons (.cellN rfl rfl (by rfl) (by rfl)) (.cons (.cellN rfl rfl (by rfl) (by rfl)) (.cons (.tmp rfl) .nil))) rfl⟩
  | need q =>
    rw [hm] at hr
    refine yI Tryz.func7 rfl Tryz.ntmps7 (Nat.le_of_ble_eq_true rfl) ?_
    repeat' ((refine zX.is ?_; first | refine zX.seq ?_ | (refine zX.isR (id := 0) ?_; refine zX.zV [0, 3, 4] [5, 8, 10, 11] (by repeat' first | exact zY.nil | apply zY.p rfl) (by repeat' first | exact zW.nil | apply zW.skip) ?_; (refine zZ.m rfl rfl (w_boxV rfl rfl rfl rfl (by decide)) ?_); (refine zZ.m rfl rfl (z8 rfl rfl rfl (by decide)) ?_); (refine zZ.m rfl rfl (zC rfl (by decide) rfl (by decide)) ?_); (refine zZ.m rfl rfl (zC rfl (by decide) rfl (by decide)) ?_); (refine zZ.v rfl rfl (zK rfl rfl rfl (by decide)) ?_); refine zZ.nil ?_) | (refine zX.isR (id := 1) ?_; refine zX.zV [4, 5, 8, 10, 11, 12] [5, 8, 10, 11] (by repeat' first | exact zY.nil | apply zY.p rfl | apply zY.ptr rfl) (by repeat' first | exact zW.nil | apply zW.boxP rfl rfl) ?_; (refine zZ.v rfl rfl (vJ rfl (by rfl) rfl (by decide)) ?_); (refine zZ.v rfl rfl (zQ rfl rfl rfl (by decide)) ?_); (refine zZ.ofT rfl (zM.xA [8, 5] (hr) rfl (by decide) (zH rfl) (by rfl) (zD (by decide) rfl (by repeat' first | exact trivial | rfl | constructor)) rfl rfl rfl rfl ?_)); (refine zZ.v rfl rfl (zF rfl rfl rfl rfl (by decide)) ?_); (refine zZ.v rfl rfl (zF rfl rfl rfl rfl (by decide)) ?_); (refine zZ.v rfl rfl (zF rfl rfl rfl rfl (by decide)) ?_); (refine zZ.w rfl (by exact zB rfl rfl rfl rfl rfl (by rfl) (by exact Nat.le_of_ble_eq_true rfl) rfl rfl) ?_); (refine zZ.w rfl (by exact zB rfl rfl rfl rfl rfl (by rfl) (by exact Nat.le_of_ble_eq_true rfl) rfl rfl) ?_); (refine zZ.v rfl rfl (zK rfl rfl rfl (by decide)) ?_); refine zZ.nil ?_) | refine zX.ret ?_))
    all_goals exact ⟨by first | exact .inl rfl | exact .inr rfl, _, Sub.refl _, .tupE rfl (by decide) (.cons (.cellN rfl rfl (by rfl) (by rfl)) (.cons (.cellN rfl rfl (by rfl) (by rfl)) (.cons (.tmp rfl) .nil))) rfl⟩
/-- the document's answer is the program's -/
theorem ref_same (t k u v w : Int) (L : List zO) : refV (opS t k u v w L (xR zN 0)) = runV (opT t k u v w L 0) := by
  have ht := tells_op t k u v w L
  cases hm : opT t k u v w L 0 with
  | done o j =>
    have h1 := (ht.done zN 0 o j (Nat.zero_le _) hm).2
    rw [h1]
    rfl
  | need q =>
    have h1 := ht.need zN 0 q (Nat.zero_le _) hm
    have hq := (nice_op t k u v w L 0 q hm).1
    show toldV (opS t k u v w L (xR zN 0)).2 _ _ _ _ = _
    rw [h1]
    unfold toldV runV
    simp only [cond_true, Bool.not_true, hq]
    rfl
theorem saveNextRef_fn (L : List zO) (hL : yC L) (t k u v w : Int) (h : OpOK t k u v w) :
    Fn Tryz.prog 8 [.val (.int .i64 t), opV k u v w, logV L] (.tup (runV (opT t k u v w L 0))) := ref_same t k u v w L ▸ nextRef_fn L hL t k u v w h
end Go.Proofs.YtlfkofkdigmnpaaGreatDoor
/- Are two accesses, two answers the same; sizes, and operations, that may be: contracts. -/
namespace Go.Proofs.YtlfkofkdigmnpaaGreatDoor
set_option maxRecDepth 100000
set_option maxHeartbeats 16000000
open Go Go.RowKit
set_option linter.unusedSimpArgs false
attribute [local irreducible] zZ zX Step zG Sub zP zM Fn
theorem zX.loopOnce {P : Program} {n : Nat} {c : Code} {S : AS} {K : Exit → AS → Prop} (h : zX P n c S (yJ (fun _ => False) K)) : zX P n (.loop c) S K :=
  zX.loop (fun _ : Unit => S) (fun _ => True) (fun _ => 0) () (Sub.refl S) trivial fun _ _ => h.mono fun e S' h1 => by
    cases e with
    | normal => exact (h1 : False).elim
    | _ => exact h1
section
variable {P : Program} {n : Nat} {o : Oper} {S : AS} {d : Nat} {x y : Operand} {xt yt : TypeId} {r : Bool}
theorem r_neqS {s u : ByteArray} (ho : o.op = .binOp .neq xt x y yt) (hx : S.get x = .p (.val (.string s))) (hy : S.get y = .p (.val (.string u))) (hr : (!(s.toList == u.toList)) = r) (hd : o.dst = some d) (hn : d < n) : zG P n o S [] (.p (.val (.bool r))) none := by
  subst hr
  exact xS ho hx hy hd hn fun w => by simp [eqGuard, binOp, Op.stringOp]
end
def dimsB (t c : Int) : Bool := decide (1 ≤ t) && decide (t ≤ 64) && decide (0 ≤ c) && decide (c ≤ 65536)
theorem dims_fn (t c : Int) : Fn Tryz.prog 5 [.val (.int .i64 t), .val (.int .i64 c)] (.p (.val (.bool (dimsB t c)))) := by
  refine wJ Tryz.func5 rfl Tryz.ntmps5 (Nat.le_of_ble_eq_true rfl) ?_
  repeat' ((refine zX.is ?_; first | refine zX.seq ?_ | (refine zX.isR (id := 0) ?_; refine zX.zV [0, 1] [] (by repeat' first | exact zY.nil | apply zY.p rfl) (by repeat' exact zW.nil) ?_; (refine zZ.v rfl rfl (zK rfl rfl rfl (by decide)) ?_); refine zZ.nil ?_) | (refine zX.isR (id := 1) ?_; refine zX.zV [0, 1, 4] [] (by repeat' first | exact zY.nil | apply zY.p rfl) (by repeat' exact zW.nil) ?_; all_goals (refine zZ.v rfl rfl (zQ rfl rfl rfl (by decide)) ?_); all_goals (refine zZ.v rfl rfl (r_geq rfl rfl rfl (by rfl) rfl (by decide)) ?_); all_goals (refine zZ.v rfl rfl (zQ rfl rfl rfl (by decide)) ?_); all_goals (((fail_if_success refine zZ.known rfl rfl rfl (by fail) ?_); refine zZ.split rfl rfl rfl (fun h => ?_) (fun h => ?_) <;> first | refine zZ.gY rfl rfl (by decide) rfl (by assumption) rfl (by decide) (zQ rfl rfl rfl (by decide)) ?_ | refine zZ.gnT rfl rfl (by decide) rfl (by assumption) rfl (by decide) ?_)); all_goals (first | refine zZ.gY rfl rfl (by decide) rfl (by assumption) rfl (by decide) (r_leq rfl rfl rfl (by rfl) rfl (by decide)) ?_ | refine zZ.gnT rfl rfl (by decide) rfl (by assumption) rfl (by decide) ?_); all_goals (refine zZ.v rfl rfl (by first | exact zT rfl rfl (by assumption) rfl rfl (by decide) | exact zR rfl rfl (by assumption) rfl rfl (by decide)) ?_); all_goals (refine zZ.v rfl rfl (zQ rfl rfl rfl (by decide)) ?_); all_goals (first | refine zZ.gnT rfl rfl (by decide) rfl (by with_reducible rfl) rfl (by decide) ?_ | ((fail_if_success refine zZ.known rfl rfl rfl (by fail) ?_); refine zZ.split rfl rfl rfl (fun h => ?_) (fun h => ?_) <;> first | refine zZ.gY rfl rfl (by decide) rfl (by assumption) rfl (by decide) (zQ rfl rfl rfl (by decide)) ?_ | refine zZ.gnT rfl rfl (by decide) rfl (by assumption) rfl (by decide) ?_)); all_goals (first | refine zZ.gY rfl rfl (by decide) rfl (by assumption) rfl (by decide) (r_geq rfl rfl rfl (by rfl) rfl (by decide)) ?_ | refine zZ.gnT rfl rfl (by decide) rfl (by first | assumption | with_reducible rfl) rfl (by decide) ?_); all_goals (refine zZ.v rfl rfl (by first | exact zT rfl rfl (by assumption) rfl rfl (by decide) | exact zR rfl rfl (by first | assumption | with_reducible rfl) rfl rfl (by decide)) ?_); all_goals (refine zZ.v rfl rfl (zQ rfl rfl rfl (by decide)) ?_); all_goals (first | refine zZ.gnT rfl rfl (by decide) rfl (by with_reducible rfl) rfl (by decide) ?_ | ((fail_if_success refine zZ.known rfl rfl rfl (by fail) ?_); refine zZ.split rfl rfl rfl (fun h => ?_) (fun h => ?_) <;> first | refine zZ.gY rfl rfl (by decide) rfl (by assumption) rfl (by decide) (zQ rfl rfl rfl (by decide)) ?_ | refine zZ.gnT rfl rfl (by decide) rfl (by assumption) rfl (by decide) ?_)); all_goals (first | refine zZ.gY rfl rfl (by decide) rfl (by assumption) rfl (by decide) (r_leq rfl rfl rfl (by rfl) rfl (by decide)) ?_ | refine zZ.gnT rfl rfl (by decide) rfl (by first | assumption | with_reducible rfl) rfl (by decide) ?_); all_goals (refine zZ.v rfl rfl (by first | exact zT rfl rfl (by assumption) rfl rfl (by decide) | exact zR rfl rfl (by first | assumption | with_reducible rfl) rfl rfl (by decide)) ?_); all_goals (refine zZ.v rfl rfl (zK rfl rfl rfl (by decide)) ?_); all_goals (refine zZ.nil ?_)) | refine zX.ret ?_))
  all_goals refine ⟨.inl rfl, gives1 rfl rfl (eqB' ?_)⟩
  all_goals simp [dimsB, *]
def may14B (c k u v : Int) : Bool := bif (decide (k < 20) && !decide (k = 7)) || decide (23 < k) then true else bif decide (u < 1) || decide (c < u) then false else (!decide (k = 7) && !decide (k = 23)) || decide (v = 1) || decide (v = 2)
theorem may14_fn (c k u v w : Int) : Fn Tryz.prog 6 [.val (.int .i64 c), opV k u v w] (.p (.val (.bool (may14B c k u v)))) := by
  refine wJ Tryz.func6 rfl Tryz.ntmps6 (Nat.le_of_ble_eq_true rfl) ?_
  repeat' (first | (refine zX.is ?_; first | refine zX.seq ?_ | (refine zX.isR (id := 0) ?_; refine zX.zV [0, 1] [3] (by repeat' first | exact zY.nil | apply zY.p rfl) (by repeat' first | exact zW.nil | apply zW.skip) ?_; (refine zZ.m rfl rfl (z8 rfl rfl rfl (by decide)) ?_); (refine zZ.v rfl rfl (zK rfl rfl rfl (by decide)) ?_); refine zZ.nil ?_) | (refine zX.isR (id := 1) ?_; refine zX.zV [0, 3, 4] [3] (by repeat' first | exact zY.nil | apply zY.p rfl | apply zY.ptr rfl) (by repeat' first | exact zW.nil | apply zW.boxP rfl rfl) ?_; all_goals (refine zZ.v rfl rfl (zJ rfl rfl rfl (by decide)) ?_); all_goals (refine zZ.v rfl rfl (zA rfl rfl rfl rfl rfl (by decide)) ?_); all_goals (refine zZ.v rfl rfl (yL rfl rfl rfl (by rfl) rfl (by decide)) ?_); all_goals (refine zZ.v rfl rfl (zQ rfl rfl rfl (by decide)) ?_); all_goals (((fail_if_success refine zZ.known rfl rfl rfl (by fail) ?_); refine zZ.split rfl rfl rfl (fun h => ?_) (fun h => ?_) <;> first | refine zZ.gY rfl rfl (by decide) rfl (by assumption) rfl (by decide) (zJ rfl rfl rfl (by decide)) ?_ | refine zZ.gnT rfl rfl (by decide) rfl (by assumption) rfl (by decide) ?_)); all_goals (first | refine zZ.gY rfl rfl (by decide) rfl (by assumption) rfl (by decide) (zA rfl rfl rfl rfl rfl (by decide)) ?_ | refine zZ.gnT rfl rfl (by decide) rfl (by assumption) rfl (by decide) ?_); all_goals (first | refine zZ.gY rfl rfl (by decide) rfl (by assumption) rfl (by decide) (xW rfl rfl rfl (by rfl) rfl (by decide)) ?_ | refine zZ.gnT rfl rfl (by decide) rfl (by assumption) rfl (by decide) ?_); all_goals (refine zZ.v rfl rfl (by first | exact zT rfl rfl (by assumption) rfl rfl (by decide) | exact zR rfl rfl (by assumption) rfl rfl (by decide)) ?_); all_goals (refine zZ.v rfl rfl (zQ rfl rfl rfl (by decide)) ?_); all_goals (first | refine zZ.gY rfl rfl (by decide) rfl (by with_reducible rfl) rfl (by decide) (zJ rfl rfl rfl (by decide)) ?_ | ((fail_if_success refine zZ.known rfl rfl rfl (by fail) ?_); refine zZ.split rfl rfl rfl (fun h => ?_) (fun h => ?_) <;> first | refine zZ.gY rfl rfl (by decide) rfl (by assumption) rfl (by decide) (zJ rfl rfl rfl (by decide)) ?_ | refine zZ.gnF rfl rfl (by decide) rfl (by assumption) rfl (by decide) ?_)); all_goals (first | refine zZ.gY rfl rfl (by decide) rfl (by first | assumption | with_reducible rfl) rfl (by decide) (zA rfl rfl rfl rfl rfl (by decide)) ?_ | refine zZ.gnF rfl rfl (by decide) rfl (by assumption) rfl (by decide) ?_); all_goals (first | refine zZ.gY rfl rfl (by decide) rfl (by first | assumption | with_reducible rfl) rfl (by decide) (r_gtr rfl rfl rfl (by rfl) rfl (by decide)) ?_ | refine zZ.gnF rfl rfl (by decide) rfl (by assumption) rfl (by decide) ?_); all_goals (refine zZ.v rfl rfl (by first | exact zT rfl rfl (by assumption) rfl rfl (by decide) | exact zR rfl rfl (by first | assumption | with_reducible rfl) rfl rfl (by decide)) ?_); all_goals (refine zZ.nil ?_)) | (refine zX.isR (id := 2) ?_; refine zX.zV [0, 3, 4] [3] (by repeat' first | exact zY.nil | apply zY.p rfl | apply zY.ptr rfl) (by repeat' first | exact zW.nil | apply zW.boxP rfl rfl) ?_; (refine zZ.v rfl rfl (zK rfl rfl rfl (by decide)) ?_); refine zZ.nil ?_) | (refine zX.isR (id := 3) ?_; refine zX.zV [0, 3, 4] [3] (by repeat' first | exact zY.nil | apply zY.p rfl | apply zY.ptr rfl) (by repeat' first | exact zW.nil | apply zW.boxP rfl rfl) ?_; all_goals (refine zZ.v rfl rfl (zJ rfl rfl rfl (by decide)) ?_); all_goals (refine zZ.v rfl rfl (zA rfl rfl rfl rfl rfl (by decide)) ?_); all_goals (refine zZ.v rfl rfl (yL rfl rfl rfl (by rfl) rfl (by decide)) ?_); all_goals (refine zZ.v rfl rfl (zQ rfl rfl rfl (by decide)) ?_); all_goals (((fail_if_success refine zZ.known rfl rfl rfl (by fail) ?_); refine zZ.split rfl rfl rfl (fun h => ?_) (fun h => ?_) <;> first | refine zZ.gY rfl rfl (by decide) rfl (by assumption) rfl (by decide) (zJ rfl rfl rfl (by decide)) ?_ | refine zZ.gnF rfl rfl (by decide) rfl (by assumption) rfl (by decide) ?_)); all_goals (first | refine zZ.gY rfl rfl (by decide) rfl (by assumption) rfl (by decide) (zA rfl rfl rfl rfl rfl (by decide)) ?_ | refine zZ.gnF rfl rfl (by decide) rfl (by assumption) rfl (by decide) ?_); all_goals (first | refine zZ.gY rfl rfl (by decide) rfl (by assumption) rfl (by decide) (zQ rfl rfl rfl (by decide)) ?_ | refine zZ.gnF rfl rfl (by decide) rfl (by assumption) rfl (by decide) ?_); all_goals (first | refine zZ.gY rfl rfl (by decide) rfl (by assumption) rfl (by decide) (r_gtr rfl rfl rfl (by rfl) rfl (by decide)) ?_ | refine zZ.gnF rfl rfl (by decide) rfl (by assumption) rfl (by decide) ?_); all_goals (refine zZ.v rfl rfl (by first | exact zT rfl rfl (by assumption) rfl rfl (by decide) | exact zR rfl rfl (by assumption) rfl rfl (by decide)) ?_); all_goals (refine zZ.nil ?_)) | (refine zX.isR (id := 4) ?_; refine zX.zV [3, 4] [3] (by repeat' first | exact zY.nil | apply zY.p rfl | apply zY.ptr rfl) (by repeat' first | exact zW.nil | apply zW.boxP rfl rfl) ?_; (refine zZ.v rfl rfl (zK rfl rfl rfl (by decide)) ?_); refine zZ.nil ?_) | (refine zX.isR (id := 5) ?_; refine zX.zV [3, 4] [3] (by repeat' first | exact zY.nil | apply zY.p rfl | apply zY.ptr rfl) (by repeat' first | exact zW.nil | apply zW.boxP rfl rfl) ?_; all_goals (refine zZ.v rfl rfl (zJ rfl rfl rfl (by decide)) ?_); all_goals (refine zZ.v rfl rfl (zA rfl rfl rfl rfl rfl (by decide)) ?_); all_goals (refine zZ.v rfl rfl (xW rfl rfl rfl (by rfl) rfl (by decide)) ?_); all_goals (refine zZ.v rfl rfl (zQ rfl rfl rfl (by decide)) ?_); all_goals (first | refine zZ.gnT rfl rfl (by decide) rfl (by assumption) rfl (by decide) ?_ | ((fail_if_success refine zZ.known rfl rfl rfl (by fail) ?_); refine zZ.split rfl rfl rfl (fun h => ?_) (fun h => ?_) <;> first | refine zZ.gY rfl rfl (by decide) rfl (by assumption) rfl (by decide) (zJ rfl rfl rfl (by decide)) ?_ | refine zZ.gnT rfl rfl (by decide) rfl (by assumption) rfl (by decide) ?_)); all_goals (first | refine zZ.gY rfl rfl (by decide) rfl (by assumption) rfl (by decide) (zA rfl rfl rfl rfl rfl (by decide)) ?_ | refine zZ.gnT rfl rfl (by decide) rfl (by assumption) rfl (by decide) ?_); all_goals (first | refine zZ.gY rfl rfl (by decide) rfl (by assumption) rfl (by decide) (xW rfl rfl rfl (by rfl) rfl (by decide)) ?_ | refine zZ.gnT rfl rfl (by decide) rfl (by assumption) rfl (by decide) ?_); all_goals (refine zZ.v rfl rfl (by first | exact zT rfl rfl (by assumption) rfl rfl (by decide) | exact zR rfl rfl (by assumption) rfl rfl (by decide)) ?_); all_goals (refine zZ.v rfl rfl (zQ rfl rfl rfl (by decide)) ?_); all_goals (first | refine zZ.gY rfl rfl (by decide) rfl (by with_reducible rfl) rfl (by decide) (zJ rfl rfl rfl (by decide)) ?_ | ((fail_if_success refine zZ.known rfl rfl rfl (by fail) ?_); refine zZ.split rfl rfl rfl (fun h => ?_) (fun h => ?_) <;> first | refine zZ.gY rfl rfl (by decide) rfl (by assumption) rfl (by decide) (zJ rfl rfl rfl (by decide)) ?_ | refine zZ.gnF rfl rfl (by decide) rfl (by assumption) rfl (by decide) ?_)); all_goals (first | refine zZ.gY rfl rfl (by decide) rfl (by first | assumption | with_reducible rfl) rfl (by decide) (zA rfl rfl rfl rfl rfl (by decide)) ?_ | refine zZ.gnF rfl rfl (by decide) rfl (by assumption) rfl (by decide) ?_); all_goals (first | refine zZ.gY rfl rfl (by decide) rfl (by first | assumption | with_reducible rfl) rfl (by decide) (yQ rfl rfl rfl (by rfl) rfl (by decide)) ?_ | refine zZ.gnF rfl rfl (by decide) rfl (by assumption) rfl (by decide) ?_); all_goals (refine zZ.v rfl rfl (by first | exact zT rfl rfl (by assumption) rfl rfl (by decide) | exact zR rfl rfl (by first | assumption | with_reducible rfl) rfl rfl (by decide)) ?_); all_goals (refine zZ.v rfl rfl (zQ rfl rfl rfl (by decide)) ?_); all_goals (first | refine zZ.gnF rfl rfl (by decide) rfl (by with_reducible rfl) rfl (by decide) ?_ | ((fail_if_success refine zZ.known rfl rfl rfl (by fail) ?_); refine zZ.split rfl rfl rfl (fun h => ?_) (fun h => ?_) <;> first | refine zZ.gY rfl rfl (by decide) rfl (by assumption) rfl (by decide) (zJ rfl rfl rfl (by decide)) ?_ | refine zZ.gnF rfl rfl (by decide) rfl (by assumption) rfl (by decide) ?_)); all_goals (first | refine zZ.gY rfl rfl (by decide) rfl (by assumption) rfl (by decide) (zA rfl rfl rfl rfl rfl (by decide)) ?_ | refine zZ.gnF rfl rfl (by decide) rfl (by first | assumption | with_reducible rfl) rfl (by decide) ?_); all_goals (first | refine zZ.gY rfl rfl (by decide) rfl (by assumption) rfl (by decide) (yQ rfl rfl rfl (by rfl) rfl (by decide)) ?_ | refine zZ.gnF rfl rfl (by decide) rfl (by first | assumption | with_reducible rfl) rfl (by decide) ?_); all_goals (refine zZ.v rfl rfl (by first | exact zT rfl rfl (by first | assumption | with_reducible rfl) rfl rfl (by decide) | exact zR rfl rfl (by assumption) rfl rfl (by decide)) ?_); all_goals (refine zZ.v rfl rfl (zK rfl rfl rfl (by decide)) ?_); all_goals (refine zZ.nil ?_)) | refine zX.yE rfl (by first | assumption | with_reducible rfl) ?_ | refine zX.cond rfl (fun h => ?_) (fun h => ?_) | refine zX.skip ?_ | refine zX.ret ?_) | refine yJ.r ?_)
  all_goals refine ⟨by first | exact .inl rfl | exact .inr rfl, gives1 rfl rfl (eqB' ?_)⟩
  all_goals simp [may14B, *]
theorem outs_fn (e : Int) (is : Bool) (n w : Int) : Fn Tryz.prog 10 [outV e is n w, outV e is n w] (.p (.val (.bool true))) := by
  have g1 : ∀ x : Int, (!decide (x = x)) = false := fun x => by simp
  have g2 : ∀ x : Bool, (!(x == x)) = false := fun x => by simp
  have g3 : decide ((0 : Int) < 0) = false := rfl
  refine wJ Tryz.func10 rfl Tryz.ntmps10 (Nat.le_of_ble_eq_true rfl) ?_
  repeat' (first | refine zX.loopOnce ?_ | (refine zX.is ?_; first | refine zX.seq ?_ | (refine zX.isR (id := 0) ?_; refine zX.zV [0, 1] [2, 3] (by repeat' first | exact zY.nil | apply zY.p rfl) (by repeat' first | exact zW.nil | apply zW.skip) ?_; (refine zZ.m rfl rfl (z8 rfl rfl rfl (by decide)) ?_); (refine zZ.m rfl rfl (z8 rfl rfl rfl (by decide)) ?_); (refine zZ.v rfl rfl (zK rfl rfl rfl (by decide)) ?_); refine zZ.nil ?_) | (refine zX.isR (id := 1) ?_; refine zX.zV [2, 3, 4] [2, 3] (by repeat' first | exact zY.nil | apply zY.p rfl | apply zY.ptr rfl) (by repeat' first | exact zW.nil | apply zW.boxP rfl rfl) ?_; all_goals (refine zZ.v rfl rfl (zJ rfl rfl rfl (by decide)) ?_); all_goals (refine zZ.v rfl rfl (zA rfl rfl rfl (by rfl) rfl (by decide)) ?_); all_goals (refine zZ.v rfl rfl (zJ rfl rfl rfl (by decide)) ?_); all_goals (refine zZ.v rfl rfl (zA rfl rfl rfl (by rfl) rfl (by decide)) ?_); all_goals (refine zZ.v rfl rfl (by exact xW rfl rfl rfl (by exact g1 _) rfl (by decide)) ?_); all_goals (refine zZ.v rfl rfl (zQ rfl rfl rfl (by decide)) ?_); all_goals (refine zZ.gY rfl rfl (by decide) rfl (by assumption) rfl (by decide) (zJ rfl rfl rfl (by decide)) ?_); all_goals (refine zZ.gY rfl rfl (by decide) rfl (by assumption) rfl (by decide) (zA rfl rfl rfl (by rfl) rfl (by decide)) ?_); all_goals (refine zZ.gY rfl rfl (by decide) rfl (by assumption) rfl (by decide) (zJ rfl rfl rfl (by decide)) ?_); all_goals (refine zZ.gY rfl rfl (by decide) rfl (by assumption) rfl (by decide) (zA rfl rfl rfl (by rfl) rfl (by decide)) ?_); all_goals (refine zZ.gY rfl rfl (by decide) rfl (by assumption) rfl (by decide) (by exact r_neqB rfl rfl rfl (by exact g2 _) rfl (by decide)) ?_); all_goals (refine zZ.v rfl rfl (by exact zR rfl rfl (by assumption) rfl rfl (by decide)) ?_); all_goals (refine zZ.v rfl rfl (zQ rfl rfl rfl (by decide)) ?_); all_goals (refine zZ.gY rfl rfl (by decide) rfl (by assumption) rfl (by decide) (zJ rfl rfl rfl (by decide)) ?_); all_goals (refine zZ.gY rfl rfl (by decide) rfl (by assumption) rfl (by decide) (zA rfl rfl rfl (by rfl) rfl (by decide)) ?_); all_goals (refine zZ.gY rfl rfl (by decide) rfl (by assumption) rfl (by decide) (zJ rfl rfl rfl (by decide)) ?_); all_goals (refine zZ.gY rfl rfl (by decide) rfl (by assumption) rfl (by decide) (zA rfl rfl rfl (by rfl) rfl (by decide)) ?_); all_goals (refine zZ.gY rfl rfl (by decide) rfl (by assumption) rfl (by decide) (by exact xW rfl rfl rfl (by exact g1 _) rfl (by decide)) ?_); all_goals (refine zZ.v rfl rfl (by exact zR rfl rfl (by assumption) rfl rfl (by decide)) ?_); all_goals (refine zZ.v rfl rfl (zQ rfl rfl rfl (by decide)) ?_); all_goals (refine zZ.gY rfl rfl (by decide) rfl (by assumption) rfl (by decide) (zJ rfl rfl rfl (by decide)) ?_); all_goals (refine zZ.gY rfl rfl (by decide) rfl (by assumption) rfl (by decide) (zA rfl rfl rfl (by rfl) rfl (by decide)) ?_); all_goals (refine zZ.gY rfl rfl (by decide) rfl (by assumption) rfl (by decide) (zJ rfl rfl rfl (by decide)) ?_); all_goals (refine zZ.gY rfl rfl (by decide) rfl (by assumption) rfl (by decide) (zA rfl rfl rfl (by rfl) rfl (by decide)) ?_); all_goals (refine zZ.gY rfl rfl (by decide) rfl (by assumption) rfl (by decide) (by exact xW rfl rfl rfl (by exact g1 _) rfl (by decide)) ?_); all_goals (refine zZ.v rfl rfl (by exact zR rfl rfl (by assumption) rfl rfl (by decide)) ?_); all_goals (refine zZ.v rfl rfl (zQ rfl rfl rfl (by decide)) ?_); all_goals (refine zZ.gY rfl rfl (by decide) rfl (by assumption) rfl (by decide) (zJ rfl rfl rfl (by decide)) ?_); all_goals (refine zZ.gY rfl rfl (by decide) rfl (by assumption) rfl (by decide) (zA rfl rfl rfl (by rfl) rfl (by decide)) ?_); all_goals (refine zZ.gY rfl rfl (by decide) rfl (by assumption) rfl (by decide) (w_lenN rfl rfl rfl (by decide)) ?_); all_goals (refine zZ.gY rfl rfl (by decide) rfl (by assumption) rfl (by decide) (zJ rfl rfl rfl (by decide)) ?_); all_goals (refine zZ.gY rfl rfl (by decide) rfl (by assumption) rfl (by decide) (zA rfl rfl rfl (by rfl) rfl (by decide)) ?_); all_goals (refine zZ.gY rfl rfl (by decide) rfl (by assumption) rfl (by decide) (w_lenN rfl rfl rfl (by decide)) ?_); all_goals (refine zZ.gY rfl rfl (by decide) rfl (by assumption) rfl (by decide) (by exact xW rfl rfl rfl (by exact g1 _) rfl (by decide)) ?_); all_goals (refine zZ.v rfl rfl (by exact zR rfl rfl (by assumption) rfl rfl (by decide)) ?_); all_goals (refine zZ.nil ?_)) | (refine zX.isR (id := 3) ?_; refine zX.zV [2, 3, 4] [2, 3] (by repeat' first | exact zY.nil | apply zY.p rfl | apply zY.ptr rfl) (by repeat' first | exact zW.nil | apply zW.boxP rfl rfl) ?_; (refine zZ.v rfl rfl (zK rfl rfl rfl (by decide)) ?_); refine zZ.nil ?_) | (refine zX.isR (id := 4) ?_; refine zX.zV [2, 3, 4, 5, 45, 58] [2, 3] (by repeat' first | exact zY.nil | apply zY.p rfl | apply zY.ptr rfl | apply zY.skip) (by repeat' first | exact zW.nil | apply zW.boxP rfl rfl) ?_; (refine zZ.v rfl rfl (zQ rfl rfl rfl (by decide)) ?_); (refine zZ.v rfl rfl (zJ rfl rfl rfl (by decide)) ?_); (refine zZ.v rfl rfl (zA rfl rfl rfl (by rfl) rfl (by decide)) ?_); (refine zZ.v rfl rfl (w_lenN rfl rfl rfl (by decide)) ?_); (refine zZ.v rfl rfl (by exact yL rfl rfl rfl (by exact g3) rfl (by decide)) ?_); refine zZ.nil ?_) | (refine zX.isR (id := 8) ?_; refine zX.zV [4] [2, 3] (by repeat' first | exact zY.nil | apply zY.p rfl) (by repeat' first | exact zW.nil | apply zW.boxP rfl rfl) ?_; (refine zZ.v rfl rfl (zK rfl rfl rfl (by decide)) ?_); refine zZ.nil ?_) | refine zX.yG rfl (by assumption) ?_ | refine zX.skip ?_ | refine zX.block ?_ | refine zX.exit ?_ | refine zX.ret ?_))
  all_goals refine ⟨by first | exact .inl rfl | exact .inr rfl, gives1 rfl rfl (eqB' ?_)⟩
  all_goals rfl
def accS (kind cell a b : Int) (bs : List Int) : PV := .agg [.val (.int .i64 kind), .val (.int .i64 cell), .val (.int .u64 a), .val (.int .u64 b), .sl (byts bs), .sl []]
theorem asks_fn (kind cell a b : Int) (bs : List Int) : Fn Tryz.prog 9 [accS kind cell a b bs, accS kind cell a b bs] (.p (.val (.bool true))) := by
  have g1 : ∀ x : Int, (!decide (x = x)) = false := fun x => by simp
  have g2 : ∀ x : ByteArray, (!(x.toList == x.toList)) = false := fun x => by simp
  have g3 : decide ((0 : Int) < 0) = false := rfl
  refine wJ Tryz.func9 rfl Tryz.ntmps9 (Nat.le_of_ble_eq_true rfl) ?_
  repeat' (first | refine zX.loopOnce ?_ | (refine zX.is ?_; first | refine zX.seq ?_ | (refine zX.isR (id := 0) ?_; refine zX.zV [0, 1] [2, 3] (by repeat' first | exact zY.nil | apply zY.p rfl) (by repeat' first | exact zW.nil | apply zW.skip) ?_; (refine zZ.m rfl rfl (z8 rfl rfl rfl (by decide)) ?_); (refine zZ.m rfl rfl (z8 rfl rfl rfl (by decide)) ?_); (refine zZ.v rfl rfl (zK rfl rfl rfl (by decide)) ?_); refine zZ.nil ?_) | (refine zX.isR (id := 1) ?_; refine zX.zV [2, 3, 4] [2, 3] (by repeat' first | exact zY.nil | apply zY.p rfl | apply zY.ptr rfl) (by repeat' first | exact zW.nil | apply zW.boxP rfl rfl) ?_; all_goals (refine zZ.v rfl rfl (zJ rfl rfl rfl (by decide)) ?_); all_goals (refine zZ.v rfl rfl (zA rfl rfl rfl (by rfl) rfl (by decide)) ?_); all_goals (refine zZ.v rfl rfl (zJ rfl rfl rfl (by decide)) ?_); all_goals (refine zZ.v rfl rfl (zA rfl rfl rfl (by rfl) rfl (by decide)) ?_); all_goals (refine zZ.v rfl rfl (by exact xW rfl rfl rfl (by exact g1 _) rfl (by decide)) ?_); all_goals (refine zZ.v rfl rfl (zQ rfl rfl rfl (by decide)) ?_); all_goals (refine zZ.gY rfl rfl (by decide) rfl (by assumption) rfl (by decide) (zJ rfl rfl rfl (by decide)) ?_); all_goals (refine zZ.gY rfl rfl (by decide) rfl (by assumption) rfl (by decide) (zA rfl rfl rfl (by rfl) rfl (by decide)) ?_); all_goals (refine zZ.gY rfl rfl (by decide) rfl (by assumption) rfl (by decide) (zJ rfl rfl rfl (by decide)) ?_); all_goals (refine zZ.gY rfl rfl (by decide) rfl (by assumption) rfl (by decide) (zA rfl rfl rfl (by rfl) rfl (by decide)) ?_); all_goals (refine zZ.gY rfl rfl (by decide) rfl (by assumption) rfl (by decide) (by exact xW rfl rfl rfl (by exact g1 _) rfl (by decide)) ?_); all_goals (refine zZ.v rfl rfl (by exact zR rfl rfl (by assumption) rfl rfl (by decide)) ?_); all_goals (refine zZ.v rfl rfl (zQ rfl rfl rfl (by decide)) ?_); all_goals (refine zZ.gY rfl rfl (by decide) rfl (by assumption) rfl (by decide) (zJ rfl rfl rfl (by decide)) ?_); all_goals (refine zZ.gY rfl rfl (by decide) rfl (by assumption) rfl (by decide) (zA rfl rfl rfl (by rfl) rfl (by decide)) ?_); all_goals (refine zZ.gY rfl rfl (by decide) rfl (by assumption) rfl (by decide) (zJ rfl rfl rfl (by decide)) ?_); all_goals (refine zZ.gY rfl rfl (by decide) rfl (by assumption) rfl (by decide) (zA rfl rfl rfl (by rfl) rfl (by decide)) ?_); all_goals (refine zZ.gY rfl rfl (by decide) rfl (by assumption) rfl (by decide) (by exact xW rfl rfl rfl (by exact g1 _) rfl (by decide)) ?_); all_goals (refine zZ.v rfl rfl (by exact zR rfl rfl (by assumption) rfl rfl (by decide)) ?_); all_goals (refine zZ.v rfl rfl (zQ rfl rfl rfl (by decide)) ?_); all_goals (refine zZ.gY rfl rfl (by decide) rfl (by assumption) rfl (by decide) (zJ rfl rfl rfl (by decide)) ?_); all_goals (refine zZ.gY rfl rfl (by decide) rfl (by assumption) rfl (by decide) (zA rfl rfl rfl (by rfl) rfl (by decide)) ?_); all_goals (refine zZ.gY rfl rfl (by decide) rfl (by assumption) rfl (by decide) (zJ rfl rfl rfl (by decide)) ?_); all_goals (refine zZ.gY rfl rfl (by decide) rfl (by assumption) rfl (by decide) (zA rfl rfl rfl (by rfl) rfl (by decide)) ?_); all_goals (refine zZ.gY rfl rfl (by decide) rfl (by assumption) rfl (by decide) (by exact xW rfl rfl rfl (by exact g1 _) rfl (by decide)) ?_); all_goals (refine zZ.v rfl rfl (by exact zR rfl rfl (by assumption) rfl rfl (by decide)) ?_); all_goals (refine zZ.v rfl rfl (zQ rfl rfl rfl (by decide)) ?_); all_goals (refine zZ.gY rfl rfl (by decide) rfl (by assumption) rfl (by decide) (zJ rfl rfl rfl (by decide)) ?_); all_goals (refine zZ.gY rfl rfl (by decide) rfl (by assumption) rfl (by decide) (zA rfl rfl rfl (by rfl) rfl (by decide)) ?_); all_goals (refine zZ.gY rfl rfl (by decide) rfl (by assumption) rfl (by decide) (w_str rfl rfl rfl (by decide)) ?_); all_goals (refine zZ.gY rfl rfl (by decide) rfl (by assumption) rfl (by decide) (zJ rfl rfl rfl (by decide)) ?_); all_goals (refine zZ.gY rfl rfl (by decide) rfl (by assumption) rfl (by decide) (zA rfl rfl rfl (by rfl) rfl (by decide)) ?_); all_goals (refine zZ.gY rfl rfl (by decide) rfl (by assumption) rfl (by decide) (w_str rfl rfl rfl (by decide)) ?_); all_goals (refine zZ.gY rfl rfl (by decide) rfl (by assumption) rfl (by decide) (by exact r_neqS rfl rfl rfl (by exact g2 _) rfl (by decide)) ?_); all_goals (refine zZ.v rfl rfl (by exact zR rfl rfl (by assumption) rfl rfl (by decide)) ?_); all_goals (refine zZ.v rfl rfl (zQ rfl rfl rfl (by decide)) ?_); all_goals (refine zZ.gY rfl rfl (by decide) rfl (by assumption) rfl (by decide) (zJ rfl rfl rfl (by decide)) ?_); all_goals (refine zZ.gY rfl rfl (by decide) rfl (by assumption) rfl (by decide) (zA rfl rfl rfl (by rfl) rfl (by decide)) ?_); all_goals (refine zZ.gY rfl rfl (by decide) rfl (by assumption) rfl (by decide) (xE rfl rfl rfl (by decide)) ?_); all_goals (refine zZ.gY rfl rfl (by decide) rfl (by assumption) rfl (by decide) (zJ rfl rfl rfl (by decide)) ?_); all_goals (refine zZ.gY rfl rfl (by decide) rfl (by assumption) rfl (by decide) (zA rfl rfl rfl (by rfl) rfl (by decide)) ?_); all_goals (refine zZ.gY rfl rfl (by decide) rfl (by assumption) rfl (by decide) (xE rfl rfl rfl (by decide)) ?_); all_goals (refine zZ.gY rfl rfl (by decide) rfl (by assumption) rfl (by decide) (by exact xW rfl rfl rfl (by exact g1 _) rfl (by decide)) ?_); all_goals (refine zZ.v rfl rfl (by exact zR rfl rfl (by assumption) rfl rfl (by decide)) ?_); all_goals (refine zZ.nil ?_)) | (refine zX.isR (id := 3) ?_; refine zX.zV [2, 3, 4] [2, 3] (by repeat' first | exact zY.nil | apply zY.p rfl | apply zY.ptr rfl) (by repeat' first | exact zW.nil | apply zW.boxP rfl rfl) ?_; (refine zZ.v rfl rfl (zK rfl rfl rfl (by decide)) ?_); refine zZ.nil ?_) | (refine zX.isR (id := 4) ?_; refine zX.zV [2, 3, 4, 5, 54, 67] [2, 3] (by repeat' first | exact zY.nil | apply zY.p rfl | apply zY.ptr rfl | apply zY.skip) (by repeat' first | exact zW.nil | apply zW.boxP rfl rfl) ?_; (refine zZ.v rfl rfl (zQ rfl rfl rfl (by decide)) ?_); (refine zZ.v rfl rfl (zJ rfl rfl rfl (by decide)) ?_); (refine zZ.v rfl rfl (zA rfl rfl rfl (by rfl) rfl (by decide)) ?_); (refine zZ.v rfl rfl (xE rfl rfl rfl (by decide)) ?_); (refine zZ.v rfl rfl (by exact yL rfl rfl rfl (by exact g3) rfl (by decide)) ?_); refine zZ.nil ?_) | (refine zX.isR (id := 8) ?_; refine zX.zV [4] [2, 3] (by repeat' first | exact zY.nil | apply zY.p rfl) (by repeat' first | exact zW.nil | apply zW.boxP rfl rfl) ?_; (refine zZ.v rfl rfl (zK rfl rfl rfl (by decide)) ?_); refine zZ.nil ?_) | refine zX.yG rfl (by assumption) ?_ | refine zX.skip ?_ | refine zX.block ?_ | refine zX.exit ?_ | refine zX.ret ?_))
  all_goals refine ⟨by first | exact .inl rfl | exact .inr rfl, gives1 rfl rfl (eqB' ?_)⟩
  all_goals rfl
end Go.Proofs.YtlfkofkdigmnpaaGreatDoor
/- Worlds: copies of rows, accesses of words: contracts. -/
namespace Go.Proofs.YtlfkofkdigmnpaaGreatDoor
set_option maxRecDepth 100000
set_option maxHeartbeats 16000000
open Go Go.RowKit
set_option linter.unusedSimpArgs false
attribute [local irreducible] zZ zX Step zG Sub zP zM Fn
/-- words, as a slice's elements -/
def wds (ws : List Int) : List PV := ws.map fun n => .val (.int .u64 n)
theorem wP (ws : List Int) : (wds ws).length = ws.length := by simp [wds]
theorem wds_one (ws : List Int) : ∀ e ∈ wds ws, e.cells = [e] := fun e he => by
  obtain ⟨x, _, rfl⟩ := List.mem_map.1 he
  rfl
theorem wds_cells (ws : List Int) : ∀ e ∈ wds ws, e.cells.length = 1 := fun e he => by rw [wds_one ws e he]; rfl
theorem grow_lim (n k : Nat) (h : n ≤ 1000000) (hk : k ≤ 1000) : (([] : List PV).length + n) * k ≤ 140737488355328 ∧ ([] : List PV).length + n ≤ maxLen := by
  have h2 : n * k ≤ 1000000 * 1000 := Nat.mul_le_mul h hk
  simp only [List.length_nil, Nat.zero_add, maxLen]
  omega
theorem cloneW_fn (ws : List Int) (h0 : 1 ≤ ws.length) (h1 : ws.length ≤ 1000000) : Fn Tryz.prog 59 [.sl (wds ws)] (.row 22 1 (wds ws).length (flat (wds ws))) := by
  have g1 := wds_cells ws
  have g2 : wds ws ≠ [] := fun e => by have := congrArg List.length e; rw [wP, List.length_nil] at this; omega
  have g3 := grow_lim (wds ws).length 8 (by rw [wP]; exact h1) (by decide)
  refine yI Tryz.func59 rfl Tryz.ntmps59 (Nat.le_of_ble_eq_true rfl) ?_
  repeat' ((refine zX.is ?_; first | refine zX.seq ?_ | (refine zX.isR (id := 0) ?_; refine zX.zV [0] [2, 5] (by repeat' first | exact zY.nil | apply zY.p rfl) (by repeat' first | exact zW.nil | apply zW.skip) ?_; (refine zZ.v rfl rfl (zK rfl rfl rfl (by decide)) ?_); refine zZ.nil ?_) | (refine zX.isR (id := 1) ?_; refine zX.zV [0, 2] [2, 5] (by repeat' first | exact zY.nil | apply zY.p rfl) (by repeat' first | exact zW.nil | apply zW.skip) ?_; (refine zZ.v rfl rfl (zQ rfl rfl rfl (by decide)) ?_); (refine zZ.v rfl rfl (by exact r_eqlNil rfl rfl rfl (by exact g2) (by exact bF (by decide)) rfl (by decide)) ?_); refine zZ.nil ?_) | (refine zX.isR (id := 3) ?_; refine zX.zV [0, 2] [2, 5] (by repeat' first | exact zY.nil | apply zY.p rfl) (by repeat' first | exact zW.nil | apply zW.skip) ?_; (refine zZ.m rfl rfl (w_build0V rfl rfl (by decide)) ?_); (refine zZ.v rfl rfl (zQ rfl rfl rfl (by decide)) ?_); (refine zZ.w rfl (by exact w_appV rfl rfl rfl rfl (by exact g1) (by exact g3) rfl (by decide) rfl (by decide)) ?_); (refine zZ.v rfl rfl (y5 rfl rfl rfl (by decide)) ?_); refine zZ.nil ?_) | refine zX.yG rfl (by with_reducible rfl) ?_ | refine zX.skip ?_ | refine zX.ret ?_))
  all_goals exact ⟨by first | exact .inl rfl | exact .inr rfl, givesRowV rfl rfl rfl⟩
/-! ### The accesses of a word -/
def funV (f : Nat) : Value := .func (.func f) #[] #[]
def turnsL : List PV := [.agg [.val (.int .i64 0), .val (funV 87)], .agg [.val (.int .i64 1), .val (funV 88)], .agg [.val (.int .i64 2), .val (funV 89)], .agg [.val (.int .i64 3), .val (funV 90)], .agg [.val (.int .i64 4), .val (funV 91)]]
theorem turns_fn : Fn Tryz.prog 76 [] (.p (.sl turnsL)) := by
  refine yI Tryz.func76 rfl Tryz.ntmps76 (Nat.le_of_ble_eq_true rfl) ?_
  repeat' ((refine zX.is ?_; first | refine zX.seq ?_ | (refine zX.isR (id := 0) ?_; refine zX.zV [] [0, 6] (by repeat' exact zY.nil) (by repeat' first | exact zW.nil | apply zW.skip) ?_; (refine zZ.v rfl rfl (zK rfl rfl rfl (by decide)) ?_); refine zZ.nil ?_) | (refine zX.isR (id := 1) ?_; refine zX.zV [0] [0, 6] (by repeat' first | exact zY.nil | apply zY.p rfl) (by repeat' first | exact zW.nil | apply zW.skip) ?_; (refine zZ.v rfl rfl (zS rfl (by rfl) (by rfl) (by rfl) (by rfl) rfl (by decide)) ?_); (refine zZ.v rfl rfl (zS rfl (by rfl) (by rfl) (by rfl) (by rfl) rfl (by decide)) ?_); (refine zZ.v rfl rfl (zS rfl (by rfl) (by rfl) (by rfl) (by rfl) rfl (by decide)) ?_); (refine zZ.v rfl rfl (zS rfl (by rfl) (by rfl) (by rfl) (by rfl) rfl (by decide)) ?_); (refine zZ.v rfl rfl (zS rfl (by rfl) (by rfl) (by rfl) (by rfl) rfl (by decide)) ?_); (refine zZ.v rfl rfl (w_buildSl rfl (by decide) (by decide) (by decide) (by decide) (by rfl) (by rfl) (by rfl) (by rfl) (by rfl) (by rfl) (by rfl) rfl (by decide)) ?_); (refine zZ.v rfl rfl (zK rfl rfl rfl (by decide)) ?_); refine zZ.nil ?_) | refine zX.ret ?_))
  trace_state
  all_goals exact ⟨by first | exact .inl rfl | exact .inr rfl, _, Sub.refl _, .p rfl (.tmp rfl)⟩
/-- what an access of a word tells, and the word then -/
def wV (kind old a b : Int) : Int × Int := if kind = 0 then (old, old) else if kind = 1 then (0, a) else if kind = 2 then (if old = a then (1, b) else (0, old)) else if kind = 3 then (old, IntKind.u64.wrap (old + a)) else (old, a)
theorem turn1_fn (old kind cell a b : Int) (d w : PV) : Fn Tryz.prog 87 [.val (.int .u64 old), .agg [.val (.int .i64 kind), .val (.int .i64 cell), .val (.int .u64 a), .val (.int .u64 b), d, w]] (.tup [.val (.int .u64 old), .val (.int .u64 old)]) := by
  refine yI Tryz.func87 rfl Tryz.ntmps87 (Nat.le_of_ble_eq_true rfl) ?_
  repeat' ((refine zX.is ?_; first | refine zX.seq ?_ | (refine zX.isR (id := 0) ?_; refine zX.zV [0, 1] [3] (by repeat' first | exact zY.nil | apply zY.p rfl) (by repeat' first | exact zW.nil | apply zW.skip) ?_; (refine zZ.m rfl rfl (z8 rfl rfl rfl (by decide)) ?_); (refine zZ.v rfl rfl (zK rfl rfl rfl (by decide)) ?_); (refine zZ.v rfl rfl (zK rfl rfl rfl (by decide)) ?_); refine zZ.nil ?_) | (refine zX.isR (id := 1) ?_; refine zX.zV [0, 4, 5] [3] (by repeat' first | exact zY.nil | apply zY.p rfl) (by repeat' first | exact zW.nil | apply zW.boxP rfl rfl) ?_; (refine zZ.v rfl rfl (zQ rfl rfl rfl (by decide)) ?_); (refine zZ.v rfl rfl (zQ rfl rfl rfl (by decide)) ?_); (refine zZ.v rfl rfl (zK rfl rfl rfl (by decide)) ?_); (refine zZ.v rfl rfl (zK rfl rfl rfl (by decide)) ?_); refine zZ.nil ?_) | refine zX.ret ?_))
  all_goals exact ⟨by first | exact .inl rfl | exact .inr rfl, _, Sub.refl _, .tupE rfl (by decide) (.cons (.tmp rfl) (.cons (.tmp rfl) .nil)) rfl⟩
theorem turn2_fn (old kind cell a b : Int) (d w : PV) : Fn Tryz.prog 88 [.val (.int .u64 old), .agg [.val (.int .i64 kind), .val (.int .i64 cell), .val (.int .u64 a), .val (.int .u64 b), d, w]] (.tup [.val (.int .u64 0), .val (.int .u64 a)]) := by
  refine yI Tryz.func88 rfl Tryz.ntmps88 (Nat.le_of_ble_eq_true rfl) ?_
  repeat' ((refine zX.is ?_; first | refine zX.seq ?_ | (refine zX.isR (id := 0) ?_; refine zX.zV [1] [3] (by repeat' first | exact zY.nil | apply zY.p rfl) (by repeat' first | exact zW.nil | apply zW.skip) ?_; (refine zZ.m rfl rfl (z8 rfl rfl rfl (by decide)) ?_); (refine zZ.v rfl rfl (zK rfl rfl rfl (by decide)) ?_); (refine zZ.v rfl rfl (zK rfl rfl rfl (by decide)) ?_); refine zZ.nil ?_) | (refine zX.isR (id := 1) ?_; refine zX.yA [3, 4, 5] [3] (by repeat' first | exact zY.nil | apply zY.p rfl | apply zY.ptr rfl) (by repeat' first | exact zW.nil | apply zW.boxP rfl rfl) (zX.draws ?_); all_goals (refine Draws.v rfl rfl (zJ rfl rfl rfl (by decide)) ?_); all_goals (refine Draws.v rfl rfl (zA rfl rfl rfl rfl rfl (by decide)) ?_); all_goals (refine Draws.v rfl rfl (zK rfl rfl rfl (by decide)) ?_); all_goals (refine Draws.v rfl rfl (zK rfl rfl rfl (by decide)) ?_); all_goals ((refine Draws.done (by kernel_rfl) (by kernel_rfl) (by kernel_rfl) ?_; refine zP.nil ?_))) | refine zX.ret ?_))
  all_goals exact ⟨by first | exact .inl rfl | exact .inr rfl, _, Sub.refl _, .tupE rfl (by decide) (.cons (.tmp rfl) (.cons (.tmp rfl) .nil)) rfl⟩
theorem turn3_fn (old kind cell a b : Int) (d w : PV) : Fn Tryz.prog 89 [.val (.int .u64 old), .agg [.val (.int .i64 kind), .val (.int .i64 cell), .val (.int .u64 a), .val (.int .u64 b), d, w]] (.tup [.val (.int .u64 (wV 2 old a b).1), .val (.int .u64 (wV 2 old a b).2)]) := by
  refine yI Tryz.func89 rfl Tryz.ntmps89 (Nat.le_of_ble_eq_true rfl) ?_
  repeat' (first | (refine zX.is ?_; first | refine zX.seq ?_ | (refine zX.isR (id := 0) ?_; refine zX.zV [0, 1] [3] (by repeat' first | exact zY.nil | apply zY.p rfl) (by repeat' first | exact zW.nil | apply zW.skip) ?_; (refine zZ.m rfl rfl (z8 rfl rfl rfl (by decide)) ?_); (refine zZ.v rfl rfl (zK rfl rfl rfl (by decide)) ?_); (refine zZ.v rfl rfl (zK rfl rfl rfl (by decide)) ?_); refine zZ.nil ?_) | (refine zX.isR (id := 1) ?_; refine zX.zV [0, 3, 4, 5] [3] (by repeat' first | exact zY.nil | apply zY.p rfl | apply zY.ptr rfl) (by repeat' first | exact zW.nil | apply zW.boxP rfl rfl) ?_; (refine zZ.v rfl rfl (zQ rfl rfl rfl (by decide)) ?_); (refine zZ.v rfl rfl (zJ rfl rfl rfl (by decide)) ?_); (refine zZ.v rfl rfl (zA rfl rfl rfl rfl rfl (by decide)) ?_); (refine zZ.v rfl rfl (yQ rfl rfl rfl (by rfl) rfl (by decide)) ?_); refine zZ.nil ?_) | (refine zX.isR (id := 2) ?_; refine zX.yA [0, 3, 4, 5] [3] (by repeat' first | exact zY.nil | apply zY.p rfl | apply zY.ptr rfl) (by repeat' first | exact zW.nil | apply zW.boxP rfl rfl) (zX.draws ?_); all_goals (refine Draws.v rfl rfl (zJ rfl rfl rfl (by decide)) ?_); all_goals (refine Draws.v rfl rfl (zA rfl rfl rfl rfl rfl (by decide)) ?_); all_goals (refine Draws.v rfl rfl (zK rfl rfl rfl (by decide)) ?_); all_goals (refine Draws.v rfl rfl (zK rfl rfl rfl (by decide)) ?_); all_goals ((refine Draws.done (by kernel_rfl) (by kernel_rfl) (by kernel_rfl) ?_; refine zP.nil ?_))) | (refine zX.isR (id := 3) ?_; refine zX.zV [0, 4, 5] [3] (by repeat' first | exact zY.nil | apply zY.p rfl) (by repeat' first | exact zW.nil | apply zW.boxP rfl rfl) ?_; (refine zZ.v rfl rfl (zQ rfl rfl rfl (by decide)) ?_); (refine zZ.v rfl rfl (zK rfl rfl rfl (by decide)) ?_); (refine zZ.v rfl rfl (zK rfl rfl rfl (by decide)) ?_); refine zZ.nil ?_) | refine zX.cond rfl (fun h => ?_) (fun h => ?_) | refine zX.skip ?_ | refine zX.ret ?_) | refine yJ.r ?_)
  all_goals exact ⟨by first | exact .inl rfl | exact .inr rfl, _, Sub.refl _, .tupE rfl (by decide) (.cons (.tmp rfl) (.cons (.tmp rfl) .nil)) (by simp_all [wV])⟩
theorem turn4_fn (old kind cell a b : Int) (d w : PV) : Fn Tryz.prog 90 [.val (.int .u64 old), .agg [.val (.int .i64 kind), .val (.int .i64 cell), .val (.int .u64 a), .val (.int .u64 b), d, w]] (.tup [.val (.int .u64 old), .val (.int .u64 (IntKind.u64.wrap (old + a)))]) := by
  refine yI Tryz.func90 rfl Tryz.ntmps90 (Nat.le_of_ble_eq_true rfl) ?_
  repeat' ((refine zX.is ?_; first | refine zX.seq ?_ | (refine zX.isR (id := 0) ?_; refine zX.zV [0, 1] [3] (by repeat' first | exact zY.nil | apply zY.p rfl) (by repeat' first | exact zW.nil | apply zW.skip) ?_; (refine zZ.m rfl rfl (z8 rfl rfl rfl (by decide)) ?_); (refine zZ.v rfl rfl (zK rfl rfl rfl (by decide)) ?_); (refine zZ.v rfl rfl (zK rfl rfl rfl (by decide)) ?_); refine zZ.nil ?_) | (refine zX.isR (id := 1) ?_; refine zX.yA [0, 3, 4, 5] [3] (by repeat' first | exact zY.nil | apply zY.p rfl | apply zY.ptr rfl) (by repeat' first | exact zW.nil | apply zW.boxP rfl rfl) (zX.draws ?_); all_goals (refine Draws.v rfl rfl (zQ rfl rfl rfl (by decide)) ?_); all_goals (refine Draws.v rfl rfl (zQ rfl rfl rfl (by decide)) ?_); all_goals (refine Draws.v rfl rfl (zJ rfl rfl rfl (by decide)) ?_); all_goals (refine Draws.v rfl rfl (zA rfl rfl rfl rfl rfl (by decide)) ?_); all_goals (refine Draws.v rfl rfl (y7 rfl rfl rfl (by rfl) rfl (by decide)) ?_); all_goals (refine Draws.v rfl rfl (zK rfl rfl rfl (by decide)) ?_); all_goals (refine Draws.v rfl rfl (zK rfl rfl rfl (by decide)) ?_); all_goals ((refine Draws.done (by kernel_rfl) (by kernel_rfl) (by kernel_rfl) ?_; refine zP.nil ?_))) | refine zX.ret ?_))
  all_goals exact ⟨by first | exact .inl rfl | exact .inr rfl, _, Sub.refl _, .tupE rfl (by decide) (.cons (.tmp rfl) (.cons (.tmp rfl) .nil)) rfl⟩
end Go.Proofs.YtlfkofkdigmnpaaGreatDoor
/- An access of a word: contracts. -/
namespace Go.Proofs.YtlfkofkdigmnpaaGreatDoor
set_option maxRecDepth 100000
set_option maxHeartbeats 16000000
open Go Go.RowKit
set_option linter.unusedSimpArgs false
attribute [local irreducible] zZ zX Step zG Sub zP zM Fn
def memV (t c : Int) (ws : List Int) : PV := .agg [.val (.int .i64 t), .val (.int .i64 c), .sl (wds ws)]
def resN (n : Int) : PV := .agg [.val (.int .u64 n), .val (.slice none 0 0), .val (.bool false)]
theorem turns_cells : ∀ e ∈ turnsL, e.cells.length = 2 := fun e he => by
  simp only [turnsL, List.mem_cons, List.not_mem_nil, or_false] at he
  rcases he with rfl | rfl | rfl | rfl | rfl <;> rfl
theorem wds_set (ws : List Int) (i : Nat) (x : Int) : (wds ws).set i (.val (.int .u64 x)) = wds (ws.set i x) := by simp [wds, List.map_set]
theorem wds_at {ws : List Int} {i : Nat} {x : Int} (h : ws[i]? = some x) : (wds ws)[i]? = some (.val (.int .u64 x)) := by simp [wds, h]
theorem set_same {ws : List Int} {i : Nat} {x : Int} (h : ws[i]? = some x) : ws.set i x = ws := by
  apply List.ext_getElem?
  intro j
  rw [List.getElem?_set]
  by_cases hj : i = j
  · subst hj
    have := (List.getElem?_eq_some_iff.1 h).1
    rw [if_pos rfl, if_pos this, h]
  · rw [if_neg hj]
theorem eq_of_nd {x y : Int} (h : (!decide (x = y)) = false) : x = y := by simpa using h
theorem wK {t c n n' : Int} {ws' : List Int} {W : List PV} (h1 : W = wds ws') (h2 : n = n') : [memV t c ws', resN n'] = [.agg [.val (.int .i64 t), .val (.int .i64 c), .sl W], .agg [.val (.int .u64 n), .val (.slice none 0 0), .val (.bool false)]] := by
  subst h1 h2
  rfl
def wordsS (t c kind a b old : Int) (i : Nat) (ws : List Int) (d : PV) (k : Nat) : AS :=
  { t := [(2, .ptr 2 0), (3, .ptr 3 0), (4, .ptr 4 0), (5, .ptr 5 0), (6, .p (.val (.int .u64 old))), (30, .p (.sl turnsL)), (31, .p (.val (.int .i64 5))), (32, .p (.val (.int .i64 (k : Nat))))],
    s := [(2, .box 46 [.p (.val (.int .i64 t)), .p (.val (.int .i64 c)), .p (.sl (wds ws))]), (3, .box 34 [.p (.val (.int .i64 kind)), .p (.val (.int .i64 i)), .p (.val (.int .u64 a)), .p (.val (.int .u64 b)), .p d, .p yD]),
      (4, .box 46 [.p (.val (.int .i64 0)), .p (.val (.int .i64 0)), .p (.val (.slice none 0 0))]), (5, .box 85 [.p (.val (.int .u64 0)), .p (.val (.slice none 0 0)), .p (.val (.bool false))])] }
theorem words0_fn (t c a b old : Int) (i : Nat) (ws : List Int) (d : PV) (hi : ws[i]? = some old) (h1 : ws.length ≤ 1000000) :
    Fn Tryz.prog 60 [memV t c ws, xP 0 i a b d] (.tup [memV t c (ws.set i (wV 0 old a b).2), resN (wV 0 old a b).1]) := by
  have hlt : i < ws.length := (List.getElem?_eq_some_iff.1 hi).1
  have g1 := wds_cells ws
  have g2 := turns_cells
  have g3 := wds_at hi
  have g4 : decide ((i : Int) < 0) = false := decide_eq_false (by omega)
  have g5 : decide (((wds ws).length : Int) ≤ (i : Int)) = false := decide_eq_false (by rw [wP]; omega)
  have g6 : (0 : Int) ≤ (i : Int) ∧ (i : Int) < (wds ws).length := by rw [wP]; omega
  have g7 : (i : Int).toNat < (wds ws).length := by rw [wP]; omega
  have c1 := cloneW_fn ws (by omega) h1
  refine yI Tryz.func60 rfl Tryz.ntmps60 (Nat.le_of_ble_eq_true rfl) ?_
  repeat' ((refine zX.is ?_; first | refine zX.seq ?_ | (refine zX.isR (id := 0) ?_; refine zX.zV [0, 1] [2, 3, 4, 5, 8, 19, 30, 31, 46, 54] (by repeat' first | exact zY.nil | apply zY.p rfl) (by repeat' first | exact zW.nil | apply zW.skip) ?_; (refine zZ.m rfl rfl (z8 rfl rfl rfl (by decide)) ?_); (refine zZ.m rfl rfl (z8 rfl rfl rfl (by decide)) ?_); (refine zZ.m rfl rfl (zC rfl (by decide) rfl (by decide)) ?_); (refine zZ.m rfl rfl (zC rfl (by decide) rfl (by decide)) ?_); refine zZ.nil ?_) | (refine zX.isR (id := 1) ?_; refine zX.zV [2, 3, 4, 5] [2, 3, 4, 5, 8, 19, 30, 31, 46, 54] (by repeat' first | exact zY.nil | apply zY.ptr rfl) (by repeat' first | exact zW.nil | apply zW.boxP rfl rfl | apply zW.skip) ?_; all_goals (refine zZ.v rfl rfl (zJ rfl rfl rfl (by decide)) ?_); all_goals (refine zZ.v rfl rfl (zA rfl rfl rfl (by rfl) rfl (by decide)) ?_); all_goals (refine zZ.v rfl rfl (by exact yL rfl rfl rfl (by exact g4) rfl (by decide)) ?_); all_goals (refine zZ.v rfl rfl (zQ rfl rfl rfl (by decide)) ?_); all_goals (refine zZ.gY rfl rfl (by decide) rfl (by assumption) rfl (by decide) (zJ rfl rfl rfl (by decide)) ?_); all_goals (refine zZ.gY rfl rfl (by decide) rfl (by assumption) rfl (by decide) (zA rfl rfl rfl (by rfl) rfl (by decide)) ?_); all_goals (refine zZ.gY rfl rfl (by decide) rfl (by assumption) rfl (by decide) (zJ rfl rfl rfl (by decide)) ?_); all_goals (refine zZ.gY rfl rfl (by decide) rfl (by assumption) rfl (by decide) (zA rfl rfl rfl (by rfl) rfl (by decide)) ?_); all_goals (refine zZ.gY rfl rfl (by decide) rfl (by assumption) rfl (by decide) (xE rfl rfl rfl (by decide)) ?_); all_goals (refine zZ.gY rfl rfl (by decide) rfl (by assumption) rfl (by decide) (by exact r_geq rfl rfl rfl (by exact g5) rfl (by decide)) ?_); all_goals (refine zZ.v rfl rfl (by exact zR rfl rfl (by assumption) rfl rfl (by decide)) ?_); all_goals (refine zZ.nil ?_)) | (refine zX.isR (id := 3) ?_; refine zX.zV [2, 3, 4, 5] [2, 3, 4, 5, 8, 19, 30, 31, 46, 54] (by repeat' first | exact zY.nil | apply zY.ptr rfl) (by repeat' first | exact zW.nil | apply zW.boxP rfl rfl | apply zW.skip) ?_; (refine zZ.v rfl rfl (zJ rfl rfl rfl (by decide)) ?_); (refine zZ.v rfl rfl (zA rfl rfl rfl (by rfl) rfl (by decide)) ?_); (refine zZ.v rfl rfl (zJ rfl rfl rfl (by decide)) ?_); (refine zZ.v rfl rfl (zA rfl rfl rfl (by rfl) rfl (by decide)) ?_); (refine zZ.v rfl rfl (by exact y8 rfl rfl rfl (by exact g1) (by exact g3) rfl (by decide)) ?_); (refine zZ.v rfl rfl (wO rfl rfl rfl rfl (by decide)) ?_); (refine zZ.v rfl rfl (zK rfl rfl rfl (by decide)) ?_); refine zZ.nil ?_) | (refine zX.isR (id := 4) ?_; refine zX.zV [2, 3, 4, 5, 6] [2, 3, 4, 5, 8, 19, 30, 31, 46, 54] (by repeat' first | exact zY.nil | apply zY.p rfl | apply zY.ptr rfl) (by repeat' first | exact zW.nil | apply zW.boxP rfl rfl | apply zW.skip) ?_; (refine zZ.v rfl rfl (by exact zL (turns_fn) rfl rfl rfl (by decide)) ?_); (refine zZ.v rfl rfl (xE rfl rfl rfl (by decide)) ?_); (refine zZ.v rfl rfl (zQ rfl rfl rfl (by decide)) ?_); refine zZ.nil ?_) | refine zX.yG rfl (by assumption) ?_ | refine zX.skip ?_ | refine zX.block ?_))
  refine zX.loop (wordsS t c 0 a b old i ws d) (fun k => k ≤ 0) (fun k => 5 - k) 0 ?h0 (Nat.zero_le _) ?rd
  case h0 =>
    refine yY (is := [2, 3, 4, 5, 6, 30, 31, 32]) (js := [2, 3, 4, 5]) ?_ ?_
    repeat' first | exact zY.nil | apply zY.p rfl | apply zY.ptr rfl | apply zY.own rfl | apply zY.clo rfl | apply zY.pt rfl | apply zY.tup rfl | apply zY.skip
    repeat' first | exact zW.nil | apply zW.boxP rfl rfl | apply zW.yH rfl | apply zW.some rfl | apply zW.skip
  case rd =>
    rintro k hk
    have hk6 : k = 0 := by omega
    rcases hk6 with rfl
    · have gl : decide (((0 : Nat) : Int) < 5) = true := rfl
      have gx : ∀ x : Int, (!decide (x = x)) = false := fun x => by simp
      repeat' (first | (refine zX.is ?_; first | refine zX.seq ?_ | (refine zX.isR (id := 5) ?_; refine zX.zV [2, 3, 4, 5, 6, 8, 9, 10, 30, 31, 32, 33, 40, 51] [2, 3, 4, 5, 8, 19, 30, 31, 46, 54] (by repeat' first | exact zY.nil | apply zY.p rfl | apply zY.ptr rfl | apply zY.skip) (by repeat' first | exact zW.nil | apply zW.boxP rfl rfl | apply zW.skip) ?_; (refine zZ.v rfl rfl (by exact yL rfl rfl rfl (by exact gl) rfl (by decide)) ?_); refine zZ.nil ?_) | (refine zX.isR (id := 6) ?_; refine zX.zV [2, 3, 4, 5, 6, 8, 9, 10, 30, 31, 32, 33, 40, 51] [2, 3, 4, 5, 8, 19, 30, 31, 46, 54] (by repeat' first | exact zY.nil | apply zY.p rfl | apply zY.ptr rfl | apply zY.skip) (by repeat' first | exact zW.nil | apply zW.boxP rfl rfl | apply zW.skip) ?_; (refine zZ.v rfl rfl (by exact y8 rfl rfl rfl (by exact g2) (by rfl) rfl (by decide)) ?_); (refine zZ.v rfl rfl (by exact wE rfl rfl (by exact Nat.le_of_ble_eq_true rfl) rfl (by decide)) ?_); (refine zZ.m rfl rfl (zC rfl (by decide) rfl (by decide)) ?_); (refine zZ.w rfl (by exact zB rfl rfl rfl rfl rfl (by rfl) (by exact Nat.le_of_ble_eq_true rfl) rfl rfl) ?_); refine zZ.nil ?_) | (refine zX.isR (id := 7) ?_; refine zX.zV [2, 3, 4, 5, 6, 8, 9, 10, 30, 31, 32, 33, 40, 51] [2, 3, 4, 5, 8, 19, 30, 31, 46, 54] (by repeat' first | exact zY.nil | apply zY.p rfl | apply zY.ptr rfl | apply zY.skip) (by repeat' first | exact zW.nil | apply zW.boxP rfl rfl | apply zW.skip) ?_; (refine zZ.v rfl rfl (zJ rfl rfl rfl (by decide)) ?_); (refine zZ.v rfl rfl (zA rfl rfl rfl (by rfl) rfl (by decide)) ?_); (refine zZ.v rfl rfl (zJ rfl rfl rfl (by decide)) ?_); (refine zZ.v rfl rfl (zA rfl rfl rfl (by rfl) rfl (by decide)) ?_); (refine zZ.v rfl rfl (by exact xW rfl rfl rfl (by exact gx _) rfl (by decide)) ?_); refine zZ.nil ?_) | (refine zX.isR (id := 8) ?_; refine zX.zV [2, 3, 4, 5, 6, 8, 9, 10, 30, 31, 32, 33, 40, 51] [2, 3, 4, 5, 8, 19, 30, 31, 46, 54] (by repeat' first | exact zY.nil | apply zY.p rfl | apply zY.ptr rfl | apply zY.skip) (by repeat' first | exact zW.nil | apply zW.boxP rfl rfl | apply zW.skip) ?_; (refine zZ.v rfl rfl (zJ rfl rfl rfl (by decide)) ?_); (refine zZ.v rfl rfl (zA rfl rfl rfl (by rfl) rfl (by decide)) ?_); (refine zZ.v rfl rfl (zQ rfl rfl rfl (by decide)) ?_); (refine zZ.v rfl rfl (zI rfl rfl rfl (by rfl) (by rfl) rfl (by decide)) ?_); (refine zZ.ofT rfl (zM.xA [] (FnE.ofFnT (turn1_fn old 0 i a b d yD)) rfl (by decide) (enters_val rfl rfl) (by rfl) (zD (by decide) rfl (by repeat' exact trivial)) rfl rfl rfl rfl ?_)); (refine zZ.v rfl rfl (yO rfl rfl rfl (by decide)) ?_); (refine zZ.v rfl rfl (zF rfl rfl rfl rfl (by decide)) ?_); (refine zZ.v rfl rfl (zF rfl rfl rfl rfl (by decide)) ?_); (refine zZ.v rfl rfl (zK rfl rfl rfl (by decide)) ?_); (refine zZ.v rfl rfl (zK rfl rfl rfl (by decide)) ?_); refine zZ.nil ?_) | (refine zX.isR (id := 9) ?_; refine zX.zV [2, 3, 4, 5, 6, 8, 9, 10, 30, 31, 32, 33, 40, 51] [2, 3, 4, 5, 8, 19, 30, 31, 46, 54] (by repeat' first | exact zY.nil | apply zY.p rfl | apply zY.ptr rfl | apply zY.skip) (by repeat' first | exact zW.nil | apply zW.boxP rfl rfl | apply zW.skip) ?_; (refine zZ.v rfl rfl (zQ rfl rfl rfl (by decide)) ?_); (refine zZ.v rfl rfl (zQ rfl rfl rfl (by decide)) ?_); (refine zZ.v rfl rfl (by exact xW rfl rfl rfl (by exact gx _) rfl (by decide)) ?_); refine zZ.nil ?_) | (refine zX.isR (id := 12) ?_; refine zX.zV [2, 3, 4, 5, 6, 8, 9, 10, 30, 31, 32, 33, 40, 51] [2, 3, 4, 5, 8, 19, 30, 31, 46, 54] (by repeat' first | exact zY.nil | apply zY.p rfl | apply zY.ptr rfl) (by repeat' first | exact zW.nil | apply zW.boxP rfl rfl | apply zW.skip) ?_; (refine zZ.v rfl rfl (zI rfl rfl rfl (by rfl) (by rfl) rfl (by decide)) ?_); (refine zZ.v rfl rfl (zQ rfl rfl rfl (by decide)) ?_); (refine zZ.v rfl rfl (zS rfl (by rfl) (by rfl) (by rfl) (by rfl) rfl (by decide)) ?_); (refine zZ.w rfl (by exact zB rfl rfl rfl rfl rfl (by rfl) (by exact Nat.le_of_ble_eq_true rfl) rfl rfl) ?_); (refine zZ.w rfl (by exact zB rfl rfl rfl rfl rfl (by rfl) (by exact Nat.le_of_ble_eq_true rfl) rfl rfl) ?_); refine zZ.nil ?_) | refine zX.yE rfl (by assumption) ?_ | refine zX.yG rfl (by assumption) ?_ | refine zX.skip ?_ | refine zX.block ?_ | refine zX.ret ?_) | refine yJ.r ?_ | refine xV.r ?_)
      all_goals refine ⟨by first | exact .inl rfl | exact .inr rfl, _, Sub.refl _, .tupE (rs := [.cell 4 46, .cell 5 85]) rfl (by decide) (.cons (.cellN rfl rfl (by rfl) (by rfl)) (.cons (.cellN rfl rfl (by rfl) (by rfl)) .nil)) ?_⟩
      all_goals first
        | exact wK (wds_set ws i _) rfl
        | exact wK (congrArg wds (set_same (hi.trans (congrArg some (eq_of_nd h).symm))).symm) rfl
        | exact wK (congrArg wds (set_same hi).symm) rfl
theorem words1_fn (t c a b old : Int) (i : Nat) (ws : List Int) (d : PV) (hi : ws[i]? = some old) (h1 : ws.length ≤ 1000000) :
    Fn Tryz.prog 60 [memV t c ws, xP 1 i a b d] (.tup [memV t c (ws.set i (wV 1 old a b).2), resN (wV 1 old a b).1]) := by
  have hlt : i < ws.length := (List.getElem?_eq_some_iff.1 hi).1
  have g1 := wds_cells ws
  have g2 := turns_cells
  have g3 := wds_at hi
  have g4 : decide ((i : Int) < 0) = false := decide_eq_false (by omega)
  have g5 : decide (((wds ws).length : Int) ≤ (i : Int)) = false := decide_eq_false (by rw [wP]; omega)
  have g6 : (0 : Int) ≤ (i : Int) ∧ (i : Int) < (wds ws).length := by rw [wP]; omega
  have g7 : (i : Int).toNat < (wds ws).length := by rw [wP]; omega
  have c1 := cloneW_fn ws (by omega) h1
  refine yI Tryz.func60 rfl Tryz.ntmps60 (Nat.le_of_ble_eq_true rfl) ?_
  repeat' ((refine zX.is ?_; first | refine zX.seq ?_ | (refine zX.isR (id := 0) ?_; refine zX.zV [0, 1] [2, 3, 4, 5, 8, 19, 30, 31, 46, 54] (by repeat' first | exact zY.nil | apply zY.p rfl) (by repeat' first | exact zW.nil | apply zW.skip) ?_; (refine zZ.m rfl rfl (z8 rfl rfl rfl (by decide)) ?_); (refine zZ.m rfl rfl (z8 rfl rfl rfl (by decide)) ?_); (refine zZ.m rfl rfl (zC rfl (by decide) rfl (by decide)) ?_); (refine zZ.m rfl rfl (zC rfl (by decide) rfl (by decide)) ?_); refine zZ.nil ?_) | (refine zX.isR (id := 1) ?_; refine zX.zV [2, 3, 4, 5] [2, 3, 4, 5, 8, 19, 30, 31, 46, 54] (by repeat' first | exact zY.nil | apply zY.ptr rfl) (by repeat' first | exact zW.nil | apply zW.boxP rfl rfl | apply zW.skip) ?_; all_goals (refine zZ.v rfl rfl (zJ rfl rfl rfl (by decide)) ?_); all_goals (refine zZ.v rfl rfl (zA rfl rfl rfl (by rfl) rfl (by decide)) ?_); all_goals (refine zZ.v rfl rfl (by exact yL rfl rfl rfl (by exact g4) rfl (by decide)) ?_); all_goals (refine zZ.v rfl rfl (zQ rfl rfl rfl (by decide)) ?_); all_goals (refine zZ.gY rfl rfl (by decide) rfl (by assumption) rfl (by decide) (zJ rfl rfl rfl (by decide)) ?_); all_goals (refine zZ.gY rfl rfl (by decide) rfl (by assumption) rfl (by decide) (zA rfl rfl rfl (by rfl) rfl (by decide)) ?_); all_goals (refine zZ.gY rfl rfl (by decide) rfl (by assumption) rfl (by decide) (zJ rfl rfl rfl (by decide)) ?_); all_goals (refine zZ.gY rfl rfl (by decide) rfl (by assumption) rfl (by decide) (zA rfl rfl rfl (by rfl) rfl (by decide)) ?_); all_goals (refine zZ.gY rfl rfl (by decide) rfl (by assumption) rfl (by decide) (xE rfl rfl rfl (by decide)) ?_); all_goals (refine zZ.gY rfl rfl (by decide) rfl (by assumption) rfl (by decide) (by exact r_geq rfl rfl rfl (by exact g5) rfl (by decide)) ?_); all_goals (refine zZ.v rfl rfl (by exact zR rfl rfl (by assumption) rfl rfl (by decide)) ?_); all_goals (refine zZ.nil ?_)) | (refine zX.isR (id := 3) ?_; refine zX.zV [2, 3, 4, 5] [2, 3, 4, 5, 8, 19, 30, 31, 46, 54] (by repeat' first | exact zY.nil | apply zY.ptr rfl) (by repeat' first | exact zW.nil | apply zW.boxP rfl rfl | apply zW.skip) ?_; (refine zZ.v rfl rfl (zJ rfl rfl rfl (by decide)) ?_); (refine zZ.v rfl rfl (zA rfl rfl rfl (by rfl) rfl (by decide)) ?_); (refine zZ.v rfl rfl (zJ rfl rfl rfl (by decide)) ?_); (refine zZ.v rfl rfl (zA rfl rfl rfl (by rfl) rfl (by decide)) ?_); (refine zZ.v rfl rfl (by exact y8 rfl rfl rfl (by exact g1) (by exact g3) rfl (by decide)) ?_); (refine zZ.v rfl rfl (wO rfl rfl rfl rfl (by decide)) ?_); (refine zZ.v rfl rfl (zK rfl rfl rfl (by decide)) ?_); refine zZ.nil ?_) | (refine zX.isR (id := 4) ?_; refine zX.zV [2, 3, 4, 5, 6] [2, 3, 4, 5, 8, 19, 30, 31, 46, 54] (by repeat' first | exact zY.nil | apply zY.p rfl | apply zY.ptr rfl) (by repeat' first | exact zW.nil | apply zW.boxP rfl rfl | apply zW.skip) ?_; (refine zZ.v rfl rfl (by exact zL (turns_fn) rfl rfl rfl (by decide)) ?_); (refine zZ.v rfl rfl (xE rfl rfl rfl (by decide)) ?_); (refine zZ.v rfl rfl (zQ rfl rfl rfl (by decide)) ?_); refine zZ.nil ?_) | refine zX.yG rfl (by assumption) ?_ | refine zX.skip ?_ | refine zX.block ?_))
  refine zX.loop (wordsS t c 1 a b old i ws d) (fun k => k ≤ 1) (fun k => 5 - k) 0 ?h0 (Nat.zero_le _) ?rd
  case h0 =>
    refine yY (is := [2, 3, 4, 5, 6, 30, 31, 32]) (js := [2, 3, 4, 5]) ?_ ?_
    repeat' first | exact zY.nil | apply zY.p rfl | apply zY.ptr rfl | apply zY.own rfl | apply zY.clo rfl | apply zY.pt rfl | apply zY.tup rfl | apply zY.skip
    repeat' first | exact zW.nil | apply zW.boxP rfl rfl | apply zW.yH rfl | apply zW.some rfl | apply zW.skip
  case rd =>
    rintro k hk
    have hk6 : k = 0 ∨ k = 1 := by omega
    rcases hk6 with rfl | rfl
    · have gl : decide (((0 : Nat) : Int) < 5) = true := rfl
      have gw : IntKind.i64.wrap (((0 : Nat) : Int) + 1) = ((1 : Nat) : Int) := rfl
      repeat' (first | (refine zX.is ?_; first | refine zX.seq ?_ | (refine zX.isR (id := 5) ?_; refine zX.zV [2, 3, 4, 5, 6, 8, 9, 10, 30, 31, 32, 33, 40, 51] [2, 3, 4, 5, 8, 19, 30, 31, 46, 54] (by repeat' first | exact zY.nil | apply zY.p rfl | apply zY.ptr rfl | apply zY.skip) (by repeat' first | exact zW.nil | apply zW.boxP rfl rfl | apply zW.skip) ?_; (refine zZ.v rfl rfl (by exact yL rfl rfl rfl (by exact gl) rfl (by decide)) ?_); refine zZ.nil ?_) | (refine zX.isR (id := 6) ?_; refine zX.zV [2, 3, 4, 5, 6, 8, 9, 10, 30, 31, 32, 33, 40, 51] [2, 3, 4, 5, 8, 19, 30, 31, 46, 54] (by repeat' first | exact zY.nil | apply zY.p rfl | apply zY.ptr rfl | apply zY.skip) (by repeat' first | exact zW.nil | apply zW.boxP rfl rfl | apply zW.skip) ?_; (refine zZ.v rfl rfl (by exact y8 rfl rfl rfl (by exact g2) (by rfl) rfl (by decide)) ?_); (refine zZ.v rfl rfl (by exact wE rfl rfl (by exact Nat.le_of_ble_eq_true rfl) rfl (by decide)) ?_); (refine zZ.m rfl rfl (zC rfl (by decide) rfl (by decide)) ?_); (refine zZ.w rfl (by exact zB rfl rfl rfl rfl rfl (by rfl) (by exact Nat.le_of_ble_eq_true rfl) rfl rfl) ?_); refine zZ.nil ?_) | (refine zX.isR (id := 7) ?_; refine zX.zV [2, 3, 4, 5, 6, 8, 9, 10, 30, 31, 32, 33, 40, 51] [2, 3, 4, 5, 8, 19, 30, 31, 46, 54] (by repeat' first | exact zY.nil | apply zY.p rfl | apply zY.ptr rfl | apply zY.skip) (by repeat' first | exact zW.nil | apply zW.boxP rfl rfl | apply zW.skip) ?_; (refine zZ.v rfl rfl (zJ rfl rfl rfl (by decide)) ?_); (refine zZ.v rfl rfl (zA rfl rfl rfl (by rfl) rfl (by decide)) ?_); (refine zZ.v rfl rfl (zJ rfl rfl rfl (by decide)) ?_); (refine zZ.v rfl rfl (zA rfl rfl rfl (by rfl) rfl (by decide)) ?_); (refine zZ.v rfl rfl (by exact xW rfl rfl rfl (by exact gl) rfl (by decide)) ?_); refine zZ.nil ?_) | (refine zX.isR (id := 13) ?_; refine zX.zV [2, 3, 4, 5, 6, 8, 9, 10, 30, 31, 32, 33, 40, 51] [2, 3, 4, 5, 8, 19, 30, 31, 46, 54] (by repeat' first | exact zY.nil | apply zY.p rfl | apply zY.ptr rfl | apply zY.skip) (by repeat' first | exact zW.nil | apply zW.boxP rfl rfl | apply zW.skip) ?_; (refine zZ.v rfl rfl (by exact y7 rfl rfl rfl (by exact gw) rfl (by decide)) ?_); (refine zZ.v rfl rfl (zQ rfl rfl rfl (by decide)) ?_); refine zZ.nil ?_) | refine zX.yE rfl (by assumption) ?_ | refine zX.skip ?_ | refine zX.block ?_ | refine zX.exit ?_) | refine yJ.n ?_)
      refine ⟨1, ?_, by decide, by decide⟩
      refine yY (is := [2, 3, 4, 5, 6, 30, 31, 32]) (js := [2, 3, 4, 5]) ?_ ?_
      repeat' first | exact zY.nil | apply zY.p rfl | apply zY.ptr rfl | apply zY.own rfl | apply zY.clo rfl | apply zY.pt rfl | apply zY.tup rfl | apply zY.skip
      repeat' first | exact zW.nil | apply zW.boxP rfl rfl | apply zW.yH rfl | apply zW.some rfl | apply zW.skip
    · have gl : decide (((1 : Nat) : Int) < 5) = true := rfl
      have gx : ∀ x : Int, (!decide (x = x)) = false := fun x => by simp
      repeat' (first | (refine zX.is ?_; first | refine zX.seq ?_ | (refine zX.isR (id := 5) ?_; refine zX.zV [2, 3, 4, 5, 6, 8, 9, 10, 30, 31, 32, 33, 40, 51] [2, 3, 4, 5, 8, 19, 30, 31, 46, 54] (by repeat' first | exact zY.nil | apply zY.p rfl | apply zY.ptr rfl | apply zY.skip) (by repeat' first | exact zW.nil | apply zW.boxP rfl rfl | apply zW.skip) ?_; (refine zZ.v rfl rfl (by exact yL rfl rfl rfl (by exact gl) rfl (by decide)) ?_); refine zZ.nil ?_) | (refine zX.isR (id := 6) ?_; refine zX.zV [2, 3, 4, 5, 6, 8, 9, 10, 30, 31, 32, 33, 40, 51] [2, 3, 4, 5, 8, 19, 30, 31, 46, 54] (by repeat' first | exact zY.nil | apply zY.p rfl | apply zY.ptr rfl | apply zY.skip) (by repeat' first | exact zW.nil | apply zW.boxP rfl rfl | apply zW.skip) ?_; (refine zZ.v rfl rfl (by exact y8 rfl rfl rfl (by exact g2) (by rfl) rfl (by decide)) ?_); (refine zZ.v rfl rfl (by exact wE rfl rfl (by exact Nat.le_of_ble_eq_true rfl) rfl (by decide)) ?_); (refine zZ.m rfl rfl (zC rfl (by decide) rfl (by decide)) ?_); (refine zZ.w rfl (by exact zB rfl rfl rfl rfl rfl (by rfl) (by exact Nat.le_of_ble_eq_true rfl) rfl rfl) ?_); refine zZ.nil ?_) | (refine zX.isR (id := 7) ?_; refine zX.zV [2, 3, 4, 5, 6, 8, 9, 10, 30, 31, 32, 33, 40, 51] [2, 3, 4, 5, 8, 19, 30, 31, 46, 54] (by repeat' first | exact zY.nil | apply zY.p rfl | apply zY.ptr rfl | apply zY.skip) (by repeat' first | exact zW.nil | apply zW.boxP rfl rfl | apply zW.skip) ?_; (refine zZ.v rfl rfl (zJ rfl rfl rfl (by decide)) ?_); (refine zZ.v rfl rfl (zA rfl rfl rfl (by rfl) rfl (by decide)) ?_); (refine zZ.v rfl rfl (zJ rfl rfl rfl (by decide)) ?_); (refine zZ.v rfl rfl (zA rfl rfl rfl (by rfl) rfl (by decide)) ?_); (refine zZ.v rfl rfl (by exact xW rfl rfl rfl (by exact gx _) rfl (by decide)) ?_); refine zZ.nil ?_) | (refine zX.isR (id := 8) ?_; refine zX.zV [2, 3, 4, 5, 6, 8, 9, 10, 30, 31, 32, 33, 40, 51] [2, 3, 4, 5, 8, 19, 30, 31, 46, 54] (by repeat' first | exact zY.nil | apply zY.p rfl | apply zY.ptr rfl | apply zY.skip) (by repeat' first | exact zW.nil | apply zW.boxP rfl rfl | apply zW.skip) ?_; (refine zZ.v rfl rfl (zJ rfl rfl rfl (by decide)) ?_); (refine zZ.v rfl rfl (zA rfl rfl rfl (by rfl) rfl (by decide)) ?_); (refine zZ.v rfl rfl (zQ rfl rfl rfl (by decide)) ?_); (refine zZ.v rfl rfl (zI rfl rfl rfl (by rfl) (by rfl) rfl (by decide)) ?_); (refine zZ.ofT rfl (zM.xA [] (FnE.ofFnT (turn2_fn old 1 i a b d yD)) rfl (by decide) (enters_val rfl rfl) (by rfl) (zD (by decide) rfl (by repeat' exact trivial)) rfl rfl rfl rfl ?_)); (refine zZ.v rfl rfl (yO rfl rfl rfl (by decide)) ?_); (refine zZ.v rfl rfl (zF rfl rfl rfl rfl (by decide)) ?_); (refine zZ.v rfl rfl (zF rfl rfl rfl rfl (by decide)) ?_); (refine zZ.v rfl rfl (zK rfl rfl rfl (by decide)) ?_); (refine zZ.v rfl rfl (zK rfl rfl rfl (by decide)) ?_); refine zZ.nil ?_) | (refine zX.isR (id := 9) ?_; refine zX.zV [2, 3, 4, 5, 6, 8, 9, 10, 30, 31, 32, 33, 40, 51] [2, 3, 4, 5, 8, 19, 30, 31, 46, 54] (by repeat' first | exact zY.nil | apply zY.p rfl | apply zY.ptr rfl | apply zY.skip) (by repeat' first | exact zW.nil | apply zW.boxP rfl rfl | apply zW.skip) ?_; (refine zZ.v rfl rfl (zQ rfl rfl rfl (by decide)) ?_); (refine zZ.v rfl rfl (zQ rfl rfl rfl (by decide)) ?_); (refine zZ.v rfl rfl (xW rfl rfl rfl (by rfl) rfl (by decide)) ?_); refine zZ.nil ?_) | (refine zX.isR (id := 10) ?_; refine zX.zV [2, 3, 4, 5, 6, 8, 9, 10, 30, 31, 32, 33, 40, 51] [2, 3, 4, 5, 8, 19, 30, 31, 46, 54] (by repeat' first | exact zY.nil | apply zY.p rfl | apply zY.ptr rfl) (by repeat' first | exact zW.nil | apply zW.boxP rfl rfl | apply zW.skip) ?_; (refine zZ.v rfl rfl (zJ rfl rfl rfl (by decide)) ?_); (refine zZ.v rfl rfl (zA rfl rfl rfl (by rfl) rfl (by decide)) ?_); (refine zZ.m rfl rfl (by exact w_callRowV c1 rfl rfl rfl (by decide)) ?_); (refine zZ.v rfl rfl (zJ rfl rfl rfl (by decide)) ?_); (refine zZ.w rfl (by exact w_storeO rfl rfl rfl rfl rfl rfl (by exact Nat.le_of_ble_eq_true rfl) rfl rfl) ?_); refine zZ.nil ?_) | (refine zX.isR (id := 11) ?_; refine zX.zV [2, 3, 4, 5, 6, 8, 9, 10, 30, 31, 32, 33, 40, 51] [2, 3, 4, 5, 8, 19, 30, 31, 46, 54] (by repeat' first | exact zY.nil | apply zY.p rfl | apply zY.ptr rfl) (by repeat' first | exact zW.nil | apply zW.boxP rfl rfl | apply zW.some rfl | apply zW.skip) ?_; (refine zZ.v rfl rfl (zJ rfl rfl rfl (by decide)) ?_); (refine zZ.v rfl rfl (w_loadO rfl rfl rfl rfl rfl (by decide)) ?_); (refine zZ.v rfl rfl (zJ rfl rfl rfl (by decide)) ?_); (refine zZ.v rfl rfl (zA rfl rfl rfl (by rfl) rfl (by decide)) ?_); (refine zZ.v rfl rfl (zQ rfl rfl rfl (by decide)) ?_); (refine zZ.v rfl rfl (by exact w_indexV rfl rfl rfl rfl (by exact g6) rfl (by decide)) ?_); (refine zZ.w rfl (by exact w_storeV rfl rfl rfl rfl rfl (by exact g1) (by rfl) rfl (by exact g7) rfl) ?_); refine zZ.nil ?_) | (refine zX.isR (id := 12) ?_; refine zX.sub (sub_frz (id := 54) rfl) ?_; refine zX.zV [2, 3, 4, 5, 6, 8, 9, 10, 30, 31, 32, 33, 40, 51] [2, 3, 4, 5, 8, 19, 30, 31, 46, 54] (by repeat' first | exact zY.nil | apply zY.p rfl | apply zY.ptr rfl) (by repeat' first | exact zW.nil | apply zW.boxP rfl rfl | apply zW.skip) ?_; (refine zZ.v rfl rfl (zI rfl rfl rfl (by rfl) (by rfl) rfl (by decide)) ?_); (refine zZ.v rfl rfl (zQ rfl rfl rfl (by decide)) ?_); (refine zZ.v rfl rfl (zS rfl (by rfl) (by rfl) (by rfl) (by rfl) rfl (by decide)) ?_); (refine zZ.w rfl (by exact zB rfl rfl rfl rfl rfl (by rfl) (by exact Nat.le_of_ble_eq_true rfl) rfl rfl) ?_); (refine zZ.w rfl (by exact zB rfl rfl rfl rfl rfl (by rfl) (by exact Nat.le_of_ble_eq_true rfl) rfl rfl) ?_); refine zZ.nil ?_) | (refine zX.isR (id := 12) ?_; refine zX.zV [2, 3, 4, 5, 6, 8, 9, 10, 30, 31, 32, 33, 40, 51] [2, 3, 4, 5, 8, 19, 30, 31, 46, 54] (by repeat' first | exact zY.nil | apply zY.p rfl | apply zY.ptr rfl) (by repeat' first | exact zW.nil | apply zW.boxP rfl rfl | apply zW.skip) ?_; (refine zZ.v rfl rfl (zI rfl rfl rfl (by rfl) (by rfl) rfl (by decide)) ?_); (refine zZ.v rfl rfl (zQ rfl rfl rfl (by decide)) ?_); (refine zZ.v rfl rfl (zS rfl (by rfl) (by rfl) (by rfl) (by rfl) rfl (by decide)) ?_); (refine zZ.w rfl (by exact zB rfl rfl rfl rfl rfl (by rfl) (by exact Nat.le_of_ble_eq_true rfl) rfl rfl) ?_); (refine zZ.w rfl (by exact zB rfl rfl rfl rfl rfl (by rfl) (by exact Nat.le_of_ble_eq_true rfl) rfl rfl) ?_); refine zZ.nil ?_) | refine zX.yE rfl (by assumption) ?_ | refine zX.yG rfl (by assumption) ?_ | refine zX.cond rfl (fun h => ?_) (fun h => ?_) | refine zX.skip ?_ | refine zX.block ?_ | refine zX.ret ?_) | refine yJ.r ?_ | refine xV.r ?_)
      all_goals refine ⟨by first | exact .inl rfl | exact .inr rfl, _, Sub.refl _, .tupE (rs := [.cell 4 46, .cell 5 85]) rfl (by decide) (.cons (.cellN rfl rfl (by rfl) (by rfl)) (.cons (.cellN rfl rfl (by rfl) (by rfl)) .nil)) ?_⟩
      all_goals first
        | exact wK (wds_set ws i _) rfl
        | exact wK (congrArg wds (set_same (hi.trans (congrArg some (eq_of_nd h).symm))).symm) rfl
        | exact wK (congrArg wds (set_same hi).symm) rfl
theorem words2_fn (t c a b old : Int) (i : Nat) (ws : List Int) (d : PV) (hi : ws[i]? = some old) (h1 : ws.length ≤ 1000000) :
    Fn Tryz.prog 60 [memV t c ws, xP 2 i a b d] (.tup [memV t c (ws.set i (wV 2 old a b).2), resN (wV 2 old a b).1]) := by
  have hlt : i < ws.length := (List.getElem?_eq_some_iff.1 hi).1
  have g1 := wds_cells ws
  have g2 := turns_cells
  have g3 := wds_at hi
  have g4 : decide ((i : Int) < 0) = false := decide_eq_false (by omega)
  have g5 : decide (((wds ws).length : Int) ≤ (i : Int)) = false := decide_eq_false (by rw [wP]; omega)
  have g6 : (0 : Int) ≤ (i : Int) ∧ (i : Int) < (wds ws).length := by rw [wP]; omega
  have g7 : (i : Int).toNat < (wds ws).length := by rw [wP]; omega
  have c1 := cloneW_fn ws (by omega) h1
  refine yI Tryz.func60 rfl Tryz.ntmps60 (Nat.le_of_ble_eq_true rfl) ?_
  repeat' ((refine zX.is ?_; first | refine zX.seq ?_ | (refine zX.isR (id := 0) ?_; refine zX.zV [0, 1] [2, 3, 4, 5, 8, 19, 30, 31, 46, 54] (by repeat' first | exact zY.nil | apply zY.p rfl) (by repeat' first | exact zW.nil | apply zW.skip) ?_; (refine zZ.m rfl rfl (z8 rfl rfl rfl (by decide)) ?_); (refine zZ.m rfl rfl (z8 rfl rfl rfl (by decide)) ?_); (refine zZ.m rfl rfl (zC rfl (by decide) rfl (by decide)) ?_); (refine zZ.m rfl rfl (zC rfl (by decide) rfl (by decide)) ?_); refine zZ.nil ?_) | (refine zX.isR (id := 1) ?_; refine zX.zV [2, 3, 4, 5] [2, 3, 4, 5, 8, 19, 30, 31, 46, 54] (by repeat' first | exact zY.nil | apply zY.ptr rfl) (by repeat' first | exact zW.nil | apply zW.boxP rfl rfl | apply zW.skip) ?_; all_goals (refine zZ.v rfl rfl (zJ rfl rfl rfl (by decide)) ?_); all_goals (refine zZ.v rfl rfl (zA rfl rfl rfl (by rfl) rfl (by decide)) ?_); all_goals (refine zZ.v rfl rfl (by exact yL rfl rfl rfl (by exact g4) rfl (by decide)) ?_); all_goals (refine zZ.v rfl rfl (zQ rfl rfl rfl (by decide)) ?_); all_goals (refine zZ.gY rfl rfl (by decide) rfl (by assumption) rfl (by decide) (zJ rfl rfl rfl (by decide)) ?_); all_goals (refine zZ.gY rfl rfl (by decide) rfl (by assumption) rfl (by decide) (zA rfl rfl rfl (by rfl) rfl (by decide)) ?_); all_goals (refine zZ.gY rfl rfl (by decide) rfl (by assumption) rfl (by decide) (zJ rfl rfl rfl (by decide)) ?_); all_goals (refine zZ.gY rfl rfl (by decide) rfl (by assumption) rfl (by decide) (zA rfl rfl rfl (by rfl) rfl (by decide)) ?_); all_goals (refine zZ.gY rfl rfl (by decide) rfl (by assumption) rfl (by decide) (xE rfl rfl rfl (by decide)) ?_); all_goals (refine zZ.gY rfl rfl (by decide) rfl (by assumption) rfl (by decide) (by exact r_geq rfl rfl rfl (by exact g5) rfl (by decide)) ?_); all_goals (refine zZ.v rfl rfl (by exact zR rfl rfl (by assumption) rfl rfl (by decide)) ?_); all_goals (refine zZ.nil ?_)) | (refine zX.isR (id := 3) ?_; refine zX.zV [2, 3, 4, 5] [2, 3, 4, 5, 8, 19, 30, 31, 46, 54] (by repeat' first | exact zY.nil | apply zY.ptr rfl) (by repeat' first | exact zW.nil | apply zW.boxP rfl rfl | apply zW.skip) ?_; (refine zZ.v rfl rfl (zJ rfl rfl rfl (by decide)) ?_); (refine zZ.v rfl rfl (zA rfl rfl rfl (by rfl) rfl (by decide)) ?_); (refine zZ.v rfl rfl (zJ rfl rfl rfl (by decide)) ?_); (refine zZ.v rfl rfl (zA rfl rfl rfl (by rfl) rfl (by decide)) ?_); (refine zZ.v rfl rfl (by exact y8 rfl rfl rfl (by exact g1) (by exact g3) rfl (by decide)) ?_); (refine zZ.v rfl rfl (wO rfl rfl rfl rfl (by decide)) ?_); (refine zZ.v rfl rfl (zK rfl rfl rfl (by decide)) ?_); refine zZ.nil ?_) | (refine zX.isR (id := 4) ?_; refine zX.zV [2, 3, 4, 5, 6] [2, 3, 4, 5, 8, 19, 30, 31, 46, 54] (by repeat' first | exact zY.nil | apply zY.p rfl | apply zY.ptr rfl) (by repeat' first | exact zW.nil | apply zW.boxP rfl rfl | apply zW.skip) ?_; (refine zZ.v rfl rfl (by exact zL (turns_fn) rfl rfl rfl (by decide)) ?_); (refine zZ.v rfl rfl (xE rfl rfl rfl (by decide)) ?_); (refine zZ.v rfl rfl (zQ rfl rfl rfl (by decide)) ?_); refine zZ.nil ?_) | refine zX.yG rfl (by assumption) ?_ | refine zX.skip ?_ | refine zX.block ?_))
  refine zX.loop (wordsS t c 2 a b old i ws d) (fun k => k ≤ 2) (fun k => 5 - k) 0 ?h0 (Nat.zero_le _) ?rd
  case h0 =>
    refine yY (is := [2, 3, 4, 5, 6, 30, 31, 32]) (js := [2, 3, 4, 5]) ?_ ?_
    repeat' first | exact zY.nil | apply zY.p rfl | apply zY.ptr rfl | apply zY.own rfl | apply zY.clo rfl | apply zY.pt rfl | apply zY.tup rfl | apply zY.skip
    repeat' first | exact zW.nil | apply zW.boxP rfl rfl | apply zW.yH rfl | apply zW.some rfl | apply zW.skip
  case rd =>
    rintro k hk
    have hk6 : k = 0 ∨ k = 1 ∨ k = 2 := by omega
    rcases hk6 with rfl | rfl | rfl
    · have gl : decide (((0 : Nat) : Int) < 5) = true := rfl
      have gw : IntKind.i64.wrap (((0 : Nat) : Int) + 1) = ((1 : Nat) : Int) := rfl
      repeat' (first | (refine zX.is ?_; first | refine zX.seq ?_ | (refine zX.isR (id := 5) ?_; refine zX.zV [2, 3, 4, 5, 6, 8, 9, 10, 30, 31, 32, 33, 40, 51] [2, 3, 4, 5, 8, 19, 30, 31, 46, 54] (by repeat' first | exact zY.nil | apply zY.p rfl | apply zY.ptr rfl | apply zY.skip) (by repeat' first | exact zW.nil | apply zW.boxP rfl rfl | apply zW.skip) ?_; (refine zZ.v rfl rfl (by exact yL rfl rfl rfl (by exact gl) rfl (by decide)) ?_); refine zZ.nil ?_) | (refine zX.isR (id := 6) ?_; refine zX.zV [2, 3, 4, 5, 6, 8, 9, 10, 30, 31, 32, 33, 40, 51] [2, 3, 4, 5, 8, 19, 30, 31, 46, 54] (by repeat' first | exact zY.nil | apply zY.p rfl | apply zY.ptr rfl | apply zY.skip) (by repeat' first | exact zW.nil | apply zW.boxP rfl rfl | apply zW.skip) ?_; (refine zZ.v rfl rfl (by exact y8 rfl rfl rfl (by exact g2) (by rfl) rfl (by decide)) ?_); (refine zZ.v rfl rfl (by exact wE rfl rfl (by exact Nat.le_of_ble_eq_true rfl) rfl (by decide)) ?_); (refine zZ.m rfl rfl (zC rfl (by decide) rfl (by decide)) ?_); (refine zZ.w rfl (by exact zB rfl rfl rfl rfl rfl (by rfl) (by exact Nat.le_of_ble_eq_true rfl) rfl rfl) ?_); refine zZ.nil ?_) | (refine zX.isR (id := 7) ?_; refine zX.zV [2, 3, 4, 5, 6, 8, 9, 10, 30, 31, 32, 33, 40, 51] [2, 3, 4, 5, 8, 19, 30, 31, 46, 54] (by repeat' first | exact zY.nil | apply zY.p rfl | apply zY.ptr rfl | apply zY.skip) (by repeat' first | exact zW.nil | apply zW.boxP rfl rfl | apply zW.skip) ?_; (refine zZ.v rfl rfl (zJ rfl rfl rfl (by decide)) ?_); (refine zZ.v rfl rfl (zA rfl rfl rfl (by rfl) rfl (by decide)) ?_); (refine zZ.v rfl rfl (zJ rfl rfl rfl (by decide)) ?_); (refine zZ.v rfl rfl (zA rfl rfl rfl (by rfl) rfl (by decide)) ?_); (refine zZ.v rfl rfl (by exact xW rfl rfl rfl (by exact gl) rfl (by decide)) ?_); refine zZ.nil ?_) | (refine zX.isR (id := 13) ?_; refine zX.zV [2, 3, 4, 5, 6, 8, 9, 10, 30, 31, 32, 33, 40, 51] [2, 3, 4, 5, 8, 19, 30, 31, 46, 54] (by repeat' first | exact zY.nil | apply zY.p rfl | apply zY.ptr rfl | apply zY.skip) (by repeat' first | exact zW.nil | apply zW.boxP rfl rfl | apply zW.skip) ?_; (refine zZ.v rfl rfl (by exact y7 rfl rfl rfl (by exact gw) rfl (by decide)) ?_); (refine zZ.v rfl rfl (zQ rfl rfl rfl (by decide)) ?_); refine zZ.nil ?_) | refine zX.yE rfl (by assumption) ?_ | refine zX.skip ?_ | refine zX.block ?_ | refine zX.exit ?_) | refine yJ.n ?_)
      refine ⟨1, ?_, by decide, by decide⟩
      refine yY (is := [2, 3, 4, 5, 6, 30, 31, 32]) (js := [2, 3, 4, 5]) ?_ ?_
      repeat' first | exact zY.nil | apply zY.p rfl | apply zY.ptr rfl | apply zY.own rfl | apply zY.clo rfl | apply zY.pt rfl | apply zY.tup rfl | apply zY.skip
      repeat' first | exact zW.nil | apply zW.boxP rfl rfl | apply zW.yH rfl | apply zW.some rfl | apply zW.skip
    · have gl : decide (((1 : Nat) : Int) < 5) = true := rfl
      have gw : IntKind.i64.wrap (((1 : Nat) : Int) + 1) = ((2 : Nat) : Int) := rfl
      repeat' (first | (refine zX.is ?_; first | refine zX.seq ?_ | (refine zX.isR (id := 5) ?_; refine zX.zV [2, 3, 4, 5, 6, 8, 9, 10, 30, 31, 32, 33, 40, 51] [2, 3, 4, 5, 8, 19, 30, 31, 46, 54] (by repeat' first | exact zY.nil | apply zY.p rfl | apply zY.ptr rfl | apply zY.skip) (by repeat' first | exact zW.nil | apply zW.boxP rfl rfl | apply zW.skip) ?_; (refine zZ.v rfl rfl (by exact yL rfl rfl rfl (by exact gl) rfl (by decide)) ?_); refine zZ.nil ?_) | (refine zX.isR (id := 6) ?_; refine zX.zV [2, 3, 4, 5, 6, 8, 9, 10, 30, 31, 32, 33, 40, 51] [2, 3, 4, 5, 8, 19, 30, 31, 46, 54] (by repeat' first | exact zY.nil | apply zY.p rfl | apply zY.ptr rfl | apply zY.skip) (by repeat' first | exact zW.nil | apply zW.boxP rfl rfl | apply zW.skip) ?_; (refine zZ.v rfl rfl (by exact y8 rfl rfl rfl (by exact g2) (by rfl) rfl (by decide)) ?_); (refine zZ.v rfl rfl (by exact wE rfl rfl (by exact Nat.le_of_ble_eq_true rfl) rfl (by decide)) ?_); (refine zZ.m rfl rfl (zC rfl (by decide) rfl (by decide)) ?_); (refine zZ.w rfl (by exact zB rfl rfl rfl rfl rfl (by rfl) (by exact Nat.le_of_ble_eq_true rfl) rfl rfl) ?_); refine zZ.nil ?_) | (refine zX.isR (id := 7) ?_; refine zX.zV [2, 3, 4, 5, 6, 8, 9, 10, 30, 31, 32, 33, 40, 51] [2, 3, 4, 5, 8, 19, 30, 31, 46, 54] (by repeat' first | exact zY.nil | apply zY.p rfl | apply zY.ptr rfl | apply zY.skip) (by repeat' first | exact zW.nil | apply zW.boxP rfl rfl | apply zW.skip) ?_; (refine zZ.v rfl rfl (zJ rfl rfl rfl (by decide)) ?_); (refine zZ.v rfl rfl (zA rfl rfl rfl (by rfl) rfl (by decide)) ?_); (refine zZ.v rfl rfl (zJ rfl rfl rfl (by decide)) ?_); (refine zZ.v rfl rfl (zA rfl rfl rfl (by rfl) rfl (by decide)) ?_); (refine zZ.v rfl rfl (by exact xW rfl rfl rfl (by exact gl) rfl (by decide)) ?_); refine zZ.nil ?_) | (refine zX.isR (id := 13) ?_; refine zX.zV [2, 3, 4, 5, 6, 8, 9, 10, 30, 31, 32, 33, 40, 51] [2, 3, 4, 5, 8, 19, 30, 31, 46, 54] (by repeat' first | exact zY.nil | apply zY.p rfl | apply zY.ptr rfl | apply zY.skip) (by repeat' first | exact zW.nil | apply zW.boxP rfl rfl | apply zW.skip) ?_; (refine zZ.v rfl rfl (by exact y7 rfl rfl rfl (by exact gw) rfl (by decide)) ?_); (refine zZ.v rfl rfl (zQ rfl rfl rfl (by decide)) ?_); refine zZ.nil ?_) | refine zX.yE rfl (by assumption) ?_ | refine zX.skip ?_ | refine zX.block ?_ | refine zX.exit ?_) | refine yJ.n ?_)
      refine ⟨2, ?_, by decide, by decide⟩
      refine yY (is := [2, 3, 4, 5, 6, 30, 31, 32]) (js := [2, 3, 4, 5]) ?_ ?_
      repeat' first | exact zY.nil | apply zY.p rfl | apply zY.ptr rfl | apply zY.own rfl | apply zY.clo rfl | apply zY.pt rfl | apply zY.tup rfl | apply zY.skip
      repeat' first | exact zW.nil | apply zW.boxP rfl rfl | apply zW.yH rfl | apply zW.some rfl | apply zW.skip
    · have gl : decide (((2 : Nat) : Int) < 5) = true := rfl
      have gx : ∀ x : Int, (!decide (x = x)) = false := fun x => by simp
      repeat' (first | (refine zX.is ?_; first | refine zX.seq ?_ | (refine zX.isR (id := 5) ?_; refine zX.zV [2, 3, 4, 5, 6, 8, 9, 10, 30, 31, 32, 33, 40, 51] [2, 3, 4, 5, 8, 19, 30, 31, 46, 54] (by repeat' first | exact zY.nil | apply zY.p rfl | apply zY.ptr rfl | apply zY.skip) (by repeat' first | exact zW.nil | apply zW.boxP rfl rfl | apply zW.skip) ?_; (refine zZ.v rfl rfl (by exact yL rfl rfl rfl (by exact gl) rfl (by decide)) ?_); refine zZ.nil ?_) | (refine zX.isR (id := 6) ?_; refine zX.zV [2, 3, 4, 5, 6, 8, 9, 10, 30, 31, 32, 33, 40, 51] [2, 3, 4, 5, 8, 19, 30, 31, 46, 54] (by repeat' first | exact zY.nil | apply zY.p rfl | apply zY.ptr rfl | apply zY.skip) (by repeat' first | exact zW.nil | apply zW.boxP rfl rfl | apply zW.skip) ?_; (refine zZ.v rfl rfl (by exact y8 rfl rfl rfl (by exact g2) (by rfl) rfl (by decide)) ?_); (refine zZ.v rfl rfl (by exact wE rfl rfl (by exact Nat.le_of_ble_eq_true rfl) rfl (by decide)) ?_); (refine zZ.m rfl rfl (zC rfl (by decide) rfl (by decide)) ?_); (refine zZ.w rfl (by exact zB rfl rfl rfl rfl rfl (by rfl) (by exact Nat.le_of_ble_eq_true rfl) rfl rfl) ?_); refine zZ.nil ?_) | (refine zX.isR (id := 7) ?_; refine zX.zV [2, 3, 4, 5, 6, 8, 9, 10, 30, 31, 32, 33, 40, 51] [2, 3, 4, 5, 8, 19, 30, 31, 46, 54] (by repeat' first | exact zY.nil | apply zY.p rfl | apply zY.ptr rfl | apply zY.skip) (by repeat' first | exact zW.nil | apply zW.boxP rfl rfl | apply zW.skip) ?_; (refine zZ.v rfl rfl (zJ rfl rfl rfl (by decide)) ?_); (refine zZ.v rfl rfl (zA rfl rfl rfl (by rfl) rfl (by decide)) ?_); (refine zZ.v rfl rfl (zJ rfl rfl rfl (by decide)) ?_); (refine zZ.v rfl rfl (zA rfl rfl rfl (by rfl) rfl (by decide)) ?_); (refine zZ.v rfl rfl (by exact xW rfl rfl rfl (by exact gx _) rfl (by decide)) ?_); refine zZ.nil ?_) | (refine zX.isR (id := 8) ?_; refine zX.zV [2, 3, 4, 5, 6, 8, 9, 10, 30, 31, 32, 33, 40, 51] [2, 3, 4, 5, 8, 19, 30, 31, 46, 54] (by repeat' first | exact zY.nil | apply zY.p rfl | apply zY.ptr rfl | apply zY.skip) (by repeat' first | exact zW.nil | apply zW.boxP rfl rfl | apply zW.skip) ?_; (refine zZ.v rfl rfl (zJ rfl rfl rfl (by decide)) ?_); (refine zZ.v rfl rfl (zA rfl rfl rfl (by rfl) rfl (by decide)) ?_); (refine zZ.v rfl rfl (zQ rfl rfl rfl (by decide)) ?_); (refine zZ.v rfl rfl (zI rfl rfl rfl (by rfl) (by rfl) rfl (by decide)) ?_); (refine zZ.ofT rfl (zM.xA [] (FnE.ofFnT (turn3_fn old 2 i a b d yD)) rfl (by decide) (enters_val rfl rfl) (by rfl) (zD (by decide) rfl (by repeat' exact trivial)) rfl rfl rfl rfl ?_)); (refine zZ.v rfl rfl (yO rfl rfl rfl (by decide)) ?_); (refine zZ.v rfl rfl (zF rfl rfl rfl rfl (by decide)) ?_); (refine zZ.v rfl rfl (zF rfl rfl rfl rfl (by decide)) ?_); (refine zZ.v rfl rfl (zK rfl rfl rfl (by decide)) ?_); (refine zZ.v rfl rfl (zK rfl rfl rfl (by decide)) ?_); refine zZ.nil ?_) | (refine zX.isR (id := 9) ?_; refine zX.zV [2, 3, 4, 5, 6, 8, 9, 10, 30, 31, 32, 33, 40, 51] [2, 3, 4, 5, 8, 19, 30, 31, 46, 54] (by repeat' first | exact zY.nil | apply zY.p rfl | apply zY.ptr rfl | apply zY.skip) (by repeat' first | exact zW.nil | apply zW.boxP rfl rfl | apply zW.skip) ?_; (refine zZ.v rfl rfl (zQ rfl rfl rfl (by decide)) ?_); (refine zZ.v rfl rfl (zQ rfl rfl rfl (by decide)) ?_); (refine zZ.v rfl rfl (xW rfl rfl rfl (by rfl) rfl (by decide)) ?_); refine zZ.nil ?_) | (refine zX.isR (id := 10) ?_; refine zX.zV [2, 3, 4, 5, 6, 8, 9, 10, 30, 31, 32, 33, 40, 51] [2, 3, 4, 5, 8, 19, 30, 31, 46, 54] (by repeat' first | exact zY.nil | apply zY.p rfl | apply zY.ptr rfl) (by repeat' first | exact zW.nil | apply zW.boxP rfl rfl | apply zW.skip) ?_; (refine zZ.v rfl rfl (zJ rfl rfl rfl (by decide)) ?_); (refine zZ.v rfl rfl (zA rfl rfl rfl (by rfl) rfl (by decide)) ?_); (refine zZ.m rfl rfl (by exact w_callRowV c1 rfl rfl rfl (by decide)) ?_); (refine zZ.v rfl rfl (zJ rfl rfl rfl (by decide)) ?_); (refine zZ.w rfl (by exact w_storeO rfl rfl rfl rfl rfl rfl (by exact Nat.le_of_ble_eq_true rfl) rfl rfl) ?_); refine zZ.nil ?_) | (refine zX.isR (id := 11) ?_; refine zX.zV [2, 3, 4, 5, 6, 8, 9, 10, 30, 31, 32, 33, 40, 51] [2, 3, 4, 5, 8, 19, 30, 31, 46, 54] (by repeat' first | exact zY.nil | apply zY.p rfl | apply zY.ptr rfl) (by repeat' first | exact zW.nil | apply zW.boxP rfl rfl | apply zW.some rfl | apply zW.skip) ?_; (refine zZ.v rfl rfl (zJ rfl rfl rfl (by decide)) ?_); (refine zZ.v rfl rfl (w_loadO rfl rfl rfl rfl rfl (by decide)) ?_); (refine zZ.v rfl rfl (zJ rfl rfl rfl (by decide)) ?_); (refine zZ.v rfl rfl (zA rfl rfl rfl (by rfl) rfl (by decide)) ?_); (refine zZ.v rfl rfl (zQ rfl rfl rfl (by decide)) ?_); (refine zZ.v rfl rfl (by exact w_indexV rfl rfl rfl rfl (by exact g6) rfl (by decide)) ?_); (refine zZ.w rfl (by exact w_storeV rfl rfl rfl rfl rfl (by exact g1) (by rfl) rfl (by exact g7) rfl) ?_); refine zZ.nil ?_) | (refine zX.isR (id := 12) ?_; refine zX.sub (sub_frz (id := 54) rfl) ?_; refine zX.zV [2, 3, 4, 5, 6, 8, 9, 10, 30, 31, 32, 33, 40, 51] [2, 3, 4, 5, 8, 19, 30, 31, 46, 54] (by repeat' first | exact zY.nil | apply zY.p rfl | apply zY.ptr rfl) (by repeat' first | exact zW.nil | apply zW.boxP rfl rfl | apply zW.skip) ?_; (refine zZ.v rfl rfl (zI rfl rfl rfl (by rfl) (by rfl) rfl (by decide)) ?_); (refine zZ.v rfl rfl (zQ rfl rfl rfl (by decide)) ?_); (refine zZ.v rfl rfl (zS rfl (by rfl) (by rfl) (by rfl) (by rfl) rfl (by decide)) ?_); (refine zZ.w rfl (by exact zB rfl rfl rfl rfl rfl (by rfl) (by exact Nat.le_of_ble_eq_true rfl) rfl rfl) ?_); (refine zZ.w rfl (by exact zB rfl rfl rfl rfl rfl (by rfl) (by exact Nat.le_of_ble_eq_true rfl) rfl rfl) ?_); refine zZ.nil ?_) | (refine zX.isR (id := 12) ?_; refine zX.zV [2, 3, 4, 5, 6, 8, 9, 10, 30, 31, 32, 33, 40, 51] [2, 3, 4, 5, 8, 19, 30, 31, 46, 54] (by repeat' first | exact zY.nil | apply zY.p rfl | apply zY.ptr rfl) (by repeat' first | exact zW.nil | apply zW.boxP rfl rfl | apply zW.skip) ?_; (refine zZ.v rfl rfl (zI rfl rfl rfl (by rfl) (by rfl) rfl (by decide)) ?_); (refine zZ.v rfl rfl (zQ rfl rfl rfl (by decide)) ?_); (refine zZ.v rfl rfl (zS rfl (by rfl) (by rfl) (by rfl) (by rfl) rfl (by decide)) ?_); (refine zZ.w rfl (by exact zB rfl rfl rfl rfl rfl (by rfl) (by exact Nat.le_of_ble_eq_true rfl) rfl rfl) ?_); (refine zZ.w rfl (by exact zB rfl rfl rfl rfl rfl (by rfl) (by exact Nat.le_of_ble_eq_true rfl) rfl rfl) ?_); refine zZ.nil ?_) | refine zX.yE rfl (by assumption) ?_ | refine zX.yG rfl (by assumption) ?_ | refine zX.cond rfl (fun h => ?_) (fun h => ?_) | refine zX.skip ?_ | refine zX.block ?_ | refine zX.ret ?_) | refine yJ.r ?_ | refine xV.r ?_)
      all_goals refine ⟨by first | exact .inl rfl | exact .inr rfl, _, Sub.refl _, .tupE (rs := [.cell 4 46, .cell 5 85]) rfl (by decide) (.cons (.cellN rfl rfl (by rfl) (by rfl)) (.cons (.cellN rfl rfl (by rfl) (by rfl)) .nil)) ?_⟩
      all_goals first
        | exact wK (wds_set ws i _) rfl
        | exact wK (congrArg wds (set_same (hi.trans (congrArg some (eq_of_nd h).symm))).symm) rfl
        | exact wK (congrArg wds (set_same hi).symm) rfl
theorem words3_fn (t c a b old : Int) (i : Nat) (ws : List Int) (d : PV) (hi : ws[i]? = some old) (h1 : ws.length ≤ 1000000) :
    Fn Tryz.prog 60 [memV t c ws, xP 3 i a b d] (.tup [memV t c (ws.set i (wV 3 old a b).2), resN (wV 3 old a b).1]) := by
  have hlt : i < ws.length := (List.getElem?_eq_some_iff.1 hi).1
  have g1 := wds_cells ws
  have g2 := turns_cells
  have g3 := wds_at hi
  have g4 : decide ((i : Int) < 0) = false := decide_eq_false (by omega)
  have g5 : decide (((wds ws).length : Int) ≤ (i : Int)) = false := decide_eq_false (by rw [wP]; omega)
  have g6 : (0 : Int) ≤ (i : Int) ∧ (i : Int) < (wds ws).length := by rw [wP]; omega
  have g7 : (i : Int).toNat < (wds ws).length := by rw [wP]; omega
  have c1 := cloneW_fn ws (by omega) h1
  refine yI Tryz.func60 rfl Tryz.ntmps60 (Nat.le_of_ble_eq_true rfl) ?_
  repeat' ((refine zX.is ?_; first | refine zX.seq ?_ | (refine zX.isR (id := 0) ?_; refine zX.zV [0, 1] [2, 3, 4, 5, 8, 19, 30, 31, 46, 54] (by repeat' first | exact zY.nil | apply zY.p rfl) (by repeat' first | exact zW.nil | apply zW.skip) ?_; (refine zZ.m rfl rfl (z8 rfl rfl rfl (by decide)) ?_); (refine zZ.m rfl rfl (z8 rfl rfl rfl (by decide)) ?_); (refine zZ.m rfl rfl (zC rfl (by decide) rfl (by decide)) ?_); (refine zZ.m rfl rfl (zC rfl (by decide) rfl (by decide)) ?_); refine zZ.nil ?_) | (refine zX.isR (id := 1) ?_; refine zX.zV [2, 3, 4, 5] [2, 3, 4, 5, 8, 19, 30, 31, 46, 54] (by repeat' first | exact zY.nil | apply zY.ptr rfl) (by repeat' first | exact zW.nil | apply zW.boxP rfl rfl | apply zW.skip) ?_; all_goals (refine zZ.v rfl rfl (zJ rfl rfl rfl (by decide)) ?_); all_goals (refine zZ.v rfl rfl (zA rfl rfl rfl (by rfl) rfl (by decide)) ?_); all_goals (refine zZ.v rfl rfl (by exact yL rfl rfl rfl (by exact g4) rfl (by decide)) ?_); all_goals (refine zZ.v rfl rfl (zQ rfl rfl rfl (by decide)) ?_); all_goals (refine zZ.gY rfl rfl (by decide) rfl (by assumption) rfl (by decide) (zJ rfl rfl rfl (by decide)) ?_); all_goals (refine zZ.gY rfl rfl (by decide) rfl (by assumption) rfl (by decide) (zA rfl rfl rfl (by rfl) rfl (by decide)) ?_); all_goals (refine zZ.gY rfl rfl (by decide) rfl (by assumption) rfl (by decide) (zJ rfl rfl rfl (by decide)) ?_); all_goals (refine zZ.gY rfl rfl (by decide) rfl (by assumption) rfl (by decide) (zA rfl rfl rfl (by rfl) rfl (by decide)) ?_); all_goals (refine zZ.gY rfl rfl (by decide) rfl (by assumption) rfl (by decide) (xE rfl rfl rfl (by decide)) ?_); all_goals (refine zZ.gY rfl rfl (by decide) rfl (by assumption) rfl (by decide) (by exact r_geq rfl rfl rfl (by exact g5) rfl (by decide)) ?_); all_goals (refine zZ.v rfl rfl (by exact zR rfl rfl (by assumption) rfl rfl (by decide)) ?_); all_goals (refine zZ.nil ?_)) | (refine zX.isR (id := 3) ?_; refine zX.zV [2, 3, 4, 5] [2, 3, 4, 5, 8, 19, 30, 31, 46, 54] (by repeat' first | exact zY.nil | apply zY.ptr rfl) (by repeat' first | exact zW.nil | apply zW.boxP rfl rfl | apply zW.skip) ?_; (refine zZ.v rfl rfl (zJ rfl rfl rfl (by decide)) ?_); (refine zZ.v rfl rfl (zA rfl rfl rfl (by rfl) rfl (by decide)) ?_); (refine zZ.v rfl rfl (zJ rfl rfl rfl (by decide)) ?_); (refine zZ.v rfl rfl (zA rfl rfl rfl (by rfl) rfl (by decide)) ?_); (refine zZ.v rfl rfl (by exact y8 rfl rfl rfl (by exact g1) (by exact g3) rfl (by decide)) ?_); (refine zZ.v rfl rfl (wO rfl rfl rfl rfl (by decide)) ?_); (refine zZ.v rfl rfl (zK rfl rfl rfl (by decide)) ?_); refine zZ.nil ?_) | (refine zX.isR (id := 4) ?_; refine zX.zV [2, 3, 4, 5, 6] [2, 3, 4, 5, 8, 19, 30, 31, 46, 54] (by repeat' first | exact zY.nil | apply zY.p rfl | apply zY.ptr rfl) (by repeat' first | exact zW.nil | apply zW.boxP rfl rfl | apply zW.skip) ?_; (refine zZ.v rfl rfl (by exact zL (turns_fn) rfl rfl rfl (by decide)) ?_); (refine zZ.v rfl rfl (xE rfl rfl rfl (by decide)) ?_); (refine zZ.v rfl rfl (zQ rfl rfl rfl (by decide)) ?_); refine zZ.nil ?_) | refine zX.yG rfl (by assumption) ?_ | refine zX.skip ?_ | refine zX.block ?_))
  refine zX.loop (wordsS t c 3 a b old i ws d) (fun k => k ≤ 3) (fun k => 5 - k) 0 ?h0 (Nat.zero_le _) ?rd
  case h0 =>
    refine yY (is := [2, 3, 4, 5, 6, 30, 31, 32]) (js := [2, 3, 4, 5]) ?_ ?_
    repeat' first | exact zY.nil | apply zY.p rfl | apply zY.ptr rfl | apply zY.own rfl | apply zY.clo rfl | apply zY.pt rfl | apply zY.tup rfl | apply zY.skip
    repeat' first | exact zW.nil | apply zW.boxP rfl rfl | apply zW.yH rfl | apply zW.some rfl | apply zW.skip
  case rd =>
    rintro k hk
    have hk6 : k = 0 ∨ k = 1 ∨ k = 2 ∨ k = 3 := by omega
    rcases hk6 with rfl | rfl | rfl | rfl
    · have gl : decide (((0 : Nat) : Int) < 5) = true := rfl
      have gw : IntKind.i64.wrap (((0 : Nat) : Int) + 1) = ((1 : Nat) : Int) := rfl
      repeat' (first | (refine zX.is ?_; first | refine zX.seq ?_ | (refine zX.isR (id := 5) ?_; refine zX.zV [2, 3, 4, 5, 6, 8, 9, 10, 30, 31, 32, 33, 40, 51] [2, 3, 4, 5, 8, 19, 30, 31, 46, 54] (by repeat' first | exact zY.nil | apply zY.p rfl | apply zY.ptr rfl | apply zY.skip) (by repeat' first | exact zW.nil | apply zW.boxP rfl rfl | apply zW.skip) ?_; (refine zZ.v rfl rfl (by exact yL rfl rfl rfl (by exact gl) rfl (by decide)) ?_); refine zZ.nil ?_) | (refine zX.isR (id := 6) ?_; refine zX.zV [2, 3, 4, 5, 6, 8, 9, 10, 30, 31, 32, 33, 40, 51] [2, 3, 4, 5, 8, 19, 30, 31, 46, 54] (by repeat' first | exact zY.nil | apply zY.p rfl | apply zY.ptr rfl | apply zY.skip) (by repeat' first | exact zW.nil | apply zW.boxP rfl rfl | apply zW.skip) ?_; (refine zZ.v rfl rfl (by exact y8 rfl rfl rfl (by exact g2) (by rfl) rfl (by decide)) ?_); (refine zZ.v rfl rfl (by exact wE rfl rfl (by exact Nat.le_of_ble_eq_true rfl) rfl (by decide)) ?_); (refine zZ.m rfl rfl (zC rfl (by decide) rfl (by decide)) ?_); (refine zZ.w rfl (by exact zB rfl rfl rfl rfl rfl (by rfl) (by exact Nat.le_of_ble_eq_true rfl) rfl rfl) ?_); refine zZ.nil ?_) | (refine zX.isR (id := 7) ?_; refine zX.zV [2, 3, 4, 5, 6, 8, 9, 10, 30, 31, 32, 33, 40, 51] [2, 3, 4, 5, 8, 19, 30, 31, 46, 54] (by repeat' first | exact zY.nil | apply zY.p rfl | apply zY.ptr rfl | apply zY.skip) (by repeat' first | exact zW.nil | apply zW.boxP rfl rfl | apply zW.skip) ?_; (refine zZ.v rfl rfl (zJ rfl rfl rfl (by decide)) ?_); (refine zZ.v rfl rfl (zA rfl rfl rfl (by rfl) rfl (by decide)) ?_); (refine zZ.v rfl rfl (zJ rfl rfl rfl (by decide)) ?_); (refine zZ.v rfl rfl (zA rfl rfl rfl (by rfl) rfl (by decide)) ?_); (refine zZ.v rfl rfl (by exact xW rfl rfl rfl (by exact gl) rfl (by decide)) ?_); refine zZ.nil ?_) | (refine zX.isR (id := 13) ?_; refine zX.zV [2, 3, 4, 5, 6, 8, 9, 10, 30, 31, 32, 33, 40, 51] [2, 3, 4, 5, 8, 19, 30, 31, 46, 54] (by repeat' first | exact zY.nil | apply zY.p rfl | apply zY.ptr rfl | apply zY.skip) (by repeat' first | exact zW.nil | apply zW.boxP rfl rfl | apply zW.skip) ?_; (refine zZ.v rfl rfl (by exact y7 rfl rfl rfl (by exact gw) rfl (by decide)) ?_); (refine zZ.v rfl rfl (zQ rfl rfl rfl (by decide)) ?_); refine zZ.nil ?_) | refine zX.yE rfl (by assumption) ?_ | refine zX.skip ?_ | refine zX.block ?_ | refine zX.exit ?_) | refine yJ.n ?_)
      refine ⟨1, ?_, by decide, by decide⟩
      refine yY (is := [2, 3, 4, 5, 6, 30, 31, 32]) (js := [2, 3, 4, 5]) ?_ ?_
      repeat' first | exact zY.nil | apply zY.p rfl | apply zY.ptr rfl | apply zY.own rfl | apply zY.clo rfl | apply zY.pt rfl | apply zY.tup rfl | apply zY.skip
      repeat' first | exact zW.nil | apply zW.boxP rfl rfl | apply zW.yH rfl | apply zW.some rfl | apply zW.skip
    · have gl : decide (((1 : Nat) : Int) < 5) = true := rfl
      have gw : IntKind.i64.wrap (((1 : Nat) : Int) + 1) = ((2 : Nat) : Int) := rfl
      repeat' (first | (refine zX.is ?_; first | refine zX.seq ?_ | (refine zX.isR (id := 5) ?_; refine zX.zV [2, 3, 4, 5, 6, 8, 9, 10, 30, 31, 32, 33, 40, 51] [2, 3, 4, 5, 8, 19, 30, 31, 46, 54] (by repeat' first | exact zY.nil | apply zY.p rfl | apply zY.ptr rfl | apply zY.skip) (by repeat' first | exact zW.nil | apply zW.boxP rfl rfl | apply zW.skip) ?_; (refine zZ.v rfl rfl (by exact yL rfl rfl rfl (by exact gl) rfl (by decide)) ?_); refine zZ.nil ?_) | (refine zX.isR (id := 6) ?_; refine zX.zV [2, 3, 4, 5, 6, 8, 9, 10, 30, 31, 32, 33, 40, 51] [2, 3, 4, 5, 8, 19, 30, 31, 46, 54] (by repeat' first | exact zY.nil | apply zY.p rfl | apply zY.ptr rfl | apply zY.skip) (by repeat' first | exact zW.nil | apply zW.boxP rfl rfl | apply zW.skip) ?_; (refine zZ.v rfl rfl (by exact y8 rfl rfl rfl (by exact g2) (by rfl) rfl (by decide)) ?_); (refine zZ.v rfl rfl (by exact wE rfl rfl (by exact Nat.le_of_ble_eq_true rfl) rfl (by decide)) ?_); (refine zZ.m rfl rfl (zC rfl (by decide) rfl (by decide)) ?_); (refine zZ.w rfl (by exact zB rfl rfl rfl rfl rfl (by rfl) (by exact Nat.le_of_ble_eq_true rfl) rfl rfl) ?_); refine zZ.nil ?_) | (refine zX.isR (id := 7) ?_; refine zX.zV [2, 3, 4, 5, 6, 8, 9, 10, 30, 31, 32, 33, 40, 51] [2, 3, 4, 5, 8, 19, 30, 31, 46, 54] (by repeat' first | exact zY.nil | apply zY.p rfl | apply zY.ptr rfl | apply zY.skip) (by repeat' first | exact zW.nil | apply zW.boxP rfl rfl | apply zW.skip) ?_; (refine zZ.v rfl rfl (zJ rfl rfl rfl (by decide)) ?_); (refine zZ.v rfl rfl (zA rfl rfl rfl (by rfl) rfl (by decide)) ?_); (refine zZ.v rfl rfl (zJ rfl rfl rfl (by decide)) ?_); (refine zZ.v rfl rfl (zA rfl rfl rfl (by rfl) rfl (by decide)) ?_); (refine zZ.v rfl rfl (by exact xW rfl rfl rfl (by exact gl) rfl (by decide)) ?_); refine zZ.nil ?_) | (refine zX.isR (id := 13) ?_; refine zX.zV [2, 3, 4, 5, 6, 8, 9, 10, 30, 31, 32, 33, 40, 51] [2, 3, 4, 5, 8, 19, 30, 31, 46, 54] (by repeat' first | exact zY.nil | apply zY.p rfl | apply zY.ptr rfl | apply zY.skip) (by repeat' first | exact zW.nil | apply zW.boxP rfl rfl | apply zW.skip) ?_; (refine zZ.v rfl rfl (by exact y7 rfl rfl rfl (by exact gw) rfl (by decide)) ?_); (refine zZ.v rfl rfl (zQ rfl rfl rfl (by decide)) ?_); refine zZ.nil ?_) | refine zX.yE rfl (by assumption) ?_ | refine zX.skip ?_ | refine zX.block ?_ | refine zX.exit ?_) | refine yJ.n ?_)
      refine ⟨2, ?_, by decide, by decide⟩
      refine yY (is := [2, 3, 4, 5, 6, 30, 31, 32]) (js := [2, 3, 4, 5]) ?_ ?_
      repeat' first | exact zY.nil | apply zY.p rfl | apply zY.ptr rfl | apply zY.own rfl | apply zY.clo rfl | apply zY.pt rfl | apply zY.tup rfl | apply zY.skip
      repeat' first | exact zW.nil | apply zW.boxP rfl rfl | apply zW.yH rfl | apply zW.some rfl | apply zW.skip
    · have gl : decide (((2 : Nat) : Int) < 5) = true := rfl
      have gw : IntKind.i64.wrap (((2 : Nat) : Int) + 1) = ((3 : Nat) : Int) := rfl
      repeat' (first | (refine zX.is ?_; first | refine zX.seq ?_ | (refine zX.isR (id := 5) ?_; refine zX.zV [2, 3, 4, 5, 6, 8, 9, 10, 30, 31, 32, 33, 40, 51] [2, 3, 4, 5, 8, 19, 30, 31, 46, 54] (by repeat' first | exact zY.nil | apply zY.p rfl | apply zY.ptr rfl | apply zY.skip) (by repeat' first | exact zW.nil | apply zW.boxP rfl rfl | apply zW.skip) ?_; (refine zZ.v rfl rfl (by exact yL rfl rfl rfl (by exact gl) rfl (by decide)) ?_); refine zZ.nil ?_) | (refine zX.isR (id := 6) ?_; refine zX.zV [2, 3, 4, 5, 6, 8, 9, 10, 30, 31, 32, 33, 40, 51] [2, 3, 4, 5, 8, 19, 30, 31, 46, 54] (by repeat' first | exact zY.nil | apply zY.p rfl | apply zY.ptr rfl | apply zY.skip) (by repeat' first | exact zW.nil | apply zW.boxP rfl rfl | apply zW.skip) ?_; (refine zZ.v rfl rfl (by exact y8 rfl rfl rfl (by exact g2) (by rfl) rfl (by decide)) ?_); (refine zZ.v rfl rfl (by exact wE rfl rfl (by exact Nat.le_of_ble_eq_true rfl) rfl (by decide)) ?_); (refine zZ.m rfl rfl (zC rfl (by decide) rfl (by decide)) ?_); (refine zZ.w rfl (by exact zB rfl rfl rfl rfl rfl (by rfl) (by exact Nat.le_of_ble_eq_true rfl) rfl rfl) ?_); refine zZ.nil ?_) | (refine zX.isR (id := 7) ?_; refine zX.zV [2, 3, 4, 5, 6, 8, 9, 10, 30, 31, 32, 33, 40, 51] [2, 3, 4, 5, 8, 19, 30, 31, 46, 54] (by repeat' first | exact zY.nil | apply zY.p rfl | apply zY.ptr rfl | apply zY.skip) (by repeat' first | exact zW.nil | apply zW.boxP rfl rfl | apply zW.skip) ?_; (refine zZ.v rfl rfl (zJ rfl rfl rfl (by decide)) ?_); (refine zZ.v rfl rfl (zA rfl rfl rfl (by rfl) rfl (by decide)) ?_); (refine zZ.v rfl rfl (zJ rfl rfl rfl (by decide)) ?_); (refine zZ.v rfl rfl (zA rfl rfl rfl (by rfl) rfl (by decide)) ?_); (refine zZ.v rfl rfl (by exact xW rfl rfl rfl (by exact gl) rfl (by decide)) ?_); refine zZ.nil ?_) | (refine zX.isR (id := 13) ?_; refine zX.zV [2, 3, 4, 5, 6, 8, 9, 10, 30, 31, 32, 33, 40, 51] [2, 3, 4, 5, 8, 19, 30, 31, 46, 54] (by repeat' first | exact zY.nil | apply zY.p rfl | apply zY.ptr rfl | apply zY.skip) (by repeat' first | exact zW.nil | apply zW.boxP rfl rfl | apply zW.skip) ?_; (refine zZ.v rfl rfl (by exact y7 rfl rfl rfl (by exact gw) rfl (by decide)) ?_); (refine zZ.v rfl rfl (zQ rfl rfl rfl (by decide)) ?_); refine zZ.nil ?_) | refine zX.yE rfl (by assumption) ?_ | refine zX.skip ?_ | refine zX.block ?_ | refine zX.exit ?_) | refine yJ.n ?_)
      refine ⟨3, ?_, by decide, by decide⟩
      refine yY (is := [2, 3, 4, 5, 6, 30, 31, 32]) (js := [2, 3, 4, 5]) ?_ ?_
      repeat' first | exact zY.nil | apply zY.p rfl | apply zY.ptr rfl | apply zY.own rfl | apply zY.clo rfl | apply zY.pt rfl | apply zY.tup rfl | apply zY.skip
      repeat' first | exact zW.nil | apply zW.boxP rfl rfl | apply zW.yH rfl | apply zW.some rfl | apply zW.skip
    · have gl : decide (((3 : Nat) : Int) < 5) = true := rfl
      have gx : ∀ x : Int, (!decide (x = x)) = false := fun x => by simp
      repeat' (first | (refine zX.is ?_; first | refine zX.seq ?_ | (refine zX.isR (id := 5) ?_; refine zX.zV [2, 3, 4, 5, 6, 8, 9, 10, 30, 31, 32, 33, 40, 51] [2, 3, 4, 5, 8, 19, 30, 31, 46, 54] (by repeat' first | exact zY.nil | apply zY.p rfl | apply zY.ptr rfl | apply zY.skip) (by repeat' first | exact zW.nil | apply zW.boxP rfl rfl | apply zW.skip) ?_; (refine zZ.v rfl rfl (by exact yL rfl rfl rfl (by exact gl) rfl (by decide)) ?_); refine zZ.nil ?_) | (refine zX.isR (id := 6) ?_; refine zX.zV [2, 3, 4, 5, 6, 8, 9, 10, 30, 31, 32, 33, 40, 51] [2, 3, 4, 5, 8, 19, 30, 31, 46, 54] (by repeat' first | exact zY.nil | apply zY.p rfl | apply zY.ptr rfl | apply zY.skip) (by repeat' first | exact zW.nil | apply zW.boxP rfl rfl | apply zW.skip) ?_; (refine zZ.v rfl rfl (by exact y8 rfl rfl rfl (by exact g2) (by rfl) rfl (by decide)) ?_); (refine zZ.v rfl rfl (by exact wE rfl rfl (by exact Nat.le_of_ble_eq_true rfl) rfl (by decide)) ?_); (refine zZ.m rfl rfl (zC rfl (by decide) rfl (by decide)) ?_); (refine zZ.w rfl (by exact zB rfl rfl rfl rfl rfl (by rfl) (by exact Nat.le_of_ble_eq_true rfl) rfl rfl) ?_); refine zZ.nil ?_) | (refine zX.isR (id := 7) ?_; refine zX.zV [2, 3, 4, 5, 6, 8, 9, 10, 30, 31, 32, 33, 40, 51] [2, 3, 4, 5, 8, 19, 30, 31, 46, 54] (by repeat' first | exact zY.nil | apply zY.p rfl | apply zY.ptr rfl | apply zY.skip) (by repeat' first | exact zW.nil | apply zW.boxP rfl rfl | apply zW.skip) ?_; (refine zZ.v rfl rfl (zJ rfl rfl rfl (by decide)) ?_); (refine zZ.v rfl rfl (zA rfl rfl rfl (by rfl) rfl (by decide)) ?_); (refine zZ.v rfl rfl (zJ rfl rfl rfl (by decide)) ?_); (refine zZ.v rfl rfl (zA rfl rfl rfl (by rfl) rfl (by decide)) ?_); (refine zZ.v rfl rfl (by exact xW rfl rfl rfl (by exact gx _) rfl (by decide)) ?_); refine zZ.nil ?_) | (refine zX.isR (id := 8) ?_; refine zX.zV [2, 3, 4, 5, 6, 8, 9, 10, 30, 31, 32, 33, 40, 51] [2, 3, 4, 5, 8, 19, 30, 31, 46, 54] (by repeat' first | exact zY.nil | apply zY.p rfl | apply zY.ptr rfl | apply zY.skip) (by repeat' first | exact zW.nil | apply zW.boxP rfl rfl | apply zW.skip) ?_; (refine zZ.v rfl rfl (zJ rfl rfl rfl (by decide)) ?_); (refine zZ.v rfl rfl (zA rfl rfl rfl (by rfl) rfl (by decide)) ?_); (refine zZ.v rfl rfl (zQ rfl rfl rfl (by decide)) ?_); (refine zZ.v rfl rfl (zI rfl rfl rfl (by rfl) (by rfl) rfl (by decide)) ?_); (refine zZ.ofT rfl (zM.xA [] (FnE.ofFnT (turn4_fn old 3 i a b d yD)) rfl (by decide) (enters_val rfl rfl) (by rfl) (zD (by decide) rfl (by repeat' exact trivial)) rfl rfl rfl rfl ?_)); (refine zZ.v rfl rfl (yO rfl rfl rfl (by decide)) ?_); (refine zZ.v rfl rfl (zF rfl rfl rfl rfl (by decide)) ?_); (refine zZ.v rfl rfl (zF rfl rfl rfl rfl (by decide)) ?_); (refine zZ.v rfl rfl (zK rfl rfl rfl (by decide)) ?_); (refine zZ.v rfl rfl (zK rfl rfl rfl (by decide)) ?_); refine zZ.nil ?_) | (refine zX.isR (id := 9) ?_; refine zX.zV [2, 3, 4, 5, 6, 8, 9, 10, 30, 31, 32, 33, 40, 51] [2, 3, 4, 5, 8, 19, 30, 31, 46, 54] (by repeat' first | exact zY.nil | apply zY.p rfl | apply zY.ptr rfl | apply zY.skip) (by repeat' first | exact zW.nil | apply zW.boxP rfl rfl | apply zW.skip) ?_; (refine zZ.v rfl rfl (zQ rfl rfl rfl (by decide)) ?_); (refine zZ.v rfl rfl (zQ rfl rfl rfl (by decide)) ?_); (refine zZ.v rfl rfl (xW rfl rfl rfl (by rfl) rfl (by decide)) ?_); refine zZ.nil ?_) | (refine zX.isR (id := 10) ?_; refine zX.zV [2, 3, 4, 5, 6, 8, 9, 10, 30, 31, 32, 33, 40, 51] [2, 3, 4, 5, 8, 19, 30, 31, 46, 54] (by repeat' first | exact zY.nil | apply zY.p rfl | apply zY.ptr rfl) (by repeat' first | exact zW.nil | apply zW.boxP rfl rfl | apply zW.skip) ?_; (refine zZ.v rfl rfl (zJ rfl rfl rfl (by decide)) ?_); (refine zZ.v rfl rfl (zA rfl rfl rfl (by rfl) rfl (by decide)) ?_); (refine zZ.m rfl rfl (by exact w_callRowV c1 rfl rfl rfl (by decide)) ?_); (refine zZ.v rfl rfl (zJ rfl rfl rfl (by decide)) ?_); (refine zZ.w rfl (by exact w_storeO rfl rfl rfl rfl rfl rfl (by exact Nat.le_of_ble_eq_true rfl) rfl rfl) ?_); refine zZ.nil ?_) | (refine zX.isR (id := 11) ?_; refine zX.zV [2, 3, 4, 5, 6, 8, 9, 10, 30, 31, 32, 33, 40, 51] [2, 3, 4, 5, 8, 19, 30, 31, 46, 54] (by repeat' first | exact zY.nil | apply zY.p rfl | apply zY.ptr rfl) (by repeat' first | exact zW.nil | apply zW.boxP rfl rfl | apply zW.some rfl | apply zW.skip) ?_; (refine zZ.v rfl rfl (zJ rfl rfl rfl (by decide)) ?_); (refine zZ.v rfl rfl (w_loadO rfl rfl rfl rfl rfl (by decide)) ?_); (refine zZ.v rfl rfl (zJ rfl rfl rfl (by decide)) ?_); (refine zZ.v rfl rfl (zA rfl rfl rfl (by rfl) rfl (by decide)) ?_); (refine zZ.v rfl rfl (zQ rfl rfl rfl (by decide)) ?_); (refine zZ.v rfl rfl (by exact w_indexV rfl rfl rfl rfl (by exact g6) rfl (by decide)) ?_); (refine zZ.w rfl (by exact w_storeV rfl rfl rfl rfl rfl (by exact g1) (by rfl) rfl (by exact g7) rfl) ?_); refine zZ.nil ?_) | (refine zX.isR (id := 12) ?_; refine zX.sub (sub_frz (id := 54) rfl) ?_; refine zX.zV [2, 3, 4, 5, 6, 8, 9, 10, 30, 31, 32, 33, 40, 51] [2, 3, 4, 5, 8, 19, 30, 31, 46, 54] (by repeat' first | exact zY.nil | apply zY.p rfl | apply zY.ptr rfl) (by repeat' first | exact zW.nil | apply zW.boxP rfl rfl | apply zW.skip) ?_; (refine zZ.v rfl rfl (zI rfl rfl rfl (by rfl) (by rfl) rfl (by decide)) ?_); (refine zZ.v rfl rfl (zQ rfl rfl rfl (by decide)) ?_); (refine zZ.v rfl rfl (zS rfl (by rfl) (by rfl) (by rfl) (by rfl) rfl (by decide)) ?_); (refine zZ.w rfl (by exact zB rfl rfl rfl rfl rfl (by rfl) (by exact Nat.le_of_ble_eq_true rfl) rfl rfl) ?_); (refine zZ.w rfl (by exact zB rfl rfl rfl rfl rfl (by rfl) (by exact Nat.le_of_ble_eq_true rfl) rfl rfl) ?_); refine zZ.nil ?_) | (refine zX.isR (id := 12) ?_; refine zX.zV [2, 3, 4, 5, 6, 8, 9, 10, 30, 31, 32, 33, 40, 51] [2, 3, 4, 5, 8, 19, 30, 31, 46, 54] (by repeat' first | exact zY.nil | apply zY.p rfl | apply zY.ptr rfl) (by repeat' first | exact zW.nil | apply zW.boxP rfl rfl | apply zW.skip) ?_; (refine zZ.v rfl rfl (zI rfl rfl rfl (by rfl) (by rfl) rfl (by decide)) ?_); (refine zZ.v rfl rfl (zQ rfl rfl rfl (by decide)) ?_); (refine zZ.v rfl rfl (zS rfl (by rfl) (by rfl) (by rfl) (by rfl) rfl (by decide)) ?_); (refine zZ.w rfl (by exact zB rfl rfl rfl rfl rfl (by rfl) (by exact Nat.le_of_ble_eq_true rfl) rfl rfl) ?_); (refine zZ.w rfl (by exact zB rfl rfl rfl rfl rfl (by rfl) (by exact Nat.le_of_ble_eq_true rfl) rfl rfl) ?_); refine zZ.nil ?_) | refine zX.yE rfl (by assumption) ?_ | refine zX.yG rfl (by assumption) ?_ | refine zX.cond rfl (fun h => ?_) (fun h => ?_) | refine zX.skip ?_ | refine zX.block ?_ | refine zX.ret ?_) | refine yJ.r ?_ | refine xV.r ?_)
      all_goals refine ⟨by first | exact .inl rfl | exact .inr rfl, _, Sub.refl _, .tupE (rs := [.cell 4 46, .cell 5 85]) rfl (by decide) (.cons (.cellN rfl rfl (by rfl) (by rfl)) (.cons (.cellN rfl rfl (by rfl) (by rfl)) .nil)) ?_⟩
      all_goals first
        | exact wK (wds_set ws i _) rfl
        | exact wK (congrArg wds (set_same (hi.trans (congrArg some (eq_of_nd h).symm))).symm) rfl
        | exact wK (congrArg wds (set_same hi).symm) rfl
end Go.Proofs.YtlfkofkdigmnpaaGreatDoor
/- Appending to a slice cut to its length: s[:n:n]. Generic over the program. -/
namespace Go.Proofs.YtlfkofkdigmnpaaGreatDoor
set_option maxRecDepth 100000
set_option maxHeartbeats 16000000
open Go Go.RowKit
set_option linter.unusedSimpArgs false
theorem RepL.append {M : Nat → Nat → Prop} {w : World} {xs xs' : List PV} {ys ys' : List Value} (h : RepL M w xs ys) (h' : RepL M w xs' ys') : RepL M w (xs ++ xs') (ys ++ ys') :=
  ⟨by rw [List.length_append, List.length_append, h.len, h'.len], fun i c v h1 h2 => by
    by_cases hi : i < xs.length
    · rw [List.getElem?_append_left hi] at h1
      rw [List.getElem?_append_left (by rw [h.len]; exact hi)] at h2
      exact h.each i c v h1 h2
    · rw [List.getElem?_append_right (by omega)] at h1
      rw [List.getElem?_append_right (by rw [h.len]; omega), h.len] at h2
      exact h'.each _ c v h1 h2, fun v hv => by
    rcases List.mem_append.1 hv with hv | hv
    · exact h.one v hv
    · exact h'.one v hv⟩
theorem cellsA_pure {M : Nat → Nat → Prop} {ρ : Nat → Value} {w : World} {xs : List PV} {ys : List Value} (h : yM M ρ w (xs.map AV.p) ys) : RepL M w xs ys :=
  ⟨by simpa using h.len, fun i c v h1 h2 => rep_p (h.each i (.p c) v (by rw [List.getElem?_map, h1]; rfl) h2), h.one⟩
theorem rep_ownsRow {M : Nat → Nat → Prop} {w w' : World} {e sz : Nat} {v : Value} {k : Nat} {es : List PV} {us : List Value} (hM : ∀ k c, M k c → k < w.heap.size) (h : w'.ownsRow w.heap.size e sz v k us) (hk : k = es.length) (hu : RepL M w' (flat es) us) : Rep M w' (.sl es) v := by
  rcases h.2 with ⟨rfl, h0⟩ | ⟨g, cap, cur, rfl, hg, hh, hkc, hcm, hcs, htk⟩
  · have : es = [] := List.eq_nil_of_length_eq_zero (by omega)
    subst this
    exact .nil
  · refine .sl es g 0 k cap us hk hu.len (fun j y hy => ?_) hu.each hu.one (fun j hj hm => ?_) (Array.getElem?_eq_some_iff.1 hh).1 hkc hcm
    · rw [Nat.zero_add, cell_of_row w' g j cur e (0, 0) hh]
      rw [← htk, List.getElem?_take] at hy
      split at hy
      · simpa using hy
      · cases hy
    · have := hM _ _ hm
      omega
section
variable {P : Program} {n : Nat} {ops : Array Oper} {S : AS} {K : Exit → AS → Prop}
theorem zZ.appTight {o1 o2 o3 : Oper} {rest : List Oper} {d1 d2 d3 t e sz by_ : Nat} {x y xh xm : Operand} {z : Value} {es bs : List PV} {k2 k3 : IntKind} {h m : Int} {agg : Bool} [ht : Und P t (.slice e)] [hi : InfoA P e z sz by_] [he : TyA P e agg sz]
    (h1 : o1.op = .slice t x none (some xh) (some xm)) (g1 : o1.guard = none) (e1 : o1.dst = some d1)
    (h2 : o2.op = .move y) (g2 : o2.guard = none) (e2 : o2.dst = some d2)
    (h3 : o3.op = .call { callee := .builtin .append, args := #[.tmp d1, .tmp d2], argTypes := #[t, t] }) (g3 : o3.guard = none) (e3 : o3.dst = some d3)
    (hx : S.get x = .p (.sl es)) (hh : S.get xh = .p (.val (.int k2 h))) (hm : S.get xm = .p (.val (.int k3 m))) (hhe : h = es.length) (hme : m = es.length) (hy : S.get y = .p (.sl bs)) (hne : d2 ≠ d1) (hyd : (S.put d1 .any).get y = .p (.sl bs))
    (hn1 : d1 < n) (hn2 : d2 < n) (hn3 : d3 < n) (hes : ∀ e ∈ es, e.cells.length = sz) (hbs : ∀ e ∈ bs, e.cells.length = sz)
    (hlim : (es.length + bs.length) * by_ ≤ 140737488355328 ∧ es.length + bs.length ≤ maxLen) (hzs : z.cells.size = sz) (hsz : 0 < sz)
    (hr : zZ P n ops rest (((S.put d1 .any).put d2 (.p (.sl bs))).put d3 (.p (.sl (es ++ bs)))) K) : zZ P n ops (o1 :: o2 :: o3 :: rest) S K := by
  subst hhe hme
  intro M w0 ρ a w Q hs hK
  obtain ⟨i, hi1, hi2⟩ := Option.map_eq_some_iff.1 hi.h
  simp only [Prod.mk.injEq] at hi2
  obtain ⟨hz, hisz, hiby⟩ := hi2
  have hel : P.elem t = e := by simp [Program.elem, ht.h]
  have ht2 : P.underlying t = some (.slice (P.elem t)) := by rw [hel]; exact ht.h
  have r1 := yT hs hx
  have r2 := hs.val hh
  have r3 := hs.val hm
  -- the slice cut to its length
  have key : ∃ v1, (execOp a.eval o1).run P w = .ok (.value v1) w ∧ ((v1 = .slice none 0 0 ∧ es = []) ∨ ∃ g off ys, v1 = .slice (some ⟨g, off, none⟩) es.length es.length ∧ RepL (Mut M S ρ) w (flat es) ys ∧ (∀ v ∈ ys, v.oneCell' = true) ∧ (∀ (j : Nat) y, ys[j]? = some y → w.cell? ⟨g, off + j, none⟩ = some y) ∧ (∀ j, j < ys.length → ¬ Mut M S ρ g (off + j)) ∧ g < w.heap.size ∧ es.length ≤ maxLen) := by
    rcases rep_sl r1 with ⟨hv, h0⟩ | ⟨g, off, cap, ys, hv, hly, hcell, hM, hgl, hcap, hmx⟩
    · subst h0
      refine ⟨.slice none 0 0, ?_, .inl ⟨rfl, rfl⟩⟩
      unfold execOp
      rw [h1]
      simp only [Option.map_some, Option.map_none, hv, r2, r3, Sem.run_bind, run_sliceAt_slice w t _ _ _ _ ht2, run_slice_hm w t none 0 0 ht2 _ _ (([] : List PV).length : Int) (([] : List PV).length : Int) (by simp) (by simp) (by simp)]
      rw [hel, he.sz w]
      rfl
    · refine ⟨.slice (some ⟨g, off, none⟩) es.length es.length, ?_, .inr ⟨g, off, ys, rfl, hly, hly.one, hcell, hM, hgl, by omega⟩⟩
      unfold execOp
      rw [h1]
      simp only [Option.map_some, Option.map_none, hv, r2, r3, Sem.run_bind, run_sliceAt_slice w t _ _ _ _ ht2, run_slice_hm w t (some ⟨g, off, none⟩) es.length cap ht2 _ _ (es.length : Int) (es.length : Int) (by omega) (by omega) (by omega)]
      rw [hel, he.sz w]
      simp [sliced, Result.andThen, Addr.add]
  obtain ⟨v1, hr1, hv1⟩ := key
  unfold wpList
  rw [if_pos (by simp [Region.wanted, g1])]
  refine .inl ?_
  unfold Oper.wp
  rw [hr1]
  show wpList P ops Q (o2 :: o3 :: rest) (a.put o1.dst v1) w
  rw [e1]
  have hs1 : Sat M n w0 (S.put d1 .any) ρ (a.put (some d1) v1) w := hs.put hn1 (.any v1)
  have ry := yT hs1 hyd
  unfold wpList
  rw [if_pos (by simp [Region.wanted, g2])]
  refine .inl ?_
  unfold Oper.wp
  have hr2 : (execOp (a.put (some d1) v1).eval o2).run P w = .ok (.value ((a.put (some d1) v1).eval y)) w := by
    unfold execOp
    rw [h2]
    rfl
  rw [hr2]
  show wpList P ops Q (o3 :: rest) ((a.put (some d1) v1).put o2.dst _) w
  rw [e2]
  generalize hvy : (a.put (some d1) v1).eval y = vy at ry ⊢
  have hs2 := hs1.put (d := d2) hn2 (.p ry)
  have t1 : ((a.put (some d1) v1).put (some d2) vy).eval (.tmp d1) = v1 := by
    have : d1 < a.tmps.size := by rw [hs.size]; exact hn1
    simp [Act.eval, Act.put, Array.getD_eq_getD_getElem?, Array.getElem?_setIfInBounds, hne, this]
  have t2 : ((a.put (some d1) v1).put (some d2) vy).eval (.tmp d2) = vy := by
    have : d2 < a.tmps.size := by rw [hs.size]; exact hn2
    simp [Act.eval, Act.put, Array.getD_eq_getD_getElem?, Array.getElem?_setIfInBounds, this]
  obtain ⟨us, hus, hnews⟩ := news_p (ρ := ρ) ry hbs
  have hMut : Mut M ((S.put d1 .any).put d2 (.p (.sl bs))) ρ = Mut M S ρ := rfl
  have main : ∀ v' w', (Builtin.append_ #[t, t] o3.type #[v1, vy]).run P w = .ok v' w' → Below w.heap.size w w' → Rep (Mut M S ρ) w' (.sl (es ++ bs)) v' → wpList P ops Q (o3 :: rest) ((a.put (some d1) v1).put (some d2) vy) w := by
    intro v' w' hr3 hb hrep
    unfold wpList
    rw [if_pos (by simp [Region.wanted, g3])]
    refine .inl ?_
    unfold Oper.wp execOp
    simp only [h3, resolve, invoke, builtin, Sem.run_bind, Sem.run_pure, Result.andThen_ok, List.map_toArray, List.map_cons, List.map_nil, t1, t2, hr3]
    show wpList P ops Q rest (((a.put (some d1) v1).put (some d2) vy).put o3.dst v') w'
    rw [e3]
    exact hr M w0 ρ _ w' Q ((hs2.ext hb).put hn3 (.p hrep)) hK
  have hflat : flat (es ++ bs) = flat es ++ flat bs := by simp [flat]
  have hlt : ∀ k c, Mut M S ρ k c → k < w.heap.size := fun k c hk => Mut.lt hs hk
  have grown : ∀ v' w' ys, w.grownBy w' none → w'.ownsRow w.heap.size e sz v' (es.length + bs.length) (ys ++ us) → RepL (Mut M S ρ) w (flat es) ys → Rep (Mut M S ρ) w' (.sl (es ++ bs)) v' := by
    intro v' w' ys hg hown hys
    have hk : Keeps (Mut M S ρ) w w' := ⟨hg.size, fun k c hk _ => World.cell?_of_block (w := w) (hg.block k hk (by simp))⟩
    have hus2 : RepL (Mut M S ρ) w (flat bs) us := cellsA_pure (hMut ▸ hus)
    refine rep_ownsRow hlt hown (by rw [List.length_append]) ?_
    rw [hflat]
    exact (hys.keep hk).append (hus2.keep hk)
  rcases hv1 with ⟨hv1, h0⟩ | ⟨g, off, ys, hv1, hys, hone, hcell, hM, hgl, hmx⟩
  · subst h0
    have hown : ∀ B, w.ownsRow B e sz (.slice none 0 0) 0 [] := fun B => ⟨by simp, .inl ⟨rfl, rfl⟩⟩
    rcases hnews with ⟨hyv, hk0, hu0⟩ | ⟨ad, c, hyv, hul, hcell2⟩
    · have hb0 : bs = [] := List.eq_nil_of_length_eq_zero hk0
      subst hb0
      refine main (.slice none 0 0) w ?_ (Below.refl _ _) .nil
      rw [hyv, hv1]
      exact run_append_owned_none (P := P) w 0 t o3.type e i sz ht.h hi1 (.slice none 0 0) 0 [] (hown 0)
    · obtain ⟨v', w', hr, hown', hg, _, _⟩ := run_append_own_at (P := P) w w.heap.size t o3.type e i z sz by_ ht.h hi1 hz hisz hiby hzs hsz (.slice none 0 0) 0 [] (hown _) ad bs.length c us hul hcell2 hus.one (by simpa using hlim.2) (by simpa using hlim.1) (Nat.le_refl _)
      rw [← hv1, ← hyv] at hr
      exact main v' w' hr ⟨hg.os, hg.tape, hg.output, hg.size, fun k hk => hg.block k hk (fun h => by cases h)⟩ (grown v' w' [] hg (by simpa using hown') ⟨rfl, fun i c v h => by simp [flat] at h, fun v h => by simp at h⟩)
  · have hyl : ys.length = es.length * sz := by rw [hys.len, flat_len hes]
    rcases Nat.eq_zero_or_pos bs.length with hb | hb
    · have hb0 : bs = [] := List.eq_nil_of_length_eq_zero hb
      subst hb0
      refine main v1 w ?_ (Below.refl _ _) ?_
      · have hv : vy = .slice none 0 0 ∨ ∃ ad c, vy = .slice (some ad) 0 c := by
          rcases hnews with ⟨hyv, _, _⟩ | ⟨ad, c, hyv, _⟩
          · exact .inl hyv
          · exact .inr ⟨ad, c, hyv⟩
        rw [hv1]
        refine run_append_nothing w t t o3.type e i ht.h hi1 _ _ _ (Nat.le_refl _) _ ?_
        rcases hv with hv | ⟨ad, c, hv⟩ <;> rw [hv]
        · exact .ofNil w ht.h 0
        · exact .ofSlice w ht.h ad 0 c [] (by simp) (fun j u h => by simp at h) (fun u h => by simp at h)
      · rw [hv1, List.append_nil]
        exact .sl es g off es.length es.length ys rfl hys.len hcell hys.each hone hM hgl (Nat.le_refl _) hmx
    · rcases hnews with ⟨hyv, hk0, hu0⟩ | ⟨ad, c, hyv, hul, hcell2⟩
      · omega
      · obtain ⟨v', w', hr, hown', hg⟩ := run_append_arg_grows (P := P) w t o3.type e i z sz by_ ht.h hi1 hz hisz hiby hzs hsz ⟨g, off, none⟩ es.length es.length ys hyl (fun j u hu => by rw [add_lit]; exact hcell j u hu) ad bs.length c us hul hcell2 (by omega) hlim.2 hlim.1
        rw [← hv1, ← hyv] at hr
        exact main v' w' hr ⟨hg.os, hg.tape, hg.output, hg.size, fun k hk => hg.block k hk (by simp)⟩ (grown v' w' ys hg hown' hys)
/-- A call of a closure that turns nothing, by its contract: a value. -/
theorem w_callClo {o : Oper} {d k : Nat} {x : Operand} {f : FuncId} {args : Array Operand} {ts : Array TypeId} {ys : List PV} {b : Blk} {r : PV} [hc : HasFn P f] (hf : FnE P f (ys.map AV.p ++ [.ptr 1000 0]) [b] (.ret (.p r)) [b])
    (ho : o.op = .call { callee := .value x, args := args, argTypes := ts }) (hx : S.get x = .clo f [k]) (hargs : args.toList.map S.get = ys.map AV.p) (hb : S.blk k = some b) (hren : b.ren (sig [k]) = b) (hok : b.okE 1 = true) (hd : o.dst = some d) (hn : d < n) :
    zG P n o S [k] (.p r) none := by
  intro S2 hg hbk M w0 ρ a w KK Q hs hK
  have hbk2 : S2.blk k = some b := by rw [hbk k (by simp), hb]
  have hx2 : S2.get x = .clo f [k] := by rw [hg x (by rw [ho]; simp [Op.operands, Call.operands]), hx]
  have ha2 : args.toList.map S2.get = ys.map AV.p := by
    rw [← hargs]
    exact List.map_congr_left fun y hy => hg y (by rw [ho]; simp [Op.operands, Call.operands]; exact .inr (by simpa using hy))
  have hh : Hands S2 [k] [b] := zD (by simp) (by simpa using hok) ⟨by rw [hbk2, hren], trivial⟩
  have st := zM.xA (P := P) (n := n) (o := o) (S := S2) (K := fun _ _ => False) (N := fun S1 => S1 = (S2.after [k] [b]).put d (.p r)) [k] hf hd hn (yF ho hx2) (by
    rw [ha2, List.map_append, List.map_map]
    rfl) hh rfl (by simpa using hok) (by
    rw [List.all_append]
    simp only [List.all_map, Bool.and_eq_true, List.all_cons, List.all_nil]
    exact ⟨List.all_eq_true.2 fun _ _ => rfl, rfl, trivial⟩) rfl rfl
  refine st M w0 ρ a w KK Q hs ?_ ?_
  · intro S1 ρ' a' w' hN hs'
    subst hN
    rw [hd] at hK
    refine hK ρ' a' w' ?_
    refine xO.sat (S := (S2.after [k] [b]).put d (.p r)) (S' := S2.put d (.p r)) ⟨fun _ => rfl, fun j => ?_⟩ hs'
    show (look (putBs [k] [b.ren (sig [k])] S2.s) j = none ∧ S2.blk j = none) ∨ ∃ b1 b2, look (putBs [k] [b.ren (sig [k])] S2.s) j = some b1 ∧ S2.blk j = some b2 ∧ Alike b1 b2
    rw [hren]
    by_cases hj : k = j
    · subst hj
      exact .inr ⟨b, b, by simp [putBs, look_putL], hbk2, .refl b⟩
    · have e : look (putBs [k] [b] S2.s) j = S2.blk j := by simp [putBs, look_putL, hj, AS.blk]
      rw [e]
      cases h : S2.blk j with
      | none => exact .inl ⟨rfl, rfl⟩
      | some c => exact .inr ⟨c, c, rfl, rfl, .refl c⟩
  · intro e S' _ _ _ h
    exact h.elim
/-- A call of a function value, by its contract: a value. -/
theorem w_callFV {o : Oper} {d : Nat} {x : Operand} {f : FuncId} {args : Array Operand} {ts : Array TypeId} {ys : List PV} {r : PV} [hc : HasFn P f] (hf : Fn P f ys (.p r))
    (ho : o.op = .call { callee := .value x, args := args, argTypes := ts }) (hx : S.get x = .p (.val (.func (.func f) #[] #[]))) (hargs : args.toList.map S.get = ys.map AV.p) (hd : o.dst = some d) (hn : d < n) :
    zG P n o S [] (.p r) none := by
  intro S2 hg _ M w0 ρ a w KK Q hs hK
  have hx2 : S2.get x = .p (.val (.func (.func f) #[] #[])) := by rw [hg x (by rw [ho]; simp [Op.operands, Call.operands]), hx]
  have ha2 : args.toList.map S2.get = ys.map AV.p := by
    rw [← hargs]
    exact List.map_congr_left fun y hy => hg y (by rw [ho]; simp [Op.operands, Call.operands]; exact .inr (by simpa using hy))
  have st := zM.xA (P := P) (n := n) (o := o) (S := S2) (K := fun _ _ => False) (N := fun S1 => S1 = (S2.after [] []).put d (.p r)) [] (FnE.ofFn hf) hd hn (enters_val ho hx2) (by
    rw [ha2, List.map_map]
    rfl) (zD (by simp) (by simp) trivial) rfl (by simp) (by
    simp only [List.all_map]
    exact List.all_eq_true.2 fun _ _ => rfl) rfl rfl
  refine st M w0 ρ a w KK Q hs ?_ ?_
  · intro S1 ρ' a' w' hN hs'
    subst hN
    rw [hd] at hK
    exact hK ρ' a' w' hs'
  · intro e S' _ _ _ h
    exact h.elim
end
end Go.Proofs.YtlfkofkdigmnpaaGreatDoor
/- Worlds: streams and disks: contracts. -/
namespace Go.Proofs.YtlfkofkdigmnpaaGreatDoor
set_option maxRecDepth 100000
set_option maxHeartbeats 16000000
open Go Go.RowKit
set_option linter.unusedSimpArgs false
attribute [local irreducible] zZ zX Step zG Sub zP zM Fn
/-- a stream -/
def strV (d : List Int) (s : Int) : PV := .agg [.sl (byts d), .val (.int .i64 s)]
/-- streams, as a slice's elements; a disk -/
def strs (l : List (List Int × Int)) : List PV := l.map fun p => strV p.1 p.2
def wR (root : Int) (r0 r1 : List (List Int × Int)) : PV := .agg [.val (.int .u64 root), .sl (strs r0), .sl (strs r1)]
theorem strs_len (l : List (List Int × Int)) : (strs l).length = l.length := by simp [strs]
theorem strs_cells (l : List (List Int × Int)) : ∀ e ∈ strs l, e.cells.length = 2 := fun e he => by
  obtain ⟨x, _, rfl⟩ := List.mem_map.1 he
  rfl
theorem strs_at {l : List (List Int × Int)} {i : Nat} {d : List Int} {s : Int} (h : l[i]? = some (d, s)) : (strs l)[i]? = some (strV d s) := by simp [strs, h]
theorem strs_set (l : List (List Int × Int)) (i : Nat) (d : List Int) (s : Int) : (strs l).set i (strV d s) = strs (l.set i (d, s)) := by simp [strs, List.map_set]
theorem vL (k : Int) : Fn Tryz.prog 57 [.val (.int .i64 k)] (.p (.val (.bool (decide (5 ≤ k) && decide (k ≤ 12))))) := by
  refine yI Tryz.func57 rfl Tryz.ntmps57 (Nat.le_of_ble_eq_true rfl) ?_
  repeat' ((refine zX.is ?_; first | refine zX.seq ?_ | (refine zX.isR (id := 0) ?_; refine zX.zV [0] [] (by repeat' first | exact zY.nil | apply zY.p rfl) (by repeat' exact zW.nil) ?_; (refine zZ.v rfl rfl (zK rfl rfl rfl (by decide)) ?_); refine zZ.nil ?_) | (refine zX.isR (id := 1) ?_; refine zX.zV [0, 2] [] (by repeat' first | exact zY.nil | apply zY.p rfl) (by repeat' exact zW.nil) ?_; all_goals (refine zZ.v rfl rfl (zQ rfl rfl rfl (by decide)) ?_); all_goals (refine zZ.v rfl rfl (r_geq rfl rfl rfl (by rfl) rfl (by decide)) ?_); all_goals (refine zZ.v rfl rfl (zQ rfl rfl rfl (by decide)) ?_); all_goals (((fail_if_success refine zZ.known rfl rfl rfl (by fail) ?_); refine zZ.split rfl rfl rfl (fun h => ?_) (fun h => ?_) <;> first | refine zZ.gY rfl rfl (by decide) rfl (by assumption) rfl (by decide) (zQ rfl rfl rfl (by decide)) ?_ | refine zZ.gnT rfl rfl (by decide) rfl (by assumption) rfl (by decide) ?_)); all_goals (first | refine zZ.gY rfl rfl (by decide) rfl (by assumption) rfl (by decide) (r_leq rfl rfl rfl (by rfl) rfl (by decide)) ?_ | refine zZ.gnT rfl rfl (by decide) rfl (by assumption) rfl (by decide) ?_); all_goals (refine zZ.v rfl rfl (by first | exact zT rfl rfl (by assumption) rfl rfl (by decide) | exact zR rfl rfl (by assumption) rfl rfl (by decide)) ?_); all_goals (refine zZ.v rfl rfl (zK rfl rfl rfl (by decide)) ?_); all_goals (refine zZ.nil ?_)) | refine zX.ret ?_))
  · rw [h, Bool.true_and]
    exact ⟨by first | exact .inl rfl | exact .inr rfl, _, Sub.refl _, .p rfl (.tmp rfl)⟩
  · rw [h, Bool.false_and]
    exact ⟨by first | exact .inl rfl | exact .inr rfl, _, Sub.refl _, .p rfl (.tmp rfl)⟩
theorem row_fn (root : Int) (r0 r1 : PV) (h0 : 0 ≤ root) : Fn Tryz.prog 70 [.agg [.val (.int .u64 root), r0, r1]] (.p (.val (.int .i64 (root % 2)))) := by
  refine yI Tryz.func70 rfl Tryz.ntmps70 (Nat.le_of_ble_eq_true rfl) ?_
  repeat' ((refine zX.is ?_; first | refine zX.seq ?_ | (refine zX.isR (id := 0) ?_; refine zX.zV [0] [1] (by repeat' first | exact zY.nil | apply zY.p rfl) (by repeat' first | exact zW.nil | apply zW.skip) ?_; (refine zZ.m rfl rfl (z8 rfl rfl rfl (by decide)) ?_); (refine zZ.v rfl rfl (zK rfl rfl rfl (by decide)) ?_); refine zZ.nil ?_) | (refine zX.isR (id := 1) ?_; refine zX.zV [1, 2] [1] (by repeat' first | exact zY.nil | apply zY.p rfl | apply zY.ptr rfl) (by repeat' first | exact zW.nil | apply zW.boxP rfl rfl) ?_; (refine zZ.v rfl rfl (zJ rfl rfl rfl (by decide)) ?_); (refine zZ.v rfl rfl (zA rfl rfl rfl rfl rfl (by decide)) ?_); (refine zZ.v rfl rfl (a_rem rfl rfl rfl (by decide) rfl rfl (by decide)) ?_); (refine zZ.v rfl rfl (xQ rfl rfl (by rfl) rfl (by decide)) ?_); (refine zZ.v rfl rfl (zK rfl rfl rfl (by decide)) ?_); refine zZ.nil ?_) | refine zX.ret ?_))
  have e : IntKind.i64.wrap (root.tmod 2) = root % 2 := by
    have h1 : root.tmod 2 = root % 2 := Int.tmod_eq_emod_of_nonneg h0
    have h2 := Int.emod_nonneg root (show (2 : Int) ≠ 0 by decide)
    have h3 := Int.emod_lt_of_pos root (show (0 : Int) < 2 by decide)
    rw [h1]
    rcases (show root % 2 = 0 ∨ root % 2 = 1 by omega) with h | h <;> rw [h] <;> rfl
  all_goals exact ⟨by first | exact .inl rfl | exact .inr rfl, _, Sub.refl _, .p rfl (.tmp (by rw [← e]; rfl))⟩
theorem strApp_fn (d b : List Int) (s : Int) (h : d.length + b.length ≤ 1000000) : Fn Tryz.prog 83 [strV d s, .sl (byts b)] (.p (strV (d ++ b) s)) := by
  refine yI Tryz.func83 rfl Tryz.ntmps83 (Nat.le_of_ble_eq_true rfl) ?_
  repeat' (first | (refine zZ.v rfl rfl (by first | exact zJ rfl rfl rfl (by decide) | exact zA rfl rfl rfl rfl rfl (by decide) | exact zQ rfl rfl rfl (by decide)) ?_) | (refine zX.is ?_; first | refine zX.seq ?_ | (refine zX.isR (id := 0) ?_; refine zX.zV [0, 1] [2, 4] (by repeat' first | exact zY.nil | apply zY.p rfl) (by repeat' first | exact zW.nil | apply zW.skip) ?_; (refine zZ.m rfl rfl (z8 rfl rfl rfl (by decide)) ?_); (refine zZ.m rfl rfl (zC rfl (by decide) rfl (by decide)) ?_); refine zZ.nil ?_) | (refine zX.isR (id := 1) ?_; refine zX.zV [1, 2, 4] [2, 4] (by repeat' first | exact zY.nil | apply zY.p rfl | apply zY.ptr rfl) (by repeat' first | exact zW.nil | apply zW.boxP rfl rfl) ?_; (refine zZ.v rfl rfl (zJ rfl rfl rfl (by decide)) ?_); (refine zZ.v rfl rfl (zA rfl rfl rfl rfl rfl (by decide)) ?_); (refine zZ.v rfl rfl (vV rfl rfl rfl (by decide)) ?_); (refine zZ.v rfl rfl (zK rfl rfl rfl (by decide)) ?_); refine zZ.nil ?_) | (refine zX.isR (id := 2) ?_; refine zX.zV [1, 2, 4, 5] [2, 4] (by repeat' first | exact zY.nil | apply zY.p rfl | apply zY.ptr rfl) (by repeat' first | exact zW.nil | apply zW.boxP rfl rfl) ?_)))
  refine zZ.appTight (es := byts d) (bs := byts b) rfl rfl rfl rfl rfl rfl rfl rfl rfl rfl rfl rfl ?_ ?_ rfl (by decide) rfl (by decide) (by decide) (by decide) (byts_one d) (byts_one b) ?_ rfl (by decide) ?_
  · rw [wM]
  · rw [wM]
  · rw [wM, wM]
    simp only [maxLen]
    omega
  rw [show byts d ++ byts b = byts (d ++ b) by simp [byts]]
  repeat' (first | (refine zZ.is ?_; first | refine zZ.nil ?_ | refine zZ.v rfl rfl (zJ rfl rfl rfl (by decide)) ?_ | refine zZ.w rfl (by exact zB rfl rfl rfl rfl rfl (by rfl) (by exact Nat.le_of_ble_eq_true rfl) rfl rfl) ?_) | (refine zX.is ?_; first | refine zX.seq ?_ | (refine zX.isR (id := 3) ?_; refine zX.zV [2, 4] [2, 4] (by repeat' first | exact zY.nil | apply zY.ptr rfl) (by repeat' first | exact zW.nil | apply zW.boxP rfl rfl) ?_; (refine zZ.v rfl rfl (zI rfl rfl rfl (by rfl) (by rfl) rfl (by decide)) ?_); (refine zZ.w rfl (by exact zB rfl rfl rfl rfl rfl (by rfl) (by exact Nat.le_of_ble_eq_true rfl) rfl rfl) ?_); refine zZ.nil ?_) | refine zX.ret ?_))
  all_goals exact ⟨by first | exact .inl rfl | exact .inr rfl, _, Sub.refl _, .p (r := .cell 4 57) rfl (.cellN rfl rfl (by rfl) (by rfl))⟩
theorem strSync_fn (d : List Int) (s : Int) : Fn Tryz.prog 84 [strV d s] (.p (strV d d.length)) := by
  refine yI Tryz.func84 rfl Tryz.ntmps84 (Nat.le_of_ble_eq_true rfl) ?_
  repeat' ((refine zX.is ?_; first | refine zX.seq ?_ | (refine zX.isR (id := 0) ?_; refine zX.zV [0] [1, 2] (by repeat' first | exact zY.nil | apply zY.p rfl) (by repeat' first | exact zW.nil | apply zW.skip) ?_; (refine zZ.m rfl rfl (z8 rfl rfl rfl (by decide)) ?_); (refine zZ.m rfl rfl (zC rfl (by decide) rfl (by decide)) ?_); refine zZ.nil ?_) | (refine zX.isR (id := 1) ?_; refine zX.zV [1, 2] [1, 2] (by repeat' first | exact zY.nil | apply zY.ptr rfl) (by repeat' first | exact zW.nil | apply zW.boxP rfl rfl) ?_; (refine zZ.v rfl rfl (zJ rfl rfl rfl (by decide)) ?_); (refine zZ.v rfl rfl (zA rfl rfl rfl rfl rfl (by decide)) ?_); (refine zZ.v rfl rfl (vV rfl rfl rfl (by decide)) ?_); (refine zZ.v rfl rfl (zJ rfl rfl rfl (by decide)) ?_); (refine zZ.w rfl (by exact zB rfl rfl rfl rfl rfl (by rfl) (by exact Nat.le_of_ble_eq_true rfl) rfl rfl) ?_); refine zZ.nil ?_) | (refine zX.isR (id := 2) ?_; refine zX.zV [1, 2] [1, 2] (by repeat' first | exact zY.nil | apply zY.ptr rfl) (by repeat' first | exact zW.nil | apply zW.boxP rfl rfl) ?_; (refine zZ.v rfl rfl (zI rfl rfl rfl (by rfl) (by rfl) rfl (by decide)) ?_); (refine zZ.w rfl (by exact zB rfl rfl rfl rfl rfl (by rfl) (by exact Nat.le_of_ble_eq_true rfl) rfl rfl) ?_); refine zZ.nil ?_) | refine zX.ret ?_))
  all_goals exact ⟨by first | exact .inl rfl | exact .inr rfl, _, Sub.refl _, .p (r := .cell 2 57) rfl (.cellN rfl rfl (by rfl) (by rfl))⟩
theorem cloneS_fn (l : List (List Int × Int)) (h0 : 1 ≤ l.length) (h1 : l.length ≤ 1000000) : Fn Tryz.prog 98 [.sl (strs l)] (.row 57 2 (strs l).length (flat (strs l))) := by
  have g1 := strs_cells l
  have g2 : strs l ≠ [] := fun e => by have := congrArg List.length e; rw [strs_len, List.length_nil] at this; omega
  have g3 := grow_lim (strs l).length 32 (by rw [strs_len]; exact h1) (by decide)
  refine yI Tryz.func98 rfl Tryz.ntmps98 (Nat.le_of_ble_eq_true rfl) ?_
  repeat' ((refine zX.is ?_; first | refine zX.seq ?_ | (refine zX.isR (id := 0) ?_; refine zX.zV [0] [2, 5] (by repeat' first | exact zY.nil | apply zY.p rfl) (by repeat' first | exact zW.nil | apply zW.skip) ?_; (refine zZ.v rfl rfl (zK rfl rfl rfl (by decide)) ?_); refine zZ.nil ?_) | (refine zX.isR (id := 1) ?_; refine zX.zV [0, 2] [2, 5] (by repeat' first | exact zY.nil | apply zY.p rfl) (by repeat' first | exact zW.nil | apply zW.skip) ?_; (refine zZ.v rfl rfl (zQ rfl rfl rfl (by decide)) ?_); (refine zZ.v rfl rfl (by exact r_eqlNil rfl rfl rfl (by exact g2) (by exact bF (by decide)) rfl (by decide)) ?_); refine zZ.nil ?_) | (refine zX.isR (id := 3) ?_; refine zX.zV [0, 2] [2, 5] (by repeat' first | exact zY.nil | apply zY.p rfl) (by repeat' first | exact zW.nil | apply zW.skip) ?_; (refine zZ.m rfl rfl (w_build0V rfl rfl (by decide)) ?_); (refine zZ.v rfl rfl (zQ rfl rfl rfl (by decide)) ?_); (refine zZ.w rfl (by exact w_appV rfl rfl rfl rfl (by exact g1) (by exact g3) rfl (by decide) rfl (by decide)) ?_); (refine zZ.v rfl rfl (y5 rfl rfl rfl (by decide)) ?_); refine zZ.nil ?_) | refine zX.yG rfl (by with_reducible rfl) ?_ | refine zX.skip ?_ | refine zX.ret ?_))
  all_goals exact ⟨by first | exact .inl rfl | exact .inr rfl, givesRowV rfl rfl rfl⟩
end Go.Proofs.YtlfkofkdigmnpaaGreatDoor
/- Disks: a stream turned: contracts. -/
namespace Go.Proofs.YtlfkofkdigmnpaaGreatDoor
set_option maxRecDepth 100000
set_option maxHeartbeats 16000000
open Go Go.RowKit
set_option linter.unusedSimpArgs false
attribute [local irreducible] zZ zX Step zG Sub zP zM Fn
theorem appendC_fn (d bs : List Int) (s : Int) (h : d.length + bs.length ≤ 1000000) : FnE Tryz.prog 82 ([strV d s].map AV.p ++ [.ptr 1000 0]) [.box 31 [.p (.sl (byts bs))]] (.ret (.p (strV (d ++ bs) s))) [.box 31 [.p (.sl (byts bs))]] := by
  have c := strApp_fn d bs s h
  refine yS Tryz.func82 rfl Tryz.ntmps82 (Nat.le_of_ble_eq_true rfl) (by decide) ?_
  repeat' ((refine zX.is ?_; first | refine zX.seq ?_ | (refine zX.isR (id := 0) ?_; refine zX.zV [0, 1] [2, 3, 1000] (by repeat' first | exact zY.nil | apply zY.p rfl | apply zY.ptr rfl) (by repeat' first | exact zW.nil | apply zW.boxP rfl rfl | apply zW.skip) ?_; (refine zZ.m rfl rfl (z8 rfl rfl rfl (by decide)) ?_); (refine zZ.m rfl rfl (zC rfl (by decide) rfl (by decide)) ?_); refine zZ.nil ?_) | (refine zX.isR (id := 1) ?_; refine zX.zV [1, 2, 3] [2, 3, 1000] (by repeat' first | exact zY.nil | apply zY.ptr rfl) (by repeat' first | exact zW.nil | apply zW.boxP rfl rfl) ?_; (refine zZ.v rfl rfl (zI rfl rfl rfl (by rfl) (by rfl) rfl (by decide)) ?_); (refine zZ.v rfl rfl (zA rfl rfl rfl rfl rfl (by decide)) ?_); (refine zZ.v rfl rfl (by exact zL (c) rfl rfl rfl (by decide)) ?_); (refine zZ.w rfl (by exact zB rfl rfl rfl rfl rfl (by rfl) (by exact Nat.le_of_ble_eq_true rfl) rfl rfl) ?_); refine zZ.nil ?_) | refine zX.ret ?_))
  all_goals exact ⟨(by exact .inl rfl), _, Sub.refl _, .p (r := .cell 3 57) rfl (.cellN rfl rfl (by rfl) (by rfl)), yV (by repeat' first | exact trivial | rfl | constructor)⟩
theorem is0_fn (root : Int) (r0 r1 : List (List Int × Int)) (i : Nat) (hi : i < r0.length) : Fn Tryz.prog 85 [wR root r0 r1, .val (.int .i64 0), .val (.int .i64 i)] (.p (.val (.bool true))) := by
  have g1 : decide ((0 : Int) ≤ i) = true := decide_eq_true (by omega)
  have g2 : decide ((i : Int) < (strs r0).length) = true := decide_eq_true (by rw [strs_len]; omega)
  refine yI Tryz.func85 rfl Tryz.ntmps85 (Nat.le_of_ble_eq_true rfl) ?_
  repeat' ((refine zX.is ?_; first | refine zX.seq ?_ | (refine zX.isR (id := 0) ?_; refine zX.zV [0, 1, 2] [3] (by repeat' first | exact zY.nil | apply zY.p rfl) (by repeat' first | exact zW.nil | apply zW.skip) ?_; (refine zZ.m rfl rfl (z8 rfl rfl rfl (by decide)) ?_); (refine zZ.v rfl rfl (zK rfl rfl rfl (by decide)) ?_); refine zZ.nil ?_) | (refine zX.isR (id := 1) ?_; refine zX.zV [1, 2, 3, 6] [3] (by repeat' first | exact zY.nil | apply zY.p rfl | apply zY.ptr rfl) (by repeat' first | exact zW.nil | apply zW.boxP rfl rfl) ?_; all_goals (refine zZ.v rfl rfl (zQ rfl rfl rfl (by decide)) ?_); all_goals (refine zZ.v rfl rfl (by exact r_geq rfl rfl rfl (by exact g1) rfl (by decide)) ?_); all_goals (refine zZ.v rfl rfl (zQ rfl rfl rfl (by decide)) ?_); all_goals (refine zZ.gY rfl rfl (by decide) rfl (by assumption) rfl (by decide) (zQ rfl rfl rfl (by decide)) ?_); all_goals (refine zZ.gY rfl rfl (by decide) rfl (by assumption) rfl (by decide) (by exact yL rfl rfl rfl (by exact g1) rfl (by decide)) ?_); all_goals (refine zZ.v rfl rfl (by exact zT rfl rfl (by assumption) rfl rfl (by decide)) ?_); all_goals (refine zZ.v rfl rfl (zQ rfl rfl rfl (by decide)) ?_); all_goals (refine zZ.gY rfl rfl (by decide) rfl (by assumption) rfl (by decide) (zQ rfl rfl rfl (by decide)) ?_); all_goals (refine zZ.gY rfl rfl (by decide) rfl (by assumption) rfl (by decide) (by exact r_geq rfl rfl rfl (by exact g1) rfl (by decide)) ?_); all_goals (refine zZ.v rfl rfl (by exact zT rfl rfl (by assumption) rfl rfl (by decide)) ?_); all_goals (refine zZ.v rfl rfl (zQ rfl rfl rfl (by decide)) ?_); all_goals (refine zZ.gY rfl rfl (by decide) rfl (by assumption) rfl (by decide) (zQ rfl rfl rfl (by decide)) ?_); all_goals (refine zZ.gY rfl rfl (by decide) rfl (by assumption) rfl (by decide) (zQ rfl rfl rfl (by decide)) ?_); all_goals (refine zZ.gY rfl rfl (by decide) rfl (by assumption) rfl (by decide) (zJ rfl rfl rfl (by decide)) ?_); all_goals (refine zZ.gY rfl rfl (by decide) rfl (by assumption) rfl (by decide) (by exact wW rfl rfl rfl (by omega) rfl (by decide)) ?_); all_goals (refine zZ.gY rfl rfl (by decide) rfl (by assumption) rfl (by decide) (zA rfl rfl rfl (by rfl) rfl (by decide)) ?_); all_goals (refine zZ.gY rfl rfl (by decide) rfl (by assumption) rfl (by decide) (xE rfl rfl rfl (by decide)) ?_); all_goals (refine zZ.gY rfl rfl (by decide) rfl (by assumption) rfl (by decide) (by exact yL rfl rfl rfl (by exact g2) rfl (by decide)) ?_); all_goals (refine zZ.v rfl rfl (by exact zT rfl rfl (by assumption) rfl rfl (by decide)) ?_); all_goals (refine zZ.v rfl rfl (zK rfl rfl rfl (by decide)) ?_); all_goals (refine zZ.nil ?_)) | refine zX.ret ?_))
  all_goals exact ⟨by first | exact .inl rfl | exact .inr rfl, _, Sub.refl _, .p rfl (.tmp rfl)⟩
theorem turnA0_fn (root : Int) (r0 r1 : List (List Int × Int)) (i : Nat) (d : List Int) (s : Int) (bs : List Int) (hi : r0[i]? = some (d, s)) (h1 : r0.length ≤ 1000000) (h2 : d.length + bs.length ≤ 1000000) :
    FnE Tryz.prog 81 [.p (wR root r0 r1), .p (.val (.int .i64 0)), .p (.val (.int .i64 i)), .clo 82 [1000]] [.box 31 [.p (.sl (byts bs))]] (.ret (.tup [.p (wR root (r0.set i (d ++ bs, s)) r1), .p (.val (.int .i64 0))])) [.box 31 [.p (.sl (byts bs))]] := by
  have hlt : i < r0.length := (List.getElem?_eq_some_iff.1 hi).1
  have g1 := strs_cells r0
  have g3 := strs_at hi
  have g6 : (0 : Int) ≤ (i : Int) ∧ (i : Int) < (strs r0).length := by rw [strs_len]; omega
  have g7 : (i : Int).toNat < (strs r0).length := by rw [strs_len]; omega
  have c0 := is0_fn root r0 r1 i hlt
  have c1 := cloneS_fn r0 (by omega) h1
  have e : wR root (r0.set i (d ++ bs, s)) r1 = .agg [.val (.int .u64 root), .sl ((strs r0).set (i : Int).toNat (strV (d ++ bs) s)), .sl (strs r1)] := by simp [wR, strs_set]
  have c2 := appendC_fn d bs s h2
  refine yS Tryz.func81 rfl Tryz.ntmps81 (Nat.le_of_ble_eq_true rfl) (by decide) ?_
  repeat' ((refine zX.is ?_; first | refine zX.seq ?_ | (refine zX.isR (id := 0) ?_; refine zX.zV [0, 1, 2, 3] [4, 8, 13, 21, 37, 1000] (by repeat' first | exact zY.nil | apply zY.p rfl | apply zY.clo rfl) (by repeat' first | exact zW.nil | apply zW.boxP rfl rfl | apply zW.skip) ?_; (refine zZ.m rfl rfl (z8 rfl rfl rfl (by decide)) ?_); (refine zZ.m rfl rfl (zC rfl (by decide) rfl (by decide)) ?_); (refine zZ.v rfl rfl (zK rfl rfl rfl (by decide)) ?_); refine zZ.nil ?_) | (refine zX.isR (id := 1) ?_; refine zX.zV [1, 2, 3, 4, 8, 9] [4, 8, 13, 21, 37, 1000] (by repeat' first | exact zY.nil | apply zY.p rfl | apply zY.ptr rfl | apply zY.clo rfl) (by repeat' first | exact zW.nil | apply zW.boxP rfl rfl | apply zW.skip) ?_; (refine zZ.v rfl rfl (zI rfl rfl rfl (by rfl) (by rfl) rfl (by decide)) ?_); (refine zZ.v rfl rfl (zQ rfl rfl rfl (by decide)) ?_); (refine zZ.v rfl rfl (zQ rfl rfl rfl (by decide)) ?_); (refine zZ.v rfl rfl (by exact zL (c0) rfl rfl rfl (by decide)) ?_); (refine zZ.v rfl rfl (by exact xL rfl rfl (by exact bF (by decide)) rfl (by decide)) ?_); refine zZ.nil ?_) | (refine zX.isR (id := 3) ?_; refine zX.zV [1, 2, 3, 4, 8, 9] [4, 8, 13, 21, 37, 1000] (by repeat' first | exact zY.nil | apply zY.p rfl | apply zY.ptr rfl | apply zY.clo rfl) (by repeat' first | exact zW.nil | apply zW.boxP rfl rfl | apply zW.skip) ?_; (refine zZ.v rfl rfl (zQ rfl rfl rfl (by decide)) ?_); (refine zZ.v rfl rfl (zQ rfl rfl rfl (by decide)) ?_); (refine zZ.v rfl rfl (zJ rfl rfl rfl (by decide)) ?_); (refine zZ.v rfl rfl (by exact wW rfl rfl rfl (by omega) rfl (by decide)) ?_); (refine zZ.v rfl rfl (zA rfl rfl rfl (by rfl) rfl (by decide)) ?_); (refine zZ.m rfl rfl (by exact w_callRowV c1 rfl rfl rfl (by decide)) ?_); (refine zZ.v rfl rfl (zJ rfl rfl rfl (by decide)) ?_); (refine zZ.v rfl rfl (by exact wW rfl rfl rfl (by omega) rfl (by decide)) ?_); (refine zZ.w rfl (by exact w_storeO rfl rfl rfl rfl rfl rfl (by exact Nat.le_of_ble_eq_true rfl) rfl rfl) ?_); refine zZ.nil ?_) | (refine zX.isR (id := 4) ?_; refine zX.yA [1, 2, 3, 4, 8, 9] [4, 8, 13, 21, 37, 1000] (by repeat' first | exact zY.nil | apply zY.p rfl | apply zY.ptr rfl | apply zY.clo rfl) (by repeat' first | exact zW.nil | apply zW.boxP rfl rfl | apply zW.some rfl | apply zW.skip) (zX.draws ?_); all_goals (refine Draws.v rfl rfl (zQ rfl rfl rfl (by decide)) ?_); all_goals (refine Draws.v rfl rfl (zJ rfl rfl rfl (by decide)) ?_); all_goals (refine Draws.v rfl rfl (by exact wW rfl rfl rfl (by omega) rfl (by decide)) ?_); all_goals (refine Draws.v rfl rfl (w_loadO rfl rfl rfl rfl rfl (by decide)) ?_); all_goals (refine Draws.v rfl rfl (zQ rfl rfl rfl (by decide)) ?_); all_goals (refine Draws.v rfl rfl (zU rfl rfl rfl (by decide)) ?_); all_goals (refine Draws.v rfl rfl (zQ rfl rfl rfl (by decide)) ?_); all_goals (refine Draws.v rfl rfl (zJ rfl rfl rfl (by decide)) ?_); all_goals (refine Draws.v rfl rfl (by exact wW rfl rfl rfl (by omega) rfl (by decide)) ?_); all_goals (refine Draws.v rfl rfl (w_loadO rfl rfl rfl rfl rfl (by decide)) ?_); all_goals (refine Draws.v rfl rfl (zQ rfl rfl rfl (by decide)) ?_); all_goals (refine Draws.v rfl rfl (by exact w_indexV rfl rfl rfl rfl (by exact g6) rfl (by decide)) ?_); all_goals (refine Draws.v rfl rfl (by exact w_loadVN rfl rfl rfl (by exact g1) rfl (by exact g3) rfl (by decide)) ?_); all_goals (refine Draws.v rfl rfl (by exact w_callClo (c2) rfl rfl rfl rfl rfl rfl rfl (by decide)) ?_); all_goals (refine Draws.v rfl rfl (by exact w_indexV rfl rfl rfl rfl (by exact g6) rfl (by decide)) ?_); all_goals ((refine Draws.done (by kernel_rfl) (by kernel_rfl) (by kernel_rfl) ?_; refine zP.w rfl (by exact w_storeV rfl rfl rfl rfl rfl (by exact g1) (by rfl) rfl (by exact g7) rfl) ?_)); all_goals (refine zP.nil ?_)) | (refine zX.isR (id := 5) ?_; refine zX.sub (sub_frz (id := 21) rfl) ?_; refine zX.zV [4, 8, 9] [4, 8, 13, 21, 37, 1000] (by repeat' first | exact zY.nil | apply zY.p rfl | apply zY.ptr rfl) (by repeat' first | exact zW.nil | apply zW.boxP rfl rfl | apply zW.skip) ?_; (refine zZ.v rfl rfl (zI rfl rfl rfl (by rfl) (by rfl) rfl (by decide)) ?_); (refine zZ.w rfl (by exact zB rfl rfl rfl rfl rfl (by rfl) (by exact Nat.le_of_ble_eq_true rfl) rfl rfl) ?_); (refine zZ.v rfl rfl (zK rfl rfl rfl (by decide)) ?_); refine zZ.nil ?_) | refine zX.yG rfl (by with_reducible rfl) ?_ | refine zX.skip ?_ | refine zX.ret ?_))
  rw [e]
  all_goals exact ⟨(by exact .inl rfl), _, Sub.refl _, .tup (rs := [.cell 8 50, .tmp 9]) (l := [.agg [.val (.int .u64 root), .sl ((strs r0).set (i : Int).toNat (strV (d ++ bs) s)), .sl (strs r1)], .val (.int .i64 0)]) rfl (by decide) (.cons (.cellN rfl rfl (by rfl) (by rfl)) (.cons (.tmp rfl) .nil)), yV (by repeat' first | exact trivial | rfl | constructor)⟩
theorem turnS0_fn (root : Int) (r0 r1 : List (List Int × Int)) (i : Nat) (d : List Int) (s : Int) (hi : r0[i]? = some (d, s)) (h1 : r0.length ≤ 1000000) :
    Fn Tryz.prog 81 [wR root r0 r1, .val (.int .i64 0), .val (.int .i64 i), .val (funV 84)] (.tup [wR root (r0.set i (d, d.length)) r1, .val (.int .i64 0)]) := by
  have hlt : i < r0.length := (List.getElem?_eq_some_iff.1 hi).1
  have g1 := strs_cells r0
  have g3 := strs_at hi
  have g6 : (0 : Int) ≤ (i : Int) ∧ (i : Int) < (strs r0).length := by rw [strs_len]; omega
  have g7 : (i : Int).toNat < (strs r0).length := by rw [strs_len]; omega
  have c0 := is0_fn root r0 r1 i hlt
  have c1 := cloneS_fn r0 (by omega) h1
  have e : wR root (r0.set i (d, d.length)) r1 = .agg [.val (.int .u64 root), .sl ((strs r0).set (i : Int).toNat (strV d d.length)), .sl (strs r1)] := by simp [wR, strs_set]
  have c2 := strSync_fn d s
  refine yI Tryz.func81 rfl Tryz.ntmps81 (Nat.le_of_ble_eq_true rfl) ?_
  repeat' ((refine zX.is ?_; first | refine zX.seq ?_ | (refine zX.isR (id := 0) ?_; refine zX.zV [0, 1, 2, 3] [4, 8, 13, 21, 37] (by repeat' first | exact zY.nil | apply zY.p rfl) (by repeat' first | exact zW.nil | apply zW.skip) ?_; (refine zZ.m rfl rfl (z8 rfl rfl rfl (by decide)) ?_); (refine zZ.m rfl rfl (zC rfl (by decide) rfl (by decide)) ?_); (refine zZ.v rfl rfl (zK rfl rfl rfl (by decide)) ?_); refine zZ.nil ?_) | (refine zX.isR (id := 1) ?_; refine zX.zV [1, 2, 3, 4, 8, 9] [4, 8, 13, 21, 37] (by repeat' first | exact zY.nil | apply zY.p rfl | apply zY.ptr rfl) (by repeat' first | exact zW.nil | apply zW.boxP rfl rfl | apply zW.skip) ?_; (refine zZ.v rfl rfl (zI rfl rfl rfl (by rfl) (by rfl) rfl (by decide)) ?_); (refine zZ.v rfl rfl (zQ rfl rfl rfl (by decide)) ?_); (refine zZ.v rfl rfl (zQ rfl rfl rfl (by decide)) ?_); (refine zZ.v rfl rfl (by exact zL (c0) rfl rfl rfl (by decide)) ?_); (refine zZ.v rfl rfl (by exact xL rfl rfl (by exact bF (by decide)) rfl (by decide)) ?_); refine zZ.nil ?_) | (refine zX.isR (id := 3) ?_; refine zX.zV [1, 2, 3, 4, 8, 9] [4, 8, 13, 21, 37] (by repeat' first | exact zY.nil | apply zY.p rfl | apply zY.ptr rfl) (by repeat' first | exact zW.nil | apply zW.boxP rfl rfl | apply zW.skip) ?_; (refine zZ.v rfl rfl (zQ rfl rfl rfl (by decide)) ?_); (refine zZ.v rfl rfl (zQ rfl rfl rfl (by decide)) ?_); (refine zZ.v rfl rfl (zJ rfl rfl rfl (by decide)) ?_); (refine zZ.v rfl rfl (by exact wW rfl rfl rfl (by omega) rfl (by decide)) ?_); (refine zZ.v rfl rfl (zA rfl rfl rfl (by rfl) rfl (by decide)) ?_); (refine zZ.m rfl rfl (by exact w_callRowV c1 rfl rfl rfl (by decide)) ?_); (refine zZ.v rfl rfl (zJ rfl rfl rfl (by decide)) ?_); (refine zZ.v rfl rfl (by exact wW rfl rfl rfl (by omega) rfl (by decide)) ?_); (refine zZ.w rfl (by exact w_storeO rfl rfl rfl rfl rfl rfl (by exact Nat.le_of_ble_eq_true rfl) rfl rfl) ?_); refine zZ.nil ?_) | (refine zX.isR (id := 4) ?_; refine zX.yA [1, 2, 3, 4, 8, 9] [4, 8, 13, 21, 37] (by repeat' first | exact zY.nil | apply zY.p rfl | apply zY.ptr rfl) (by repeat' first | exact zW.nil | apply zW.boxP rfl rfl | apply zW.some rfl | apply zW.skip) (zX.draws ?_); all_goals (refine Draws.v rfl rfl (zQ rfl rfl rfl (by decide)) ?_); all_goals (refine Draws.v rfl rfl (zJ rfl rfl rfl (by decide)) ?_); all_goals (refine Draws.v rfl rfl (by exact wW rfl rfl rfl (by omega) rfl (by decide)) ?_); all_goals (refine Draws.v rfl rfl (w_loadO rfl rfl rfl rfl rfl (by decide)) ?_); all_goals (refine Draws.v rfl rfl (zQ rfl rfl rfl (by decide)) ?_); all_goals (refine Draws.v rfl rfl (zQ rfl rfl rfl (by decide)) ?_); all_goals (refine Draws.v rfl rfl (zQ rfl rfl rfl (by decide)) ?_); all_goals (refine Draws.v rfl rfl (zJ rfl rfl rfl (by decide)) ?_); all_goals (refine Draws.v rfl rfl (by exact wW rfl rfl rfl (by omega) rfl (by decide)) ?_); all_goals (refine Draws.v rfl rfl (w_loadO rfl rfl rfl rfl rfl (by decide)) ?_); all_goals (refine Draws.v rfl rfl (zQ rfl rfl rfl (by decide)) ?_); all_goals (refine Draws.v rfl rfl (by exact w_indexV rfl rfl rfl rfl (by exact g6) rfl (by decide)) ?_); all_goals (refine Draws.v rfl rfl (by exact w_loadVN rfl rfl rfl (by exact g1) rfl (by exact g3) rfl (by decide)) ?_); all_goals (refine Draws.v rfl rfl (by exact w_callFV (c2) rfl rfl rfl rfl (by decide)) ?_); all_goals (refine Draws.v rfl rfl (by exact w_indexV rfl rfl rfl rfl (by exact g6) rfl (by decide)) ?_); all_goals ((refine Draws.done (by kernel_rfl) (by kernel_rfl) (by kernel_rfl) ?_; refine zP.w rfl (by exact w_storeV rfl rfl rfl rfl rfl (by exact g1) (by rfl) rfl (by exact g7) rfl) ?_)); all_goals (refine zP.nil ?_)) | (refine zX.isR (id := 5) ?_; refine zX.sub (sub_frz (id := 21) rfl) ?_; refine zX.zV [4, 8, 9] [4, 8, 13, 21, 37] (by repeat' first | exact zY.nil | apply zY.p rfl | apply zY.ptr rfl) (by repeat' first | exact zW.nil | apply zW.boxP rfl rfl | apply zW.skip) ?_; (refine zZ.v rfl rfl (zI rfl rfl rfl (by rfl) (by rfl) rfl (by decide)) ?_); (refine zZ.w rfl (by exact zB rfl rfl rfl rfl rfl (by rfl) (by exact Nat.le_of_ble_eq_true rfl) rfl rfl) ?_); (refine zZ.v rfl rfl (zK rfl rfl rfl (by decide)) ?_); refine zZ.nil ?_) | refine zX.yG rfl (by with_reducible rfl) ?_ | refine zX.skip ?_ | refine zX.ret ?_))
  rw [e]
  all_goals exact ⟨(by exact .inl rfl), _, Sub.refl _, .tup (rs := [.cell 8 50, .tmp 9]) (l := [.agg [.val (.int .u64 root), .sl ((strs r0).set (i : Int).toNat (strV d d.length)), .sl (strs r1)], .val (.int .i64 0)]) rfl (by decide) (.cons (.cellN rfl rfl (by rfl) (by rfl)) (.cons (.tmp rfl) .nil))⟩
theorem diskApp0_fn (root : Int) (r0 r1 : List (List Int × Int)) (i : Nat) (d : List Int) (s : Int) (bs : List Int) (hi : r0[i]? = some (d, s)) (h1 : r0.length ≤ 1000000) (h2 : d.length + bs.length ≤ 1000000) :
    Fn Tryz.prog 71 [wR root r0 r1, .val (.int .i64 0), .val (.int .i64 i), .sl (byts bs)] (.tup [wR root (r0.set i (d ++ bs, s)) r1, .val (.int .i64 0)]) := by
  refine yI Tryz.func71 rfl Tryz.ntmps71 (Nat.le_of_ble_eq_true rfl) ?_
  repeat' ((refine zX.is ?_; first | refine zX.seq ?_ | (refine zX.isR (id := 0) ?_; refine zX.zV [0, 1, 2, 3] [4, 7, 8] (by repeat' first | exact zY.nil | apply zY.p rfl) (by repeat' first | exact zW.nil | apply zW.skip) ?_; (refine zZ.m rfl rfl (z8 rfl rfl rfl (by decide)) ?_); (refine zZ.m rfl rfl (w_boxS rfl rfl rfl (by decide)) ?_); (refine zZ.m rfl rfl (zC rfl (by decide) rfl (by decide)) ?_); (refine zZ.v rfl rfl (zK rfl rfl rfl (by decide)) ?_); refine zZ.nil ?_) | (refine zX.isR (id := 1) ?_; refine zX.zV [1, 2, 4, 7, 8, 9] [4, 7, 8] (by repeat' first | exact zY.nil | apply zY.p rfl | apply zY.ptr rfl) (by repeat' first | exact zW.nil | apply zW.boxP rfl rfl) ?_; (refine zZ.v rfl rfl (zI rfl rfl rfl (by rfl) (by rfl) rfl (by decide)) ?_); (refine zZ.v rfl rfl (zQ rfl rfl rfl (by decide)) ?_); (refine zZ.v rfl rfl (zQ rfl rfl rfl (by decide)) ?_); (refine zZ.v rfl rfl (vJ rfl (by rfl) rfl (by decide)) ?_); (refine zZ.ofT rfl (zM.xA [7] (turnA0_fn root r0 r1 i d s bs hi h1 h2) rfl (by decide) (zH rfl) (by rfl) (zD (by decide) rfl (by repeat' first | exact trivial | rfl | constructor)) rfl rfl rfl rfl ?_)); (refine zZ.v rfl rfl (zF rfl rfl rfl rfl (by decide)) ?_); (refine zZ.v rfl rfl (zF rfl rfl rfl rfl (by decide)) ?_); (refine zZ.w rfl (by exact zB rfl rfl rfl rfl rfl (by rfl) (by exact Nat.le_of_ble_eq_true rfl) rfl rfl) ?_); (refine zZ.v rfl rfl (zK rfl rfl rfl (by decide)) ?_); refine zZ.nil ?_) | refine zX.ret ?_))
  all_goals exact ⟨(by exact .inl rfl), _, Sub.refl _, .tup (rs := [.cell 8 50, .tmp 9]) (l := [wR root (r0.set i (d ++ bs, s)) r1, .val (.int .i64 0)]) rfl (by decide) (.cons (.cellN rfl rfl (by rfl) (by rfl)) (.cons (.tmp rfl) .nil))⟩
theorem diskSync0_fn (root : Int) (r0 r1 : List (List Int × Int)) (i : Nat) (d : List Int) (s : Int) (hi : r0[i]? = some (d, s)) (h1 : r0.length ≤ 1000000) :
    Fn Tryz.prog 72 [wR root r0 r1, .val (.int .i64 0), .val (.int .i64 i)] (.tup [wR root (r0.set i (d, d.length)) r1, .val (.int .i64 0)]) := by
  refine yI Tryz.func72 rfl Tryz.ntmps72 (Nat.le_of_ble_eq_true rfl) ?_
  repeat' ((refine zX.is ?_; first | refine zX.seq ?_ | (refine zX.isR (id := 0) ?_; refine zX.zV [0, 1, 2] [3, 6] (by repeat' first | exact zY.nil | apply zY.p rfl) (by repeat' first | exact zW.nil | apply zW.skip) ?_; (refine zZ.m rfl rfl (z8 rfl rfl rfl (by decide)) ?_); (refine zZ.m rfl rfl (zC rfl (by decide) rfl (by decide)) ?_); (refine zZ.v rfl rfl (zK rfl rfl rfl (by decide)) ?_); refine zZ.nil ?_) | (refine zX.isR (id := 1) ?_; refine zX.zV [1, 2, 3, 6, 7] [3, 6] (by repeat' first | exact zY.nil | apply zY.p rfl | apply zY.ptr rfl) (by repeat' first | exact zW.nil | apply zW.boxP rfl rfl) ?_; (refine zZ.v rfl rfl (zI rfl rfl rfl (by rfl) (by rfl) rfl (by decide)) ?_); (refine zZ.v rfl rfl (zQ rfl rfl rfl (by decide)) ?_); (refine zZ.v rfl rfl (zQ rfl rfl rfl (by decide)) ?_); (refine zZ.v rfl rfl (by exact yU (turnS0_fn root r0 r1 i d s hi h1) rfl rfl rfl (by decide)) ?_); (refine zZ.v rfl rfl (zF rfl rfl rfl rfl (by decide)) ?_); (refine zZ.v rfl rfl (zF rfl rfl rfl rfl (by decide)) ?_); (refine zZ.w rfl (by exact zB rfl rfl rfl rfl rfl (by rfl) (by exact Nat.le_of_ble_eq_true rfl) rfl rfl) ?_); (refine zZ.v rfl rfl (zK rfl rfl rfl (by decide)) ?_); refine zZ.nil ?_) | refine zX.ret ?_))
  all_goals exact ⟨(by exact .inl rfl), _, Sub.refl _, .tup (rs := [.cell 6 50, .tmp 7]) (l := [wR root (r0.set i (d, d.length)) r1, .val (.int .i64 0)]) rfl (by decide) (.cons (.cellN rfl rfl (by rfl) (by rfl)) (.cons (.tmp rfl) .nil))⟩
end Go.Proofs.YtlfkofkdigmnpaaGreatDoor
