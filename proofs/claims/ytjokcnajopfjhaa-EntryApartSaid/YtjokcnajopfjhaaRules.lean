/- The rules of the walk over abstract frames, operation by operation. Generic over the program. -/
import Derived.Test.YtjokcnajopfjhaaDraw
namespace Go.Proofs.Ytjokcnajopfjhaa
open Go Go.RowKit

section
variable {P : Program} {n : Nat} {o : Oper} {S : AS} {d : Nat}

/-- An operation that yields a value and turns nothing that was there. -/
theorem AStep.pure {bs : List Nat} {av : AV} (hd : o.dst = some d) (hn : d < n)
    (h : ∀ (S2 : AS), (∀ x ∈ o.op.operands.toList, S2.get x = S.get x) → (∀ id ∈ bs, S2.blk id = S.blk id) → ∀ (M : Nat → Prop) (w0 : World) (ρ : Nat → Value) (a : Act) (w : World), Sat M n w0 S2 ρ a w →
      ∃ v w', (execOp a.eval o).run P w = .ok (.value v) w' ∧ Below w.heap.size w w' ∧ RepA (Mut M S2 ρ) ρ w' av v) : AStep P n o S bs av none := by
  intro S2 hg hb M w0 ρ a w K Q hs hK
  obtain ⟨v, w', hr, hbw, hrep⟩ := h S2 hg hb M w0 ρ a w hs
  unfold Oper.wp
  rw [hr]
  show K (a.put o.dst v) w'
  rw [hd] at hK ⊢
  exact hK ρ _ w' ((hs.ext hbw).put hn hrep)

/-- An operation that makes a block. -/
theorem AStep.made {bs : List Nat} {av : AV} {b : Blk} (hd : o.dst = some d) (hn : d < n)
    (h : ∀ (S2 : AS), (∀ x ∈ o.op.operands.toList, S2.get x = S.get x) → (∀ id ∈ bs, S2.blk id = S.blk id) → ∀ (M : Nat → Prop) (w0 : World) (ρ : Nat → Value) (a : Act) (w : World), Sat M n w0 S2 ρ a w →
      ∃ v w', (execOp a.eval o).run P w = .ok (.value v) w' ∧ w.grownBy w' none ∧ (∀ k, blkOf v = some k → w.heap.size ≤ k) ∧
        BlkOK (fun k => Mut M S2 ρ k ∨ blkOf v = some k) w0.heap.size ρ w' v b ∧ (av = .own d ∨ (av = .ptr d 0 ∧ ∃ g, v = .pointer (some ⟨g, 0, none⟩)))) : AStep P n o S bs av (some b) := by
  intro S2 hg hb M w0 ρ a w K Q hs hK
  obtain ⟨v, w', hr, hgr, hnew, hok, hav⟩ := h S2 hg hb M w0 ρ a w hs
  unfold Oper.wp
  rw [hr]
  show K (a.put o.dst v) w'
  rw [hd] at hK ⊢
  have h1 := hs.change d b v none hgr (fun k hk => by cases hk) (fun k hk => .inl (hnew k hk)) hok
  refine hK (upd ρ d v) _ w' (h1.put hn ?_)
  have e : upd ρ d v d = v := by simp [upd]
  rcases hav with rfl | ⟨rfl, g, rfl⟩
  · have := RepA.own (M := Mut M (S2.create d b) (upd ρ d v)) (ρ := upd ρ d v) (w := w') d
    rw [e] at this
    exact this
  · exact .ptr d 0 g (by rw [e]; rfl)

/-! ### Copies -/
theorem a_move {x : Operand} (ho : o.op = .move x ∨ o.op = .assign x) (hd : o.dst = some d) (hn : d < n) : AStep P n o S [] (S.get x) none :=
  AStep.pure hd hn fun S2 hg _ M w0 ρ a w hs => by
    have hx : S2.get x = S.get x := by rcases ho with ho | ho <;> exact hg x (by rw [ho]; simp [Op.operands])
    refine ⟨a.eval x, w, ?_, Below.refl _ _, ?_⟩
    · unfold execOp; rcases ho with ho | ho <;> rw [ho] <;> rfl
    · rw [← hx]; exact hs.rep x

theorem a_pick {c x y : Operand} {t : Bool} (ho : o.op = .pick c x y) (hc : S.get c = .p (.val (.bool t))) (hd : o.dst = some d) (hn : d < n) : AStep P n o S [] (if t then S.get x else S.get y) none :=
  AStep.pure hd hn fun S2 hg _ M w0 ρ a w hs => by
    have h1 : S2.get c = S.get c := hg c (by rw [ho]; simp [Op.operands])
    have h2 : S2.get x = S.get x := hg x (by rw [ho]; simp [Op.operands])
    have h3 : S2.get y = S.get y := hg y (by rw [ho]; simp [Op.operands])
    have hv := hs.val (h1.trans hc)
    refine ⟨if t then a.eval x else a.eval y, w, ?_, Below.refl _ _, ?_⟩
    · unfold execOp
      rw [ho]
      simp only [hv]
      cases t <;> rfl
    · cases t
      · rw [← h3]; exact hs.rep y
      · rw [← h2]; exact hs.rep x

/-! ### Operations on numbers, bools, strings, whatever the world -/
theorem a_binOp {op : BinOp} {xt yt : TypeId} {x y : Operand} {u v r : Value} (ho : o.op = .binOp op xt x y yt) (hx : S.get x = .p (.val u)) (hy : S.get y = .p (.val v)) (hd : o.dst = some d) (hn : d < n)
    (h : ∀ w, Sem.run P (do eqGuard op xt x y u v; binOp op xt u v) w = .ok r w) : AStep P n o S [] (.p (.val r)) none :=
  AStep.pure hd hn fun S2 hg _ M w0 ρ a w hs => by
    have h1 := hs.val ((hg x (by rw [ho]; simp [Op.operands])).trans hx)
    have h2 := hs.val ((hg y (by rw [ho]; simp [Op.operands])).trans hy)
    refine ⟨r, w, ?_, Below.refl _ _, .p (.val r)⟩
    unfold execOp
    rw [ho]
    simp only [h1, h2]
    have := h w
    simp only [Sem.run_bind] at this ⊢
    rw [this]
    rfl

theorem a_unOp {op : UnOp} {xt : TypeId} {x : Operand} {u r : Value} (ho : o.op = .unOp op xt x) (hx : S.get x = .p (.val u)) (hd : o.dst = some d) (hn : d < n)
    (h : ∀ w, Sem.run P (Op.unary op u) w = .ok r w) : AStep P n o S [] (.p (.val r)) none :=
  AStep.pure hd hn fun S2 hg _ M w0 ρ a w hs => by
    have h1 := hs.val ((hg x (by rw [ho]; simp [Op.operands])).trans hx)
    refine ⟨r, w, ?_, Below.refl _ _, .p (.val r)⟩
    unfold execOp
    rw [ho]
    simp only [h1, Sem.run_bind, h w]
    rfl

theorem a_convert {src dst : TypeId} {x : Operand} {u r : Value} (ho : o.op = .convert src dst x) (hx : S.get x = .p (.val u)) (hd : o.dst = some d) (hn : d < n)
    (h : ∀ w, Sem.run P (convert src dst u) w = .ok r w) : AStep P n o S [] (.p (.val r)) none :=
  AStep.pure hd hn fun S2 hg _ M w0 ρ a w hs => by
    have h1 := hs.val ((hg x (by rw [ho]; simp [Op.operands])).trans hx)
    refine ⟨r, w, ?_, Below.refl _ _, .p (.val r)⟩
    unfold execOp
    rw [ho]
    simp only [h1, Sem.run_bind, h w]
    rfl

end

/-! ### A function -/
inductive RV where
  | p (x : PV)
  | row (t size n : Nat) (xs : List PV)
  | tup (l : List PV)

def RepR (M : Nat → Prop) (w0 w : World) : RV → Value → Prop
  | .p x, v => Rep M w x v
  | .row t size n xs, v => ∃ ys, w.ownsRow w0.heap.size t size v n ys ∧ RepL (fun k => M k ∨ blkOf v = some k) w xs ys
  | .tup l, v => ∃ vs : List Value, v = .tuple vs.toArray ∧ vs.length = l.length ∧ ∀ (i : Nat) x u, l[i]? = some x → vs[i]? = some u → Rep M w x u

/-- What function f gives, of such arguments, in whatever world. -/
def Fn (P : Program) (f : FuncId) (args : List PV) (r : RV) : Prop :=
  ∀ (M : Nat → Prop) (w : World) (vs : List Value), (∀ k, M k → k < w.heap.size) → vs.length = args.length → (∀ (i : Nat) x v, args[i]? = some x → vs[i]? = some v → Rep M w x v) →
    Calls P f vs.toArray w fun e w' => ∃ v, e = .returned v ∧ RepR M w w' r v ∧ Below w.heap.size w w'

theorem rep_of_arg {M : Nat → Prop} {S : AS} {ρ : Nat → Value} {w : World} {a : Act} {n : Nat} {w0 : World} (hs : Sat M n w0 S ρ a w) {x : Operand} {y : PV} (h : S.get x = .p y) : Rep (Mut M S ρ) w y (a.eval x) := by
  have := hs.rep x
  rw [h] at this
  cases this with
  | p h => exact h

section
variable {P : Program} {n : Nat} {o : Oper} {S : AS} {d : Nat}

/-- A call of a function by its contract; the result is a pure value. -/
theorem a_call {f : FuncId} {args : Array Operand} {ts : Array TypeId} {xs : List PV} {r : PV} (ho : o.op = .call { callee := .value (.func f), args := args, argTypes := ts })
    (hc : ∀ (vs : Array Value) w, (callFunc f vs).run P w = .ok (.enter f vs) w) (hx : args.toList.map S.get = xs.map AV.p) (hf : Fn P f xs (.p r)) (hd : o.dst = some d) (hn : d < n) : AStep P n o S [] (.p r) none := by
  intro S2 hg _ M w0 ρ a w K Q hs hK
  have hargs : ∀ x ∈ args.toList, S2.get x = S.get x := fun x hx => hg x (by rw [ho]; simp [Op.operands, Call.operands]; exact .inr (by simpa using hx))
  have he : (execOp a.eval o).run P w = .ok (.enter f (args.map a.eval)) w := by
    unfold execOp
    rw [ho]
    simp [resolve, Deferred.ofValue, Act.eval, invoke, hc]
  unfold Oper.wp
  rw [he, Oper.upon_enter]
  have hlen : (args.toList.map a.eval).length = xs.length := by
    have := congrArg List.length hx
    simpa using this
  have := hf (Mut M S2 ρ) w (args.toList.map a.eval) (fun k hk => Mut.lt hs hk) hlen (fun i x v h1 h2 => by
    rw [List.getElem?_map, Option.map_eq_some_iff] at h2
    obtain ⟨y, hy, rfl⟩ := h2
    have h3 : S.get y = .p x := by
      have h4 : (args.toList.map S.get)[i]? = (xs.map AV.p)[i]? := by rw [hx]
      rw [List.getElem?_map, List.getElem?_map, hy, h1] at h4
      simpa using h4
    exact rep_of_arg hs ((hargs y (List.mem_of_getElem? hy)).trans h3))
  have e : (args.toList.map a.eval).toArray = args.map a.eval := by apply Array.ext'; simp
  rw [e] at this
  refine this.mono ?_
  rintro en w' ⟨v, rfl, hr, hb⟩
  show K (a.put o.dst v) w'
  rw [hd] at hK ⊢
  exact hK ρ _ w' ((hs.ext hb).put hn (.p hr))

/-- A call by its contract; several results. -/
theorem a_callTup {f : FuncId} {args : Array Operand} {ts : Array TypeId} {xs : List PV} {l : List PV} (ho : o.op = .call { callee := .value (.func f), args := args, argTypes := ts })
    (hc : ∀ (vs : Array Value) w, (callFunc f vs).run P w = .ok (.enter f vs) w) (hx : args.toList.map S.get = xs.map AV.p) (hf : Fn P f xs (.tup l)) (hd : o.dst = some d) (hn : d < n) : AStep P n o S [] (.tup (l.map AV.p)) none := by
  intro S2 hg _ M w0 ρ a w K Q hs hK
  have hargs : ∀ x ∈ args.toList, S2.get x = S.get x := fun x hx => hg x (by rw [ho]; simp [Op.operands, Call.operands]; exact .inr (by simpa using hx))
  have he : (execOp a.eval o).run P w = .ok (.enter f (args.map a.eval)) w := by
    unfold execOp
    rw [ho]
    simp [resolve, Deferred.ofValue, Act.eval, invoke, hc]
  unfold Oper.wp
  rw [he, Oper.upon_enter]
  have hlen : (args.toList.map a.eval).length = xs.length := by
    have := congrArg List.length hx
    simpa using this
  have := hf (Mut M S2 ρ) w (args.toList.map a.eval) (fun k hk => Mut.lt hs hk) hlen (fun i x v h1 h2 => by
    rw [List.getElem?_map, Option.map_eq_some_iff] at h2
    obtain ⟨y, hy, rfl⟩ := h2
    have h3 : S.get y = .p x := by
      have h4 : (args.toList.map S.get)[i]? = (xs.map AV.p)[i]? := by rw [hx]
      rw [List.getElem?_map, List.getElem?_map, hy, h1] at h4
      simpa using h4
    exact rep_of_arg hs ((hargs y (List.mem_of_getElem? hy)).trans h3))
  have e : (args.toList.map a.eval).toArray = args.map a.eval := by apply Array.ext'; simp
  rw [e] at this
  refine this.mono ?_
  rintro en w' ⟨v, rfl, ⟨us, rfl, hul, hu⟩, hb⟩
  show K (a.put o.dst (.tuple us.toArray)) w'
  rw [hd] at hK ⊢
  refine hK ρ _ w' ((hs.ext hb).put hn (.tup _ us (by simpa using hul) fun i c v h1 h2 => ?_))
  rw [List.getElem?_map, Option.map_eq_some_iff] at h1
  obtain ⟨x, hx', rfl⟩ := h1
  exact .p (hu i x v hx' h2)

end

/-! ### Entry and return -/
def zipArgs : Nat → List PV → List (Nat × AV)
  | _, [] => []
  | i, x :: r => (i, .p x) :: zipArgs (i + 1) r

theorem look_zipArgs (xs : List PV) : ∀ (i j : Nat), look (zipArgs i xs) j = if i ≤ j then (xs[j - i]?).map AV.p else none := by
  induction xs with
  | nil => intro i j; simp [zipArgs, look]
  | cons x r ih =>
    intro i j
    simp only [zipArgs, look, ih]
    by_cases h : i = j
    · subst h; simp
    · rw [if_neg h]
      by_cases h2 : i ≤ j
      · have e : j - i = (j - (i + 1)) + 1 := by omega
        rw [if_pos h2, if_pos (by omega), e, List.getElem?_cons_succ]
      · rw [if_neg h2, if_neg (by omega)]

/-- The frame with which a function begins. -/
def AS.entry (xs : List PV) : AS := { t := zipArgs 0 xs, s := [] }

/-- What stands in the results' slots at the return, as the function's result. -/
def Gives (fn : Func) (S : AS) (r : RV) : Prop :=
  (∃ t x, fn.results = #[.tmp t] ∧ S.tmp t = .p x ∧ r = .p x) ∨
  (∃ (ts : List Nat) (l : List PV), fn.results = (ts.map ResultVar.tmp).toArray ∧ 2 ≤ ts.length ∧ ts.map S.tmp = l.map AV.p ∧ r = .tup l) ∨
  (∃ t id ty size n xs, fn.results = #[.tmp t] ∧ S.tmp t = .own id ∧ S.blk id = some (.row ty size n (xs.map AV.p)) ∧ r = .row ty size n xs)

theorem Rep.outer {M : Nat → Prop} {S : AS} {ρ : Nat → Value} {w : World} {x : PV} {v : Value} (h : Rep (Mut M S ρ) w x v) : Rep M w x v := h.mono fun _ _ hk => .inl hk

theorem own_eq {M : Nat → Prop} {ρ : Nat → Value} {w : World} {id : Nat} {v : Value} (h : RepA M ρ w (.own id) v) : v = ρ id := by cases h; rfl

theorem results_tmps {P : Program} {w : World} (fn : Func) (ts : List Nat) (tmps : Array Value) (h : fn.results = (ts.map ResultVar.tmp).toArray) (hl : 2 ≤ ts.length) :
    (results fn tmps).run P w = .ok (.tuple (ts.map fun t => tmps.getD t undef).toArray) w := by
  have key : ∀ (F : ResultVar → Sem Value), (∀ t, F (.tmp t) = pure (tmps.getD t undef)) → ∀ (l : List Nat), (List.mapM F (l.map ResultVar.tmp)).run P w = .ok (l.map fun t => tmps.getD t undef) w := by
    intro F hF l
    induction l with
    | nil => simp
    | cons t r ih => simp only [List.map_cons, List.mapM_cons, Sem.run_bind, Sem.run_pure, Result.andThen, ih, hF]
  unfold results
  rw [h]
  simp only [List.mapM_toArray, Sem.run_bind, Sem.run_map]
  rw [key _ (fun _ => rfl)]
  simp only [Result.andThen]
  rw [dif_neg (by simp; omega)]
  simp

theorem fn_of {P : Program} {f : FuncId} {fn : Func} {c : Code} {args : List PV} {r : RV} {n : Nat} (hf : P.funcs[f]? = some fn) (hb : fn.body = some c) (hn : fn.ntmps = n) (hle : args.length ≤ n)
    (h : ACode P n c (AS.entry args) (fun e S => (e = .ret ∨ e = .normal) ∧ Gives fn S r)) : Fn P f args r := by
  intro M w vs hM hvl hvs
  refine calls_of_wp hf hb ?_
  have hsat : Sat M n w (AS.entry args) (fun _ => undef) { tmps := vs.toArray ++ Array.replicate (fn.ntmps - vs.toArray.size) undef, defers := [] } w := by
    refine ⟨Below.refl _ _, hM, by simp; omega, rfl, fun i => ?_, (fun id b hb => by cases hb), (fun i j bi bj k hi => by cases hi)⟩
    show RepA _ _ _ ((look (zipArgs 0 args) i).getD .any) _
    rw [look_zipArgs]
    simp only [Nat.zero_le, if_true, Nat.sub_zero]
    cases hx : args[i]? with
    | none => exact .any _
    | some x =>
      have hi : i < vs.length := by rw [hvl]; exact (List.getElem?_eq_some_iff.1 hx).1
      have e : ({ tmps := vs.toArray ++ Array.replicate (fn.ntmps - vs.toArray.size) undef, defers := [] } : Act).tmps.getD i undef = vs[i] := by
        simp [Array.getD_eq_getD_getElem?, Array.getElem?_append, hi]
      rw [e]
      refine .p ((hvs i x vs[i] hx (List.getElem?_eq_getElem hi)).mono ?_)
      rintro k _ (hk | ⟨id, b, hb, _⟩)
      · exact hk
      · cases hb
  refine h M w _ _ w _ hsat ?_
  rintro e S' ρ' a' w' ⟨he, hg⟩ hs'
  have fin : a'.defers = [] ∧ ∃ v, (results fn a'.tmps).run P w' = .ok v w' ∧ (∃ v', Ending.returned v = .returned v' ∧ RepR M w w' r v' ∧ Below w.heap.size w w') := by
    refine ⟨hs'.defers, ?_⟩
    rcases hg with ⟨t, x, hr, ht, rfl⟩ | ⟨ts, l, hr, hl, ht, rfl⟩ | ⟨t, id, ty, size, m, xs, hr, ht, hblk, rfl⟩
    · have h1 := hs'.tmps t
      rw [ht] at h1
      refine ⟨_, results_tmp hr _ _ _, _, rfl, ?_, hs'.below⟩
      cases h1 with
      | p h2 => exact h2.outer
    · refine ⟨_, results_tmps fn ts a'.tmps hr hl, _, rfl, ⟨_, rfl, by simpa using congrArg List.length ht, fun i x u hx hu => ?_⟩, hs'.below⟩
      rw [List.getElem?_map, Option.map_eq_some_iff] at hu
      obtain ⟨t, hti, rfl⟩ := hu
      have h1 := hs'.tmps t
      have h2 : S'.tmp t = .p x := by
        have h3 : (ts.map S'.tmp)[i]? = (l.map AV.p)[i]? := by rw [ht]
        rw [List.getElem?_map, List.getElem?_map, hti, hx] at h3
        simpa using h3
      rw [h2] at h1
      cases h1 with
      | p h3 => exact h3.outer
    · have h1 := hs'.tmps t
      rw [ht] at h1
      refine ⟨_, results_tmp hr _ _ _, _, rfl, ?_, hs'.below⟩
      have h2 := hs'.blks id _ hblk
      have e : a'.tmps.getD t undef = ρ' id := own_eq h1
      obtain ⟨ys, ho, hc⟩ := h2
      rw [e]
      refine ⟨ys, ho, by simpa using hc.len, fun i c v h3 h4 => ?_, hc.one⟩
      have h5 := hc.each i (.p c) v (by rw [List.getElem?_map, h3]; rfl) h4
      cases h5 with
      | p h6 =>
        refine h6.mono ?_
        rintro k _ (hk | hk)
        · exact Or.inl hk
        · exact Or.inr ⟨id, _, hblk, hk⟩
  rcases he with rfl | rfl
  · exact fin
  · exact fin

/-! ### The rules in the form that the walk takes -/
section
variable {P : Program} {n : Nat} {ops : Array Oper} {o : Oper} {rest : List Oper} {S : AS} {d : Nat} {K : AS → Prop}

theorem AOps.v {bs : List Nat} {av : AV} (hg : o.guard = none) (hd : o.dst = some d) (h : AStep P n o S bs av none) (hr : AOps P n ops rest (S.put d av) K) : AOps P n ops (o :: rest) S K := by
  refine AOps.cons hg h.step ?_
  rw [hd]
  exact hr
theorem AOps.m {bs : List Nat} {av : AV} {b : Blk} (hg : o.guard = none) (hd : o.dst = some d) (h : AStep P n o S bs av (some b)) (hr : AOps P n ops rest ((S.create d b).put d av) K) : AOps P n ops (o :: rest) S K := by
  refine AOps.cons hg h.step ?_
  rw [hd]
  exact hr
/-- A guarded operation: its guard says yes. -/
theorem AOps.gy {j t : Nat} {want : Bool} {bs : List Nat} {av : AV} (hg : o.guard = some (j, want)) (ht : (ops[j]?).bind (·.dst) = some t) (htn : t < n) (hb : S.tmp t = .p (.val (.bool want))) (hd : o.dst = some d) (hdn : d < n)
    (h : AStep P n o S bs av none) (hr : AOps P n ops rest (S.put d av) K) : AOps P n ops (o :: rest) S K :=
  AOps.guarded hg ht htn hb hd hdn (fun _ => ⟨S.put d av, by have := h.step; rw [hd] at this; exact this, hr⟩) (fun h => by cases want <;> cases h)
/-- its guard says no -/
theorem AOps.gn {j t : Nat} {want b : Bool} (hg : o.guard = some (j, want)) (ht : (ops[j]?).bind (·.dst) = some t) (htn : t < n) (hb : S.tmp t = .p (.val (.bool b))) (hbw : b = !want) (hd : o.dst = some d) (hdn : d < n)
    (hr : AOps P n ops rest (S.put d undefA) K) : AOps P n ops (o :: rest) S K :=
  AOps.guarded hg ht htn hb hd hdn (fun h => by subst h; cases b <;> cases hbw) (fun _ => hr)

theorem a_moveP {x : Operand} {v : PV} (ho : o.op = .move x) (hx : S.get x = .p v) (hd : o.dst = some d) (hn : d < n) : AStep P n o S [] (.p v) none := hx ▸ a_move (.inl ho) hd hn
theorem a_assignP {x : Operand} {v : PV} (ho : o.op = .assign x) (hx : S.get x = .p v) (hd : o.dst = some d) (hn : d < n) : AStep P n o S [] (.p v) none := hx ▸ a_move (.inr ho) hd hn
theorem a_moveO {x : Operand} {id : Nat} (ho : o.op = .move x) (hx : S.get x = .own id) (hd : o.dst = some d) (hn : d < n) : AStep P n o S [] (.own id) none := hx ▸ a_move (.inl ho) hd hn
theorem a_assignO {x : Operand} {id : Nat} (ho : o.op = .assign x) (hx : S.get x = .own id) (hd : o.dst = some d) (hn : d < n) : AStep P n o S [] (.own id) none := hx ▸ a_move (.inr ho) hd hn
theorem a_moveR {x : Operand} {id off : Nat} (ho : o.op = .move x) (hx : S.get x = .ptr id off) (hd : o.dst = some d) (hn : d < n) : AStep P n o S [] (.ptr id off) none := hx ▸ a_move (.inl ho) hd hn
theorem a_assignR {x : Operand} {id off : Nat} (ho : o.op = .assign x) (hx : S.get x = .ptr id off) (hd : o.dst = some d) (hn : d < n) : AStep P n o S [] (.ptr id off) none := hx ▸ a_move (.inr ho) hd hn
theorem a_movePt {x : Operand} {xs : List PV} (ho : o.op = .move x) (hx : S.get x = .pt xs) (hd : o.dst = some d) (hn : d < n) : AStep P n o S [] (.pt xs) none := hx ▸ a_move (.inl ho) hd hn
theorem a_assignPt {x : Operand} {xs : List PV} (ho : o.op = .assign x) (hx : S.get x = .pt xs) (hd : o.dst = some d) (hn : d < n) : AStep P n o S [] (.pt xs) none := hx ▸ a_move (.inr ho) hd hn
theorem a_moveT {x : Operand} {xs : List AV} (ho : o.op = .move x) (hx : S.get x = .tup xs) (hd : o.dst = some d) (hn : d < n) : AStep P n o S [] (.tup xs) none := hx ▸ a_move (.inl ho) hd hn
theorem a_assignT {x : Operand} {xs : List AV} (ho : o.op = .assign x) (hx : S.get x = .tup xs) (hd : o.dst = some d) (hn : d < n) : AStep P n o S [] (.tup xs) none := hx ▸ a_move (.inr ho) hd hn

theorem a_pickY {c x y : Operand} {v : PV} (ho : o.op = .pick c x y) (hc : S.get c = .p (.val (.bool true))) (hx : S.get x = .p v) (hd : o.dst = some d) (hn : d < n) : AStep P n o S [] (.p v) none := by
  have h := a_pick (P := P) ho hc hd hn
  rw [if_pos rfl, hx] at h
  exact h
theorem a_pickN {c x y : Operand} {v : PV} (ho : o.op = .pick c x y) (hc : S.get c = .p (.val (.bool false))) (hy : S.get y = .p v) (hd : o.dst = some d) (hn : d < n) : AStep P n o S [] (.p v) none := by
  have h := a_pick (P := P) ho hc hd hn
  rw [if_neg (by simp), hy] at h
  exact h
theorem a_pickB {c x y : Operand} {b u v : Bool} (ho : o.op = .pick c x y) (hc : S.get c = .p (.val (.bool b))) (hx : S.get x = .p (.val (.bool u))) (hy : S.get y = .p (.val (.bool v))) (hd : o.dst = some d) (hn : d < n) : AStep P n o S [] (.p (.val (.bool (if b then u else v)))) none := by
  have h := a_pick (P := P) ho hc hd hn
  cases b
  · simpa [hy] using h
  · simpa [hx] using h

/-! Numbers -/
variable {x y : Operand} {k : IntKind} {a b r : Int} {xt yt : TypeId}
theorem a_add (ho : o.op = .binOp .add xt x y yt) (hx : S.get x = .p (.val (.int k a))) (hy : S.get y = .p (.val (.int k b))) (hr : k.wrap (a + b) = r) (hd : o.dst = some d) (hn : d < n) : AStep P n o S [] (.p (.val (.int k r))) none :=
  a_binOp ho hx hy hd hn fun w => by rw [← hr]; simp [eqGuard, binOp, go_sem]
theorem a_sub (ho : o.op = .binOp .sub xt x y yt) (hx : S.get x = .p (.val (.int k a))) (hy : S.get y = .p (.val (.int k b))) (hr : k.wrap (a - b) = r) (hd : o.dst = some d) (hn : d < n) : AStep P n o S [] (.p (.val (.int k r))) none :=
  a_binOp ho hx hy hd hn fun w => by rw [← hr]; simp [eqGuard, binOp, go_sem]
theorem a_mul (ho : o.op = .binOp .mul xt x y yt) (hx : S.get x = .p (.val (.int k a))) (hy : S.get y = .p (.val (.int k b))) (hr : k.wrap (a * b) = r) (hd : o.dst = some d) (hn : d < n) : AStep P n o S [] (.p (.val (.int k r))) none :=
  a_binOp ho hx hy hd hn fun w => by rw [← hr]; simp [eqGuard, binOp, go_sem]
theorem a_lss (ho : o.op = .binOp .lss xt x y yt) (hx : S.get x = .p (.val (.int k a))) (hy : S.get y = .p (.val (.int k b))) (hd : o.dst = some d) (hn : d < n) : AStep P n o S [] (.p (.val (.bool (decide (a < b))))) none :=
  a_binOp ho hx hy hd hn fun w => by simp [eqGuard, binOp, go_sem]
theorem a_leq (ho : o.op = .binOp .leq xt x y yt) (hx : S.get x = .p (.val (.int k a))) (hy : S.get y = .p (.val (.int k b))) (hd : o.dst = some d) (hn : d < n) : AStep P n o S [] (.p (.val (.bool (decide (a ≤ b))))) none :=
  a_binOp ho hx hy hd hn fun w => by simp [eqGuard, binOp, go_sem]
theorem a_gtr (ho : o.op = .binOp .gtr xt x y yt) (hx : S.get x = .p (.val (.int k a))) (hy : S.get y = .p (.val (.int k b))) (hd : o.dst = some d) (hn : d < n) : AStep P n o S [] (.p (.val (.bool (decide (b < a))))) none :=
  a_binOp ho hx hy hd hn fun w => by simp [eqGuard, binOp, go_sem]
theorem a_geq (ho : o.op = .binOp .geq xt x y yt) (hx : S.get x = .p (.val (.int k a))) (hy : S.get y = .p (.val (.int k b))) (hd : o.dst = some d) (hn : d < n) : AStep P n o S [] (.p (.val (.bool (decide (b ≤ a))))) none :=
  a_binOp ho hx hy hd hn fun w => by simp [eqGuard, binOp, go_sem]
theorem a_eql (ho : o.op = .binOp .eql xt x y yt) (hx : S.get x = .p (.val (.int k a))) (hy : S.get y = .p (.val (.int k b))) (hd : o.dst = some d) (hn : d < n) : AStep P n o S [] (.p (.val (.bool (decide (a = b))))) none :=
  a_binOp ho hx hy hd hn fun w => by simp [eqGuard, binOp, go_sem]; rfl
theorem a_neq (ho : o.op = .binOp .neq xt x y yt) (hx : S.get x = .p (.val (.int k a))) (hy : S.get y = .p (.val (.int k b))) (hd : o.dst = some d) (hn : d < n) : AStep P n o S [] (.p (.val (.bool (!decide (a = b))))) none :=
  a_binOp ho hx hy hd hn fun w => by simp [eqGuard, binOp, go_sem]; rfl
theorem a_quo (ho : o.op = .binOp .quo xt x y yt) (hx : S.get x = .p (.val (.int k a))) (hy : S.get y = .p (.val (.int k b))) (hb : b ≠ 0) (hr : k.wrap (a.tdiv b) = r) (hd : o.dst = some d) (hn : d < n) : AStep P n o S [] (.p (.val (.int k r))) none :=
  a_binOp ho hx hy hd hn fun w => by rw [← hr]; simp [eqGuard, binOp, Op.intDiv, hb]
theorem a_rem (ho : o.op = .binOp .rem xt x y yt) (hx : S.get x = .p (.val (.int k a))) (hy : S.get y = .p (.val (.int k b))) (hb : b ≠ 0) (hr : a.tmod b = r) (hd : o.dst = some d) (hn : d < n) : AStep P n o S [] (.p (.val (.int k r))) none :=
  a_binOp ho hx hy hd hn fun w => by rw [← hr]; simp [eqGuard, binOp, Op.intDiv, hb]
theorem a_and (ho : o.op = .binOp .and xt x y yt) (hx : S.get x = .p (.val (.int k a))) (hy : S.get y = .p (.val (.int k b))) (hr : bits .and k a b = r) (hd : o.dst = some d) (hn : d < n) : AStep P n o S [] (.p (.val (.int k r))) none :=
  a_binOp ho hx hy hd hn fun w => by rw [← hr]; simp [eqGuard, go_sem]
theorem a_or (ho : o.op = .binOp .or xt x y yt) (hx : S.get x = .p (.val (.int k a))) (hy : S.get y = .p (.val (.int k b))) (hr : bits .or k a b = r) (hd : o.dst = some d) (hn : d < n) : AStep P n o S [] (.p (.val (.int k r))) none :=
  a_binOp ho hx hy hd hn fun w => by rw [← hr]; simp [eqGuard, go_sem]
theorem a_shr {yk : IntKind} (ho : o.op = .binOp .shr xt x y yt) (hx : S.get x = .p (.val (.int k a))) (hy : S.get y = .p (.val (.int yk b))) (hb0 : 0 ≤ b) (hb1 : b ≤ k.bits) (hr : a / 2 ^ b.toNat = r) (hd : o.dst = some d) (hn : d < n) : AStep P n o S [] (.p (.val (.int k r))) none :=
  a_binOp ho hx hy hd hn fun w => by rw [← hr]; simp [eqGuard, binOp_shr, shift_shr k yk a b hb0 hb1]
theorem a_shl {yk : IntKind} (ho : o.op = .binOp .shl xt x y yt) (hx : S.get x = .p (.val (.int k a))) (hy : S.get y = .p (.val (.int yk b))) (hb0 : 0 ≤ b) (hb1 : b ≤ k.bits) (hr : k.wrap (a * 2 ^ b.toNat) = r) (hd : o.dst = some d) (hn : d < n) : AStep P n o S [] (.p (.val (.int k r))) none :=
  a_binOp ho hx hy hd hn fun w => by rw [← hr]; simp [eqGuard, binOp_shl, shift_shl k yk a b hb0 hb1]
theorem a_conv {src dst : TypeId} {k2 : IntKind} (ho : o.op = .convert src dst x) (hx : S.get x = .p (.val (.int k a))) (hs : (P.underlying src).isSome = true) (ht : P.underlying dst = some (.int k2)) (hr : k2.wrap a = r) (hd : o.dst = some d) (hn : d < n) : AStep P n o S [] (.p (.val (.int k2 r))) none :=
  a_convert ho hx hd hn fun w => by
    have e : P.intKind dst = k2 := by simp [Program.intKind, ht]
    rw [← hr, run_convert_int w src dst k a hs (by rw [e]; exact ht), e]
theorem a_eqlB {u v : Bool} (ho : o.op = .binOp .eql xt x y yt) (hx : S.get x = .p (.val (.bool u))) (hy : S.get y = .p (.val (.bool v))) (ht : P.underlying xt = some .bool) (hd : o.dst = some d) (hn : d < n) : AStep P n o S [] (.p (.val (.bool (u == v)))) none :=
  a_binOp ho hx hy hd hn fun w => by simp [eqGuard, run_eql_bool w xt u v ht]
theorem a_neqB {u v : Bool} (ho : o.op = .binOp .neq xt x y yt) (hx : S.get x = .p (.val (.bool u))) (hy : S.get y = .p (.val (.bool v))) (ht : P.underlying xt = some .bool) (hd : o.dst = some d) (hn : d < n) : AStep P n o S [] (.p (.val (.bool (!(u == v))))) none :=
  a_binOp ho hx hy hd hn fun w => by simp [eqGuard, run_neq_bool w xt u v ht]
theorem a_notB {xt : TypeId} {u : Bool} (ho : o.op = .unOp .not xt x) (hx : S.get x = .p (.val (.bool u))) (hd : o.dst = some d) (hn : d < n) : AStep P n o S [] (.p (.val (.bool (!u)))) none :=
  a_unOp ho hx hd hn fun w => by simp [Op.unary, go_sem]

end

end Go.Proofs.Ytjokcnajopfjhaa
