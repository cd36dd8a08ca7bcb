/- What an operation on vertices asks next, or answers, is as the document says, whatever it was told. (Part 5 of 10.) -/
import Derived.Test.YtohlllohmoojiaaGreatDoorVn4
import Derived.Scope
import Derived.RangeFuncLeaves
import Derived.RangeFuncCalls
import Derived.RangeFuncRecord
import Derived.Laws.OwnMore
import Derived.ArgAppend
import Derived.Laws.Cover3
import Derived.Deep.Upon
namespace Go.Proofs.YtohlllohmoojiaaGreatDoor
open Go Go.RowKit
set_option maxRecDepth 100000
set_option maxHeartbeats 16000000
section
attribute [local irreducible] zY zZ Step zV Sub zF zA Fn
theorem rest_h (H : Hnd) (s0 : H.σ) {t r b f : Int} (hR : Rc t r) (hb : b = 1 ∨ b = 2) (hf : U f) :
    FnH H 192 [H.doA, .p (.val (.int .i64 t)), .p (.val (.int .i64 r)), .p (.val (.int .i64 b)), .p (.val (.int .u64 f))] [] (fun x => .p (.val (.bool x))) (fun _ => []) yes s0 (qN t r b f) := by
  have ch := has_fn f b hf.1 hf.2
  have cs0 := wstamp_fn f
  have hs : U (f / 4) := hf.quo
  have z : U 0 := U.zero
  unfold Hnd.doA
  refine yO Tryz.func192 rfl Tryz.ntmps192 (Nat.le_of_ble_eq_true rfl) (by decide) (fine_rest t r b f hb) fun hok hns => ?_
  cases hh : hasF f b <;> rw [hh] at ch
  case true =>
    repeat' (first | (refine zY.is ?_; first | refine zY.nil ?_ | (refine zY.in_ [15] rfl ?_; refine zY.v rfl rfl (zG (ch) rfl rfl rfl (by decide)) ?_)) | (refine zZ.is ?_; first | refine zZ.seq ?_ | (refine zZ.iR 0 ?_; refine zZ.rc [0, 1, 2, 3, 4] [5, 6, 7, 8, 11, 40, 1000, 1001, 1002] (r := (.m m18_3 (.m m18_1 (.m m18_1 (.m m18_1 (.v zW .e)))))) (h := ?_)) | (refine zZ.iR 1 ?_; refine zZ.rc [4, 5, 6, 7, 8, 10] [5, 6, 7, 8, 11, 40, 1000, 1001, 1002] (r := (.v zX (.v zL .e))) (h := ?_)) | (refine zZ.iR 2 ?_; refine zZ.rc [4, 5, 6, 7, 8, 10] [5, 6, 7, 8, 11, 40, 1000, 1001, 1002] (r := (.v zW .e)) (h := ?_)) | refine zZ.yB rfl bA ?_ | refine zZ.ret ?_) | refine zK.r ?_)
    all_goals (exact .ret (by exact .inl rfl) (by exact .one rfl rfl) aQ_ (by simp only [qN, run_bind, zD, zB, Held.zQ, Held.zC, Held.zJ, cond_true, cond_false, *]))
  case false =>
    have ps_ := trivial
    repeat' (first | (refine zY.is ?_; first | refine zY.nil ?_ | (refine zY.at_ 18 rfl ?_; refine zY.rc (.v yD (.m zT (.w zO .e))) ?_) | (refine zY.at_ 25 rfl ?_; refine zY.rc (.v zH (.w zO .e)) ?_) | (refine zY.at_ 28 rfl ?_; refine zY.rc (.v zH (.w zO .e)) ?_) | (refine zY.at_ 31 rfl ?_; refine zY.rc (.v zH (.w zO .e)) ?_) | (refine zY.at_ 34 rfl ?_; refine zY.rc (.v zH (.w zO .e)) ?_) | (refine zY.in_ [15] rfl ?_; refine zY.v rfl rfl (zG (ch) rfl rfl rfl (by decide)) ?_) | (refine zY.in_ [17] rfl ?_; refine zY.v rfl rfl (zG (cs0) rfl rfl rfl (by decide)) ?_) | (refine zY.in_ [24, 27, 30, 33] rfl ?_; refine zY.ofT rfl (zA.hd (i := [5, 6, 7]) (f := ld_h H _ hR (by decide)) (r := fun x s e g hk => ?_) (p := fun q s e => ?_) (t := ?_))) | (refine zY.in_ [48] rfl ?_; refine zY.ofT rfl (zA.hd (i := [11, 8]) (f := set2_h H _ hR hb _ _ _ _ _ _) (r := fun x s e g hk => ?_) (p := fun q s e => ?_) (t := ?_)))) | (refine zZ.is ?_; first | refine zZ.seq ?_ | (refine zZ.iR 0 ?_; refine zZ.rc [0, 1, 2, 3, 4] [5, 6, 7, 8, 11, 40, 1000, 1001, 1002] (r := (.m m18_3 (.m m18_1 (.m m18_1 (.m m18_1 (.v zW .e)))))) (h := ?_)) | (refine zZ.iR 1 ?_; refine zZ.rc [4, 5, 6, 7, 8, 10] [5, 6, 7, 8, 11, 40, 1000, 1001, 1002] (r := (.v zX (.v zL .e))) (h := ?_)) | (refine zZ.iR 3 ?_; refine zZ.rc [4, 5, 6, 7, 8, 10] [5, 6, 7, 8, 11, 40, 1000, 1001, 1002] (r := (.v zX .e)) (h := ?_)) | (refine zZ.iR 4 ?_; refine zZ.rc [5, 6, 7, 8, 10, 11] [5, 6, 7, 8, 11, 40, 1000, 1001, 1002] (r := (.v zL (.v wT .e))) (h := ?_)) | (refine zZ.iR 5 ?_; refine zZ.rc [5, 6, 7, 8, 10, 11] [5, 6, 7, 8, 11, 40, 1000, 1001, 1002] (r := (.v v14_0 (.v v1_5 .e))) (h := ?_)) | (refine zZ.iR 6 ?_; refine zZ.rc [5, 6, 7, 8, 10, 11, 12] [5, 6, 7, 8, 11, 40, 1000, 1001, 1002] (r := (.v zH (.w zO .e))) (h := ?_)) | (refine zZ.iR 7 ?_; refine zZ.rc [5, 6, 7, 8, 10, 11, 12] [5, 6, 7, 8, 11, 40, 1000, 1001, 1002] (r := (.v xI .e)) (h := ?_)) | (refine zZ.iR 8 ?_; refine zZ.rc [5, 6, 7, 8, 10, 11, 12] [5, 6, 7, 8, 11, 40, 1000, 1001, 1002] (r := (.v xI .e)) (h := ?_)) | (refine zZ.iR 9 ?_; refine zZ.rc [5, 6, 7, 8, 10, 11, 12] [5, 6, 7, 8, 11, 40, 1000, 1001, 1002] (r := (.v xI .e)) (h := ?_)) | (refine zZ.iR 10 ?_; refine zZ.rc [5, 6, 7, 8, 10, 11, 12] [5, 6, 7, 8, 11, 40, 1000, 1001, 1002] (r := (.v xI .e)) (h := ?_)) | (refine zZ.iR 11 ?_; refine zZ.rk [5, 6, 7, 8, 10, 11] [5, 6, 7, 8, 11, 40, 1000, 1001, 1002] ?_; refine zZ.draws ?_) | (refine zZ.iR 12 ?_; refine zZ.rc [5, 6, 7, 8, 10, 11] [5, 6, 7, 8, 11, 40, 1000, 1001, 1002] (r := (.v zW .e)) (h := ?_)) | (refine zZ.iR 13 ?_; refine zZ.rc [5, 6, 7, 8, 10, 11] [5, 6, 7, 8, 11, 40, 1000, 1001, 1002] (r := (.v vQ (.v zL (.v zL (.v zL (.v v14_0 .e)))))) (h := ?_)) | (refine zZ.iR 14 ?_; refine zZ.rc [10] [5, 6, 7, 8, 11, 40, 1000, 1001, 1002] (r := (.v zW .e)) (h := ?_)) | refine zZ.yA rfl bA ?_ | refine zZ.cond rfl (fun h => ?_) (fun h => ?_) | refine zZ.skip ?_ | refine zZ.ret ?_) | refine zK.r ?_ | (refine Draws.is ?_; first | refine Draws.rc (.v vQ (.v xC .e)) ?_ | refine Draws.rc (.v yD (.v yD (.v v20_0 .e))) ?_ | (refine Draws.in_ [37] rfl ?_; refine Draws.v rfl rfl (zG (bytes_fn _ _ _ _ _ _ (by assumption) (by assumption) (by assumption) (by assumption) (by assumption)) rfl rfl rfl (by decide)) ?_) | refine Draws.done (by kernel_rfl) (by kernel_rfl) (by kernel_rfl) ?_) | (refine zF.is ?_; first | refine zF.nil ?_ | (refine zF.at_ 42 rfl ?_; refine zF.rc (.v wU .e) ?_) | (refine zF.in_ [41] rfl ?_; refine zF.ofT rfl (zA.hd (i := []) (f := disk2_h H _ _ _ _ _ _ _) (r := fun x s e g hk => ?_) (p := fun q s e => ?_) (t := ?_)))))
    all_goals try simp only [Bool.not_eq_true', Bool.not_eq_false'] at *
    all_goals (first | exact fun e => hns (by clear hns; simp only [qN, wrP, run_bind, zD, zB, Held.zQ, Held.zC, Held.zJ, cond_true, cond_false, *]) | exact .pan (q := q) rfl aQ_ (by repeat' exact trivial) (by simp only [qN, wrP, run_bind, zD, zB, Held.zQ, Held.zC, Held.zJ, cond_true, cond_false, *]) | exact .ret (by exact .inl rfl) (by exact .one rfl rfl) aQ_ (by simp only [qN, wrP, run_bind, zD, zB, Held.zQ, Held.zC, Held.zJ, cond_true, cond_false, *]))
theorem save_h (H : Hnd) (s0 : H.σ) {t r b : Int} (hR : Rc t r) (hb : b = 1 ∨ b = 2) :
    FnH H 153 [H.doA, .p (.val (.int .i64 t)), .p (.val (.int .i64 r)), .p (.val (.int .i64 b))] [] (fun x => .p (.val (.bool x))) (fun _ => []) yes s0 (saveP t r b) := by
  unfold Hnd.doA
  refine yO Tryz.func153 rfl Tryz.ntmps153 (Nat.le_of_ble_eq_true rfl) (by decide) (fine_save t r b hb) fun hok hns => ?_
  repeat' (first | (refine zY.is ?_; first | refine zY.nil ?_ | (refine zY.at_ 8 rfl ?_; refine zY.rc (.v zW .e) ?_) | (refine zY.in_ [16] rfl ?_; refine zY.ofT rfl (zA.hd (i := []) (f := flag_h H _ hR) (r := fun x s e g hk => ?_) (p := fun q s e => ?_) (t := ?_))) | (refine zY.in_ [17] rfl ?_; refine zY.ofT rfl (zA.hd (i := []) (f := rest_h H _ hR hb (by assumption)) (r := fun x s e g hk => ?_) (p := fun q s e => ?_) (t := ?_)))) | (refine zZ.is ?_; first | refine zZ.seq ?_ | (refine zZ.iR 0 ?_; refine zZ.rc [0, 1, 2, 3] [1000, 1001, 1002] (r := (.v zW .e)) (h := ?_)) | (refine zZ.iR 1 ?_; refine zZ.rc [0, 1, 2, 3, 8] [1000, 1001, 1002] (r := (.v xI (.v zX (.v zX (.v zX (.v xI (.v zX (.v zX .e)))))))) (h := ?_)) | refine zZ.ret ?_))
  all_goals (first | exact fun e => hns (by clear hns; simp only [saveP, run_bind, zD, zB, Held.zQ, Held.zC, Held.zJ, cond_true, cond_false, *]) | exact .pan (q := q) rfl aQ_ (by repeat' exact trivial) (by simp only [saveP, run_bind, zD, zB, Held.zQ, Held.zC, Held.zJ, cond_true, cond_false, *]) | exact .ret (by exact .inl rfl) (by exact .one rfl rfl) aQ_ (by simp only [saveP, run_bind, zD, zB, Held.zQ, Held.zC, Held.zJ, cond_true, cond_false, *]))
end
section
section
variable {P : Program} {n : Nat} {ops : Array Oper} {S : AS} {K : Exit → AS → Prop}
theorem zY.buildBx {o1 o2 : Oper} {rest : List Oper} {d1 d2 t : Nat} {ps : Array (Nat × Operand)} {pl : List (Nat × Nat)} {z : Value} {zs : List AV} [hb : BuildA P t pl] [hz : ZeroA P t z]
    (h1 : o1.op = .build t ps) (g1 : o1.guard = none) (e1 : o1.dst = some d1)
    (h2 : o2.op = .box t (.tmp d1)) (g2 : o2.guard = none) (e2 : o2.dst = some d2)
    (hn1 : d1 < n) (hn2 : d2 < n) (hz1 : z.cells.toList.all (fun u => u.oneCell') = true)
    (hk : ps.toList.all (fun p => (S.get p.2).kZ) = true)
    (hf : fillA (fun i => pl[i]?) (z.cells.toList.map fun u => .p (.val u)) (ps.toList.map fun p => (p.1, S.get p.2)) = some zs) (hl : zs.length = z.cells.toList.length)
    (hr : zY P n ops rest (((S.put d1 .any).create d2 (.box t zs)).put d2 (.ptr d2 0)) K) : zY P n ops (o1 :: o2 :: rest) S K := by
  intro M w0 ρ a w Q hs hK
  have parts : ∀ p ∈ ps.toList, yE (Mut M S ρ) ρ w (S.get p.2).wX (a.eval p.2).cells.toList := fun p hp => repA_cells (hs.rep p.2) (List.all_eq_true.1 hk p hp)
  obtain ⟨us, hu1, hu2⟩ := fill_rep (fun i => pl[i]?) S.get a.eval ps.toList _ zs z.cells.toList parts hf (zerosA fun u hu => List.all_eq_true.1 hz1 u hu)
  have hr1 : (execOp a.eval o1).run P w = .ok (.value (.agg us.toArray)) w := by
    unfold execOp
    rw [h1]
    have e : (ps.map fun (i, x) => (i, a.eval x)) = (ps.toList.map fun p => (p.1, a.eval p.2)).toArray := by apply Array.ext'; simp
    simp only [e, Sem.run_bind, run_build (P := P) (t := t) (pl := pl) (z := z) _ w _ hu1]
    rfl
  unfold wpList
  rw [if_pos (by simp [Region.wanted, g1])]
  refine .inl ?_
  unfold Oper.wp
  rw [hr1]
  show wpList P ops Q (o2 :: rest) (a.put o1.dst (.agg us.toArray)) w
  rw [e1]
  have hs1 : Sat M n w0 (S.put d1 .any) ρ (a.put (some d1) (.agg us.toArray)) w := hs.put hn1 (.any _)
  generalize hsS1 : S.put d1 .any = S1 at hs1 hr
  have t1 : (a.put (some d1) (.agg us.toArray)).eval (.tmp d1) = .agg us.toArray := by
    have : d1 < a.tmps.size := by rw [hs.size]; exact hn1
    simp [Act.eval, Act.put, Array.getD_eq_getD_getElem?, Array.getElem?_setIfInBounds, this]
  generalize ha1 : a.put (some d1) (.agg us.toArray) = a1 at hs1 t1
  have hMut : Mut M S1 ρ = Mut M S ρ := by subst hsS1; rfl
  have hr2 : (execOp a1.eval o2).run P w = .ok (.value (.pointer (some ⟨w.heap.size, 0, none⟩))) (w.alloc (.cells us.toArray t)) := by
    unfold execOp
    rw [h2]
    simp [Instr.box, newVar, newRow, t1, Value.cells]
  unfold wpList
  rw [if_pos (by simp [Region.wanted, g2])]
  refine .inl ?_
  unfold Oper.wp
  rw [hr2]
  show wpList P ops Q rest (a1.put o2.dst (.pointer (some ⟨w.heap.size, 0, none⟩))) (w.alloc (.cells us.toArray t))
  rw [e2]
  generalize hw1 : w.alloc (.cells us.toArray t) = w1
  have hh1 : w1.heap[w.heap.size]? = some (.cells us.toArray t (0, 0)) := by rw [← hw1]; exact heap_alloc_new w _
  have hg1 : w.grownBy w1 none := by rw [← hw1]; exact World.grownBy_alloc w _ none
  have hs2 := hs1.change d2 (.box t zs) (.pointer (some ⟨w.heap.size, 0, none⟩)) none (hs1.free d2 hn2) hg1 (fun k hk => by cases hk) (fun k hk => .inl (by simp only [yX, Option.some.injEq] at hk; omega)) (by
    rw [hMut]
    refine ⟨w.heap.size, us, rfl, Nat.zero_le _, hh1, (hu2.mono fun k c hk h => ?_).keep ⟨hg1.size, fun k c hk _ => World.cell?_of_block (w := w) (hg1.block k hk (fun h => by cases h))⟩⟩
    rcases h with h | ⟨h, _⟩
    · exact h
    · simp only [yX, Option.some.injEq] at h
      omega)
  have hs3 := hs2.put (d := d2) (x := .ptr d2 0) (v := .pointer (some ⟨w.heap.size, 0, none⟩)) hn2 (.ptr d2 0 w.heap.size (by simp [upd, yX]))
  exact hr M w0 _ _ w1 Q hs3 hK
end
end
section
def readyD (l : List Oper) (done : List Nat) : List Nat := (List.range l.length).filter fun i => !done.contains i && (match l[i]? with
  | some o => o.after.toList.all fun e => !Region.binds .any e || done.contains e.on
  | none => false)
theorem qP {l : List Oper} {listed : Array Bool} {done : List Nat} (hs : listed.size = l.length) (h : ∀ i, listed.getD i false = done.contains i) (i : Nat) : i ∈ Region.ready .any l.toArray listed ↔ i ∈ readyD l done := by
  unfold Region.ready readyD
  simp only [List.size_toArray, List.mem_filter, List.mem_range]
  refine ⟨fun ⟨h1, h2⟩ => ⟨h1, ?_⟩, fun ⟨h1, h2⟩ => ⟨h1, ?_⟩⟩
  · have e1 : listed.getD i true = listed.getD i false := by simp [Array.getD_eq_getD_getElem?, hs, h1]
    simp only [List.getElem?_toArray, List.getElem?_eq_getElem h1, Option.map_some, Option.getD_some, Bool.and_eq_true, Bool.not_eq_true', List.all_eq_true] at h2 ⊢
    refine ⟨?_, fun e he => ?_⟩
    · rw [← h i, ← e1]; exact h2.1
    · have := Array.all_eq_true'.1 h2.2 e (by simpa using he)
      rw [← h e.on]
      exact this
  · have e1 : listed.getD i true = listed.getD i false := by simp [Array.getD_eq_getD_getElem?, hs, h1]
    simp only [List.getElem?_toArray, List.getElem?_eq_getElem h1, Option.map_some, Option.getD_some, Bool.and_eq_true, Bool.not_eq_true', List.all_eq_true] at h2 ⊢
    refine ⟨?_, Array.all_eq_true'.2 fun e he => ?_⟩
    · rw [e1, h i]; exact h2.1
    · have := h2.2 e (by simpa using he)
      rw [← h e.on] at this
      exact this
def DAll (P : Program) (n : Nat) (l : List Oper) (K : Exit → AS → Prop) : Nat → List Nat → AS → Prop
  | 0, done, S => readyD l done = [] ∧ K .normal S
  | m + 1, done, S => readyD l done ≠ [] ∧ ∀ i ∈ readyD l done, ∃ o, l[i]? = some o ∧ o.guard = none ∧ zA P n o S K fun S1 => DAll P n l K m (i :: done) S1
def DOne (P : Program) (n : Nat) (l : List Oper) (K : Exit → AS → Prop) (m : Nat) (done : List Nat) (S : AS) (i : Nat) : Prop :=
  ∃ o, l[i]? = some o ∧ o.guard = none ∧ zA P n o S K fun S1 => DAll P n l K m (i :: done) S1
def zP (p : Nat → Prop) : List Nat → Prop
  | [] => True
  | i :: r => p i ∧ zP p r
theorem zP.all {p : Nat → Prop} : ∀ {rs : List Nat}, zP p rs → ∀ i ∈ rs, p i
  | [], _, i, hi => by simp at hi
  | j :: r, h, i, hi => by
    rcases List.mem_cons.1 hi with rfl | hi
    · exact h.1
    · exact zP.all h.2 i hi
theorem zP.nil {p : Nat → Prop} : zP p [] := trivial
theorem zP.cons {p : Nat → Prop} {i : Nat} {r : List Nat} (h : p i) (hr : zP p r) : zP p (i :: r) := ⟨h, hr⟩
section
variable {P : Program} {n : Nat} {l : List Oper} {K : Exit → AS → Prop} {fu : Nat} {done : List Nat} {S S1 : AS} {i d : Nat} {o : Oper}
theorem DAll.fin (hr : readyD l done = []) (h : K .normal S) : DAll P n l K 0 done S := ⟨hr, h⟩
theorem DAll.many (hr : (readyD l done).isEmpty = false) (h : zP (DOne P n l K fu done S) (readyD l done)) : DAll P n l K (fu + 1) done S :=
  ⟨(fun e => by rw [e] at hr; cases hr), h.all⟩
theorem DOne.v {bs : List Nat} {av : AV} (ho : l[i]? = some o) (hg : o.guard = none) (hd : o.dst = some d) (h : zV P n o S bs av none) (hr : DAll P n l K fu (i :: done) (S.put d av)) : DOne P n l K fu done S i :=
  ⟨o, ho, hg, Step.t h.step (by rw [hd]; exact hr)⟩
theorem DOne.w (ho : l[i]? = some o) (hg : o.guard = none) (h : Step P n o S S1) (hr : DAll P n l K fu (i :: done) S1) : DOne P n l K fu done S i := ⟨o, ho, hg, h.t hr⟩
theorem zZ.drawAll {id : Nat} (hm : P.follows .mixedOrders = true) (h : DAll P n l K l.length [] S) : zZ P n (.region id l.toArray true) S K := by
  intro M w0 ρ a w Q hs hK
  have main : ∀ (m : Nat) (listed : Array Bool) (done : List Nat) (S : AS) (ρ : Nat → Value) (a : Act) (w : World), listed.size = l.length → (∀ i, listed.getD i false = done.contains i) → DAll P n l K m done S → Sat M n w0 S ρ a w → wpAny P .any l.toArray Q m listed a w := by
    intro m
    induction m with
    | zero =>
      intro listed done S ρ a w hz hl hd hs
      refine ⟨List.eq_nil_iff_forall_not_mem.2 fun i hi => ?_, hK .normal S ρ a w hd.2 hs trivial⟩
      have := (qP hz hl i).1 hi
      rw [hd.1] at this
      simp at this
    | succ m ih =>
      intro listed done S ρ a w hz hl hd hs
      refine ⟨fun hnil => ?_, fun i hi => ?_⟩
      · obtain ⟨j, hj⟩ := List.exists_mem_of_ne_nil _ hd.1
        have := (qP hz hl j).2 hj
        rw [hnil] at this
        simp at this
      · obtain ⟨hil, _, _⟩ := xK hi
        obtain ⟨o, ho, hg, ht⟩ := hd.2 i ((qP hz hl i).1 hi)
        unfold wpOp
        simp only [List.getElem?_toArray, ho]
        rw [if_pos (by simp [Region.wanted, hg])]
        refine .inl (ht M w0 ρ a w _ Q hs (fun S1 ρ' a' w' hd1 hs' => ?_) hK)
        refine ih _ _ S1 ρ' a' w' (by simp [hz]) (fun k => ?_) hd1 hs'
        simp only [Array.getD_eq_getD_getElem?, Array.getElem?_setIfInBounds, List.contains_cons]
        by_cases hik : i = k
        · subst hik
          simp [hz, hil]
        · have : (k == i) = false := by simpa using fun e => hik e.symm
          rw [if_neg hik, this, Bool.false_or, ← hl k, Array.getD_eq_getD_getElem?]
  refine wp_region_any hm ?_
  exact main _ _ [] S ρ a _ (by simp) (fun i => by rw [getD_replicate_false]; rfl) (by simpa using h) (hs.ext ((Below.refl _ _).drew))
end
attribute [irreducible] DAll DOne
end
section
class PanK (K : Exit → AS → Prop) : Prop where
  h : ∀ S, K (.panic []) S → K (.panic []) { S with t := [] }
instance {next : AS → Prop} {K : Exit → AS → Prop} [h : PanK K] : PanK (zK next K) := ⟨fun S hk => h.h S hk⟩
instance {id : Nat} {K : Exit → AS → Prop} [h : PanK K] : PanK (zI id K) := ⟨fun S hk => h.h S hk⟩
instance {P : Program} {fn : Func} {ev : EV} {B : List Blk} : PanK (EndE P fn ev B) := ⟨fun S hk => by
  cases ev with
  | ret x => rcases hk.1 with h | h <;> cases h
  | pan x => exact hk⟩
instance {G : AS → Prop} : PanK (fun e S => (e = .ret ∨ e = .normal) ∧ G S) := ⟨fun S hk => by rcases hk.1 with h | h <;> cases h⟩
theorem Sat.bareT {M : Nat → Nat → Prop} {n : Nat} {w0 : Home} {S : AS} {ρ : Nat → Value} {a : Act} {d : Option Nat} {v : Value} {w : World} (h : Sat M n w0 S ρ (a.put d v) w) : Sat M n w0 { S with t := [] } ρ a w where
  below := h.below
  out := h.out
  tab := h.tab
  size := by
    have := h.size
    cases d <;> simpa [Act.put] using this
  defers := by
    have := h.defers
    cases d <;> simpa [Act.put] using this
  tmps := fun i => .any _
  blks := h.blks
  mine := h.mine
  fix := h.fix
  free := h.free
  dist := h.dist
def QK (M : Nat → Nat → Prop) (n : Nat) (w0 : Home) (K : Exit → AS → Prop) (e : Exit) (a : Act) (w : World) : Prop := ∃ S ρ, K (bare e) S ∧ Sat M n w0 S ρ a w ∧ ExOK M S ρ w e
def DGo (P : Program) (n : Nat) (l : List Oper) (K : Exit → AS → Prop) (fu : Nat) (done : List Nat) (S : AS) : Prop :=
  ∀ (M : Nat → Nat → Prop) (w0 : Home) (ρ : Nat → Value) (a : Act) (w : World) (listed : Array Bool), listed.size = l.length → (∀ i, listed.getD i false = done.contains i) → Sat M n w0 S ρ a w → wpAny P .any l.toArray (QK M n w0 K) fu listed a w
def zS (P : Program) (n : Nat) (l : List Oper) (K : Exit → AS → Prop) (fu : Nat) (done : List Nat) (S : AS) (i : Nat) : Prop :=
  ∀ (M : Nat → Nat → Prop) (w0 : Home) (ρ : Nat → Value) (a : Act) (w : World) (listed : Array Bool), listed.size = l.length → i < l.length → (∀ i, listed.getD i false = done.contains i) → Sat M n w0 S ρ a w →
    wpOp P l.toArray (QK M n w0 K) i (wpAny P .any l.toArray (QK M n w0 K) fu (listed.setIfInBounds i true)) a w
def FStep (P : Program) (n : Nat) (o : Oper) (S : AS) (av : AV) : Prop :=
  ∀ (M : Nat → Nat → Prop) (w0 : Home) (ρ : Nat → Value) (a : Act) (w : World), Sat M n w0 S ρ a w → ∃ v, (∀ w', (execOp a.eval o).run P w' = .ok (.value v) w') ∧ yK (Mut M S ρ) ρ w av v
def noSel (l : List Oper) : Bool := l.all fun o => match o.op with
  | .select _ _ => false
  | _ => true
def freeB (l : List Oper) (done : List Nat) (i : Nat) : Bool := match l[i]? with
  | some o => noSel l && !done.contains i && o.guard.isNone && (o.after.toList.all fun e => !Region.binds .any e || done.contains e.on) && ((List.range l.length).all fun j => j == i || done.contains j || (match l[j]? with
    | some q => q.after.toList.any (fun e => Region.binds .any e && e.on == i) || o.apart l.toArray q
    | none => true))
  | none => false
theorem listed_step {l : List Oper} {listed : Array Bool} {done : List Nat} {i : Nat} (hz : listed.size = l.length) (hil : i < l.length) (hl : ∀ i, listed.getD i false = done.contains i) (k : Nat) : (listed.setIfInBounds i true).getD k false = (i :: done).contains k := by
  simp only [Array.getD_eq_getD_getElem?, Array.getElem?_setIfInBounds, List.contains_cons]
  by_cases hik : i = k
  · subst hik
    simp [hz, hil]
  · have : (k == i) = false := by simpa using fun e => hik e.symm
    rw [if_neg hik, this, Bool.false_or, ← hl k, Array.getD_eq_getD_getElem?]
section
variable {P : Program} {n : Nat} {l : List Oper} {K : Exit → AS → Prop} {fu : Nat} {done : List Nat} {S S1 : AS} {i d : Nat} {o : Oper}
theorem DGo.at_ (k : List Nat) (h : DGo P n l K fu k S) : DGo P n l K fu k S := h
theorem DGo.fin (hr : (readyD l done).isEmpty = true) (h : K .normal S) : DGo P n l K fu done S := by
  intro M w0 ρ a w listed hz hl hs
  have hq : QK M n w0 K .normal a w := ⟨S, ρ, h, hs, trivial⟩
  have hno : ∀ j, j ∉ Region.ready .any l.toArray listed := fun j hj => by
    have := (qP hz hl j).1 hj
    rw [List.isEmpty_iff.1 hr] at this
    simp at this
  cases fu with
  | zero => exact ⟨List.eq_nil_iff_forall_not_mem.2 hno, hq⟩
  | succ fu => exact ⟨fun _ => hq, fun j hj => absurd hj (hno j)⟩
theorem DGo.all (is : List Nat) (hr : (readyD l done == is && !is.isEmpty) = true) (h : zP (zS P n l K fu done S) is) : DGo P n l K (fu + 1) done S := by
  rw [Bool.and_eq_true, beq_iff_eq] at hr
  obtain ⟨rfl, hne⟩ := hr
  intro M w0 ρ a w listed hz hl hs
  refine ⟨fun hnil => ?_, fun j hj => ?_⟩
  · cases hd : readyD l done with
    | nil => rw [hd] at hne; cases hne
    | cons j r =>
      have := (qP hz hl j).2 (by rw [hd]; simp)
      rw [hnil] at this
      simp at this
  · have hj' := (qP hz hl j).1 hj
    exact h.all j hj' M w0 ρ a w listed hz (xK hj).1 hl hs
theorem DGo.free [hp : PanK K] (i : Nat) {av : AV} (hf : freeB l done i = true) (ho : l[i]? = some o) (hd : o.dst = some d) (hn : d < n) (h : FStep P n o S av) (hr : DGo P n l K fu (i :: done) (S.put d av)) : DGo P n l K (fu + 1) done S := by
  intro M w0 ρ a w listed hz hl hs
  unfold freeB at hf
  rw [ho] at hf
  simp only [Bool.and_eq_true, Bool.not_eq_true', List.all_eq_true, List.mem_range, Bool.or_eq_true, beq_iff_eq] at hf
  obtain ⟨⟨⟨⟨hsel, hnd⟩, hg⟩, hrd⟩, hap⟩ := hf
  have hil : i < l.length := (List.getElem?_eq_some_iff.1 ho).1
  obtain ⟨v, hv, hrep⟩ := h M w0 ρ a w hs
  have hg' : o.guard = none := by simpa using hg
  have key := wpAny_first (P := P) (md := .any) (ops := l.toArray) (Q := QK M n w0 K) (i := i) (oi := o) (v := v) (by simpa using ho) (fun j q cs b hj e => by
      have hq : q ∈ l := List.mem_of_getElem? (by simpa using hj)
      have := List.all_eq_true.1 hsel q hq
      rw [e] at this
      cases this)
    (fun c a' w' ⟨S', ρ', h1, h2, h3⟩ => ⟨{ S' with t := [] }, ρ', hp.h S' h1, h2.bareT, by
      obtain ⟨u, hu, hx⟩ := h3
      exact ⟨u, hu, hx⟩⟩) fu listed a w
  refine key (fun j q hj hji hlj hno => ?_) ?_ (.inl ⟨by simp [Region.wanted, hg'], hv⟩) ?_
  · have hjl : j < l.length := by
      have := (Array.getElem?_eq_some_iff.1 hj).1
      simpa using this
    have hj' : l[j]? = some q := by simpa using hj
    rcases hap j hjl with (h1 | h1) | h1
    · exact absurd h1 hji
    · rw [← hl j] at h1
      have : listed.getD j true = true := by
        have hlt : j < listed.size := by rw [hz]; exact hjl
        simp only [Array.getD_eq_getD_getElem?, Array.getElem?_eq_getElem hlt, Option.getD_some] at h1 ⊢
        exact h1
      rw [this] at hlj
      cases hlj
    · rw [hj'] at h1
      simp only [Bool.or_eq_true, List.any_eq_true, Bool.and_eq_true, beq_iff_eq] at h1
      rcases h1 with ⟨e, he, hb, hon⟩ | h1
      · exact absurd hon (hno e (by simpa using he) hb)
      · exact h1
  · refine (qP hz hl i).2 ?_
    unfold readyD
    simp only [List.mem_filter, List.mem_range, ho, Bool.and_eq_true, Bool.not_eq_true', List.all_eq_true]
    exact ⟨hil, hnd, fun e he => by simpa using hrd e he⟩
  · refine hr M w0 ρ _ w _ (by simp [hz]) (listed_step hz hil hl) ?_
    rw [hd]
    exact hs.put hn hrep
theorem zS.at_ (i : Nat) (h : zS P n l K fu done S i) : zS P n l K fu done S i := h
theorem zS.ofT (ho : l[i]? = some o) (hg : o.guard = none) (h : zA P n o S K fun S1 => DGo P n l K fu (i :: done) S1) : zS P n l K fu done S i := by
  intro M w0 ρ a w listed hz hil hl hs
  unfold wpOp
  simp only [List.getElem?_toArray, ho]
  rw [if_pos (by simp [Region.wanted, hg])]
  exact .inl (h M w0 ρ a w _ _ hs (fun S1 ρ' a' w' hd1 hs' => hd1 M w0 ρ' a' w' _ (by simp [hz]) (listed_step hz hil hl) hs') fun e S' ρ' a' w' h1 h2 h3 => ⟨S', ρ', h1, h2, h3⟩)
theorem zS.ofTg {j t : Nat} {want b : Bool} (ho : l[i]? = some o) (hg : o.guard = some (j, want)) (ht : wE l j = some t) (htn : t < n) (hb : S.tmp t = .p (.val (.bool b))) (hbw : b = want) (h : zA P n o S K fun S1 => DGo P n l K fu (i :: done) S1) : zS P n l K fu done S i := by
  intro M w0 ρ a w listed hz hil hl hs
  have hw := hs.wanted (ops := l.toArray) hg (by simpa [wE] using ht) htn hb
  unfold wpOp
  simp only [List.getElem?_toArray, ho]
  rw [if_pos (by rw [hw]; simp [wantB, hbw])]
  exact .inl (h M w0 ρ a w _ _ hs (fun S1 ρ' a' w' hd1 hs' => hd1 M w0 ρ' a' w' _ (by simp [hz]) (listed_step hz hil hl) hs') fun e S' ρ' a' w' h1 h2 h3 => ⟨S', ρ', h1, h2, h3⟩)
theorem zS.v {bs : List Nat} {av : AV} (ho : l[i]? = some o) (hg : o.guard = none) (hd : o.dst = some d) (h : zV P n o S bs av none) (hr : DGo P n l K fu (i :: done) (S.put d av)) : zS P n l K fu done S i := .ofT ho hg (Step.t h.step (by rw [hd]; exact hr))
theorem zS.w (ho : l[i]? = some o) (hg : o.guard = none) (h : Step P n o S S1) (hr : DGo P n l K fu (i :: done) S1) : zS P n l K fu done S i := .ofT ho hg (h.t hr)
theorem zS.gv {j t : Nat} {want b : Bool} {bs : List Nat} {av : AV} (ho : l[i]? = some o) (hg : o.guard = some (j, want)) (ht : wE l j = some t) (htn : t < n) (hb : S.tmp t = .p (.val (.bool b))) (hbw : b = want) (hd : o.dst = some d) (h : zV P n o S bs av none) (hr : DGo P n l K fu (i :: done) (S.put d av)) : zS P n l K fu done S i :=
  .ofTg ho hg ht htn hb hbw (Step.t h.step (by rw [hd]; exact hr))
theorem zZ.drawGo {id : Nat} (hm : P.follows .mixedOrders = true) (h : DGo P n l K l.length [] S) : zZ P n (.region id l.toArray true) S K := by
  intro M w0 ρ a w Q hs hK
  refine Code.wp_mono (Q := QK M n w0 K) (fun e a w ⟨S', ρ', h1, h2, h3⟩ => hK e S' ρ' a w h1 h2 h3) (wp_region_any hm ?_)
  have := h M w0 ρ a { w with drawn := w.drawn + 1 } (Array.replicate l.length false) (by simp) (fun i => by rw [getD_replicate_false]; rfl) (hs.ext ((Below.refl _ _).drew))
  simpa using this
theorem f_mv {x : Operand} {av : AV} (ho : o.op = .move x ∨ o.op = .assign x) (hx : S.get x = av) : FStep P n o S av := fun M w0 ρ a w hs => ⟨a.eval x, fun w' => by unfold execOp; rcases ho with ho | ho <;> rw [ho] <;> rfl, hx ▸ hs.rep x⟩
theorem f_mvP {x : Operand} {v : PV} (ho : o.op = .move x) (hx : S.get x = .p v) : FStep P n o S (.p v) := f_mv (.inl ho) hx
theorem f_mvR {x : Operand} {i k : Nat} (ho : o.op = .move x) (hx : S.get x = .ptr i k) : FStep P n o S (.ptr i k) := f_mv (.inl ho) hx
theorem f_mvT {x : Operand} {l : List AV} (ho : o.op = .move x) (hx : S.get x = .tup l) : FStep P n o S (.tup l) := f_mv (.inl ho) hx
theorem f_mvC {x : Operand} {i : Nat} {l : List Nat} (ho : o.op = .move x) (hx : S.get x = .clo i l) : FStep P n o S (.clo i l) := f_mv (.inl ho) hx
theorem f_mvS {x : Operand} {l : List PV} (ho : o.op = .move x) (hx : S.get x = .pt l) : FStep P n o S (.pt l) := f_mv (.inl ho) hx
theorem f_asP {x : Operand} {v : PV} (ho : o.op = .assign x) (hx : S.get x = .p v) : FStep P n o S (.p v) := f_mv (.inr ho) hx
theorem f_asR {x : Operand} {i k : Nat} (ho : o.op = .assign x) (hx : S.get x = .ptr i k) : FStep P n o S (.ptr i k) := f_mv (.inr ho) hx
theorem f_asC {x : Operand} {i : Nat} {l : List Nat} (ho : o.op = .assign x) (hx : S.get x = .clo i l) : FStep P n o S (.clo i l) := f_mv (.inr ho) hx
theorem f_nilR {x : Operand} {id off : Nat} (ho : o.op = .nilCheck x) (hx : S.get x = .ptr id off) : FStep P n o S (.ptr id off) := fun M w0 ρ a w hs => by
  have h1 := hs.rep x
  rw [hx] at h1
  have h2 := h1
  obtain ⟨g, hgv, hv⟩ := vR h1
  refine ⟨a.eval x, fun w' => ?_, h2⟩
  unfold execOp
  rw [ho]
  simp only [hv]
  rfl
theorem f_fieldR {x : Operand} {s f k id off : Nat} [h : FieldA P s f k] (ho : o.op = .fieldAddr s x f) (hx : S.get x = .ptr id off) : FStep P n o S (.ptr id (off + k)) := fun M w0 ρ a w hs => by
  have h1 := hs.rep x
  rw [hx] at h1
  obtain ⟨g, hgv, hv⟩ := vR h1
  refine ⟨.pointer (some ⟨g, off + k, none⟩), fun w' => ?_, .ptr id (off + k) g hgv⟩
  unfold execOp
  rw [ho]
  simp only [hv, Sem.run_bind, h.h]
  rfl
theorem f_extract {x : Operand} {avs : List AV} {ix : Nat} {v : PV} (ho : o.op = .extract x ix) (hx : S.get x = .tup avs) (hi : avs[ix]? = some (.p v)) : FStep P n o S (.p v) := fun M w0 ρ a w hs => by
  have h1 := hs.rep x
  rw [hx] at h1
  generalize hev : a.eval x = ev at h1
  cases h1 with
  | tup _ vs hl h =>
    have hlt : ix < vs.length := by rw [hl]; exact (List.getElem?_eq_some_iff.1 hi).1
    refine ⟨vs[ix], fun w' => ?_, h ix _ _ hi (List.getElem?_eq_getElem hlt)⟩
    unfold execOp
    rw [ho]
    simp [hev, Instr.extract, hlt]
theorem DGo.fr [hp : PanK K] (i : Nat) {av : AV} (hr : DGo P n l K fu (i :: done) (S.put d av)) (ho : l[i]? = some o := by rfl) (hd : o.dst = some d := by rfl) (hn : d < n := by decide) (hf : freeB l done i = true := by kernel_rfl)
    (h : FStep P n o S av := by first | exact f_mvR rfl rfl | exact f_mvP rfl rfl | exact f_fieldR rfl rfl | exact f_nilR rfl rfl | exact f_extract rfl rfl rfl | exact f_asP rfl rfl | exact f_mvT rfl rfl | exact f_mvC rfl rfl | exact f_mvS rfl rfl | exact f_asR rfl rfl | exact f_asC rfl rfl) : DGo P n l K (fu + 1) done S := DGo.free i hf ho hd hn h hr
end
attribute [irreducible] DGo zS FStep
end
section
def xM (l : Nat) (J : AS → Prop) (K : Exit → AS → Prop) : Exit → AS → Prop
  | .goto l', S => l' = l ∧ J S
  | e, S => K e S
theorem xM.n {S : AS} {l : Nat} {J : AS → Prop} {K : Exit → AS → Prop} (h : K .normal S) : xM l J K .normal S := h
theorem xM.r {S : AS} {l : Nat} {J : AS → Prop} {K : Exit → AS → Prop} (h : K .ret S) : xM l J K .ret S := h
theorem xM.p {S : AS} {l : Nat} {J : AS → Prop} {K : Exit → AS → Prop} {c} (h : K (.panic c) S) : xM l J K (.panic c) S := h
theorem xM.g {S : AS} {l : Nat} {J : AS → Prop} {K : Exit → AS → Prop} (h : J S) : xM l J K (.goto l) S := ⟨rfl, h⟩
section
variable {P : Program} {n : Nat} {S : AS}
theorem zZ.scopeL {rest : Code} {K : Exit → AS → Prop} {ι : Type} (l : Nat) (inv : ι → AS) (ok : ι → Prop) (μ : ι → Nat) (i0 : ι) (h0 : Sub S (inv i0)) (hi0 : ok i0)
    (round : ∀ i, ok i → zZ P n rest (inv i) (xM l (fun S' => ∃ j, Sub S' (inv j) ∧ ok j ∧ μ j < μ i) K)) : zZ P n (.scope (.seq (.label l) rest)) S K := by
  intro M w0 ρ a w Q hs hK
  obtain ⟨ρ0, hs0⟩ := h0 M n w0 ρ a w hs
  intro b k cs
  have hg : gotoIn l (.inScope (.seq (.label l) rest) :: k) = some (.code (.seq .skip rest) :: .inScope (.seq (.label l) rest) :: k) := by simp [gotoIn, findLabel]
  have key : ∀ (m : Nat) (i : ι) (ρ : Nat → Value) (a : Act) (w : World), μ i = m → ok i → Sat M n w0 (inv i) ρ a w →
      ∃ e a' w', Q e a' w' ∧ Arrives P (lone (b.at a (.code rest :: .inScope (.seq (.label l) rest) :: k)) cs w) b k cs e a' w' := by
    intro m
    induction m using Nat.strongRecOn with
    | _ m ih =>
      intro i ρ a w hm hi hsi
      have hr := round i hi M w0 ρ a w (fun e a' w' => match e with
          | .goto l' => l' = l ∧ ∃ j ρ', ok j ∧ μ j < μ i ∧ Sat M n w0 (inv j) ρ' a' w'
          | e => Q e a' w') hsi (fun e S' ρ' a' w' hk hs' hx => by
        cases e with
        | goto l' =>
          obtain ⟨h1, j, hsub, hj, hlt⟩ := hk
          obtain ⟨ρ'', hs''⟩ := hsub M n w0 ρ' a' w' hs'
          exact ⟨h1, j, ρ'', hj, hlt, hs''⟩
        | normal => exact hK .normal S' ρ' a' w' hk hs' hx
        | exit id => exact hK (.exit id) S' ρ' a' w' hk hs' hx
        | ret => exact hK .ret S' ρ' a' w' hk hs' hx
        | panic c => exact hK (.panic c) S' ρ' a' w' hk hs' hx
        | outgrown => exact hK .outgrown S' ρ' a' w' hk hs' hx)
      obtain ⟨e, a₁, w₁, hq, harr⟩ := hr b (.inScope (.seq (.label l) rest) :: k) cs
      cases e with
      | normal => exact ⟨.normal, a₁, w₁, hq, Steps.trans harr (.one step_inScope)⟩
      | exit id => exact ⟨.exit id, a₁, w₁, hq, fun k' hk => harr k' (by simp [exitTo, hk])⟩
      | goto l' =>
        obtain ⟨rfl, j, ρ', hj, hlt, hs'⟩ := hq
        obtain ⟨e₂, a₂, w₂, hq₂, harr₂⟩ := ih (μ j) (by omega) j ρ' a₁ w₁ rfl hj hs'
        exact ⟨e₂, a₂, w₂, hq₂, .of_steps (Steps.trans (harr _ hg) (.head step_seq (.one step_skip))) harr₂⟩
      | ret => exact ⟨_, a₁, w₁, hq, harr⟩
      | panic ch => exact ⟨_, a₁, w₁, hq, harr⟩
      | outgrown => exact ⟨_, a₁, w₁, hq, harr⟩
  obtain ⟨e, a', w', hq, harr⟩ := key _ i0 ρ0 a w rfl hi0 hs0
  exact ⟨e, a', w', hq, .of_steps (.head step_scope (.head step_seq (.one step_label))) harr⟩
theorem xM.weak {l : Nat} {J J' : AS → Prop} {K : Exit → AS → Prop} {e : Exit} {S : AS} (h : xM l J K e S) (hJ : ∀ S, J S → J' S) : xM l J' K e S := by
  cases e with
  | goto l' => exact ⟨h.1, hJ _ h.2⟩
  | _ => exact h
theorem zZ.scopeG {body rest : Code} {K : Exit → AS → Prop} {ι : Type} (l : Nat) (inv : ι → AS) (ok : ι → Prop) (μ : ι → Nat) (hf : findLabel body l = some (.seq .skip rest))
    (round : ∀ i, ok i → zZ P n rest (inv i) (xM l (fun S' => ∃ j, Sub S' (inv j) ∧ ok j ∧ μ j < μ i) K))
    (first : (∀ i, ok i → zZ P n rest (inv i) (xM l (fun S' => ∃ j, Sub S' (inv j) ∧ ok j) K)) → zZ P n body S (xM l (fun S' => ∃ j, Sub S' (inv j) ∧ ok j) K)) : zZ P n (.scope body) S K := by
  intro M w0 ρ a w Q hs hK
  intro b k cs
  have hg : gotoIn l (.inScope body :: k) = some (.code (.seq .skip rest) :: .inScope body :: k) := by simp [gotoIn, hf]
  have key : ∀ (m : Nat) (i : ι) (ρ : Nat → Value) (a : Act) (w : World), μ i = m → ok i → Sat M n w0 (inv i) ρ a w →
      ∃ e a' w', Q e a' w' ∧ Arrives P (lone (b.at a (.code rest :: .inScope body :: k)) cs w) b k cs e a' w' := by
    intro m
    induction m using Nat.strongRecOn with
    | _ m ih =>
      intro i ρ a w hm hi hsi
      have hr := round i hi M w0 ρ a w (fun e a' w' => match e with
          | .goto l' => l' = l ∧ ∃ j ρ', ok j ∧ μ j < μ i ∧ Sat M n w0 (inv j) ρ' a' w'
          | e => Q e a' w') hsi (fun e S' ρ' a' w' hk hs' hx => by
        cases e with
        | goto l' =>
          obtain ⟨h1, j, hsub, hj, hlt⟩ := hk
          obtain ⟨ρ'', hs''⟩ := hsub M n w0 ρ' a' w' hs'
          exact ⟨h1, j, ρ'', hj, hlt, hs''⟩
        | normal => exact hK .normal S' ρ' a' w' hk hs' hx
        | exit id => exact hK (.exit id) S' ρ' a' w' hk hs' hx
        | ret => exact hK .ret S' ρ' a' w' hk hs' hx
        | panic c => exact hK (.panic c) S' ρ' a' w' hk hs' hx
        | outgrown => exact hK .outgrown S' ρ' a' w' hk hs' hx)
      obtain ⟨e, a₁, w₁, hq, harr⟩ := hr b (.inScope body :: k) cs
      cases e with
      | normal => exact ⟨.normal, a₁, w₁, hq, Steps.trans harr (.one step_inScope)⟩
      | exit id => exact ⟨.exit id, a₁, w₁, hq, fun k' hk => harr k' (by simp [exitTo, hk])⟩
      | goto l' =>
        obtain ⟨rfl, j, ρ', hj, hlt, hs'⟩ := hq
        obtain ⟨e₂, a₂, w₂, hq₂, harr₂⟩ := ih (μ j) (by omega) j ρ' a₁ w₁ rfl hj hs'
        exact ⟨e₂, a₂, w₂, hq₂, .of_steps (Steps.trans (harr _ hg) (.head step_seq (.one step_skip))) harr₂⟩
      | ret => exact ⟨_, a₁, w₁, hq, harr⟩
      | panic ch => exact ⟨_, a₁, w₁, hq, harr⟩
      | outgrown => exact ⟨_, a₁, w₁, hq, harr⟩
  have hb := first (fun i hi => (round i hi).mono fun e S h => h.weak fun S ⟨j, h1, h2, _⟩ => ⟨j, h1, h2⟩)
  have hr := hb M w0 ρ a w (fun e a' w' => match e with
      | .goto l' => l' = l ∧ ∃ j ρ', ok j ∧ Sat M n w0 (inv j) ρ' a' w'
      | e => Q e a' w') hs (fun e S' ρ' a' w' hk hs' hx => by
    cases e with
    | goto l' =>
      obtain ⟨h1, j, hsub, hj⟩ := hk
      obtain ⟨ρ'', hs''⟩ := hsub M n w0 ρ' a' w' hs'
      exact ⟨h1, j, ρ'', hj, hs''⟩
    | normal => exact hK .normal S' ρ' a' w' hk hs' hx
    | exit id => exact hK (.exit id) S' ρ' a' w' hk hs' hx
    | ret => exact hK .ret S' ρ' a' w' hk hs' hx
    | panic c => exact hK (.panic c) S' ρ' a' w' hk hs' hx
    | outgrown => exact hK .outgrown S' ρ' a' w' hk hs' hx)
  obtain ⟨e, a₁, w₁, hq, harr⟩ := hr b (.inScope body :: k) cs
  cases e with
  | normal => exact ⟨.normal, a₁, w₁, hq, .of_steps (.one step_scope) (Steps.trans harr (.one step_inScope))⟩
  | exit id => exact ⟨.exit id, a₁, w₁, hq, .of_steps (.one step_scope) (fun k' hk => harr k' (by simp [exitTo, hk]))⟩
  | goto l' =>
    obtain ⟨rfl, j, ρ', hj, hs'⟩ := hq
    obtain ⟨e₂, a₂, w₂, hq₂, harr₂⟩ := key _ j ρ' a₁ w₁ rfl hj hs'
    exact ⟨e₂, a₂, w₂, hq₂, .of_steps (.head step_scope (Steps.trans (harr _ hg) (.head step_seq (.one step_skip)))) harr₂⟩
  | ret => exact ⟨_, a₁, w₁, hq, .of_steps (.one step_scope) harr⟩
  | panic ch => exact ⟨_, a₁, w₁, hq, .of_steps (.one step_scope) harr⟩
  | outgrown => exact ⟨_, a₁, w₁, hq, .of_steps (b := b) (k := k) (cs := cs) (e := .outgrown) (.one step_scope) harr⟩
end
end
section
instance {l : Nat} {J : AS → Prop} {K : Exit → AS → Prop} [h : PanK K] : PanK (xM l J K) := ⟨fun S hk => h.h S hk⟩
theorem hasL_bare {S : AS} : ∀ (B : List Blk) (i : Nat), hasL S i B → hasL { S with t := [] } i B
  | [], _, _ => trivial
  | _ :: r, i, h => ⟨h.1, hasL_bare r (i + 1) h.2⟩
theorem fgL_bare {S : AS} : ∀ (B : List Blk) (i : Nat), fgL S i B → fgL { S with t := [] } i B
  | [], _, _ => trivial
  | _ :: r, i, h => ⟨h.1, fgL_bare r (i + 1) h.2⟩
instance {α : Type} {H : Hnd} {fn : Func} {res : α → AV} {bk : List Blk} {bk' : α → List Blk} {m : Held H.σ α} : PanK (EndH H fn res bk bk' m) := ⟨fun S hk => by
  cases hk with
  | pan hx hB hF h => exact .pan hx (hasL_bare _ _ hB) (fgL_bare _ _ hF) h
  | ret he hg hB h => rcases he with h | h <;> cases h⟩
end
section
attribute [local irreducible] zY zZ Step zV Sub zF zA Fn zK zI
theorem limbo_fn (e : Int) (h0 : 0 ≤ e) : Fn Tryz.prog 195 [.val (.int .u64 e)] (.p (.val (.int .i64 (wP e)))) := by
  have g1 : e.tmod 3 = e % 3 := Int.tmod_eq_emod_of_nonneg h0
  have g2 : IntKind.i64.wrap (e % 3) = e % 3 := wrap_i64 _ (by omega)
  have g3 : IntKind.i64.wrap (4 + e % 3) = wP e := wrap_i64 _ (by omega)
  refine xV Tryz.func195 rfl Tryz.ntmps195 (Nat.le_of_ble_eq_true rfl) ?_
  repeat' (first | (refine zY.nil ?_) | (refine zZ.is ?_; first | refine zZ.seq ?_ | (refine zZ.iR 0 ?_; refine zZ.rc [0] [] (r := (.v zW .e)) (h := ?_)) | (refine zZ.iR 1 ?_; refine zZ.rc [0, 2] [] (r := (.v zX (.v kF (.v qH (.v qQ (.v zW .e)))))) (h := ?_)) | refine zZ.ret ?_) | refine zK.n ?_)
  all_goals exact ⟨.inl rfl, gives1 rfl rfl rfl⟩
def retS (H : Hnd) (t r at_ : Int) (d : Bool) (s : H.σ) : AS :=
  { t := [(0, H.doA), (1, .p (.val (.int .i64 t))), (2, .p (.val (.int .i64 r))), (6, .p (.val (.int .i64 at_))), (7, .p (.val (.bool d)))], s := [(1000, H.b0 s), (1001, H.b1 s), (1002, H.b2 s)] }
def retRest (t r at_ : Int) (n : Nat) (d : Bool) : Pr Unit := bif d then .ret () else .loop (qO t r at_) n ()
theorem retire_h (H : Hnd) (s0 : H.σ) {t r : Int} (ht : Small t) (hr : Rf r) : FnH H 189 [H.doA, .p (.val (.int .i64 t)), .p (.val (.int .i64 r))] [] (fun _ => .any) (fun _ => []) yes s0 (retireP t r) := by
  have wr : IntKind.u64.wrap r = r := wrap_u64 _ ⟨hr.lo, by have := hr.hi; omega⟩
  have hru := hr.u
  have cf := kX (hr.rc ht) 7 (by decide)
  unfold Hnd.doA
  refine yO Tryz.func189 rfl Tryz.ntmps189 (Nat.le_of_ble_eq_true rfl) (by decide) (fine_retire t hr.u) fun hok hns => ?_
  repeat' (first | (refine zY.is ?_; first | refine zY.nil ?_ | (refine zY.at_ 6 rfl ?_; refine zY.rc (.v zW .e) ?_) | (refine zY.in_ [11] rfl ?_; refine zY.v rfl rfl (zG (limbo_fn _ (U.lo (by assumption))) rfl rfl rfl (by decide)) ?_) | (refine zY.in_ [10] rfl ?_; refine zY.ofT rfl (zA.hd (i := []) (f := qM H _ 3) (r := fun x s e g hk => ?_) (p := fun q s e => ?_) (t := ?_)))) | (refine zZ.is ?_; first | refine zZ.seq ?_ | (refine zZ.iR 0 ?_; refine zZ.rc [0, 1, 2] [1000, 1001, 1002] (r := (.v xI .e)) (h := ?_)) | (refine zZ.iR 1 ?_; refine zZ.rc [0, 1, 2, 6] [1000, 1001, 1002] (r := (.v zW .e)) (h := ?_)) | refine zZ.block ?_) | refine zK.n ?_ | refine zK.p ?_)
  all_goals (first | exact fun e => hns (by clear hns; simp only [retireP, run_bind, zD, zB, Held.zQ, Held.zC, Held.zJ, cond_true, cond_false, *]) | exact .pan (q := q) rfl aQ_ (by repeat' exact trivial) (by simp only [retireP, run_bind, zD, zB, Held.zQ, Held.zC, Held.zJ, cond_true, cond_false, *]) | skip)
  have ho0 : (retireP t r).run H.st s0 = (retLoop t r (wP x)).run H.st s := by simp only [retireP, run_bind, zD, Held.zQ, *]
  rw [ho0] at hns ⊢
  generalize wP x = at_ at *
  refine zZ.loop (fun p : Bool × Nat × H.σ => retS H t r at_ p.1 p.2.2) (fun p => H.ok p.2.2 ∧ (retRest t r at_ p.2.1 p.1).run H.st p.2.2 = (retLoop t r at_).run H.st s) (fun p => p.2.1) (false, many, s) ?h0 ⟨by assumption, rfl⟩ ?rd
  case h0 =>
    exact zM K_e K_1
  case rd =>
    rintro ⟨d, n, s1⟩ ⟨hok1, ho⟩
    dsimp only at hok1 ho ⊢
    unfold retS Hnd.doA
    cases d with
    | true =>
      have ho : Held.done () s1 = (retLoop t r at_).run H.st s := ho
      rw [← ho] at hns ⊢
      repeat' (first | (refine zY.nil ?_) | (refine zZ.is ?_; first | refine zZ.seq ?_ | (refine zZ.iR 2 ?_; refine zZ.rc [0, 1, 2, 6, 7, 8, 13] [1000, 1001, 1002] (r := (.v zX (.v vS .e))) (h := ?_)) | refine zZ.yA rfl bA ?_ | refine zZ.exit ?_) | refine zK.n ?_ | refine zI.eY ?_ | refine zK.e ?_)
      all_goals (exact .ret (x := ()) (by exact .inr rfl) (by exact .none rfl) aQ_ (by simp only [run_bind, zD, zB, Held.zQ, Held.zC, Held.zJ, cond_true, cond_false, *] <;> rfl))
    | false =>
      have ho : (Pr.loop (qO t r at_) n ()).run H.st s1 = (retLoop t r at_).run H.st s := ho
      cases n with
      | zero => exact absurd ho.symm hns
      | succ n =>
        rw [Pr.loop_succ] at ho
        rw [← ho] at hns ⊢
        repeat' (first | (refine zY.is ?_; first | refine zY.nil ?_ | (refine zY.at_ 21 rfl ?_; refine zY.rc (.v zX .e) ?_) | (refine zY.at_ 7 rfl ?_; refine zY.rc (.v zW .e) ?_) | (refine zY.at_ 8 rfl ?_; refine zY.rc (.v zW .e) ?_) | (refine zY.in_ [20] rfl ?_; refine zY.v rfl rfl (zG (cf) rfl rfl rfl (by decide)) ?_) | (refine zY.in_ [16] rfl ?_; refine zY.ofT rfl (zA.hd (i := []) (f := qM H _ _) (r := fun x s e g hk => ?_) (p := fun q s e => ?_) (t := ?_))) | (refine zY.in_ [22] rfl ?_; refine zY.ofT rfl (zA.hd (i := []) (f := kJ H _ _ _ (by assumption)) (r := fun x s e g hk => ?_) (p := fun q s e => ?_) (t := ?_))) | (refine zY.in_ [28] rfl ?_; refine zY.ofT rfl (zA.hd (i := []) (f := cas_h H _ _ _ _ (by assumption) hru) (r := fun x s e g hk => ?_) (p := fun q s e => ?_) (t := ?_)))) | (refine zZ.is ?_; first | refine zZ.seq ?_ | (refine zZ.iR 2 ?_; refine zZ.rc [0, 1, 2, 6, 7, 8, 13] [1000, 1001, 1002] (r := (.v zX (.v qI .e))) (h := ?_)) | (refine zZ.iR 3 ?_; refine zZ.rc [0, 1, 2, 6, 7, 8, 13] [1000, 1001, 1002] (r := (.v xI (.v zX .e))) (h := ?_)) | (refine zZ.iR 4 ?_; refine zZ.rc [0, 1, 2, 6, 7, 8, 13] [1000, 1001, 1002] (r := (.v xI (.v zX (.v zX .e)))) (h := ?_)) | (refine zZ.iR 5 ?_; refine zZ.rc [0, 1, 2, 6, 7, 8, 13] [1000, 1001, 1002] (r := (.v xI (.v zX (.v zX (.v zX (.v qH .e)))))) (h := ?_)) | refine zZ.yB rfl bA ?_ | refine zZ.skip ?_ | refine zZ.block ?_) | refine zK.n ?_ | refine zK.p ?_ | refine zI.n ?_ | refine zI.p ?_)
        all_goals (first | exact fun e => hns (by clear hns; simp only [qO, run_bind, zD, zB, Held.zQ, Held.zC, Held.zJ, cond_true, cond_false, *]) | exact .pan (q := q) rfl aQ_ (by repeat' exact trivial) (by simp only [qO, run_bind, zD, zB, Held.zQ, Held.zC, Held.zJ, cond_true, cond_false, *]) | skip)
        refine ⟨(x, n, s), ?_, ⟨by assumption, ?_⟩, Nat.lt_succ_self n⟩
        · exact zM K_e K_1
        · clear ho hns
          simp only [qO, run_bind, zD, Held.zQ, *]
          cases x <;> rfl
def vT (H : Hnd) (t p x : Int) : Blk := .box 133 [H.doA, .p (.val (.int .i64 t)), .p (.val (.int .i64 p)), .p (.val (.int .i64 x))]
theorem start_h (H : Hnd) (s0 : H.σ) {t p x : Int} (ht : Small t) : FnH H 144 [.ptr 1003 0] [vT H t p x] (fun _ => .any) (fun w => [vT H t 0 (xY w)]) U s0 (xW 0) := by
  have cn : Fn Tryz.prog 80 [.val (.int .i64 t), .val (.int .i64 0)] (.p (.val (.int .i64 0))) := cnext_fn t 0 ht (by decide)
  unfold vT Hnd.doA
  refine yO Tryz.func144 rfl Tryz.ntmps144 (Nat.le_of_ble_eq_true rfl) (by decide) (yC _) fun hok hns => ?_
  repeat' (first | (refine zZ.is ?_; (refine zZ.iR 0 ?_; refine zZ.rk [0] [1000, 1001, 1002, 1003] ?_; refine zZ.drawGo (by kernel_rfl) ?_)) | (refine DGo.at_ [] ?_; refine DGo.fr 0 ?_) | (refine DGo.at_ [0] ?_; refine DGo.fr 1 ?_) | (refine DGo.at_ [1, 0] ?_; refine DGo.fr 2 ?_) | (refine DGo.at_ [2, 1, 0] ?_; refine DGo.fr 3 ?_) | (refine DGo.at_ [3, 2, 1, 0] ?_; refine DGo.fr 4 ?_) | (refine DGo.at_ [4, 3, 2, 1, 0] ?_; refine DGo.fr 6 ?_) | (refine DGo.at_ [6, 4, 3, 2, 1, 0] ?_; refine DGo.fr 7 ?_) | (refine DGo.at_ [7, 6, 4, 3, 2, 1, 0] ?_; refine DGo.fr 8 ?_) | (refine DGo.at_ [8, 7, 6, 4, 3, 2, 1, 0] ?_; refine DGo.all [5, 9] (by kernel_rfl) ?_) | (refine DGo.at_ [9, 8, 7, 6, 4, 3, 2, 1, 0] ?_; refine DGo.all [5, 10] (by kernel_rfl) ?_) | (refine DGo.at_ [10, 9, 8, 7, 6, 4, 3, 2, 1, 0] ?_; refine DGo.all [5] (by kernel_rfl) ?_) | (refine DGo.at_ [5, 10, 9, 8, 7, 6, 4, 3, 2, 1, 0] ?_; refine DGo.all [11] (by kernel_rfl) ?_) | (refine DGo.at_ [11, 5, 10, 9, 8, 7, 6, 4, 3, 2, 1, 0] ?_; refine DGo.all [12] (by kernel_rfl) ?_) | (refine DGo.at_ [12, 11, 5, 10, 9, 8, 7, 6, 4, 3, 2, 1, 0] ?_; refine DGo.fr 13 ?_) | (refine DGo.at_ [13, 12, 11, 5, 10, 9, 8, 7, 6, 4, 3, 2, 1, 0] ?_; refine DGo.fr 14 ?_) | (refine DGo.at_ [14, 13, 12, 11, 5, 10, 9, 8, 7, 6, 4, 3, 2, 1, 0] ?_; refine DGo.all [15] (by kernel_rfl) ?_) | (refine DGo.at_ [15, 14, 13, 12, 11, 5, 10, 9, 8, 7, 6, 4, 3, 2, 1, 0] ?_; refine DGo.fr 16 ?_) | (refine DGo.at_ [16, 15, 14, 13, 12, 11, 5, 10, 9, 8, 7, 6, 4, 3, 2, 1, 0] ?_; refine DGo.fr 17 ?_) | (refine DGo.at_ [17, 16, 15, 14, 13, 12, 11, 5, 10, 9, 8, 7, 6, 4, 3, 2, 1, 0] ?_; refine DGo.all [18] (by kernel_rfl) ?_) | (refine DGo.at_ [18, 17, 16, 15, 14, 13, 12, 11, 5, 10, 9, 8, 7, 6, 4, 3, 2, 1, 0] ?_; refine DGo.fin (by kernel_rfl) ?_) | (refine DGo.at_ [5, 9, 8, 7, 6, 4, 3, 2, 1, 0] ?_; refine DGo.all [10] (by kernel_rfl) ?_) | (refine DGo.at_ [10, 5, 9, 8, 7, 6, 4, 3, 2, 1, 0] ?_; refine DGo.all [11] (by kernel_rfl) ?_) | (refine DGo.at_ [11, 10, 5, 9, 8, 7, 6, 4, 3, 2, 1, 0] ?_; refine DGo.all [12] (by kernel_rfl) ?_) | (refine DGo.at_ [12, 11, 10, 5, 9, 8, 7, 6, 4, 3, 2, 1, 0] ?_; refine DGo.fr 13 ?_) | (refine DGo.at_ [13, 12, 11, 10, 5, 9, 8, 7, 6, 4, 3, 2, 1, 0] ?_; refine DGo.fr 14 ?_) | (refine DGo.at_ [14, 13, 12, 11, 10, 5, 9, 8, 7, 6, 4, 3, 2, 1, 0] ?_; refine DGo.all [15] (by kernel_rfl) ?_) | (refine DGo.at_ [15, 14, 13, 12, 11, 10, 5, 9, 8, 7, 6, 4, 3, 2, 1, 0] ?_; refine DGo.fr 16 ?_) | (refine DGo.at_ [16, 15, 14, 13, 12, 11, 10, 5, 9, 8, 7, 6, 4, 3, 2, 1, 0] ?_; refine DGo.fr 17 ?_) | (refine DGo.at_ [17, 16, 15, 14, 13, 12, 11, 10, 5, 9, 8, 7, 6, 4, 3, 2, 1, 0] ?_; refine DGo.all [18] (by kernel_rfl) ?_) | (refine DGo.at_ [18, 17, 16, 15, 14, 13, 12, 11, 10, 5, 9, 8, 7, 6, 4, 3, 2, 1, 0] ?_; refine DGo.fin (by kernel_rfl) ?_) | (refine DGo.at_ [5, 8, 7, 6, 4, 3, 2, 1, 0] ?_; refine DGo.all [9] (by kernel_rfl) ?_) | (refine DGo.at_ [9, 5, 8, 7, 6, 4, 3, 2, 1, 0] ?_; refine DGo.all [10] (by kernel_rfl) ?_) | (refine DGo.at_ [10, 9, 5, 8, 7, 6, 4, 3, 2, 1, 0] ?_; refine DGo.all [11] (by kernel_rfl) ?_) | (refine DGo.at_ [11, 10, 9, 5, 8, 7, 6, 4, 3, 2, 1, 0] ?_; refine DGo.all [12] (by kernel_rfl) ?_) | (refine DGo.at_ [12, 11, 10, 9, 5, 8, 7, 6, 4, 3, 2, 1, 0] ?_; refine DGo.fr 13 ?_) | (refine DGo.at_ [13, 12, 11, 10, 9, 5, 8, 7, 6, 4, 3, 2, 1, 0] ?_; refine DGo.fr 14 ?_) | (refine DGo.at_ [14, 13, 12, 11, 10, 9, 5, 8, 7, 6, 4, 3, 2, 1, 0] ?_; refine DGo.all [15] (by kernel_rfl) ?_) | (refine DGo.at_ [15, 14, 13, 12, 11, 10, 9, 5, 8, 7, 6, 4, 3, 2, 1, 0] ?_; refine DGo.fr 16 ?_) | (refine DGo.at_ [16, 15, 14, 13, 12, 11, 10, 9, 5, 8, 7, 6, 4, 3, 2, 1, 0] ?_; refine DGo.fr 17 ?_) | (refine DGo.at_ [17, 16, 15, 14, 13, 12, 11, 10, 9, 5, 8, 7, 6, 4, 3, 2, 1, 0] ?_; refine DGo.all [18] (by kernel_rfl) ?_) | (refine DGo.at_ [18, 17, 16, 15, 14, 13, 12, 11, 10, 9, 5, 8, 7, 6, 4, 3, 2, 1, 0] ?_; refine DGo.fin (by kernel_rfl) ?_) | refine zP.cons ?_ ?_ | exact zP.nil | (refine zS.at_ 5 ?_; refine zS.v rfl rfl rfl (yS rfl rfl rfl rfl rfl (by decide)) ?_) | (refine zS.at_ 9 ?_; refine zS.v rfl rfl rfl (yG rfl rfl rfl rfl rfl (by decide)) ?_) | (refine zS.at_ 10 ?_; refine zS.v rfl rfl rfl (by exact zG (cn) rfl rfl rfl (by decide)) ?_) | (refine zS.at_ 11 ?_; refine zS.ofT rfl rfl (zA.hd (i := []) (f := qM H _ _) (r := fun x s e g hk => ?_) (p := fun q s e => ?_) (t := ?_))) | (refine zS.at_ 12 ?_; refine zS.v rfl rfl rfl (by exact zG (ref_fn _ (U.lo (by assumption)) (U.hi (by assumption))) rfl rfl rfl (by decide)) ?_) | (refine zS.at_ 15 ?_; refine zS.w rfl rfl (by exact y8 rfl rfl rfl rfl rfl (by rfl) (by exact Nat.le_of_ble_eq_true rfl) rfl rfl) ?_) | (refine zS.at_ 18 ?_; refine zS.w rfl rfl (by exact y8 rfl rfl rfl rfl rfl (by rfl) (by exact Nat.le_of_ble_eq_true rfl) rfl rfl) ?_))
  all_goals (first | exact fun e => hns (by clear hns; simp only [run_bind, zD, zB, Held.zQ, Held.zC, Held.zJ, cond_true, cond_false, *]) | exact .pan (q := q) rfl aQ_ (by repeat' first | exact trivial | exact ⟨_, rfl, rfl⟩ | constructor) (by simp only [run_bind, zD, zB, Held.zQ, Held.zC, Held.zJ, cond_true, cond_false, *]) | exact .ret (x := x) (by exact .inr rfl) (by exact .none rfl) aQ_ (by simp only [run_bind, zD, zB, Held.zQ, Held.zC, Held.zJ, cond_true, cond_false, *] <;> rfl))
theorem field_h (H : Hnd) (s0 : H.σ) {t p x f : Int} (hx : Rc t x) (hf : 0 ≤ f ∧ f ≤ 7) : FnH H 77 [.ptr 1003 0, .p (.val (.int .i64 f))] [vT H t p x] (fun w => .p (.val (.int .u64 w))) (fun _ => [vT H t p x]) U s0 (xW (yJ t x f)) := by
  have cf := kX hx f hf
  unfold vT Hnd.doA
  refine yO Tryz.func77 rfl Tryz.ntmps77 (Nat.le_of_ble_eq_true rfl) (by decide) (yC _) fun hok hns => ?_
  repeat' (first | (refine zY.nil ?_) | (refine zZ.is ?_; first | refine zZ.seq ?_ | (refine zZ.iR 0 ?_; refine zZ.rc [0, 1] [1000, 1001, 1002, 1003] (r := (.v zW .e)) (h := ?_)) | (refine zZ.iR 1 ?_; refine zZ.rk [0, 1, 4] [1000, 1001, 1002, 1003] ?_; refine zZ.draws ?_) | refine zZ.ret ?_) | refine zK.n ?_ | refine zK.p ?_ | (refine Draws.is ?_; first | refine Draws.rc (.v yY (.v xD (.v zH (.v vQ (.v yY (.v xD (.v zH (.v zL (.v yY (.v xD (.v zH (.v zL (.v zX .e))))))))))))) ?_ | (refine Draws.in_ [18] rfl ?_; refine Draws.v rfl rfl (zG (cf) rfl rfl rfl (by decide)) ?_) | refine Draws.done (by kernel_rfl) (by kernel_rfl) (by kernel_rfl) ?_) | (refine zF.is ?_; first | refine zF.nil ?_ | (refine zF.at_ 4 rfl ?_; refine zF.rc (.v zW .e) ?_) | (refine zF.in_ [19] rfl ?_; refine zF.ofT rfl (zA.hd (i := []) (f := qM H _ _) (r := fun x s e g hk => ?_) (p := fun q s e => ?_) (t := ?_)))))
  all_goals (first | exact fun e => hns (by clear hns; simp only [run_bind, zD, zB, Held.zQ, Held.zC, Held.zJ, cond_true, cond_false, *]) | exact .pan (q := q) rfl aQ_ (by repeat' first | exact trivial | exact ⟨_, rfl, rfl⟩ | constructor) (by simp only [run_bind, zD, zB, Held.zQ, Held.zC, Held.zJ, cond_true, cond_false, *]) | exact .ret (by exact .inl rfl) (by exact .one rfl rfl) aQ_ (by simp only [run_bind, zD, zB, Held.zQ, Held.zC, Held.zJ, cond_true, cond_false, *] <;> rfl))
theorem on_h (H : Hnd) (s0 : H.σ) {t p x w : Int} (hw : U w) : FnH H 81 [.ptr 1003 0, .p (.val (.int .u64 w))] [vT H t p x] (fun _ => .any) (fun _ => [vT H t x (xY w)]) yes s0 (.ret ()) := by
  have cr := ref_fn w hw.1 hw.2
  unfold vT Hnd.doA
  refine yO Tryz.func81 rfl Tryz.ntmps81 (Nat.le_of_ble_eq_true rfl) (by decide) trivial fun hok hns => ?_
  repeat' (first | (refine zZ.is ?_; (refine zZ.iR 0 ?_; refine zZ.rk [0, 1] [1000, 1001, 1002, 1003] ?_; refine zZ.drawGo (by kernel_rfl) ?_)) | (refine DGo.at_ [] ?_; refine DGo.fr 0 ?_) | (refine DGo.at_ [0] ?_; refine DGo.fr 1 ?_) | (refine DGo.at_ [1, 0] ?_; refine DGo.fr 2 ?_) | (refine DGo.at_ [2, 1, 0] ?_; refine DGo.fr 3 ?_) | (refine DGo.at_ [3, 2, 1, 0] ?_; refine DGo.fr 4 ?_) | (refine DGo.at_ [4, 3, 2, 1, 0] ?_; refine DGo.fr 6 ?_) | (refine DGo.at_ [6, 4, 3, 2, 1, 0] ?_; refine DGo.all [5, 7] (by kernel_rfl) ?_) | (refine DGo.at_ [7, 6, 4, 3, 2, 1, 0] ?_; refine DGo.all [5] (by kernel_rfl) ?_) | (refine DGo.at_ [5, 7, 6, 4, 3, 2, 1, 0] ?_; refine DGo.fr 8 ?_) | (refine DGo.at_ [8, 5, 7, 6, 4, 3, 2, 1, 0] ?_; refine DGo.fr 9 ?_) | (refine DGo.at_ [9, 8, 5, 7, 6, 4, 3, 2, 1, 0] ?_; refine DGo.all [10] (by kernel_rfl) ?_) | (refine DGo.at_ [10, 9, 8, 5, 7, 6, 4, 3, 2, 1, 0] ?_; refine DGo.fr 11 ?_) | (refine DGo.at_ [11, 10, 9, 8, 5, 7, 6, 4, 3, 2, 1, 0] ?_; refine DGo.fr 12 ?_) | (refine DGo.at_ [12, 11, 10, 9, 8, 5, 7, 6, 4, 3, 2, 1, 0] ?_; refine DGo.all [13] (by kernel_rfl) ?_) | (refine DGo.at_ [13, 12, 11, 10, 9, 8, 5, 7, 6, 4, 3, 2, 1, 0] ?_; refine DGo.fin (by kernel_rfl) ?_) | (refine DGo.at_ [5, 6, 4, 3, 2, 1, 0] ?_; refine DGo.all [7] (by kernel_rfl) ?_) | (refine DGo.at_ [7, 5, 6, 4, 3, 2, 1, 0] ?_; refine DGo.fr 8 ?_) | (refine DGo.at_ [8, 7, 5, 6, 4, 3, 2, 1, 0] ?_; refine DGo.fr 9 ?_) | (refine DGo.at_ [9, 8, 7, 5, 6, 4, 3, 2, 1, 0] ?_; refine DGo.all [10] (by kernel_rfl) ?_) | (refine DGo.at_ [10, 9, 8, 7, 5, 6, 4, 3, 2, 1, 0] ?_; refine DGo.fr 11 ?_) | (refine DGo.at_ [11, 10, 9, 8, 7, 5, 6, 4, 3, 2, 1, 0] ?_; refine DGo.fr 12 ?_) | (refine DGo.at_ [12, 11, 10, 9, 8, 7, 5, 6, 4, 3, 2, 1, 0] ?_; refine DGo.all [13] (by kernel_rfl) ?_) | (refine DGo.at_ [13, 12, 11, 10, 9, 8, 7, 5, 6, 4, 3, 2, 1, 0] ?_; refine DGo.fin (by kernel_rfl) ?_) | refine zP.cons ?_ ?_ | exact zP.nil | (refine zS.at_ 5 ?_; refine zS.v rfl rfl rfl (yG rfl rfl rfl rfl rfl (by decide)) ?_) | (refine zS.at_ 7 ?_; refine zS.v rfl rfl rfl (by exact zG (cr) rfl rfl rfl (by decide)) ?_) | (refine zS.at_ 10 ?_; refine zS.w rfl rfl (by exact y8 rfl rfl rfl rfl rfl (by rfl) (by exact Nat.le_of_ble_eq_true rfl) rfl rfl) ?_) | (refine zS.at_ 13 ?_; refine zS.w rfl rfl (by exact y8 rfl rfl rfl rfl rfl (by rfl) (by exact Nat.le_of_ble_eq_true rfl) rfl rfl) ?_))
  all_goals (exact .ret (x := ()) (by exact .inr rfl) (by exact .none rfl) aQ_ (by simp only [run_bind, zD, zB, Held.zQ, Held.zC, Held.zJ, cond_true, cond_false, *] <;> rfl))
theorem save2_h (H : Hnd) (s0 : H.σ) {t x : Int} (hx : Rc t x) : FnH H 153 [H.doA, .p (.val (.int .i64 t)), .p (.val (.int .i64 x)), .p (.val (.int .i64 2))] [] (fun x => .p (.val (.bool x))) (fun _ => []) yes s0 (saveP t x 2) := save_h H s0 hx (.inr rfl)
def tookB (H : Hnd) (t p x w : Int) (r : Took) : Blk := vT H t p (bif r.d then xY w else x)
theorem out_h (H : Hnd) (s0 : H.σ) {t p x w : Int} (ht : Small t) (hW : WOK p x) (hw : U w) : FnH H 145 [.ptr 1003 0, .p (.val (.int .u64 w))] [vT H t p x] (fun r => .tup ([.val (.bool r.d), .val (.bool r.ok)].map .p)) (fun r => [tookB H t p x w r]) yes s0 (takeP t p x w) := by
  have cn := cnext_fn t p ht hW.p.le
  have c1 := link_fn x hW.x.le
  have c2 := link_fn (xY w) (wK w).le
  have c3 := ref_fn w hw.1 hw.2
  have u1 := hW.x.u2
  have u2 := (wK w).u2
  have hf := fine_take t p w hW.x
  have hx := hW.x.rc ht
  unfold tookB vT Hnd.doA
  refine yO Tryz.func145 rfl Tryz.ntmps145 (Nat.le_of_ble_eq_true rfl) (by decide) hf fun hok hns => ?_
  repeat' (first | (refine zY.is ?_; first | refine zY.nil ?_ | (refine zY.at_ 58 rfl ?_; refine zY.rc (.v xD (.v zH (.w zO .e))) ?_) | (refine zY.in_ [57] rfl ?_; refine zY.v rfl rfl (zG (c3) rfl rfl rfl (by decide)) ?_)) | (refine zZ.is ?_; first | refine zZ.seq ?_ | (refine zZ.iR 0 ?_; refine zZ.rc [0, 1] [1000, 1001, 1002, 1003] (r := (.v zW (.v zW .e))) (h := ?_)) | (refine zZ.iR 1 ?_; refine zZ.rk [0, 1, 4, 5] [1000, 1001, 1002, 1003] ?_; refine zZ.draws ?_) | (refine zZ.iR 2 ?_; refine zZ.rc [0, 1, 4, 5] [1000, 1001, 1002, 1003] (r := (.v zW (.v zW .e))) (h := ?_)) | (refine zZ.iR 3 ?_; refine zZ.rc [0, 1, 4, 5] [1000, 1001, 1002, 1003] (r := (.v yY (.v xD (.v zH (.v zL (.v zW .e)))))) (h := ?_)) | (refine zZ.iR 4 ?_; refine zZ.rk [0, 1, 4, 5, 6] [1000, 1001, 1002, 1003] ?_; refine zZ.draws ?_) | (refine zZ.iR 5 ?_; refine zZ.rc [0, 1, 4, 5, 6] [1000, 1001, 1002, 1003] (r := (.v zW (.v zW .e))) (h := ?_)) | (refine zZ.iR 6 ?_; refine zZ.rk [0, 1, 4, 5, 6] [1000, 1001, 1002, 1003] ?_; refine zZ.draws ?_) | (refine zZ.iR 7 ?_; refine zZ.rc [0, 1, 4, 5] [1000, 1001, 1002, 1003] (r := (.v yY (.v zX .e))) (h := ?_)) | (refine zZ.iR 8 ?_; refine zZ.rc [4, 5] [1000, 1001, 1002, 1003] (r := (.v zW (.v zW .e))) (h := ?_)) | refine zZ.cond rfl (fun h => ?_) (fun h => ?_) | refine zZ.skip ?_ | refine zZ.ret ?_) | refine zK.n ?_ | refine zK.r ?_ | refine zK.p ?_ | (refine Draws.is ?_; first | refine Draws.rc (.v zX .e) ?_ | refine Draws.rc (.v yY (.v xD (.v zH (.v vQ (.v yY (.v xD (.v zH (.v zL (.v zX .e))))))))) ?_ | refine Draws.rc (.v yY (.v xD (.v zH (.v vQ (.v yY (.v xD (.v zH (.v zL (.v yY (.v xD (.v zH (.v zL .e)))))))))))) ?_ | (refine Draws.in_ [37] rfl ?_; refine Draws.v rfl rfl (zG (cn) rfl rfl rfl (by decide)) ?_) | (refine Draws.in_ [39] rfl ?_; refine Draws.v rfl rfl (zG (c1) rfl rfl rfl (by decide)) ?_) | (refine Draws.in_ [42] rfl ?_; refine Draws.v rfl rfl (zG (c2) rfl rfl rfl (by decide)) ?_) | (refine Draws.in_ [41] rfl ?_; refine Draws.v rfl rfl (zG (c3) rfl rfl rfl (by decide)) ?_) | refine Draws.done (by kernel_rfl) (by kernel_rfl) (by kernel_rfl) ?_) | (refine zF.is ?_; first | refine zF.nil ?_ | (refine zF.at_ 20 rfl ?_; refine zF.rc (.v wU .e) ?_) | (refine zF.at_ 44 rfl ?_; refine zF.rc (.v wU .e) ?_) | (refine zF.in_ [19] rfl ?_; refine zF.ofT rfl (zA.hd (i := []) (f := save2_h H _ hx) (r := fun x s e g hk => ?_) (p := fun q s e => ?_) (t := ?_))) | (refine zF.in_ [43] rfl ?_; refine zF.ofT rfl (zA.hd (i := []) (f := cas_h H _ _ _ _ u1 u2) (r := fun x s e g hk => ?_) (p := fun q s e => ?_) (t := ?_))) | (refine zF.in_ [54] rfl ?_; refine zF.ofT rfl (zA.hd (i := []) (f := retire_h H _ ht hW.x) (r := fun x s e g hk => ?_) (p := fun q s e => ?_) (t := ?_)))))
  all_goals try simp only [Bool.not_eq_true', Bool.not_eq_false'] at *
  all_goals first
    | exact .ret (x := .fail) (.inl rfl) (.tup rfl (by decide) (.cons (.tmp rfl) (.cons (.tmp rfl) .nil))) aQ_ (by simp only [takeP, run_bind, zD, zB, Held.zQ, cond_true, cond_false, *])
    | exact .ret (x := .miss) (.inl rfl) (.tup rfl (by decide) (.cons (.tmp rfl) (.cons (.tmp rfl) .nil))) aQ_ (by simp only [takeP, run_bind, zD, zB, Held.zQ, cond_true, cond_false, *])
    | skip
  all_goals (first | exact fun e => hns (by clear hns; simp only [takeP, run_bind, zD, zB, Held.zQ, Held.zC, Held.zJ, cond_true, cond_false, *]) | exact .pan (q := q) rfl aQ_ (by repeat' first | exact trivial | exact ⟨_, rfl, rfl⟩ | constructor) (by simp only [takeP, run_bind, zD, zB, Held.zQ, Held.zC, Held.zJ, cond_true, cond_false, *]) | exact .ret (x := .done) (by exact .inl rfl) (by exact .tup rfl (by decide) (.cons (.tmp rfl) (.cons (.tmp rfl) .nil))) aQ_ (by simp only [takeP, run_bind, zD, zB, Held.zQ, Held.zC, Held.zJ, cond_true, cond_false, *] <;> rfl))
end
section
attribute [local irreducible] zY zZ Step zV Sub zF zA Fn zK zI xM
theorem tag1 {w : Int} (h : U w) : 0 ≤ tagF w + 1 := by have := h.1; unfold tagF; omega
theorem wtag1 {w : Int} (h : U w) : IntKind.u64.wrap (tagF w + 1) = tagF w + 1 := by
  have h1 := h.1
  have h2 := h.2
  unfold tagF
  exact wrap_u64 _ (by omega)
theorem wfirst (w : Int) : IntKind.u64.wrap (xA w) = xA w := wrap_u64 _ (by have := firstF_lo w; have := firstF_hi w; omega)
def popS (H : Hnd) (t : Int) (s : H.σ) : AS := { t := [(0, H.doA), (1, .p (.val (.int .i64 t))), (4, .p (.val (.int .i64 0)))], s := [(1000, H.b0 s), (1001, H.b1 s), (1002, H.b2 s)] }
theorem pop_h (H : Hnd) (s0 : H.σ) {t : Int} (ht : Small t) : FnH H 154 [H.doA, .p (.val (.int .i64 t))] [] (fun r => .p (.val (.int .i64 r))) (fun _ => []) Rf s0 (popP t) := by
  unfold Hnd.doA
  refine yO Tryz.func154 rfl Tryz.ntmps154 (Nat.le_of_ble_eq_true rfl) (by decide) (fine_pop t) fun hok hns => ?_
  repeat' (first | (refine zY.nil ?_) | (refine zZ.is ?_; first | refine zZ.seq ?_ | (refine zZ.iR 0 ?_; refine zZ.rc [0, 1] [1000, 1001, 1002] (r := (.v zW .e)) (h := ?_))) | refine zK.n ?_)
  refine zZ.scopeL 0 (fun q : Nat × H.σ => popS H t q.2) (fun q => H.ok q.2 ∧ (Pr.loop (vN t) q.1 ()).run H.st q.2 = (popP t).run H.st s0) (fun q => q.1) (many, s0) ?h0 ⟨hok, rfl⟩ ?rd
  case h0 =>
    exact zM K_2 K_1
  case rd =>
    rintro ⟨n, s1⟩ ⟨hok1, ho⟩
    dsimp only at hok1 ho ⊢
    rw [← ho] at hns ⊢
    unfold popS Hnd.doA
    cases n with
    | zero => exact absurd rfl hns
    | succ n =>
      rw [vW] at ho hns ⊢
      have F1 := fun (w : Int) (h : U w) => wtag1 h
      repeat' (first | (refine zY.is ?_; first | refine zY.nil ?_ | (refine zY.at_ 25 rfl ?_; refine zY.rc (.v v30_1 .e) ?_) | (refine zY.at_ 5 rfl ?_; refine zY.rc (.v zW .e) ?_) | (refine zY.at_ 6 rfl ?_; refine zY.rc (.v zW .e) ?_) | (refine zY.at_ 7 rfl ?_; refine zY.rc (.v zW .e) ?_) | (refine zY.in_ [11, 19] rfl ?_; refine zY.v rfl rfl (zG (first_fn _ (U.lo (by assumption)) (U.hi (by assumption))) rfl rfl rfl (by decide)) ?_) | (refine zY.in_ [24] rfl ?_; refine zY.v rfl rfl (zG (tag_fn _) rfl rfl rfl (by decide)) ?_) | (refine zY.in_ [26] rfl ?_; refine zY.v rfl rfl (zG (top_fn _ _ (firstF_lo _) (firstF_hi _) (tag1 (by assumption))) rfl rfl rfl (by decide)) ?_) | (refine zY.in_ [17] rfl ?_; refine zY.v rfl rfl (zG (kX ((vB _).rc ht) 7 (by decide)) rfl rfl rfl (by decide)) ?_) | (refine zY.in_ [9, 18] rfl ?_; refine zY.ofT rfl (zA.hd (i := []) (f := qM H _ _) (r := fun x s e g hk => ?_) (p := fun q s e => ?_) (t := ?_))) | (refine zY.in_ [27] rfl ?_; refine zY.ofT rfl (zA.hd (i := []) (f := cas_h H _ _ _ _ (by assumption) (topF_U (vB _))) (r := fun x s e g hk => ?_) (p := fun q s e => ?_) (t := ?_)))) | (refine zZ.is ?_; first | refine zZ.seq ?_ | (refine zZ.iR 1 ?_; refine zZ.rc [0, 1, 4, 5, 6, 7, 13, 27] [1000, 1001, 1002] (r := (.v xI .e)) (h := ?_)) | (refine zZ.iR 2 ?_; refine zZ.rc [0, 1, 4, 5, 6, 7, 13, 27] [1000, 1001, 1002] (r := (.v zX .e)) (h := ?_)) | (refine zZ.iR 3 ?_; refine zZ.rc [0, 1, 4, 5, 6, 7, 13, 27] [1000, 1001, 1002] (r := (.v zX (.v wT .e))) (h := ?_)) | (refine zZ.iR 4 ?_; refine zZ.rc [0, 1, 4, 5, 6, 7, 13, 27] [1000, 1001, 1002] (r := (.v zW .e)) (h := ?_)) | (refine zZ.iR 5 ?_; refine zZ.rc [0, 1, 4, 5, 6, 7, 13, 27] [1000, 1001, 1002] (r := (.v xI (.v zX (.v zX .e)))) (h := ?_)) | (refine zZ.iR 6 ?_; refine zZ.rc [0, 1, 4, 5, 6, 7, 13, 27] [1000, 1001, 1002] (r := (.v xI (.v zX (.v zX (.v zX .e))))) (h := ?_)) | (refine zZ.iR 7 ?_; refine zZ.rc [0, 1, 4, 5, 6, 7, 13, 27] [1000, 1001, 1002] (r := (.v zX (.v zW .e))) (h := ?_)) | refine zZ.cond rfl (fun h => ?_) (fun h => ?_) | refine zZ.skip ?_ | refine zZ.ret ?_ | refine zZ.goto ?_) | refine zK.n ?_ | refine zK.r ?_ | refine zK.p ?_ | refine xM.r ?_ | refine xM.g ?_ | refine xM.p ?_)
      all_goals (first | exact fun e => hns (by clear hns; simp only [vN, run_bind, zD, zB, Held.zQ, Held.zC, Held.zJ, cond_true, cond_false, *]) | exact .pan (q := q) rfl aQ_ (by repeat' exact trivial) (by simp only [vN, run_bind, zD, zB, Held.zQ, Held.zC, Held.zJ, cond_true, cond_false, *]) | exact .ret (by exact .inl rfl) (by exact .one rfl rfl) aQ_ (by simp only [vN, run_bind, zD, zB, Held.zQ, Held.zC, Held.zJ, cond_true, cond_false, *] <;> rfl) | skip)
      have e1 : (vN t ()).run H.st s1 = .done (.inl ()) s := by
        clear ho hns
        simp only [vN, run_bind, zD, zB, Held.zQ, cond_true, cond_false, *]
      refine ⟨(n, s), ?_, ⟨by assumption, by rw [run_bind, e1, Held.zQ]; rfl⟩, Nat.lt_succ_self n⟩
      exact zM K_2 K_1
def pushS (H : Hnd) (t r : Int) (s : H.σ) : AS := { t := [(0, H.doA), (1, .p (.val (.int .i64 t))), (2, .p (.val (.int .i64 r)))], s := [(1000, H.b0 s), (1001, H.b1 s), (1002, H.b2 s)] }
theorem push_h (H : Hnd) (s0 : H.σ) {t r : Int} (ht : Small t) (hr : Rf r) : FnH H 102 [H.doA, .p (.val (.int .i64 t)), .p (.val (.int .i64 r))] [] (fun _ => .any) (fun _ => []) yes s0 (pushP t r) := by
  have cf := kX (hr.rc ht) 7 (by decide)
  have ct := fun g => top_fn r g hr.lo (by have := hr.hi; omega)
  unfold Hnd.doA
  refine yO Tryz.func102 rfl Tryz.ntmps102 (Nat.le_of_ble_eq_true rfl) (by decide) (fine_push t hr) fun hok hns => ?_
  refine zZ.scopeL 0 (fun q : Nat × H.σ => pushS H t r q.2) (fun q => H.ok q.2 ∧ (Pr.loop (vV t r) q.1 ()).run H.st q.2 = (pushP t r).run H.st s0) (fun q => q.1) (many, s0) ?h0 ⟨hok, rfl⟩ ?rd
  case h0 =>
    exact zM K_f K_1
  case rd =>
    rintro ⟨n, s1⟩ ⟨hok1, ho⟩
    dsimp only at hok1 ho ⊢
    rw [← ho] at hns ⊢
    unfold pushS Hnd.doA
    cases n with
    | zero => exact absurd rfl hns
    | succ n =>
      rw [vW] at ho hns ⊢
      have F1 := fun (w : Int) (h : U w) => wtag1 h
      have F2 := wfirst
      repeat' (first | (refine zY.is ?_; first | refine zY.nil ?_ | (refine zY.at_ 13 rfl ?_; refine zY.rc (.v zX .e) ?_) | (refine zY.at_ 15 rfl ?_; refine zY.rc (.v v6_2 .e) ?_) | (refine zY.at_ 22 rfl ?_; refine zY.rc (.v v30_1 .e) ?_) | (refine zY.at_ 25 rfl ?_; refine zY.rc (.v wU .e) ?_) | (refine zY.at_ 6 rfl ?_; refine zY.rc (.v zW .e) ?_) | (refine zY.in_ [14] rfl ?_; refine zY.v rfl rfl (zG (first_fn _ (U.lo (by assumption)) (U.hi (by assumption))) rfl rfl rfl (by decide)) ?_) | (refine zY.in_ [21] rfl ?_; refine zY.v rfl rfl (zG (tag_fn _) rfl rfl rfl (by decide)) ?_) | (refine zY.in_ [23] rfl ?_; refine zY.v rfl rfl (zG (ct _ (tag1 (by assumption))) rfl rfl rfl (by decide)) ?_) | (refine zY.in_ [12] rfl ?_; refine zY.v rfl rfl (zG (cf) rfl rfl rfl (by decide)) ?_) | (refine zY.in_ [8] rfl ?_; refine zY.ofT rfl (zA.hd (i := []) (f := qM H _ _) (r := fun x s e g hk => ?_) (p := fun q s e => ?_) (t := ?_))) | (refine zY.in_ [16] rfl ?_; refine zY.ofT rfl (zA.hd (i := []) (f := kJ H _ _ _ (Rf.u (vB _))) (r := fun x s e g hk => ?_) (p := fun q s e => ?_) (t := ?_))) | (refine zY.in_ [24] rfl ?_; refine zY.ofT rfl (zA.hd (i := []) (f := cas_h H _ _ _ _ (by assumption) (topF_U hr)) (r := fun x s e g hk => ?_) (p := fun q s e => ?_) (t := ?_)))) | (refine zZ.is ?_; first | refine zZ.seq ?_ | (refine zZ.iR 0 ?_; refine zZ.rc [0, 1, 2, 6, 25] [1000, 1001, 1002] (r := (.v xI .e)) (h := ?_)) | (refine zZ.iR 1 ?_; refine zZ.rc [0, 1, 2, 6, 25] [1000, 1001, 1002] (r := (.v xI (.v zX (.v zX .e)))) (h := ?_)) | (refine zZ.iR 2 ?_; refine zZ.rc [0, 1, 2, 6, 25] [1000, 1001, 1002] (r := (.v xI (.v zX (.v zX (.v zX .e))))) (h := ?_)) | refine zZ.cond rfl (fun h => ?_) (fun h => ?_) | refine zZ.skip ?_ | refine zZ.goto ?_) | refine zK.n ?_ | refine zK.p ?_ | refine xM.n ?_ | refine xM.g ?_ | refine xM.p ?_)
      all_goals try simp only [Bool.not_eq_true', Bool.not_eq_false'] at *
      all_goals (first | exact fun e => hns (by clear hns; simp only [vV, run_bind, zD, zB, Held.zQ, Held.zC, Held.zJ, cond_true, cond_false, *]) | exact .pan (q := q) rfl aQ_ (by repeat' exact trivial) (by simp only [vV, run_bind, zD, zB, Held.zQ, Held.zC, Held.zJ, cond_true, cond_false, *]) | exact .ret (x := ()) (by exact .inr rfl) (by exact .none rfl) aQ_ (by simp only [vV, run_bind, zD, zB, Held.zQ, Held.zC, Held.zJ, cond_true, cond_false, *] <;> rfl) | skip)
      have e1 : (vV t r ()).run H.st s1 = .done (.inl ()) s := by
        clear ho hns
        simp only [vV, run_bind, zD, zB, Held.zQ, cond_true, cond_false, *]
      refine ⟨(n, s), ?_, ⟨by assumption, by rw [run_bind, e1, Held.zQ]; rfl⟩, Nat.lt_succ_self n⟩
      exact zM K_f K_1
theorem pin_h (H : Hnd) (s0 : H.σ) {me : Int} (hm : Small me) : FnH H 106 [H.doA, .p (.val (.int .i64 me))] [] (fun _ => .any) (fun _ => []) yes s0 (pinP me) := by
  have cp := pin_fn me hm
  have F1 := fun e : Int => (rfl : IntKind.u64.wrap (e + 1) = wr1 e)
  unfold Hnd.doA
  refine yO Tryz.func106 rfl Tryz.ntmps106 (Nat.le_of_ble_eq_true rfl) (by decide) (fine_pin me) fun hok hns => ?_
  repeat' (first | (refine zY.is ?_; first | refine zY.nil ?_ | (refine zY.at_ 7 rfl ?_; refine zY.rc (.v xI .e) ?_) | (refine zY.at_ 9 rfl ?_; refine zY.rc (.v v30_1 .e) ?_) | (refine zY.in_ [6] rfl ?_; refine zY.v rfl rfl (zG (cp) rfl rfl rfl (by decide)) ?_) | (refine zY.in_ [8] rfl ?_; refine zY.ofT rfl (zA.hd (i := []) (f := qM H _ _) (r := fun x s e g hk => ?_) (p := fun q s e => ?_) (t := ?_))) | (refine zY.in_ [10] rfl ?_; refine zY.ofT rfl (zA.hd (i := []) (f := kJ H _ _ _ (wr1_U _)) (r := fun x s e g hk => ?_) (p := fun q s e => ?_) (t := ?_)))) | (refine zZ.is ?_; (refine zZ.iR 0 ?_; refine zZ.rc [0, 1] [1000, 1001, 1002] (r := (.v xI (.v zX .e))) (h := ?_))))
  all_goals (first | exact fun e => hns (by clear hns; simp only [pinP, run_bind, zD, zB, Held.zQ, Held.zC, Held.zJ, cond_true, cond_false, *]) | exact .pan (q := q) rfl aQ_ (by repeat' exact trivial) (by simp only [pinP, run_bind, zD, zB, Held.zQ, Held.zC, Held.zJ, cond_true, cond_false, *]) | exact .ret (x := ()) (by exact .inr rfl) (by exact .none rfl) aQ_ (by simp only [pinP, run_bind, zD, zB, Held.zQ, Held.zC, Held.zJ, cond_true, cond_false, *] <;> rfl))
theorem unpin_h (H : Hnd) (s0 : H.σ) {me : Int} (hm : Small me) : FnH H 107 [H.doA, .p (.val (.int .i64 me))] [] (fun _ => .any) (fun _ => []) yes s0 (unpinP me) := by
  have cp := pin_fn me hm
  unfold Hnd.doA
  refine yO Tryz.func107 rfl Tryz.ntmps107 (Nat.le_of_ble_eq_true rfl) (by decide) (fine_unpin me) fun hok hns => ?_
  repeat' (first | (refine zY.is ?_; first | refine zY.nil ?_ | (refine zY.in_ [6] rfl ?_; refine zY.v rfl rfl (zG (cp) rfl rfl rfl (by decide)) ?_) | (refine zY.in_ [7] rfl ?_; refine zY.ofT rfl (zA.hd (i := []) (f := kJ H _ _ _ U.zero) (r := fun x s e g hk => ?_) (p := fun q s e => ?_) (t := ?_)))) | (refine zZ.is ?_; (refine zZ.iR 0 ?_; refine zZ.rc [0, 1] [1000, 1001, 1002] (r := (.v xI (.v zX .e))) (h := ?_))))
  all_goals (first | exact fun e => hns (by clear hns; simp only [unpinP, run_bind, zD, zB, Held.zQ, Held.zC, Held.zJ, cond_true, cond_false, *]) | exact .pan (q := q) rfl aQ_ (by repeat' exact trivial) (by simp only [unpinP, run_bind, zD, zB, Held.zQ, Held.zC, Held.zJ, cond_true, cond_false, *]) | exact .ret (x := ()) (by exact .inr rfl) (by exact .none rfl) aQ_ (by simp only [unpinP, run_bind, zD, zB, Held.zQ, Held.zC, Held.zJ, cond_true, cond_false, *] <;> rfl))
theorem swap_h (H : Hnd) (s0 : H.σ) (c v : Int) (hv : U v) : FnH H 194 [H.doA, .p (.val (.int .i64 c)), .p (.val (.int .u64 v))] [] (fun x => .p (.val (.int .u64 x))) (fun _ => []) U s0 (swapP c v) := by
  unfold Hnd.doA
  refine yO Tryz.func194 rfl Tryz.ntmps194 (Nat.le_of_ble_eq_true rfl) (by decide) (fine_swap c hv) fun hok hns => ?_
  repeat' (first | (refine zY.is ?_; first | refine zY.nil ?_ | (refine zY.at_ 12 rfl ?_; refine zY.rc (.v v11_0 (.v zW .e)) ?_) | (refine zY.in_ [11] rfl ?_; refine zY.ofT rfl (zA.hd (i := []) (f := do_h H s0 (vF 4 c v 0 xZ) (fine_swap c hv).1) (r := fun x s e g hk => ?_) (p := fun q s e => ?_) (t := ?_)))) | (refine zZ.is ?_; first | refine zZ.seq ?_ | (refine zZ.iR 0 ?_; refine zZ.rc [0, 1, 2] [1000, 1001, 1002] (r := (.v zW .e)) (h := ?_)) | (refine zZ.iR 1 ?_; refine zZ.rc [0, 1, 2, 6] [1000, 1001, 1002] (r := (.v xI (.v zX (.v zX (.v yD .e))))) (h := ?_)) | refine zZ.ret ?_) | refine zK.n ?_ | refine zK.p ?_)
  all_goals first
    | exact fun e => absurd (by show (Pr.bind (.ask (vF 4 c v 0 xZ) .ret) fun r : yQ => .ret r.n).run H.st s0 = _; rw [run_bind, e]; rfl) hns
    | exact .pan (q := q) rfl aQ_ (by repeat' exact trivial) (by show (Pr.bind (.ask (vF 4 c v 0 xZ) .ret) fun r : yQ => .ret r.n).run H.st s0 = _; rw [run_bind, e]; rfl)
    | exact .ret (by exact .inl rfl) (.one rfl rfl) aQ_ (by show (Pr.bind (.ask (vF 4 c v 0 xZ) .ret) fun r : yQ => .ret r.n).run H.st s0 = _; rw [run_bind, e]; rfl)
end
section
section
variable {P : Program} {n : Nat} {S : AS}
def wideF (r : Option Nat) : Fence := { Fence.wide with round := r }
theorem sem_at (r : Option Nat) (ρ : Operand → Value) (o : Oper) (h : ∀ c, o.op ≠ .defer c) : o.semAt r ρ = execOp ρ o := by
  cases r with
  | none => rfl
  | some l => exact Oper.semAt_some l ρ o h
theorem wp_in {o : Oper} {a : Act} {w : World} {next next' : Act → World → Prop} {Q Q' : Exit → Act → World → Prop} (r : Option Nat) (hd : ∀ c, o.op ≠ .defer c) (hn : ∀ a w, next a w → next' a w) (hq : ∀ e a w, e ≠ .normal → Q e a w → Q' e a w) (h : o.wp P a w next Q) : o.wpIn (wideF r) 0 P a w next' Q' := by
  refine ⟨fun _ _ => trivial, ?_⟩
  show o.uponIn _ 0 P a next' Q' ((o.semAt r a.eval).run P w)
  rw [sem_at r a.eval o hd]
  unfold Oper.wp at h
  revert h
  cases (execOp a.eval o).run P w with
  | ok x w' =>
    cases x with
    | value v => exact fun h => hn _ _ h
    | skip => exact fun h => hn _ _ h
    | defer d => exact fun h => hn _ _ h
    | enter f args =>
      intro h
      have h1 : CallsIn (wideF r) 0 P f args w' _ := callsIn_wide.2 h
      refine ⟨fun h => (by cases h), h1.mono fun e w'' he => ?_⟩
      cases e with
      | returned v => exact hn _ _ he
      | panicked chain => exact hq _ _ _ (by simp) he
      | outgrown =>
        obtain ⟨a0, w0, h0⟩ := he
        exact ⟨a0, w0, hq _ _ _ (by simp) h0⟩
    | row row args =>
      intro h
      refine ⟨fun h => (by cases h), fun c cs _ => ?_⟩
      obtain ⟨v, w'', h1, h2⟩ := h c cs
      exact ⟨v, w'', hn _ _ h1, stepsIn_wide.2 h2⟩
    | _ => exact fun h => h.elim
  | halt s w' =>
    cases s with
    | panic v => exact fun h => hq _ _ _ (by simp) h
    | _ => exact fun h => h.elim
theorem wpList_app {ops : Array Oper} {Q Q' : Exit → Act → World → Prop} {l2 : List Oper} (r : Option Nat) (hq : ∀ a w, ¬ Q .outgrown a w) (hqq : ∀ e a w, e ≠ .normal → Q e a w → Q' e a w) (h2 : ∀ a w, Q .normal a w → wpListIn (wideF r) 0 P ops Q' l2 a w) :
    ∀ {l1 : List Oper} {a : Act} {w : World}, (∀ o ∈ l1, ∀ c, o.op ≠ .defer c) → wpList P ops Q l1 a w → wpListIn (wideF r) 0 P ops Q' (l1 ++ l2) a w
  | [], a, w, _, h => h2 a w h
  | o :: rest, a, w, hd, h => by
    unfold wpList at h
    show wpListIn _ _ _ _ _ (o :: (rest ++ l2)) a w
    unfold wpListIn
    by_cases hw : Region.wanted o (yielded ops a.tmps) = true
    · rw [if_pos hw] at h ⊢
      rcases h with h | ⟨_, a', w', h⟩
      · exact wp_in r (hd o (by simp)) (fun a w h => wpList_app r hq hqq h2 (fun o ho => hd o (by simp [ho])) h) hqq h
      · exact absurd h (hq a' w')
    · rw [if_neg hw] at h ⊢
      exact ⟨fun _ _ => trivial, wpList_app r hq hqq h2 (fun o ho => hd o (by simp [ho])) h⟩
theorem wpList_in {ops : Array Oper} {Q : Exit → Act → World → Prop} (r : Option Nat) (hq : ∀ a w, ¬ Q .outgrown a w) {rest : List Oper} {a : Act} {w : World} (hd : ∀ o ∈ rest, ∀ c, o.op ≠ .defer c) (h : wpList P ops Q rest a w) : wpListIn (wideF r) 0 P ops Q rest a w := by
  have := wpList_app (l2 := []) r hq (fun _ _ _ _ h => h) (fun a w h => h) hd h
  rwa [List.append_nil] at this
def ACodeR (l : Nat) (P : Program) (n : Nat) (c : Code) (S : AS) (K : Exit → AS → Prop) : Prop :=
  (∀ S, ¬ K .outgrown S) → ∀ (M : Nat → Nat → Prop) (w0 : Home) (ρ : Nat → Value) (a : Act) (w : World) (Q : Exit → Act → World → Prop),
    Sat M n w0 S ρ a w → (∀ e S' ρ' a' w', K (bare e) S' → Sat M n w0 S' ρ' a' w' → ExOK M S' ρ' w' e → Q e a' w') → c.wpIn (Fence.wide.inRound l) 0 P Q a w
def noDefer (l : List Oper) : Bool := l.all fun o => match o.op with
  | .defer _ => false
  | _ => true
theorem noDefer_of {l : List Oper} (h : noDefer l = true) : ∀ o ∈ l, ∀ c, o.op ≠ .defer c := fun o ho c e => by
  have := List.all_eq_true.1 h o ho
  rw [e] at this
  cases this
theorem ACodeR.region {r id : Nat} {l : List Oper} {K : Exit → AS → Prop} (hd : noDefer l = true) (h : zY P n l.toArray l S K) : ACodeR r P n (.region id l.toArray false) S K := by
  intro h0 M w0 ρ a w Q hs hK
  have h1 := h M w0 ρ a w (fun e a' w' => e ≠ .outgrown ∧ Q e a' w') hs fun e S' ρ' a' w' hk hs' hx => ⟨fun e1 => by subst e1; exact h0 _ hk, hK e S' ρ' a' w' hk hs' hx⟩
  have h2 : wpListIn (Fence.wide.inRound r) 0 P _ _ _ _ _ := wpList_in (some r) (fun a w h => h.1 rfl) (noDefer_of hd) h1
  exact wpIn_mono (wpIn_region_lit h2) fun e a w h => h.2
theorem ACodeR.block {r id : Nat} {c : Code} {K : Exit → AS → Prop} (h : ACodeR r P n c S (zI id K)) : ACodeR r P n (.block id c) S K :=
  fun h0 M w0 ρ a w Q hs hK => wpIn_block (h h0 M w0 ρ a w _ hs fun e S' ρ' a' w' hk hs' hx => by
    cases e with
    | exit id' =>
      show if id' = id then Q .normal a' w' else Q (.exit id') a' w'
      have hk' : if id' = id then K .normal S' else K (.exit id') S' := hk
      by_cases h1 : id' = id
      · rw [if_pos h1] at hk' ⊢; exact hK _ _ ρ' a' w' hk' hs' hx
      · rw [if_neg h1] at hk' ⊢; exact hK _ _ ρ' a' w' hk' hs' hx
    | normal => exact hK .normal S' ρ' a' w' hk hs' hx
    | goto l => exact hK (.goto l) S' ρ' a' w' hk hs' hx
    | ret => exact hK .ret S' ρ' a' w' hk hs' hx
    | panic c => exact hK (.panic c) S' ρ' a' w' hk hs' hx
    | outgrown => exact hK .outgrown S' ρ' a' w' hk hs' hx)
end
end
section
section
variable {P : Program} {n : Nat} {o : Oper} {S : AS} {d : Nat} {t : TypeId}
theorem run_buildArr {m e sz by_ : Nat} {z ze : Value} [ht : Und P t (.array m e)] [hi : InfoA P e ze sz by_] [hz : ZeroA P t z] (parts : List (Nat × Value)) (w : World) (cells : Array Value) (h : Instr.fill (fun i => some (i * sz, sz)) z.cells.toList.toArray parts = some cells) :
    (Instr.build t parts.toArray).run P w = .ok (.agg cells) w := by
  have hs : (sizeOf e).run P w = .ok sz w := by
    have h1 := hi.h
    cases h2 : P.info? e with
    | none => rw [h2] at h1; cases h1
    | some i =>
      rw [h2] at h1
      simp only [Option.map_some, Option.some.injEq, Prod.mk.injEq] at h1
      simp [sizeOf, typeInfo, h2, h1.2.1]
  unfold Instr.build
  simp only [Sem.run_bind, hz.h, Result.andThen_ok, run_underlying ht.h, hs]
  rw [Array.toArray_toList] at h
  rw [h]
  rfl
theorem w_buildArr {ps : Array (Nat × Operand)} {m e sz by_ : Nat} {z ze : Value} {zs : List AV} {cs : List PV} [ht : Und P t (.array m e)] [hi : InfoA P e ze sz by_] [hz : ZeroA P t z] (ho : o.op = .build t ps) (h1 : z.cells.toList.all (fun u => u.oneCell') = true)
    (hk : ps.toList.all (fun p => (S.get p.2).kZ) = true)
    (hf : fillA (fun i => some (i * sz, sz)) (z.cells.toList.map fun u => .p (.val u)) (ps.toList.map fun p => (p.1, S.get p.2)) = some zs) (hp : pures zs = some cs) (hd : o.dst = some d) (hn : d < n) : zV P n o S [] (.p (.agg cs)) none :=
  zV.pure hd hn fun S2 hg _ M w0 ρ a w hs => by
    have hzs := kD hp
    have hargs : ∀ p ∈ ps.toList, S2.get p.2 = S.get p.2 := fun p hp => hg p.2 (by rw [ho]; simp only [Op.operands, List.mem_map]; exact ⟨p, hp, rfl⟩)
    obtain ⟨us, h3, h2⟩ := fill_rep (fun i => some (i * sz, sz)) S.get a.eval ps.toList _ zs z.cells.toList (parts_ok hs hargs hk) hf (zerosA fun u hu => List.all_eq_true.1 h1 u hu)
    refine ⟨.agg us.toArray, w, ?_, Below.refl _ _, .p (.agg _ _ (by rw [h2.len, hzs]; simp) (fun i c v h3 h4 => kI (h2.each i (.p c) v (by rw [hzs, List.getElem?_map, h3]; rfl) h4)) h2.one)⟩
    unfold execOp
    rw [ho]
    have e1 := run_buildArr (P := P) (t := t) (ps.toList.map fun p => (p.1, a.eval p.2)) w us.toArray h3
    have e2 : (ps.toList.map fun p => (p.1, a.eval p.2)).toArray = ps.map fun p => (p.1, a.eval p.2) := by apply Array.ext'; simp
    rw [e2] at e1
    simp [e1]
end
end
section
def kH (e sz : Nat) (es : List PV) : Blk := .prow e sz es.length (flat es)
theorem rowV_alike (e sz : Nat) (es : List PV) : Alike (.row e sz es.length ((flat es).map AV.p)) (kH e sz es) := .rp _ _ _ _
theorem rowV_alike' (e sz : Nat) (es : List PV) : Alike (kH e sz es) (.row e sz es.length ((flat es).map AV.p)) := .pr _ _ _ _
theorem flat_append (xs ys : List PV) : flat (xs ++ ys) = flat xs ++ flat ys := by simp [flat]
section
variable {P : Program} {n : Nat} {o : Oper} {S : AS} {d : Nat} {t : TypeId} {x y : Operand}
theorem w_appV {id e sz by_ : Nat} {z : Value} {cs bs : List PV} [ht : Und P t (.slice e)] [hi : InfoA P e z sz by_] (ho : o.op = .call { callee := .builtin .append, args := #[x, y], argTypes := #[t, t] }) (hx : S.get x = .own id) (hb : S.blk id = some (kH e sz cs))
    (hy : S.get y = .p (.sl bs)) (hes : ∀ e ∈ bs, e.cells.length = sz) (hlim : (cs.length + bs.length) * by_ ≤ 140737488355328 ∧ cs.length + bs.length ≤ maxLen) (hzs : z.cells.size = sz) (hsz : 0 < sz) (hd : o.dst = some d) (hn : d < n) :
    Step P n o S ((S.create id (kH e sz (cs ++ bs))).put d (.own id)) := by
  have h := w_appendP (P := P) (S := S.tag id (.row e sz cs.length ((flat cs).map AV.p))) (o := o) (d := d) ho (by rw [AS.vG]; exact hx) (by rw [AS.xU, if_pos rfl]) (by rw [AS.vG]; exact hy) hes hlim hzs hsz hd hn
  have e1 : Blk.row e sz (cs.length + bs.length) ((flat cs).map AV.p ++ (flat bs).map AV.p) = .row e sz (cs ++ bs).length ((flat (cs ++ bs)).map AV.p) := by
    rw [flat_append, List.map_append, List.length_append]
  rw [e1] at h
  exact h.same (qC hb (rowV_alike' e sz cs)) (((qD hb (rowV_alike e sz cs)).create id (rowV_alike e sz (cs ++ bs))).put d _)
theorem w_indexV {ix : Operand} {id e ty sz : Nat} {j : Int} {k : IntKind} {es : List PV} {agg : Bool} [ht : Und P t (.slice e)] [he : TyA P e agg sz] (ho : o.op = .indexAddr t x ix) (hx : S.get x = .own id) (hb : S.blk id = some (kH ty sz es)) (hi : S.get ix = .p (.val (.int k j)))
    (hj : 0 ≤ j ∧ j < es.length) (hd : o.dst = some d) (hn : d < n) : zV P n o S [id] (.ptr id (j.toNat * sz)) none :=
  zV.tag hb (rowV_alike' ty sz es) (rowV_alike ty sz es) (by simp) (w_indexO (S := S.tag id (.row ty sz es.length ((flat es).map AV.p))) ho (by rw [AS.vG]; exact hx) (by rw [AS.xU, if_pos rfl]) (by rw [AS.vG]; exact hi) hj hd hn)
theorem flat_set {sz : Nat} : ∀ {es : List PV} {i : Nat} {v : PV}, (∀ e ∈ es, e.cells.length = sz) → v.cells.length = sz → i < es.length → splice (flat es) (i * sz) v.cells = flat (es.set i v)
  | [], i, v, _, _, h => by simp at h
  | e :: es, 0, v, he, hv, _ => by
    have h1 := he e (by simp)
    have : flat (e :: es) = e.cells ++ flat es := by simp [flat]
    rw [Nat.zero_mul, this, List.set_cons_zero]
    have h2 : flat (v :: es) = v.cells ++ flat es := by simp [flat]
    rw [h2]
    apply List.ext_getElem?
    intro j
    rw [xH (by simp; omega)]
    by_cases hj : j < v.cells.length
    · rw [if_neg (by omega), if_pos (by omega), List.getElem?_append_left hj, Nat.sub_zero]
    · rw [if_neg (by omega), if_neg (by omega), List.getElem?_append_right (by omega), List.getElem?_append_right (by omega), h1, hv]
  | e :: es, i + 1, v, he, hv, hi => by
    have h1 := he e (by simp)
    have ih := flat_set (es := es) (i := i) (v := v) (fun e h => he e (by simp [h])) hv (by simpa using hi)
    have h3 : flat (e :: es) = e.cells ++ flat es := by simp [flat]
    have h4 : flat ((e :: es).set (i + 1) v) = e.cells ++ flat (es.set i v) := by simp [flat]
    have hfl := flat_len (es := es) (sz := sz) (fun e h => he e (by simp [h]))
    have hi' : i < es.length := by simpa using hi
    have hle : i * sz + sz ≤ (flat es).length := by
      rw [hfl]
      have : (i + 1) * sz ≤ es.length * sz := Nat.mul_le_mul_right _ hi'
      rw [Nat.add_mul] at this
      omega
    rw [h3, h4, ← ih]
    apply List.ext_getElem?
    intro j
    have e1 : (i + 1) * sz = sz + i * sz := by rw [Nat.add_mul]; omega
    rw [xH (by rw [List.length_append, h1, hv, e1]; omega), e1]
    by_cases hj : j < e.cells.length
    · rw [if_pos (show j < sz + i * sz by omega), List.getElem?_append_left hj, List.getElem?_append_left hj]
    · rw [List.getElem?_append_right (by omega), List.getElem?_append_right (by omega), xH (by rw [hv]; omega), h1, hv]
      by_cases h5 : j < sz + i * sz
      · rw [if_pos h5, if_pos (show j - sz < i * sz by omega)]
      · rw [if_neg h5, if_neg (show ¬ j - sz < i * sz by omega)]
        by_cases h6 : j < sz + i * sz + sz
        · rw [if_pos h6, if_pos (show j - sz < i * sz + sz by omega)]
          congr 1
          omega
        · rw [if_neg h6, if_neg (show ¬ j - sz < i * sz + sz by omega)]
theorem splice_map {α β : Type} (f : α → β) (l : List α) (o : Nat) (v : List α) : splice (l.map f) o (v.map f) = (splice l o v).map f := by simp [splice, List.map_take, List.map_drop]
theorem w_storeV {id off i e sz : Nat} {es : List PV} {v : PV} {agg : Bool} [h : TyA P t agg sz] (ho : o.op = .store t x y) (hx : S.get x = .ptr id off) (hb : S.blk id = some (kH e sz es)) (hy : S.get y = .p v) (hk : (AV.p v).kZ = true) (hes : ∀ e ∈ es, e.cells.length = sz) (hv : v.cells.length = sz) (hoff : off = i * sz) (hi : i < es.length) (hd : o.dst = none) :
    Step P n o S (S.tag id (kH e sz (es.set i v))) := by
  subst hoff
  have hfl := flat_len hes
  have hle : i * sz + sz ≤ (flat es).length := by
    rw [hfl]
    have : (i + 1) * sz ≤ es.length * sz := Nat.mul_le_mul_right _ hi
    rw [Nat.add_mul] at this
    omega
  have h1 := y8 (P := P) (n := n) (S := S.tag id (.row e sz es.length ((flat es).map AV.p))) (o := o) (agg := agg) (m := sz) ho (by rw [AS.vG]; exact hx) (by rw [AS.xU, if_pos rfl]) (by rw [AS.vG, hy]) hk (by show (v.cells.map AV.p).length = sz; rw [List.length_map, hv]) (by show i * sz + sz ≤ ((flat es).map AV.p).length; rw [List.length_map]; exact hle) rfl hd
  have e1 : (Blk.row e sz es.length ((flat es).map AV.p)).setXs (splice (Blk.row e sz es.length ((flat es).map AV.p)).xs (i * sz) (AV.p v).wX) = .row e sz (es.set i v).length ((flat (es.set i v)).map AV.p) := by
    show Blk.row e sz es.length (splice ((flat es).map AV.p) (i * sz) (v.cells.map AV.p)) = _
    rw [splice_map, flat_set hes hv hi, List.length_set]
  rw [e1] at h1
  refine h1.same (qC hb (rowV_alike' e sz es)) ⟨fun _ => rfl, fun j => ?_⟩
  show (if id = j then some _ else if id = j then some _ else S.blk j) = none ∧ (if id = j then some _ else S.blk j) = none ∨ ∃ b b', (if id = j then some _ else if id = j then some _ else S.blk j) = some b ∧ (if id = j then some _ else S.blk j) = some b' ∧ Alike b b'
  by_cases hj : id = j
  · subst hj
    rw [if_pos rfl, if_pos rfl]
    exact .inr ⟨_, _, rfl, rfl, rowV_alike e sz (es.set i v)⟩
  · rw [if_neg hj, if_neg hj, if_neg hj]
    cases S.blk j with
    | none => exact .inl ⟨rfl, rfl⟩
    | some b => exact .inr ⟨b, b, rfl, rfl, .refl b⟩
theorem flat_at {sz : Nat} {es : List PV} (hes : ∀ e ∈ es, e.cells.length = sz) {i : Nat} {c : PV} (hc : es[i]? = some c) : ((flat es).drop (i * sz)).take sz = c.cells := flat_get hes hc
theorem w_loadVN {id off i e sz : Nat} {es cs : List PV} [h : TyA P t true sz] (ho : o.op = .load t x) (hx : S.get x = .ptr id off) (hb : S.blk id = some (kH e sz es)) (hes : ∀ e ∈ es, e.cells.length = sz) (hoff : off = i * sz) (hc : es[i]? = some (.agg cs)) (hd : o.dst = some d) (hn : d < n) : zV P n o S [id] (.p (.agg cs)) none := by
  subst hoff
  refine a_loadRN (b := kH e sz es) ho hx hb ?_ (hes _ (List.mem_of_getElem? hc)) h.ag h.sz hd hn
  show (((flat es).map AV.p).drop (i * sz)).take sz = cs.map AV.p
  rw [← List.map_drop, ← List.map_take, flat_at hes hc]
  rfl
theorem flat_rep {zp : PV} {sz : Nat} (hz : zp.cells.length = sz) (hsz : 0 < sz) : ∀ {m j : Nat}, j < m * sz → (flat (List.replicate m zp))[j]? = zp.cells[j % sz]?
  | 0, j, h => by omega
  | m + 1, j, h => by
    have e : flat (List.replicate (m + 1) zp) = zp.cells ++ flat (List.replicate m zp) := by simp [flat, List.replicate_succ]
    rw [e]
    by_cases hj : j < sz
    · rw [List.getElem?_append_left (by omega), Nat.mod_eq_of_lt hj]
    · rw [Nat.add_mul] at h
      rw [List.getElem?_append_right (by omega), hz, flat_rep hz hsz (by omega), Nat.mod_eq_sub_mod (show sz ≤ j by omega)]
theorem w_makeV {e sz by_ m : Nat} {k : IntKind} {z : Value} {xl xc : Operand} [ht : Und P t (.slice e)] [hi : InfoA P e z sz by_] (ho : o.op = .makeSlice t xl xc) (hl : S.get xl = .p (.val (.int k (m : Int)))) (hc : S.get xc = .p (.val (.int k (m : Int)))) (hlim : m * sz ≤ 16777216 ∧ by_ * m ≤ 281474976710656 ∧ m ≤ maxLen)
    (hzs : z.cells.size = sz) (hsz : 0 < sz) {zp : PV} (hzp : zp.cells = z.cells.toList.map PV.val) (h1 : z.cells.toList.all (fun u => u.oneCell') = true) (hd : o.dst = some d) (hn : d < n) : zV P n o S [] (.own d) (some (kH e sz (List.replicate m zp))) :=
  zV.made hd hn fun S2 hg _ M w0 ρ a w hs => by
    have r1 := hs.val ((hg xl (by rw [ho]; simp [Op.operands])).trans hl)
    have r2 := hs.val ((hg xc (by rw [ho]; simp [Op.operands])).trans hc)
    obtain ⟨i, hi1, hi2⟩ := Option.map_eq_some_iff.1 hi.h
    simp only [Prod.mk.injEq] at hi2
    obtain ⟨hz, hisz, hiby⟩ := hi2
    obtain ⟨w', hr, hown, hgr⟩ := run_makeSlice_full (P := P) w 0 t e i z sz ht.h hi1 hz hisz k k m hlim.1 (by rw [hiby]; exact hlim.2.1) hlim.2.2 (Nat.zero_le _)
    refine ⟨.slice (some ⟨w.heap.size, 0, none⟩) m m, w', ?_, hgr, fun k hk => ?_, ?_, .inl rfl⟩
    · unfold execOp
      rw [ho]
      simp only [r1, r2, Sem.run_bind, hr]
      rfl
    · simp only [yX, Option.some.injEq] at hk; omega
    · have hlen : (madeCells z.cells (m * sz)).toList.length = m * sz := by rw [Array.length_toList, size_madeCells]
      have hzl : z.cells.toList.length = sz := by rw [Array.length_toList]; exact hzs
      have hat : ∀ j, j < m * sz → (madeCells z.cells (m * sz)).toList[j]? = z.cells.toList[j % sz]? := fun j hj => by
        have hjs : j % sz < z.cells.size := by rw [hzs]; exact Nat.mod_lt _ hsz
        simp only [madeCells, Array.toList_map, Array.toList_range, List.getElem?_map, List.getElem?_range hj, Option.map_some, Array.getElem?_toList, hzs]
        rw [getElem!_pos z.cells _ hjs, Array.getElem?_eq_getElem hjs]
      have hfl : flat (List.replicate m zp) = (madeCells z.cells (m * sz)).toList.map PV.val := by
        apply List.ext_getElem?
        intro j
        by_cases hj : j < m * sz
        · rw [flat_rep (sz := sz) (by rw [hzp, List.length_map, hzl]) hsz hj, hzp, List.getElem?_map, List.getElem?_map, hat j hj]
        · rw [List.getElem?_eq_none (l := (madeCells z.cells (m * sz)).toList.map PV.val) (by rw [List.length_map, hlen]; omega), List.getElem?_eq_none]
          rw [flat_len (sz := sz) (fun e he => by rw [List.eq_of_mem_replicate he, hzp, List.length_map, hzl]), List.length_replicate]
          omega
      refine ⟨_, by rw [List.length_replicate]; exact hown, ⟨by rw [hfl, List.length_map, List.length_map], fun j c v h2 h3 => ?_, fun v hv => ?_⟩⟩
      · rw [hfl, List.map_map, List.getElem?_map, h3] at h2
        cases h2
        exact .p (.val _)
      · obtain ⟨j, hj⟩ := List.getElem?_of_mem hv
        have hjl : j < m * sz := by
          have := (List.getElem?_eq_some_iff.1 hj).1
          rw [hlen] at this
          exact this
        rw [hat j hjl] at hj
        exact List.all_eq_true.1 h1 v (List.mem_of_getElem? hj)
end
end
section
def AV.frz (id : Nat) (x : PV) : AV → AV
  | .own j => if j = id then .p x else .own j
  | y => y.kill id
def Blk.frz (id : Nat) (x : PV) : Blk → Blk
  | .row t s n xs => .row t s n (xs.map (AV.frz id x))
  | .prow t s n xs => .prow t s n xs
  | .box t xs => .box t (xs.map (AV.frz id x))
  | .lent t s n xs => .lent t s n xs
  | .obj mp Q => .obj mp Q
def AS.frz (S : AS) (id : Nat) (x : PV) : AS := { t := S.t.map fun p => (p.1, p.2.frz id x), s := (dropL S.s id).map fun p => (p.1, p.2.frz id x) }
theorem AS.tmp_frz (S : AS) (id : Nat) (x : PV) (i : Nat) : (S.frz id x).tmp i = (S.tmp i).frz id x := by
  simp only [AS.tmp, AS.frz, look_map]
  cases look S.t i <;> rfl
theorem AS.blk_frz (S : AS) (id : Nat) (x : PV) (j : Nat) : (S.frz id x).blk j = if id = j then none else (S.blk j).map (Blk.frz id x) := by
  simp only [AS.blk, AS.frz, look_map, look_dropL]
  by_cases hj : id = j
  · rw [if_pos hj, if_pos hj]; rfl
  · rw [if_neg hj, if_neg hj]
theorem Blk.turns_frz (b : Blk) (id : Nat) (x : PV) (c : Nat) : (b.frz id x).turns c ↔ b.turns c := by cases b <;> exact Iff.rfl
theorem yK.frz {M : Nat → Nat → Prop} {ρ : Nat → Value} {w : World} {y : AV} {v : Value} {id : Nat} {x : PV} (h : yK M ρ w y v) (hx : Rep M w x (ρ id)) : yK M ρ w (y.frz id x) v := by
  have hk := h.killed id (ρ id)
  rw [upd_self] at hk
  cases y with
  | own j =>
    show yK M ρ w (if j = id then .p x else .own j) v
    by_cases hj : j = id
    · subst hj
      rw [if_pos rfl, qB h]
      exact .p hx
    · rw [if_neg hj]
      exact h
  | _ => exact hk
theorem yE.frz {M : Nat → Nat → Prop} {ρ : Nat → Value} {w : World} {xs : List AV} {ys : List Value} {id : Nat} {x : PV} (h : yE M ρ w xs ys) (hx : Rep M w x (ρ id)) : yE M ρ w (xs.map (AV.frz id x)) ys :=
  ⟨by simp [h.len], fun i c v hc hv => by
    rw [List.getElem?_map, Option.map_eq_some_iff] at hc
    obtain ⟨c', hc', rfl⟩ := hc
    exact (h.each i c' v hc' hv).frz hx, h.one⟩
section
variable {M : Nat → Nat → Prop} {n : Nat} {w0 : Home} {w w' : World} {S : AS} {ρ : Nat → Value} {a : Act}
theorem Mut.frz {id k c : Nat} {x : PV} (h : Mut M (S.frz id x) ρ k c) : Mut M (S.drop id) ρ k c := by
  rcases h with h | ⟨j, b, hb, hk, ht⟩
  · exact .inl h
  · rw [AS.blk_frz] at hb
    split at hb
    · cases hb
    · rename_i hne
      obtain ⟨b1, h1, rfl⟩ := Option.map_eq_some_iff.1 hb
      exact .inr ⟨j, b1.kill id, by rw [AS.wF, if_neg hne, h1]; rfl, hk, (Blk.turns_kill b1 id c).2 ((Blk.turns_frz b1 id x c).1 ht)⟩
theorem Sat.frz_of (h : Sat M n w0 S ρ a w) {id : Nat} {x : PV} (hx : Rep (Mut M (S.drop id) ρ) w x (ρ id)) : Sat M n w0 (S.frz id x) ρ a w := by
  have hx' : Rep (Mut M (S.frz id x) ρ) w x (ρ id) := hx.mono fun _ _ _ hk => Mut.frz hk
  have hm : ∀ k c, k < w.heap.size → Mut M (S.frz id x) ρ k c → Mut M S ρ k c := fun k c _ hk => Mut.drop (Mut.frz hk)
  refine ⟨h.below, h.out, h.tab, h.size, h.defers, fun i => ?_, fun j b hb => ?_, fun j b k hb hk => ?_, h.fix, h.free, fun i j bi bj k hi hj => ?_⟩
  · rw [AS.tmp_frz]
    exact ((h.tmps i).mono hm).frz hx'
  · rw [AS.blk_frz] at hb
    split at hb
    · cases hb
    · obtain ⟨b1, h1, rfl⟩ := Option.map_eq_some_iff.1 hb
      have := h.blks j b1 h1
      cases b1 with
      | row t size m xs =>
        obtain ⟨ys, ho, hc⟩ := this
        exact ⟨ys, ho, (hc.mono hm).frz hx'⟩
      | prow t size m xs =>
        obtain ⟨ys, ho, hc⟩ := this
        exact ⟨ys, ho, hc.mono hm⟩
      | lent t size m xs =>
        obtain ⟨ys, ho, hc⟩ := this
        exact ⟨ys, ho, hc.mono hm⟩
      | obj mp Q => exact this
      | box t xs =>
        obtain ⟨g, ys, hv, hg, hh, hc⟩ := this
        exact ⟨g, ys, hv, hg, hh, (hc.mono hm).frz hx'⟩
  · rw [AS.blk_frz] at hb
    split at hb
    · cases hb
    · obtain ⟨b1, h1, _⟩ := Option.map_eq_some_iff.1 hb
      exact h.mine j b1 k h1 hk
  · rw [AS.blk_frz] at hi hj
    split at hi
    · cases hi
    · split at hj
      · cases hj
      · obtain ⟨b1, h1, _⟩ := Option.map_eq_some_iff.1 hi
        obtain ⟨b2, h2, _⟩ := Option.map_eq_some_iff.1 hj
        exact h.dist i j b1 b2 k h1 h2
end
theorem sub_frz {S : AS} {id e sz : Nat} {es : List PV} (hb : S.blk id = some (kH e sz es)) : Sub S (S.frz id (.sl es)) :=
  fun M n w0 ρ a w hs => by
    refine ⟨ρ, hs.frz_of ?_⟩
    have h1 := ((qC hb (rowV_alike' e sz es)).sat hs).frozen (id := id) (es := es) (by rw [AS.xU, if_pos rfl]) rfl
    refine h1.mono fun k c _ hk => ?_
    rcases hk with hk | ⟨j, b, hj, hk, ht⟩
    · exact .inl hk
    · rw [AS.wF] at hj
      split at hj
      · cases hj
      · rename_i hne
        refine .inr ⟨j, b, ?_, hk, ht⟩
        rw [AS.wF, if_neg hne, AS.xU, if_neg hne]
        exact hj
def lentV (e sz : Nat) (es : List PV) : Blk := .lent e sz es.length (flat es)
theorem sub_lend {S : AS} {id e sz : Nat} {es : List PV} (hb : S.blk id = some (kH e sz es)) : Sub S (S.tag id (lentV e sz es)) :=
  fun M n w0 ρ a w h => by
    have hm : ∀ k c, k < w.heap.size → Mut M (S.tag id (lentV e sz es)) ρ k c → Mut M S ρ k c := fun k c _ hk => by
      rcases hk with hk | ⟨j, b, hj, hk, ht⟩
      · exact .inl hk
      · rw [AS.xU] at hj
        split at hj
        · rename_i he
          subst he
          exact .inr ⟨id, _, hb, hk, trivial⟩
        · exact .inr ⟨j, b, hj, hk, ht⟩
    have some_of : ∀ j b, (S.tag id (lentV e sz es)).blk j = some b → ∃ b1, S.blk j = some b1 := fun j b hj => by
      rw [AS.xU] at hj
      split at hj
      · rename_i he; subst he; exact ⟨_, hb⟩
      · exact ⟨b, hj⟩
    refine ⟨ρ, h.below, h.out, h.tab, h.size, h.defers, fun i => (h.tmps i).mono hm, fun j b hj => ?_, fun j b k hj hk => ?_, h.fix, h.free, fun i j bi bj k hi hj => ?_⟩
    · rw [AS.xU] at hj
      split at hj
      · rename_i he
        subst he
        obtain rfl := Option.some.inj hj
        obtain ⟨ys, ho, hc⟩ := h.blks id _ hb
        exact ⟨ys, ho, hc.mono hm⟩
      · have := h.blks j b hj
        cases b with
        | row t size m xs => obtain ⟨ys, ho, hc⟩ := this; exact ⟨ys, ho, hc.mono hm⟩
        | prow t size m xs => obtain ⟨ys, ho, hc⟩ := this; exact ⟨ys, ho, hc.mono hm⟩
        | lent t size m xs => obtain ⟨ys, ho, hc⟩ := this; exact ⟨ys, ho, hc.mono hm⟩
        | obj mp Q => exact this
        | box t xs => obtain ⟨g, ys, hv, hg, hh, hc⟩ := this; exact ⟨g, ys, hv, hg, hh, hc.mono hm⟩
    · obtain ⟨b1, h1⟩ := some_of j b hj
      exact h.mine j b1 k h1 hk
    · obtain ⟨b1, h1⟩ := some_of i bi hi
      obtain ⟨b2, h2⟩ := some_of j bj hj
      exact h.dist i j b1 b2 k h1 h2
theorem Sat.lentRep {M : Nat → Nat → Prop} {n : Nat} {w0 : Home} {w : World} {S : AS} {ρ : Nat → Value} {a : Act} (h : Sat M n w0 S ρ a w) {id e sz : Nat} {es : List PV} (hb : S.blk id = some (lentV e sz es)) : Rep (Mut M S ρ) w (.sl es) (ρ id) := by
  obtain ⟨ys, ho, hc⟩ := h.blks id _ hb
  have hyl : ys.length = es.length * sz := ho.1
  rcases ho.2 with ⟨hv, hm0⟩ | ⟨g, cap, cur, hv, hg, hh, hn, hcm, hs, ht⟩
  · rw [hv]
    have : es = [] := List.eq_nil_of_length_eq_zero hm0
    subst this
    exact .nil
  · rw [hv]
    have hgm : yX (ρ id) = some g := by rw [hv]; rfl
    refine .sl es g 0 es.length cap ys rfl (by simpa using hc.len) (fun j y hy => ?_) (fun j c y hcj hy => ?_) hc.one ?_ (Array.getElem?_eq_some_iff.1 hh).1 hn hcm
    · rw [Nat.zero_add, cell_of_row w g j cur e (0, 0) hh]
      rw [← ht, List.getElem?_take] at hy
      split at hy
      · simpa using hy
      · cases hy
    · exact kI (hc.each j (.p c) y (by rw [List.getElem?_map, hcj]; rfl) hy)
    · rintro i hi (hk | ⟨j, b, hbj, hkj, htj⟩)
      · exact h.out g _ hk (h.mine id _ g hb hgm)
      · have := h.dist id j _ b g hb hbj hgm hkj
        subst this
        rw [hb] at hbj
        obtain rfl := Option.some.inj hbj
        have : es.length * sz ≤ 0 + i := htj
        omega
theorem sub_view {S : AS} {d id e sz : Nat} {es : List PV} (hd : S.tmp d = .own id) (hb : S.blk id = some (lentV e sz es)) : Sub S (S.put d (.p (.sl es))) :=
  fun M n w0 ρ a w hs => by
    refine ⟨ρ, hs.retype (.p ?_)⟩
    have h1 := hs.tmps d
    rw [hd] at h1
    rw [qB h1]
    exact hs.lentRep hb
end
section
section
variable {P : Program} {n : Nat} {o : Oper} {S : AS} {d : Nat} {t : TypeId} {x y : Operand}
theorem s_appL {id e sz by_ : Nat} {z : Value} {cs bs : List PV} [ht : Und P t (.slice e)] [hi : InfoA P e z sz by_] (ho : o.op = .call { callee := .builtin .append, args := #[x, y], argTypes := #[t, t] }) (hx : S.get x = .own id) (hb : S.blk id = some (lentV e sz cs))
    (hy : S.get y = .p (.sl bs)) (hes : ∀ e ∈ bs, e.cells.length = sz) (hlim : (cs.length + bs.length) * by_ ≤ 140737488355328 ∧ cs.length + bs.length ≤ maxLen) (hzs : z.cells.size = sz) (hsz : 0 < sz) (hd : o.dst = some d) (hn : d < n) :
    Step P n o S ((S.create id (lentV e sz (cs ++ bs))).put d (.own id)) := by
  intro M w0 ρ a w K Q hs hK
  obtain ⟨i, hi1, hi2⟩ := Option.map_eq_some_iff.1 hi.h
  simp only [Prod.mk.injEq] at hi2
  obtain ⟨hz, hisz, hiby⟩ := hi2
  have h1 := hs.rep x
  rw [hx] at h1
  have hv := qB h1
  obtain ⟨ys, hown, hys⟩ := hs.blks id _ hb
  have hown : w.ownsRow 0 e sz (ρ id) cs.length ys := hown
  obtain ⟨us, hus, hnews⟩ := news_p (ρ := ρ) (y7 hs hy) hes
  have e1 : yX (ρ id) = (ρ id).ownBlock := own_slice hown
  have hfree : w0.r id = none := row_free hs hown
  have main : ∀ v' w' row, (Builtin.append_ #[t, t] o.type #[ρ id, a.eval y]).run P w = .ok v' w' → w.grownBy w' row → w'.ownsRow 0 e sz v' (cs.length + bs.length) (ys ++ us) → (row = none ∨ row = (ρ id).ownBlock) →
      (∀ k, yX v' = some k → w.heap.size ≤ k ∨ row = some k) → (∀ k c, row = some k → c < cs.length * sz → w'.cell? ⟨k, c, none⟩ = w.cell? ⟨k, c, none⟩) → o.wp P a w K Q := by
    intro v' w' row hr hg hown' hrow hv' hcell
    have hall : yE (Mut M S ρ) ρ w ((flat (cs ++ bs)).map AV.p) (ys ++ us) := by
      rw [flat_append, List.map_append]
      exact ⟨by simp [hys.len, hus.len], fun i c v h1 h2 => by
        by_cases hi : i < ((flat cs).map AV.p).length
        · rw [List.getElem?_append_left hi] at h1
          rw [List.getElem?_append_left (by rw [hys.len]; exact hi)] at h2
          exact hys.each i c v h1 h2
        · rw [List.getElem?_append_right (by omega)] at h1
          rw [List.getElem?_append_right (by rw [hys.len]; omega), hys.len] at h2
          exact hus.each _ c v h1 h2, fun v hv => by
        rcases List.mem_append.1 hv with hv | hv
        · exact hys.one v hv
        · exact hus.one v hv⟩
    have hks : Keeps (fun k c => Mut M S ρ k c ∨ (yX v' = some k ∧ (lentV e sz (cs ++ bs)).turns c)) w w' := ⟨hg.size, fun k c hk hnm => by
      by_cases hrk : row = some k
      · refine hcell k c hrk (Nat.lt_of_not_le fun hle => hnm (.inl (.inr ⟨id, _, hb, ?_, hle⟩)))
        rcases hrow with h | h
        · rw [h] at hrk; cases hrk
        · rw [e1, ← h]; exact hrk
      · exact World.cell?_of_block (w := w) (hg.block k hk fun e => hrk e.symm)⟩
    have hmut : ∀ k c, k < w.heap.size → (Mut M S ρ k c ∨ (yX v' = some k ∧ (lentV e sz (cs ++ bs)).turns c)) → Mut M S ρ k c := fun k c hk h => by
      rcases h with h | ⟨h, ht⟩
      · exact h
      · rcases hv' k h with h2 | h2
        · omega
        · rcases hrow with h3 | h3
          · rw [h3] at h2; cases h2
          · refine .inr ⟨id, _, hb, by rw [e1, ← h3]; exact h2, ?_⟩
            have h4 : (cs ++ bs).length * sz ≤ c := ht
            have h5 : cs.length * sz ≤ (cs ++ bs).length * sz := Nat.mul_le_mul_right _ (by rw [List.length_append]; omega)
            exact Nat.le_trans h5 h4
    have hs' := hs.change id (lentV e sz (cs ++ bs)) v' row hfree hg (fun k hk => ?_) hv' ⟨ys ++ us, by rw [List.length_append]; exact hown', (hall.mono hmut).keep hks⟩
    · unfold Oper.wp execOp
      simp only [ho, resolve, invoke, builtin, Sem.run_bind, Sem.run_pure, Result.andThen_ok, List.map_toArray, List.map_cons, List.map_nil, hv, hr]
      show K (a.put o.dst v') w'
      rw [hd]
      refine hK _ _ w' (hs'.put hn ?_)
      have := yK.own (M := Mut M (S.create id (lentV e sz (cs ++ bs))) (upd ρ id v')) (ρ := upd ρ id v') (w := w') id
      simpa [upd] using this
    · refine ⟨_, hb, ?_, fun c ht => ?_, fun c hnt => hcell k c hk (Nat.lt_of_not_le hnt)⟩
      · rcases hrow with h | h
        · rw [h] at hk; cases hk
        · rw [e1, ← h]; exact hk
      · have h4 : (cs ++ bs).length * sz ≤ c := ht
        have h5 : cs.length * sz ≤ (cs ++ bs).length * sz := Nat.mul_le_mul_right _ (by rw [List.length_append]; omega)
        exact Nat.le_trans h5 h4
  rcases hnews with ⟨hyv, hk0, hu0⟩ | ⟨ad, c, hyv, hul, hcell⟩
  · have hb0 : bs = [] := List.eq_nil_of_length_eq_zero hk0
    subst hu0
    subst hb0
    exact main (ρ id) w (ρ id).ownBlock (by rw [hyv]; exact run_append_owned_none (P := P) w 0 t o.type e i sz ht.h hi1 (ρ id) cs.length ys hown) ⟨rfl, rfl, rfl, Nat.le_refl _, fun _ _ _ => rfl⟩ (by simpa using hown) (.inr rfl) (fun k hk => .inr (by rw [← e1]; exact hk)) (fun _ _ _ _ => rfl)
  · obtain ⟨v', w', hr, hown', hg, _, hob⟩ := run_append_own_at (P := P) w 0 t o.type e i z sz by_ ht.h hi1 hz hisz hiby hzs hsz (ρ id) cs.length ys hown ad bs.length c us hul hcell hus.one hlim.2 hlim.1 (Nat.zero_le _)
    have e2 : yX v' = v'.ownBlock := own_slice hown'
    rcases hown.2 with ⟨hnil, hc0⟩ | ⟨g, cap, cur, hvg, _, hh, hncap, hcm, hcs, htk⟩
    · rw [← hyv] at hr
      refine main v' w' none hr (by rw [hnil] at hg; exact hg) hown' (.inl rfl) (fun k hk => ?_) (fun k c h => by cases h)
      rw [e2] at hk
      rcases hob with h3 | h3
      · rw [h3, hnil] at hk; cases hk
      · rw [h3] at hk; simp at hk; exact .inl (by omega)
    · have hin : ∀ j u, ys[j]? = some u → w.cell? ⟨g, 0 + j, none⟩ = some u := fun j u hu => by
        rw [Nat.zero_add, cell_of_row w g j cur e (0, 0) hh]
        rw [← htk, List.getElem?_take] at hu
        split at hu
        · simpa using hu
        · cases hu
      by_cases hroom : cs.length + bs.length ≤ cap
      · have hr2 := run_append_room_cells (P := P) w t o.type e i ht.h hi1 g 0 cs.length cap ad bs.length c us (by rw [hisz]; exact hul) hcell hus.one hroom (fun j hj => ?_) (fun j hj => frozen_of_row w g _ cur e hh)
        · rw [hvg] at hr
          have he := hr.symm.trans hr2
          injection he with he1 he2
          subst he1
          subst he2
          rw [← hyv, ← hvg] at hr
          refine main _ _ (some g) hr (by rw [hvg] at hg; exact hg) hown' (.inr (by rw [hvg]; rfl)) (fun k hk => .inr (by simpa [yX] using hk)) (fun k c' hk hc' => ?_)
          obtain rfl : g = k := by simpa using hk
          refine World.cell?_setCells_out g us _ w ⟨g, c', none⟩ (fun _ _ => .inl ?_)
          show c' < 0 + cs.length * i.size
          rw [hisz]; omega
        · rw [cell_of_row w g _ cur e (0, 0) hh]
          have h6 : 0 + cs.length * i.size + j < cur.size := by
            rw [hcs, hisz]
            have : (cs.length + bs.length) * sz ≤ cap * sz := Nat.mul_le_mul_right _ hroom
            rw [Nat.add_mul] at this
            omega
          rw [Array.getElem?_eq_getElem h6]
          rfl
      · obtain ⟨v2, w2, hr2, hown2, hg2⟩ := run_append_arg_grows (P := P) w t o.type e i z sz by_ ht.h hi1 hz hisz hiby hzs hsz ⟨g, 0, none⟩ cs.length cap ys hown.1 (fun j u hu => by rw [add_lit]; exact hin j u hu) ad bs.length c us hul hcell (by omega) hlim.2 hlim.1
        rw [hvg] at hr
        have he := hr.symm.trans hr2
        injection he with he1 he2
        subst he1
        subst he2
        rw [← hyv, ← hvg] at hr
        refine main _ _ none hr hg2 hown' (.inl rfl) (fun k hk => ?_) (fun k c' hk => by cases hk)
        rcases hown2.2 with ⟨he3, _⟩ | ⟨g2, _, _, he3, hg3, _⟩
        · rw [he3] at hk; cases hk
        · rw [he3] at hk
          simp only [yX, Option.some.injEq] at hk
          exact .inl (by omega)
theorem enters_val {f : FuncId} {args : Array Operand} {ts : Array TypeId} [hc : HasFn P f] (ho : o.op = .call { callee := .value x, args := args, argTypes := ts }) (hx : S.get x = .p (.val (.func (.func f) #[] #[]))) : Enters P o S f (args.toList.map S.get) :=
  fun M n w0 ρ a w hs => by
    have hv := hs.val hx
    refine ⟨args.toList.map a.eval, ?_, by simp, reps_get hs args.toList⟩
    have e : (args.toList.map a.eval).toArray = args.map a.eval := by apply Array.ext'; simp
    unfold execOp
    rw [ho, e]
    simp [resolve, Deferred.ofValue, hv, invoke, hc.h]
theorem FnE.ofFn {f : FuncId} {xs : List PV} {r : PV} (h : Fn P f xs (.p r)) : FnE P f (xs.map AV.p) [] (.ret (.p r)) [] := by
  intro M hh ρ vs _ hs hvl hvs
  have := h (Mut M (asB []) ρ) hh.w vs ⟨hs.lays, hs.tabs⟩ (fun k c hk => Mut.lt hs hk) (by simpa using hvl) (fun i x v h1 h2 => kI (hvs i (.p x) v (by rw [List.getElem?_map, h1]; rfl) h2))
  exact this.mono fun e w' ⟨v, he, hr, hb⟩ => ⟨ρ, hs.ext hb, v, he, .p hr⟩
theorem FnE.ofFnT {f : FuncId} {xs : List PV} {l : List PV} (h : Fn P f xs (.tup l)) : FnE P f (xs.map AV.p) [] (.ret (.tup (l.map AV.p))) [] := by
  intro M hh ρ vs _ hs hvl hvs
  have := h (Mut M (asB []) ρ) hh.w vs ⟨hs.lays, hs.tabs⟩ (fun k c hk => Mut.lt hs hk) (by simpa using hvl) (fun i x v h1 h2 => kI (hvs i (.p x) v (by rw [List.getElem?_map, h1]; rfl) h2))
  refine this.mono fun e w' ⟨v, he, ⟨us, hu, hul, hue⟩, hb⟩ => ⟨ρ, hs.ext hb, v, he, ?_⟩
  subst hu
  refine .tup _ us (by simpa using hul) fun i c u h1 h2 => ?_
  rw [List.getElem?_map, Option.map_eq_some_iff] at h1
  obtain ⟨y, hy, rfl⟩ := h1
  exact .p (hue i y u hy h2)
theorem r_eqlNil {yt : TypeId} {es : List PV} {r : Bool} {e : TypeId} [ht : Und P t (.slice e)] (ho : o.op = .binOp .eql t x y yt) (hx : S.get x = .p (.sl es)) (hy : S.get y = .p (.val (.slice none 0 0))) (hne : es ≠ []) (hr : false = r) (hd : o.dst = some d) (hn : d < n) : zV P n o S [] (.p (.val (.bool r))) none := by
  subst hr
  exact zV.pure hd hn fun S2 hg _ M w0 ρ a w hs => by
    have r1 := y7 hs ((hg x (by rw [ho]; simp [Op.operands])).trans hx)
    have r2 := hs.val ((hg y (by rw [ho]; simp [Op.operands])).trans hy)
    rcases rep_sl r1 with ⟨_, h0⟩ | ⟨g, off, cap, ys, hv, _⟩
    · exact (hne h0).elim
    · refine ⟨.bool false, w, ?_, Below.refl _ _, .p (.val _)⟩
      unfold execOp
      rw [ho]
      simp only [hv, r2, Sem.run_bind]
      simp [eqGuard, binOp, run_equal_slice_nil w t e (some ⟨g, off, none⟩) es.length cap ht.h]
theorem w_idxArr {ix : Operand} {id off m e sz : Nat} {j : Int} {k : IntKind} {agg : Bool} [ht : Und P t (.array m e)] [he : TyA P e agg sz] (ho : o.op = .indexAddr t x ix) (hx : S.get x = .ptr id off) (hi : S.get ix = .p (.val (.int k j))) (hj : 0 ≤ j ∧ j < m) (hd : o.dst = some d) (hn : d < n) : zV P n o S [] (.ptr id (off + j.toNat * sz)) none :=
  zV.pure hd hn fun S2 hg _ M w0 ρ a w hs => by
    have h1 := hs.rep x
    rw [hg x (by rw [ho]; simp [Op.operands]), hx] at h1
    have h2 := hs.val ((hg ix (by rw [ho]; simp [Op.operands])).trans hi)
    obtain ⟨g, hgv, hv⟩ := vR h1
    refine ⟨.pointer (some ⟨g, off + j.toNat * sz, none⟩), w, ?_, Below.refl _ _, .ptr id _ g hgv⟩
    have hel : P.elem t = e := by simp [Program.elem, ht.h]
    have hal : P.arrayLen t = m := by simp [Program.arrayLen, ht.h]
    unfold execOp
    rw [ho]
    simp only [hv, h2, Sem.run_bind]
    rw [run_indexAt_array w t _ _ _ (by rw [hel, hal]; exact ht.h), hal, if_pos hj, hel, he.sz w]
    simp [Result.andThen, add_lit]
end
end
section
section
variable {P : Program} {n : Nat} {o : Oper} {S : AS} {d : Nat} {t : TypeId} {x y : Operand}
theorem w_build0V {e sz by_ : Nat} {z : Value} [ht : Und P t (.slice e)] [hi : InfoA P e z sz by_] (ho : o.op = .buildSlice t 0 #[]) (hd : o.dst = some d) (hn : d < n) : zV P n o S [] (.own d) (some (kH e sz [])) := (w_build0 ho hd hn).nb (rowV_alike e sz [])
theorem w_callRowV {f : Nat} {args : Array Operand} {ts : Array TypeId} {xs : List PV} {e sz : Nat} {es : List PV} [hc : HasFn P f] (hf : Fn P f xs (.row e sz es.length (flat es))) (ho : o.op = .call { callee := .value (.func f), args := args, argTypes := ts })
    (hx : args.toList.map S.get = xs.map AV.p) (hd : o.dst = some d) (hn : d < n) : zV P n o S [] (.own d) (some (kH e sz es)) := by
  intro S2 hg _ M w0 ρ a w K Q hs hK
  have hargs : ∀ x ∈ args.toList, S2.get x = S.get x := fun x hx => hg x (by rw [ho]; simp [Op.operands, Call.operands]; exact .inr (by simpa using hx))
  have he : (execOp a.eval o).run P w = .ok (.enter f (args.map a.eval)) w := by
    unfold execOp
    rw [ho]
    simp [resolve, Deferred.ofValue, Act.eval, invoke, hc.h]
  unfold Oper.wp
  rw [he, Oper.upon_enter]
  have hlen : (args.toList.map a.eval).length = xs.length := by
    have := congrArg List.length hx
    simpa using this
  have := hf (Mut M S2 ρ) w (args.toList.map a.eval) ⟨hs.lays, hs.tabs⟩ (fun k c hk => Mut.lt hs hk) hlen (fun i x v h1 h2 => by
    rw [List.getElem?_map, Option.map_eq_some_iff] at h2
    obtain ⟨y, hy, rfl⟩ := h2
    have h3 : S.get y = .p x := by
      have h4 : (args.toList.map S.get)[i]? = (xs.map AV.p)[i]? := by rw [hx]
      rw [List.getElem?_map, List.getElem?_map, hy, h1] at h4
      simpa using h4
    exact y7 hs ((hargs y (List.mem_of_getElem? hy)).trans h3))
  have e1 : (args.toList.map a.eval).toArray = args.map a.eval := by apply Array.ext'; simp
  rw [e1] at this
  refine this.mono ?_
  rintro en w' ⟨v, rfl, ⟨ys, hown, hl⟩, hb⟩
  show K (a.put o.dst v) w'
  rw [hd] at hK ⊢
  have hnew : ∀ k, yX v = some k → w.heap.size ≤ k := fun k hk => by
    rcases hown.2 with ⟨rfl, _⟩ | ⟨g, cap, cur, rfl, hg2, _⟩
    · cases hk
    · simp only [yX, Option.some.injEq] at hk; omega
  have hs' := hs.change d (kH e sz es) v none (hs.free d hn) (w' := w') ⟨hb.os, hb.tape, hb.output, hb.size, fun k hk _ => hb.block k hk⟩ (fun k hk => by cases hk) (fun k hk => .inl (hnew k hk))
    ⟨ys, qA hown (fun _ _ => Nat.zero_le _), ⟨by simpa using hl.len, fun i c u h1 h2 => by
      rw [List.getElem?_map, Option.map_eq_some_iff] at h1
      obtain ⟨y, hy, rfl⟩ := h1
      exact .p ((hl.each i y u hy h2).mono fun k c _ hk => hk.elim .inl fun h => .inr h.1), hl.one⟩⟩
  refine hK _ _ w' (hs'.put hn ?_)
  have := yK.own (M := Mut M (S2.create d (kH e sz es)) (upd ρ d v)) (ρ := upd ρ d v) (w := w') d
  simpa [upd] using this
def Blk.isRow : Blk → Bool
  | .box _ _ => false
  | _ => true
theorem own_cell {M : Nat → Nat → Prop} {n : Nat} {w0 : Home} {w : World} {S : AS} {ρ : Nat → Value} {a : Act} (hs : Sat M n w0 S ρ a w) {id2 : Nat} {b2 : Blk} (hb2 : S.blk id2 = some b2) (hrow : b2.isRow = true) : (ρ id2).cells.toList = [ρ id2] ∧ (ρ id2).oneCell' = true := by
  have h := hs.blks id2 _ hb2
  have key : ∀ {e sz m : Nat} {ys : List Value}, w.ownsRow 0 e sz (ρ id2) m ys → (ρ id2).cells.toList = [ρ id2] ∧ (ρ id2).oneCell' = true := fun hown => by
    rcases hown.2 with ⟨e, _⟩ | ⟨g', cap, cur, e, _⟩ <;> (rw [e]; exact ⟨rfl, rfl⟩)
  cases b2 with
  | box _ _ => cases hrow
  | obj mp Q => obtain ⟨g, o, e, _⟩ := h; rw [e]; cases mp <;> exact ⟨rfl, rfl⟩
  | row _ _ _ _ => obtain ⟨ys, h, _⟩ := h; exact key h
  | prow _ _ _ _ => obtain ⟨ys, h, _⟩ := h; exact key h
  | lent _ _ _ _ => obtain ⟨ys, h, _⟩ := h; exact key h
theorem own_cells {M : Nat → Nat → Prop} {n : Nat} {w0 : Home} {w : World} {S : AS} {ρ : Nat → Value} {a : Act} (hs : Sat M n w0 S ρ a w) {id2 : Nat} {b2 : Blk} {v : Value} (hb2 : S.blk id2 = some b2) (hrow : b2.isRow = true) (h2 : yK (Mut M S ρ) ρ w (.own id2) v) :
    yE (Mut M S ρ) ρ w (AV.own id2).wX v.cells.toList := by
  obtain rfl : v = ρ id2 := by cases h2; rfl
  obtain ⟨h3, h4⟩ := own_cell hs hb2 hrow
  rw [h3]
  exact ⟨rfl, fun i c u h1 h3 => by
    cases i with
    | zero => simp [AV.wX] at h1 h3; subst h1; subst h3; exact .own id2
    | succ i => simp [AV.wX] at h1, fun u hu => by simp at hu; subst hu; exact h4⟩
theorem s_storeO {id off id2 : Nat} {b b2 : Blk} (ho : o.op = .store t x y) (hx : S.get x = .ptr id off) (hb : S.blk id = some b) (hy : S.get y = .own id2) (hb2 : S.blk id2 = some b2) (hrow : b2.isRow = true) (hm : ∀ w, (sizeOf t).run P w = .ok 1 w)
    (hle : off + 1 ≤ b.xs.length) (hlb : b.lentB = false) (hd : o.dst = none) : Step P n o S { S with s := putL S.s id (b.setXs (splice b.xs off (AV.own id2).wX)) } := by
  have hlen : (AV.own id2).wX.length = 1 := rfl
  intro M w0 ρ a w K Q hs hK
  have hfr := Blk.turns_of hlb
  have h1 := hs.rep x
  rw [hx] at h1
  obtain ⟨g, hgv, hv⟩ := vR h1
  have h2 := hs.rep y
  rw [hy] at h2
  have hcy : yE (Mut M S ρ) ρ w (AV.own id2).wX (a.eval y).cells.toList := own_cells hs hb2 hrow h2
  have hB := hs.blks id b hb
  have key : ∃ cur ty, w.heap[g]? = some (.cells cur ty (0, 0)) ∧ off + (a.eval y).cells.toList.length ≤ cur.size ∧
      (∀ w' : World, w.grownBy w' (some g) → w'.heap[g]? = some (.cells (splice cur.toList off (a.eval y).cells.toList).toArray ty (0, 0)) → wZ (Mut M S ρ) 0 ρ w' (ρ id) (b.setXs (splice b.xs off (AV.own id2).wX))) := by
    have keeps : ∀ {w' : World}, w.grownBy w' (some g) → Keeps (Mut M S ρ) w w' := fun {w'} hg => ⟨hg.size, fun k c hk hnm => World.cell?_of_block (w := w) (hg.block k hk (fun e => hnm (.inr ⟨id, b, hb, by rw [hgv]; exact e.symm, hfr c⟩)))⟩
    cases b with
    | lent ty size k xs => cases hlb
    | obj mp Q => cases hlb
    | box ty xs =>
      obtain ⟨g', ys, e, hg, hh, hc⟩ := hB
      have eg : g' = g := by rw [e] at hgv; simpa [yX] using hgv
      subst eg
      refine ⟨ys.toArray, ty, hh, ?_, fun w' hgr hh' => ⟨g', splice ys off (a.eval y).cells.toList, e, hg, by simpa using hh', (hc.splice hcy (by rw [hlen]; exact hle)).keep (keeps hgr)⟩⟩
      have e1 := hcy.len
      have e2 := hc.len
      have e3 : off + 1 ≤ xs.length := hle
      simp only [List.size_toArray]
      omega
    | row ty size k xs =>
      obtain ⟨ys, ⟨hl, ho2⟩, hc⟩ := hB
      have e1 := hcy.len
      have e2 := hc.len
      have e3 : off + 1 ≤ xs.length := hle
      rcases ho2 with ⟨e, _⟩ | ⟨g', cap, cur, e, hbg, hh, hkc, hcm, hcs, htk⟩
      · rw [e] at hgv; simp [yX] at hgv
      · have eg : g' = g := by rw [e] at hgv; simpa [yX] using hgv
        subst eg
        have hsz : k * size ≤ cur.size := by rw [hcs]; exact Nat.mul_le_mul_right _ hkc
        refine ⟨cur, ty, hh, by omega, fun w' hgr hh' => ⟨splice ys off (a.eval y).cells.toList, ⟨by rw [vC (by omega)]; exact hl, .inr ⟨g', cap, _, e, hbg, hh', hkc, hcm, ?_, ?_⟩⟩, (hc.splice hcy (by rw [hlen]; exact hle)).keep (keeps hgr)⟩⟩
        · simp only [List.size_toArray]
          rw [vC (by simp only [Array.length_toList] at *; omega)]
          simpa using hcs
        · apply List.ext_getElem?
          intro i
          rw [List.getElem?_take]
          rw [xH (by simp only [Array.length_toList] at *; omega), xH (by omega)]
          have hi : ∀ (i : Nat), i < k * size → cur.toList[i]? = ys[i]? := fun i hi => by rw [← htk, List.getElem?_take, if_pos hi]
          by_cases h3 : i < k * size
          · rw [if_pos h3]
            split
            · exact hi i h3
            · split
              · rfl
              · exact hi i h3
          · rw [if_neg h3]
            rw [if_neg (by omega), if_neg (by omega)]
            exact (List.getElem?_eq_none (by omega)).symm
    | prow ty size k xs =>
      obtain ⟨ys, ⟨hl, ho2⟩, hc⟩ := hB
      have e1 := hcy.len
      have e2 := hc.len
      have e3 : off + 1 ≤ (xs.map AV.p).length := hle
      rcases ho2 with ⟨e, _⟩ | ⟨g', cap, cur, e, hbg, hh, hkc, hcm, hcs, htk⟩
      · rw [e] at hgv; simp [yX] at hgv
      · have eg : g' = g := by rw [e] at hgv; simpa [yX] using hgv
        subst eg
        have hsz : k * size ≤ cur.size := by rw [hcs]; exact Nat.mul_le_mul_right _ hkc
        refine ⟨cur, ty, hh, by omega, fun w' hgr hh' => ⟨splice ys off (a.eval y).cells.toList, ⟨by rw [vC (by omega)]; exact hl, .inr ⟨g', cap, _, e, hbg, hh', hkc, hcm, ?_, ?_⟩⟩, (hc.splice hcy (by rw [hlen]; exact hle)).keep (keeps hgr)⟩⟩
        · simp only [List.size_toArray]
          rw [vC (by simp only [Array.length_toList] at *; omega)]
          simpa using hcs
        · apply List.ext_getElem?
          intro i
          rw [List.getElem?_take]
          rw [xH (by simp only [Array.length_toList] at *; omega), xH (by omega)]
          have hi : ∀ (i : Nat), i < k * size → cur.toList[i]? = ys[i]? := fun i hi => by rw [← htk, List.getElem?_take, if_pos hi]
          by_cases h3 : i < k * size
          · rw [if_pos h3]
            split
            · exact hi i h3
            · split
              · rfl
              · exact hi i h3
          · rw [if_neg h3]
            rw [if_neg (by omega), if_neg (by omega)]
            exact (List.getElem?_eq_none (by omega)).symm
  obtain ⟨cur, ty, hh, hfit, hfin⟩ := key
  have hst := run_storeCells_at P g off ty (a.eval y).cells.toList 0 cur w hh (by simpa using hfit) hcy.one
  have hsz : (a.eval y).cells.size = 1 := by have := hcy.len; rw [hlen] at this; simpa using this
  have hrun : (execOp a.eval o).run P w = .ok .skip (w.setRow g (splice cur.toList off (a.eval y).cells.toList).toArray) := by
    unfold execOp
    rw [ho]
    simp only [hv, Instr.storeAt, Instr.sureAddr, storeVar, Sem.run_bind, Sem.run_pure, Result.andThen_ok, hm, hsz, ne_eq, not_true_eq_false, if_false]
    simp only [Nat.add_zero] at hst
    rw [hst]
    rfl
  have hgr : w.grownBy (w.setRow g (splice cur.toList off (a.eval y).cells.toList).toArray) (some g) := ⟨rfl, rfl, rfl, by simp, fun k _ hk => setRow_other w g k _ (fun e => hk (by rw [e]))⟩
  unfold Oper.wp
  rw [hrun]
  show K (a.put o.dst undef) _
  rw [hd]
  exact hK ρ a _ (hs.turn hb hgv hgr hfr (hfin _ hgr (setRow_heap w g cur _ ty _ hh)))
theorem w_storeO {id off id2 : Nat} {b b2 : Blk} {agg : Bool} [h : TyA P t agg 1] (ho : o.op = .store t x y) (hx : S.get x = .ptr id off) (hb : S.blk id = some b) (hy : S.get y = .own id2) (hb2 : S.blk id2 = some b2) (hrow : b2.isRow = true)
    (hle : off + 1 ≤ b.xs.length) (hlb : b.lentB = false) (hd : o.dst = none) : Step P n o S { S with s := putL S.s id (b.setXs (splice b.xs off [AV.own id2])) } :=
  s_storeO ho hx hb hy hb2 hrow h.sz hle hlb hd
end
theorem givesRowV {P : Program} {fn : Func} {S : AS} {t id e sz : Nat} {es : List PV} (hr : fn.results = #[.tmp t]) (ht : S.tmp t = .own id) (hb : S.blk id = some (kH e sz es)) : ∃ S', Sub S S' ∧ GivesV P fn S' (.row e sz es.length (flat es)) :=
  ⟨_, (qC hb (rowV_alike' e sz es)).sub, .row hr ht (by rw [AS.xU, if_pos rfl])⟩
end
section
theorem RepL.append {M : Nat → Nat → Prop} {w : World} {xs xs' : List PV} {ys ys' : List Value} (h : RepL M w xs ys) (h' : RepL M w xs' ys') : RepL M w (xs ++ xs') (ys ++ ys') :=
  ⟨by rw [List.length_append, List.length_append, h.len, h'.len], fun i c v h1 h2 => by
    by_cases hi : i < xs.length
    · rw [List.getElem?_append_left hi] at h1
      rw [List.getElem?_append_left (by rw [h.len]; exact hi)] at h2
      exact h.each i c v h1 h2
    · rw [List.getElem?_append_right (by omega)] at h1
      rw [List.getElem?_append_right (by rw [h.len]; omega), h.len] at h2
      exact h'.each _ c v h1 h2, fun v hv => by
    rcases List.mem_append.1 hv with hv | hv
    · exact h.one v hv
    · exact h'.one v hv⟩
theorem cellsA_pure {M : Nat → Nat → Prop} {ρ : Nat → Value} {w : World} {xs : List PV} {ys : List Value} (h : yE M ρ w (xs.map AV.p) ys) : RepL M w xs ys :=
  ⟨by simpa using h.len, fun i c v h1 h2 => kI (h.each i (.p c) v (by rw [List.getElem?_map, h1]; rfl) h2), h.one⟩
theorem rep_ownsRow {M : Nat → Nat → Prop} {w w' : World} {e sz : Nat} {v : Value} {k : Nat} {es : List PV} {us : List Value} (hM : ∀ k c, M k c → k < w.heap.size) (h : w'.ownsRow w.heap.size e sz v k us) (hk : k = es.length) (hu : RepL M w' (flat es) us) : Rep M w' (.sl es) v := by
  rcases h.2 with ⟨rfl, h0⟩ | ⟨g, cap, cur, rfl, hg, hh, hkc, hcm, hcs, htk⟩
  · have : es = [] := List.eq_nil_of_length_eq_zero (by omega)
    subst this
    exact .nil
  · refine .sl es g 0 k cap us hk hu.len (fun j y hy => ?_) hu.each hu.one (fun j hj hm => ?_) (Array.getElem?_eq_some_iff.1 hh).1 hkc hcm
    · rw [Nat.zero_add, cell_of_row w' g j cur e (0, 0) hh]
      rw [← htk, List.getElem?_take] at hy
      split at hy
      · simpa using hy
      · cases hy
    · have := hM _ _ hm
      omega
section
variable {P : Program} {n : Nat} {ops : Array Oper} {S : AS} {K : Exit → AS → Prop}
theorem zY.appTight {o1 o2 o3 : Oper} {rest : List Oper} {d1 d2 d3 t e sz by_ : Nat} {x y xh xm : Operand} {z : Value} {es bs : List PV} {k2 k3 : IntKind} {h m : Int} {agg : Bool} [ht : Und P t (.slice e)] [hi : InfoA P e z sz by_] [he : TyA P e agg sz]
    (h1 : o1.op = .slice t x none (some xh) (some xm)) (g1 : o1.guard = none) (e1 : o1.dst = some d1)
    (h2 : o2.op = .move y) (g2 : o2.guard = none) (e2 : o2.dst = some d2)
    (h3 : o3.op = .call { callee := .builtin .append, args := #[.tmp d1, .tmp d2], argTypes := #[t, t] }) (g3 : o3.guard = none) (e3 : o3.dst = some d3)
    (hx : S.get x = .p (.sl es)) (hh : S.get xh = .p (.val (.int k2 h))) (hm : S.get xm = .p (.val (.int k3 m))) (hhe : h = es.length) (hme : m = es.length) (hy : S.get y = .p (.sl bs)) (hne : d2 ≠ d1) (hyd : (S.put d1 .any).get y = .p (.sl bs))
    (hn1 : d1 < n) (hn2 : d2 < n) (hn3 : d3 < n) (hes : ∀ e ∈ es, e.cells.length = sz) (hbs : ∀ e ∈ bs, e.cells.length = sz)
    (hlim : (es.length + bs.length) * by_ ≤ 140737488355328 ∧ es.length + bs.length ≤ maxLen) (hzs : z.cells.size = sz) (hsz : 0 < sz)
    (hr : zY P n ops rest (((S.put d1 .any).put d2 (.p (.sl bs))).put d3 (.p (.sl (es ++ bs)))) K) : zY P n ops (o1 :: o2 :: o3 :: rest) S K := by
  subst hhe hme
  intro M w0 ρ a w Q hs hK
  obtain ⟨i, hi1, hi2⟩ := Option.map_eq_some_iff.1 hi.h
  simp only [Prod.mk.injEq] at hi2
  obtain ⟨hz, hisz, hiby⟩ := hi2
  have hel : P.elem t = e := by simp [Program.elem, ht.h]
  have ht2 : P.underlying t = some (.slice (P.elem t)) := by rw [hel]; exact ht.h
  have r1 := y7 hs hx
  have r2 := hs.val hh
  have r3 := hs.val hm
  -- the slice cut to its length
  have key : ∃ v1, (execOp a.eval o1).run P w = .ok (.value v1) w ∧ (((∃ b, v1 = .slice b 0 0) ∧ es = []) ∨ ∃ g off ys, v1 = .slice (some ⟨g, off, none⟩) es.length es.length ∧ RepL (Mut M S ρ) w (flat es) ys ∧ (∀ v ∈ ys, v.oneCell' = true) ∧ (∀ (j : Nat) y, ys[j]? = some y → w.cell? ⟨g, off + j, none⟩ = some y) ∧ (∀ j, j < ys.length → ¬ Mut M S ρ g (off + j)) ∧ g < w.heap.size ∧ es.length ≤ maxLen) := by
    rcases rep_sl r1 with ⟨⟨b, hv⟩, h0⟩ | ⟨g, off, cap, ys, hv, hly, hcell, hM, hgl, hcap, hmx⟩
    · subst h0
      refine ⟨.slice b 0 0, ?_, .inl ⟨⟨b, rfl⟩, rfl⟩⟩
      unfold execOp
      rw [h1]
      simp only [Option.map_some, Option.map_none, hv, r2, r3, Sem.run_bind, run_sliceAt_slice w t _ _ _ _ ht2, run_slice_hm w t b 0 0 ht2 _ _ (([] : List PV).length : Int) (([] : List PV).length : Int) (by simp) (by simp) (by simp)]
      rw [hel, he.sz w]
      rfl
    · refine ⟨.slice (some ⟨g, off, none⟩) es.length es.length, ?_, .inr ⟨g, off, ys, rfl, hly, hly.one, hcell, hM, hgl, by omega⟩⟩
      unfold execOp
      rw [h1]
      simp only [Option.map_some, Option.map_none, hv, r2, r3, Sem.run_bind, run_sliceAt_slice w t _ _ _ _ ht2, run_slice_hm w t (some ⟨g, off, none⟩) es.length cap ht2 _ _ (es.length : Int) (es.length : Int) (by omega) (by omega) (by omega)]
      rw [hel, he.sz w]
      simp [sliced, Result.andThen, Addr.add]
  obtain ⟨v1, hr1, hv1⟩ := key
  unfold wpList
  rw [if_pos (by simp [Region.wanted, g1])]
  refine .inl ?_
  unfold Oper.wp
  rw [hr1]
  show wpList P ops Q (o2 :: o3 :: rest) (a.put o1.dst v1) w
  rw [e1]
  have hs1 : Sat M n w0 (S.put d1 .any) ρ (a.put (some d1) v1) w := hs.put hn1 (.any v1)
  have ry := y7 hs1 hyd
  unfold wpList
  rw [if_pos (by simp [Region.wanted, g2])]
  refine .inl ?_
  unfold Oper.wp
  have hr2 : (execOp (a.put (some d1) v1).eval o2).run P w = .ok (.value ((a.put (some d1) v1).eval y)) w := by
    unfold execOp
    rw [h2]
    rfl
  rw [hr2]
  show wpList P ops Q (o3 :: rest) ((a.put (some d1) v1).put o2.dst _) w
  rw [e2]
  generalize hvy : (a.put (some d1) v1).eval y = vy at ry ⊢
  have hs2 := hs1.put (d := d2) hn2 (.p ry)
  have t1 : ((a.put (some d1) v1).put (some d2) vy).eval (.tmp d1) = v1 := by
    have : d1 < a.tmps.size := by rw [hs.size]; exact hn1
    simp [Act.eval, Act.put, Array.getD_eq_getD_getElem?, Array.getElem?_setIfInBounds, hne, this]
  have t2 : ((a.put (some d1) v1).put (some d2) vy).eval (.tmp d2) = vy := by
    have : d2 < a.tmps.size := by rw [hs.size]; exact hn2
    simp [Act.eval, Act.put, Array.getD_eq_getD_getElem?, Array.getElem?_setIfInBounds, this]
  obtain ⟨us, hus, hnews⟩ := news_p (ρ := ρ) ry hbs
  have hMut : Mut M ((S.put d1 .any).put d2 (.p (.sl bs))) ρ = Mut M S ρ := rfl
  have main : ∀ v' w', (Builtin.append_ #[t, t] o3.type #[v1, vy]).run P w = .ok v' w' → Below w.heap.size w w' → Rep (Mut M S ρ) w' (.sl (es ++ bs)) v' → wpList P ops Q (o3 :: rest) ((a.put (some d1) v1).put (some d2) vy) w := by
    intro v' w' hr3 hb hrep
    unfold wpList
    rw [if_pos (by simp [Region.wanted, g3])]
    refine .inl ?_
    unfold Oper.wp execOp
    simp only [h3, resolve, invoke, builtin, Sem.run_bind, Sem.run_pure, Result.andThen_ok, List.map_toArray, List.map_cons, List.map_nil, t1, t2, hr3]
    show wpList P ops Q rest (((a.put (some d1) v1).put (some d2) vy).put o3.dst v') w'
    rw [e3]
    exact hr M w0 ρ _ w' Q ((hs2.ext hb).put hn3 (.p hrep)) hK
  have hflat : flat (es ++ bs) = flat es ++ flat bs := by simp [flat]
  have hlt : ∀ k c, Mut M S ρ k c → k < w.heap.size := fun k c hk => Mut.lt hs hk
  have grown : ∀ v' w' ys, w.grownBy w' none → w'.ownsRow w.heap.size e sz v' (es.length + bs.length) (ys ++ us) → RepL (Mut M S ρ) w (flat es) ys → Rep (Mut M S ρ) w' (.sl (es ++ bs)) v' := by
    intro v' w' ys hg hown hys
    have hk : Keeps (Mut M S ρ) w w' := ⟨hg.size, fun k c hk _ => World.cell?_of_block (w := w) (hg.block k hk (by simp))⟩
    have hus2 : RepL (Mut M S ρ) w (flat bs) us := cellsA_pure (hMut ▸ hus)
    refine rep_ownsRow hlt hown (by rw [List.length_append]) ?_
    rw [hflat]
    exact (hys.keep hk).append (hus2.keep hk)
  rcases hv1 with ⟨⟨b, hv1⟩, h0⟩ | ⟨g, off, ys, hv1, hys, hone, hcell, hM, hgl, hmx⟩
  · subst h0
    cases b with
    | some b =>
      rcases Nat.eq_zero_or_pos bs.length with hb | hb
      · have hb0 : bs = [] := List.eq_nil_of_length_eq_zero hb
        subst hb0
        refine main v1 w ?_ (Below.refl _ _) ?_
        · have hv : vy = .slice none 0 0 ∨ ∃ ad c, vy = .slice (some ad) 0 c := by
            rcases hnews with ⟨hyv, _, _⟩ | ⟨ad, c, hyv, _⟩
            · exact .inl hyv
            · exact .inr ⟨ad, c, hyv⟩
          rw [hv1]
          refine run_append_nothing w t t o3.type e i ht.h hi1 _ _ _ (Nat.le_refl _) _ ?_
          rcases hv with hv | ⟨ad, c, hv⟩ <;> rw [hv]
          · exact .ofNil w ht.h 0
          · exact .ofSlice w ht.h ad 0 c [] (by simp) (fun j u h => by simp at h) (fun u h => by simp at h)
        · rw [hv1]
          exact .nil
      · rcases hnews with ⟨hyv, hk0, hu0⟩ | ⟨ad, c, hyv, hul, hcell2⟩
        · omega
        · obtain ⟨v', w', hr, hown', hg⟩ := run_append_arg_grows (P := P) w t o3.type e i z sz by_ ht.h hi1 hz hisz hiby hzs hsz b 0 0 [] (by simp) (fun j u hu => by simp at hu) ad bs.length c us hul hcell2 (by omega) (by simpa using hlim.2) (by simpa using hlim.1)
          rw [← hv1, ← hyv] at hr
          exact main v' w' hr ⟨hg.os, hg.tape, hg.output, hg.size, fun k hk => hg.block k hk (by simp)⟩ (grown v' w' [] hg (by simpa using hown') ⟨rfl, fun i c v h => by simp [flat] at h, fun v h => by simp at h⟩)
    | none =>
    have hown : ∀ B, w.ownsRow B e sz (.slice none 0 0) 0 [] := fun B => ⟨by simp, .inl ⟨rfl, rfl⟩⟩
    rcases hnews with ⟨hyv, hk0, hu0⟩ | ⟨ad, c, hyv, hul, hcell2⟩
    · have hb0 : bs = [] := List.eq_nil_of_length_eq_zero hk0
      subst hb0
      refine main (.slice none 0 0) w ?_ (Below.refl _ _) .nil
      rw [hyv, hv1]
      exact run_append_owned_none (P := P) w 0 t o3.type e i sz ht.h hi1 (.slice none 0 0) 0 [] (hown 0)
    · obtain ⟨v', w', hr, hown', hg, _, _⟩ := run_append_own_at (P := P) w w.heap.size t o3.type e i z sz by_ ht.h hi1 hz hisz hiby hzs hsz (.slice none 0 0) 0 [] (hown _) ad bs.length c us hul hcell2 hus.one (by simpa using hlim.2) (by simpa using hlim.1) (Nat.le_refl _)
      rw [← hv1, ← hyv] at hr
      exact main v' w' hr ⟨hg.os, hg.tape, hg.output, hg.size, fun k hk => hg.block k hk (fun h => by cases h)⟩ (grown v' w' [] hg (by simpa using hown') ⟨rfl, fun i c v h => by simp [flat] at h, fun v h => by simp at h⟩)
  · have hyl : ys.length = es.length * sz := by rw [hys.len, flat_len hes]
    rcases Nat.eq_zero_or_pos bs.length with hb | hb
    · have hb0 : bs = [] := List.eq_nil_of_length_eq_zero hb
      subst hb0
      refine main v1 w ?_ (Below.refl _ _) ?_
      · have hv : vy = .slice none 0 0 ∨ ∃ ad c, vy = .slice (some ad) 0 c := by
          rcases hnews with ⟨hyv, _, _⟩ | ⟨ad, c, hyv, _⟩
          · exact .inl hyv
          · exact .inr ⟨ad, c, hyv⟩
        rw [hv1]
        refine run_append_nothing w t t o3.type e i ht.h hi1 _ _ _ (Nat.le_refl _) _ ?_
        rcases hv with hv | ⟨ad, c, hv⟩ <;> rw [hv]
        · exact .ofNil w ht.h 0
        · exact .ofSlice w ht.h ad 0 c [] (by simp) (fun j u h => by simp at h) (fun u h => by simp at h)
      · rw [hv1, List.append_nil]
        exact .sl es g off es.length es.length ys rfl hys.len hcell hys.each hone hM hgl (Nat.le_refl _) hmx
    · rcases hnews with ⟨hyv, hk0, hu0⟩ | ⟨ad, c, hyv, hul, hcell2⟩
      · omega
      · obtain ⟨v', w', hr, hown', hg⟩ := run_append_arg_grows (P := P) w t o3.type e i z sz by_ ht.h hi1 hz hisz hiby hzs hsz ⟨g, off, none⟩ es.length es.length ys hyl (fun j u hu => by rw [add_lit]; exact hcell j u hu) ad bs.length c us hul hcell2 (by omega) hlim.2 hlim.1
        rw [← hv1, ← hyv] at hr
        exact main v' w' hr ⟨hg.os, hg.tape, hg.output, hg.size, fun k hk => hg.block k hk (by simp)⟩ (grown v' w' ys hg hown' hys)
theorem w_callClo {o : Oper} {d k : Nat} {x : Operand} {f : FuncId} {args : Array Operand} {ts : Array TypeId} {ys : List PV} {b : Blk} {r : PV} [hc : HasFn P f] (hf : FnE P f (ys.map AV.p ++ [.ptr 1000 0]) [b] (.ret (.p r)) [b])
    (ho : o.op = .call { callee := .value x, args := args, argTypes := ts }) (hx : S.get x = .clo f [k]) (hargs : args.toList.map S.get = ys.map AV.p) (hb : S.blk k = some b) (hren : b.ren (sig [k]) = b) (hok : b.okE 1 = true) (hd : o.dst = some d) (hn : d < n) :
    zV P n o S [k] (.p r) none := by
  intro S2 hg hbk M w0 ρ a w KK Q hs hK
  have hbk2 : S2.blk k = some b := by rw [hbk k (by simp), hb]
  have hx2 : S2.get x = .clo f [k] := by rw [hg x (by rw [ho]; simp [Op.operands, Call.operands]), hx]
  have ha2 : args.toList.map S2.get = ys.map AV.p := by
    rw [← hargs]
    exact List.map_congr_left fun y hy => hg y (by rw [ho]; simp [Op.operands, Call.operands]; exact .inr (by simpa using hy))
  have hh : Hands S2 [k] [b] := qG (by simp) (by simpa using hok) ⟨by rw [hbk2, hren], trivial⟩
  have st := zA.eRet (P := P) (n := n) (o := o) (S := S2) (K := fun _ _ => False) (N := fun S1 => S1 = (S2.after [k] [b]).put d (.p r)) [k] hf hd hn (enters_clo ho hx2) (by
    rw [ha2, List.map_append, List.map_map]
    rfl) hh rfl (by simpa using hok) (by
    rw [List.all_append]
    simp only [List.all_map, Bool.and_eq_true, List.all_cons, List.all_nil]
    exact ⟨List.all_eq_true.2 fun _ _ => rfl, rfl, trivial⟩) rfl rfl
  refine st M w0 ρ a w KK Q hs ?_ ?_
  · intro S1 ρ' a' w' hN hs'
    subst hN
    rw [hd] at hK
    refine hK ρ' a' w' ?_
    refine wG.sat (S := (S2.after [k] [b]).put d (.p r)) (S' := S2.put d (.p r)) ⟨fun _ => rfl, fun j => ?_⟩ hs'
    show (look (qV [k] [b.ren (sig [k])] S2.s) j = none ∧ S2.blk j = none) ∨ ∃ b1 b2, look (qV [k] [b.ren (sig [k])] S2.s) j = some b1 ∧ S2.blk j = some b2 ∧ Alike b1 b2
    rw [hren]
    by_cases hj : k = j
    · subst hj
      exact .inr ⟨b, b, by simp [qV, qR], hbk2, .refl b⟩
    · have e : look (qV [k] [b] S2.s) j = S2.blk j := by simp [qV, qR, hj, AS.blk]
      rw [e]
      cases h : S2.blk j with
      | none => exact .inl ⟨rfl, rfl⟩
      | some c => exact .inr ⟨c, c, rfl, rfl, .refl c⟩
  · intro e S' _ _ _ h
    exact h.elim
theorem w_callFV {o : Oper} {d : Nat} {x : Operand} {f : FuncId} {args : Array Operand} {ts : Array TypeId} {ys : List PV} {r : PV} [hc : HasFn P f] (hf : Fn P f ys (.p r))
    (ho : o.op = .call { callee := .value x, args := args, argTypes := ts }) (hx : S.get x = .p (.val (.func (.func f) #[] #[]))) (hargs : args.toList.map S.get = ys.map AV.p) (hd : o.dst = some d) (hn : d < n) :
    zV P n o S [] (.p r) none := by
  intro S2 hg _ M w0 ρ a w KK Q hs hK
  have hx2 : S2.get x = .p (.val (.func (.func f) #[] #[])) := by rw [hg x (by rw [ho]; simp [Op.operands, Call.operands]), hx]
  have ha2 : args.toList.map S2.get = ys.map AV.p := by
    rw [← hargs]
    exact List.map_congr_left fun y hy => hg y (by rw [ho]; simp [Op.operands, Call.operands]; exact .inr (by simpa using hy))
  have st := zA.eRet (P := P) (n := n) (o := o) (S := S2) (K := fun _ _ => False) (N := fun S1 => S1 = (S2.after [] []).put d (.p r)) [] (FnE.ofFn hf) hd hn (enters_val ho hx2) (by
    rw [ha2, List.map_map]
    rfl) (qG (by simp) (by simp) trivial) rfl (by simp) (by
    simp only [List.all_map]
    exact List.all_eq_true.2 fun _ _ => rfl) rfl rfl
  refine st M w0 ρ a w KK Q hs ?_ ?_
  · intro S1 ρ' a' w' hN hs'
    subst hN
    rw [hd] at hK
    exact hK ρ' a' w' hs'
  · intro e S' _ _ _ h
    exact h.elim
end
end
section
theorem cells_own {M : Nat → Nat → Prop} {n : Nat} {w0 : Home} {w : World} {S : AS} {ρ : Nat → Value} {a : Act} (hs : Sat M n w0 S ρ a w) {id2 : Nat} {b2 : Blk} {v : Value} (hb2 : S.blk id2 = some b2) (hrow : b2.isRow = true) (h2 : yK (Mut M S ρ) ρ w (.own id2) v) :
    yE (Mut M S ρ) ρ w (AV.own id2).wX v.cells.toList := own_cells hs hb2 hrow h2
section
variable {P : Program} {n : Nat} {ops : Array Oper} {S : AS} {K : Exit → AS → Prop}
theorem w_makeV1 {o : Oper} {d t e sz by_ m : Nat} {k : IntKind} {z : Value} {xl xc : Operand} [ht : Und P t (.slice e)] [hi : InfoA P e z sz by_] (ho : o.op = .makeSlice t xl xc) (hl : S.get xl = .p (.val (.int k (m : Int)))) (hc : S.get xc = .p (.val (.int k (m : Int)))) (hlim : m * sz ≤ 16777216 ∧ by_ * m ≤ 281474976710656 ∧ m ≤ maxLen)
    (hzs : z.cells.size = sz) (hsz : 0 < sz) (hzp : [z] = z.cells.toList) (h1 : z.cells.toList.all (fun u => u.oneCell') = true) (hd : o.dst = some d) (hn : d < n) : zV P n o S [] (.own d) (some (kH e sz (List.replicate m (.val z)))) :=
  w_makeV ho hl hc hlim hzs hsz (zp := .val z) (by rw [← hzp]; rfl) h1 hd hn
theorem w_makeVN {o : Oper} {d t e sz by_ m : Nat} {k : IntKind} {z : Value} {xl xc : Operand} [ht : Und P t (.slice e)] [hi : InfoA P e z sz by_] (ho : o.op = .makeSlice t xl xc) (hl : S.get xl = .p (.val (.int k (m : Int)))) (hc : S.get xc = .p (.val (.int k (m : Int)))) (hlim : m * sz ≤ 16777216 ∧ by_ * m ≤ 281474976710656 ∧ m ≤ maxLen)
    (hzs : z.cells.size = sz) (hsz : 0 < sz) (h1 : z.cells.toList.all (fun u => u.oneCell') = true) (hd : o.dst = some d) (hn : d < n) : zV P n o S [] (.own d) (some (kH e sz (List.replicate m (.agg (z.cells.toList.map PV.val))))) :=
  w_makeV ho hl hc hlim hzs hsz (zp := .agg (z.cells.toList.map PV.val)) rfl h1 hd hn
end
theorem sub_frzE {S : AS} (id e sz : Nat) (es : List PV) (hb : S.blk id = some (kH e sz es)) : Sub S (S.frz id (.sl es)) := sub_frz hb
end
section
section
variable {P : Program} {n : Nat} {o : Oper} {S : AS} {d : Nat} {t : TypeId} {x : Operand}
end
def Hold (p : Prop) : Prop := p
theorem Hold.go {p : Prop} (h : p) : Hold p := h
theorem zZ.hold {P : Program} {n id : Nat} {ops : Array Oper} {d : Bool} {S : AS} {c2 : Code} {K : Exit → AS → Prop} (h : Hold (zZ P n (.seq (.region id ops d) c2) S K)) : zZ P n (.seq (.region id ops d) c2) S K := h
attribute [irreducible] Hold
end
section
section
variable {P : Program} {n : Nat} {S S' : AS} {M : Nat → Nat → Prop} {h : Home} {Q : Exit → Act → World → Prop}
def WE (n : Nat) (M : Nat → Nat → Prop) (h : Home) (Q : Exit → Act → World → Prop) (e : Exit) (S : AS) : Prop := e ≠ .outgrown ∧ (∀ c, e ≠ .panic c) ∧ ∀ ρ a w, Sat M n h S ρ a w → Q e a w
def WC (P : Program) (n : Nat) (c : Code) (S : AS) (M : Nat → Nat → Prop) (h : Home) (Q : Exit → Act → World → Prop) : Prop := ∀ ρ a w, Sat M n h S ρ a w → c.wp P Q a w
theorem bare_of {e e' : Exit} (h : bare e = e') (hn : ∀ c, e' ≠ .panic c) : e = e' := by
  cases e <;> first | exact h | exact absurd h.symm (hn _)
theorem WC.block {id : Nat} {c : Code} (hc : WC P n c S M h (Exit.inBlock id Q)) : WC P n (.block id c) S M h Q := fun ρ a w hs => wp_block (hc ρ a w hs)
theorem WC.run {c : Code} (hc : WC P n c S M h Q) {ρ : Nat → Value} {a : Act} {w : World} (hs : Sat M n h S ρ a w) : c.wp P Q a w := hc ρ a w hs
theorem WC.mk {c : Code} (hc : ∀ ρ a w, Sat M n h S ρ a w → c.wp P Q a w) : WC P n c S M h Q := hc
theorem WC.sub {c : Code} (hs : Sub S S') (hc : WC P n c S' M h Q) : WC P n c S M h Q := fun ρ a w h1 => by
  obtain ⟨ρ', h2⟩ := hs M n h ρ a w h1
  exact hc ρ' a w h2
structure Yields (P : Program) (l : Nat) (M0 : Nat → Nat → Prop) (N : Nat) (ys : Nat → List PV) (J : Nat → (Nat → Prop) → World → Prop) : Prop where
  lt : ∀ i Z w k, J i Z w → Z k → k < w.heap.size
  ext : ∀ i Z w w', J i Z w → Below w.heap.size w w' → J i Z w'
  round : ∀ i Z w (vs : List Value), i < N → J i Z w → vs.length = (ys i).length → (∀ (j : Nat) c v, (ys i)[j]? = some c → vs[j]? = some v → Rep (fun k c => M0 k c ∨ Z k) w c v) →
    YieldAt Fence.wide 0 P l vs.toArray w fun e w' => e = .returned (.bool true) ∧ ∃ Z', J (i + 1) Z' w' ∧ w.heap.size ≤ w'.heap.size ∧ (∀ k, k < w.heap.size → ¬ Z k → w'.heap[k]? = w.heap[k]?) ∧ ∀ k, Z' k → Z k ∨ w.heap.size ≤ k
theorem run_yieldOp {o : Oper} {x : Operand} {args : Array Operand} {ts : Array TypeId} {l : Nat} {a : Act} {w : World} (ho : o.op = .call { callee := .value x, args := args, argTypes := ts }) (hx : a.eval x = .func (.yield l) #[] #[]) :
    (execOp a.eval o).run P w = (Instr.yield l (args.map a.eval)).run P w := by
  unfold execOp
  rw [ho]
  simp [resolve, Deferred.ofValue, hx, invoke]
theorem wp_loop_iter {c : Code} {N i0 : Nat} {a : Act} {w : World} (I : Nat → Act → World → Prop) (h0 : I i0 a w) (hi0 : i0 ≤ N) (round : ∀ i a w, i ≤ N → I i a w → c.wp P (Exit.then (fun a' w' => ∃ j, i < j ∧ j ≤ N ∧ I j a' w') Q) a w) : (Code.loop c).wp P Q a w := by
  intro b k cs
  have key : ∀ (m i : Nat) (a : Act) (w : World), N - i = m → i ≤ N → I i a w → ∃ e a' w', Q e a' w' ∧ Arrives P (lone (b.at a (.code c :: .inLoop c :: k)) cs w) b k cs e a' w' := by
    intro m
    induction m using Nat.strongRecOn with
    | _ m ih =>
      intro i a w hm hi hI
      obtain ⟨e, a₁, w₁, hq, harr⟩ := round i a w hi hI b (.inLoop c :: k) cs
      cases e with
      | normal =>
        obtain ⟨j, hlt, hj, hI'⟩ := hq
        obtain ⟨e₂, a₂, w₂, hq₂, harr₂⟩ := ih (N - j) (by omega) j a₁ w₁ rfl hj hI'
        exact ⟨e₂, a₂, w₂, hq₂, .of_steps (Steps.trans harr (.one step_inLoop)) harr₂⟩
      | exit id => exact ⟨_, a₁, w₁, hq, .pass (x := .inLoop c) rfl (fun _ _ => .inl (by simp)) harr⟩
      | goto l => exact ⟨_, a₁, w₁, hq, .pass (x := .inLoop c) rfl (fun _ _ => .inl (by simp)) harr⟩
      | ret => exact ⟨_, a₁, w₁, hq, .pass (x := .inLoop c) rfl (fun _ _ => .inl (by simp)) harr⟩
      | panic ch => exact ⟨_, a₁, w₁, hq, .pass (x := .inLoop c) rfl (fun _ _ => .inl (by simp)) harr⟩
      | outgrown => exact ⟨_, a₁, w₁, hq, .pass (x := .inLoop c) rfl (fun _ _ => .inl (by simp)) harr⟩
  obtain ⟨e, a', w', hq, harr⟩ := key _ i0 a w rfl hi0 h0
  exact ⟨e, a', w', hq, .of_steps (.one step_loop) harr⟩
end
attribute [irreducible] WC WE
end
section
section
variable {P : Program} {n : Nat} {S : AS} {M : Nat → Nat → Prop} {h : Home} {ρ : Nat → Value} {a : Act} {w : World}
theorem Sat.withD (hs : Sat M n h S ρ a w) (D : List Deferred) : Sat M n { h with d := D } S ρ { a with defers := D } w :=
  ⟨⟨hs.below.os, hs.below.tape, hs.below.output, hs.below.size, hs.below.block⟩, hs.out, hs.tab, hs.size, rfl, hs.tmps, hs.blks, hs.mine, hs.fix, hs.free, hs.dist⟩
end
section
variable {P : Program} {n : Nat} {M : Nat → Nat → Prop} {h : Home} {ρ : Nat → Value} {a : Act} {w : World}
end
end
end Go.Proofs.YtohlllohmoojiaaGreatDoor
