/- Of a sealed store each operation of a vertex that may be is answered so, by one access, and turns nothing; one of a key that may not be by none. (Part 7 of 9.) -/
import Derived.Test.YtmfbamiciieooaaGreatDoorVs6
import Derived.Laws.IdiomRangeMap
import Derived.RangeFuncRecord
/- Functions with one deferred call. Generic over the program. -/
namespace Go.Proofs.YtmfbamiciieooaaGreatDoor
set_option maxRecDepth 100000
set_option maxHeartbeats 16000000
open Go Go.RowKit
/-- how the body ends that has deferred function fd over its variables dj -/
def EndD (P : Program) (fn : Func) (fd : FuncId) (dj : List Nat) (x : AV) (B' : List Blk) (e : Exit) (S : AS) : Prop :=
  ∃ (px : Option PV) (Bd Bd' : List Blk), FnD P fd Bd px Bd' ∧ ((px = none ∧ (e = .ret ∨ e = .normal)) ∨ (∃ y, px = some y ∧ e = .panic [] ∧ S.x = .p y)) ∧ Hands S dj Bd ∧ Bd'.length = Bd.length ∧ Bd'.all (Blk.okE Bd.length) = true ∧
    GivesA P fn (S.after dj Bd') x ∧ HasB (S.after dj Bd') B'
theorem look_mem2 {α : Type} : ∀ {l : List (Nat × α)} {i : Nat} {x : α}, look l i = some x → (i, x) ∈ l
  | [], _, _, h => by simp [look] at h
  | (k, y) :: r, i, x, h => by
    unfold look at h
    split at h
    · rename_i hk
      obtain rfl := Option.some.inj h
      subst hk
      simp
    · exact List.mem_cons_of_mem _ (look_mem2 h)
section
variable {P : Program} {n : Nat}
def PendA (M : Nat → Nat → Prop) (w : World) : Option PV → FrameMode → List Value → Prop
  | none, u, pv => u = .returning ∧ pv = []
  | some x, u, pv => ∃ v, pv = [v] ∧ u = .panicking [{ v := v, recovered := false }] ∧ Rep M w x v
/-- the deferred call, out of the frame -/
theorem def_call {fd : FuncId} {dj : List Nat} {px : Option PV} {Bd Bd' : List Blk} {M : Nat → Nat → Prop} {w0 : Home} {S : AS} {ρ : Nat → Value} {a : Act} {w : World} {cvs pv : List Value} {u : FrameMode} (hfd : FnD P fd Bd px Bd') (hh : Hands S dj Bd) (hl : Bd'.length = Bd.length) (hok : Bd'.all (Blk.okE Bd.length) = true)
    (hs : Sat M n w0 S ρ a w) (hcv : cvs.length = dj.length) (hcw : ∀ (i : Nat) k v, dj[i]? = some k → cvs[i]? = some v → ∃ g, zU (ρ k) = some g ∧ v = .pointer (some ⟨g, 0, none⟩)) (hp : PendA (Mut M S ρ) w px u pv) :
    CallsD P fd cvs.toArray u w fun e u' w' => settle u' = .returning ∧ (∃ v, e = .returned v) ∧ Sat M n w0 (S.after dj Bd') ρ a w' := by
  have hdl : dj.length = Bd.length := hh.len
  have hptr : (ptrsA Bd.length).length = Bd.length := by simp [ptrsA]
  have hat : ∀ i, i < Bd.length → (ptrsA Bd.length)[i]? = some (.ptr (1000 + i) 0) := fun i hi => by
    unfold ptrsA
    rw [List.getElem?_map, List.getElem?_range hi]
    rfl
  have c := call_effC (C := fun R0 => CallsD P fd cvs.toArray u w fun e u' w' => settle u' = .returning ∧ (∃ v, e = .returned v) ∧ R0 e w') (fun R1 R2 h12 hc => hc.mono fun e u' w' ⟨q1, q2, q3⟩ => ⟨q1, q2, h12 e w' q3⟩)
    (xs := ptrsA Bd.length ++ px.toList.map AV.p) (ids := dj) (B := Bd) (B' := Bd') (ev := .ret .any) hh hl hok (by
      rw [List.all_append, Bool.and_eq_true]
      refine ⟨List.all_eq_true.2 fun y hy => ?_, List.all_eq_true.2 fun y hy => ?_⟩
      · obtain ⟨i, hi, rfl⟩ := List.mem_map.1 hy
        have := List.mem_range.1 hi
        simp [AV.okE, this]
      · obtain ⟨z, _, rfl⟩ := List.mem_map.1 hy
        rfl) hs (vs := cvs ++ pv) (fun i y v h1 h2 => ?_) (fun M' h' ρ' hw _ hand hsat hreps _ => ?_)
  · exact c.mono fun e u' w' ⟨q1, q2, q3, _⟩ => ⟨q1, q2, q3⟩
  · by_cases hi : i < Bd.length
    · rw [List.getElem?_append_left (by omega)] at h1 h2
      rw [hat i hi] at h1
      obtain rfl := Option.some.inj h1
      have hk : dj[i]? = some (dj[i]'(by omega)) := List.getElem?_eq_getElem _
      obtain ⟨g, hg1, rfl⟩ := hcw i _ v hk h2
      show yY _ ρ w (.ptr (sig dj (1000 + i)) 0) _
      rw [sig_at hk]
      exact .ptr _ 0 g hg1
    · rw [List.getElem?_append_right (by omega), hptr] at h1
      rw [List.getElem?_append_right (by omega), hcv, hdl] at h2
      cases px with
      | none => simp at h1
      | some x =>
        obtain ⟨v', rfl, _, hr⟩ := hp
        obtain ⟨j, hj⟩ : ∃ j, i - Bd.length = j := ⟨_, rfl⟩
        rw [hj] at h1 h2
        cases j with
        | zero =>
          simp at h1 h2
          subst h1
          subst h2
          exact .p hr
        | succ j => simp at h1
  · subst hw
    have hpend : Pending (Mut M' (asB Bd) ρ') h'.w px u := by
      cases px with
      | none => exact hp.1
      | some x =>
        obtain ⟨v', rfl, hu, _⟩ := hp
        refine ⟨v', hu, ?_⟩
        have h3 := hreps Bd.length (.p x) v' (by rw [List.getElem?_append_right (by omega), hptr]; simp) (by rw [List.getElem?_append_right (by omega), hcv, hdl]; simp)
        cases h3 with
        | p h4 => exact h4
    refine (hfd M' h' ρ' cvs u hand hsat (by omega) (fun i v hv => hreps i _ v ?_ ?_) hpend).mono fun e u' w' ⟨q1, ⟨v, q2⟩, ρ2, q3⟩ => ⟨q1, ⟨v, q2⟩, ρ2, q3, v, q2, .any _⟩
    · have hi := (List.getElem?_eq_some_iff.1 hv).1
      rw [List.getElem?_append_left (by omega)]
      exact hat i (by omega)
    · rw [List.getElem?_append_left (List.getElem?_eq_some_iff.1 hv).1]
      exact hv
/-- What is behind the body, once the deferred call has been made. -/
theorem leave_one {fn : Func} {fd : FuncId} {dj : List Nat} {x : AV} {B' : List Blk} {M : Nat → Nat → Prop} {h : Home} {D : List Deferred} {S : AS} {ρ : Nat → Value} {a : Act} {w : World} {e : Exit} {cvs : List Value} {R : Ending → World → Prop} [hcf : HasFn P fd]
    (hs : Sat M n { h with d := D } S ρ a w) (hd : h.d = []) (hD : D = [{ target := .fn (.func fd) cvs.toArray, args := #[] }]) (he : EndD P fn fd dj x B' (bare e) S) (hex : ExOK M S ρ w e) (hcv : cvs.length = dj.length)
    (hcw : ∀ (i : Nat) k v, dj[i]? = some k → cvs[i]? = some v → ∃ g, zU (ρ k) = some g ∧ v = .pointer (some ⟨g, 0, none⟩))
    (hR : ∀ e w', (∃ ρ', Sat M 0 h (asB B') ρ' xP w' ∧ EvOK (Mut M (asB B') ρ') ρ' w' (.ret x) e) → R e w') : bodyPostD P fn R e a w := by
  obtain ⟨px, Bd, Bd', hfd, hpx, hh, hl, hok, hg, hB⟩ := he
  have hinv : (invoke (.fn (.func fd) cvs.toArray) #[]).run P w = .ok (.enter fd cvs.toArray) w := by simp [invoke, hcf.h]
  have hdf : a.defers = [{ target := .fn (.func fd) cvs.toArray, args := #[] }] := hs.defers.trans hD
  have fin : ∀ (u : FrameMode) (pv : List Value), u ≠ .run → PendA (Mut M S ρ) w px u pv → Leaves P fn a.tmps R a.defers u w := by
    intro u pv hu hp
    rw [hdf]
    refine leaves_cons hu hinv ((def_call hfd hh hl hok hs hcv hcw hp).mono fun e u' w' ⟨q1, ⟨v, q2⟩, q3⟩ => ?_)
    subst q2
    show Leaves P fn a.tmps R [] (settle u') w'
    rw [q1]
    obtain ⟨v', r1, r2⟩ := gives_res q3 hd hg hB
    exact ⟨v', r1, hR _ _ r2⟩
  rcases hpx with ⟨rfl, he⟩ | ⟨y, rfl, he, hy⟩
  · cases e with
    | ret => exact fin .returning [] (by simp) ⟨rfl, rfl⟩
    | normal => exact fin .returning [] (by simp) ⟨rfl, rfl⟩
    | exit id => rcases he with h | h <;> cases h
    | goto l => rcases he with h | h <;> cases h
    | panic c => rcases he with h | h <;> cases h
    | outgrown => rcases he with h | h <;> cases h
  · cases e with
    | panic c =>
      obtain ⟨v, rfl, hv⟩ := hex
      rw [hy] at hv
      cases hv with
      | p hv => exact fin (.panicking [{ v := v, recovered := false }]) [v] (by simp) ⟨v, rfl, rfl, hv⟩
    | ret => cases he
    | normal => cases he
    | exit id => cases he
    | goto l => cases he
    | outgrown => cases he
theorem fn_ofD {f : FuncId} {fn : Func} {c0 rest : Code} {id d fd : Nat} {o1 o2 : Oper} {caps : Array Operand} {ts : Array TypeId} {args : List AV} {B B' Bi Bi' : List Blk} {x : AV} {S1 : AS} {dids dj ids : List Nat} {T : List (Nat × AV)} [hcf : HasFn P fd]
    (hf : P.funcs[f]? = some fn) (hb : fn.body = some (.seq c0 (.seq (.region id [o1, o2].toArray false) rest))) (hn : fn.ntmps = n) (hle : args.length ≤ n) (h1000 : n ≤ 1000)
    (h0 : zZ P n c0 { t := zipA 0 args, s := numB 1000 B } (fun e S => e = .normal ∧ S = S1))
    (hg1 : o1.guard = none) (hd1 : o1.dst = some d) (hdn : d < n) (ho1 : o1.op = .makeFunc (.func fd) #[] caps) (hc : readIds (caps.toList.map S1.get) = some dids)
    (hg2 : o2.guard = none) (hd2 : o2.dst = none) (ho2 : o2.op = .defer { callee := .value (.tmp d), args := #[], argTypes := ts })
    (hdj : dids = dj.map (sig ids)) (hdr : dj.all (fun k => decide (1000 ≤ k ∧ k < 1000 + Bi.length)) = true)
    (hh : Hands S1 ids Bi) (hBi' : Bi'.length = Bi.length) (hok' : Bi'.all (Blk.okE Bi.length) = true)
    (hT : T.all (fun p => p.2.okE Bi.length) = true) (hT1 : ∀ p ∈ T, S1.tmp p.1 = p.2.ren (sig ids) ∧ d ≠ p.1)
    (h2 : zZ P n rest { t := T, s := numB 1000 Bi } (EndD P fn fd dj x Bi')) (hx : x.okE Bi.length = true) (hxr : x.ren (sig ids) = x) (hB' : HasB (S1.after ids Bi') B') : FnE P f args B (.ret x) B' := by
  intro M hh0 ρ vs hand hs0 hvl hvs
  refine calls_of_wp_defers hf hb ?_
  have hsat : Sat M n hh0 { t := zipA 0 args, s := numB 1000 B } ρ { tmps := vs.toArray ++ Array.replicate (fn.ntmps - vs.toArray.size) undef, defers := [] } hh0.w := by
    refine ⟨hs0.below, hs0.out, hs0.tab, by simp; omega, hs0.defers, fun i => ?_, hs0.blks, hs0.mine, hs0.fix, fun k hk => hh0.lo k (by omega), hs0.dist⟩
    show yY _ _ _ ((look (zipA 0 args) i).getD .any) _
    rw [look_zipA]
    simp only [Nat.zero_le, if_true, Nat.sub_zero]
    cases hx : args[i]? with
    | none => exact .any _
    | some x =>
      have hi : i < vs.length := by rw [hvl]; exact (List.getElem?_eq_some_iff.1 hx).1
      have e : ({ tmps := vs.toArray ++ Array.replicate (fn.ntmps - vs.toArray.size) undef, defers := [] } : Act).tmps.getD i undef = vs[i] := by
        simp [Array.getD_eq_getD_getElem?, Array.getElem?_append, hi]
      rw [e]
      exact hvs i x vs[i] hx (List.getElem?_eq_getElem hi)
  refine wp_seq (h0 M hh0 ρ _ hh0.w _ hsat ?_)
  rintro e S' ρ1 a1 w1 ⟨he, rfl⟩ hs1 _
  cases e with
  | ret => cases he
  | exit id => cases he
  | goto l => cases he
  | panic c => cases he
  | outgrown => cases he
  | normal =>
  refine wp_seq (wp_region_lit ?_)
  unfold wpList
  rw [if_pos (by simp [Region.wanted, hg1])]
  refine .inl ((w_mkFunc ho1 hc hd1 hdn).step M hh0 ρ1 a1 w1 _ _ hs1 fun ρ2 a2 w2 hs2 => ?_)
  rw [hd1] at hs2
  have hs2 : Sat M n hh0 (S'.put d (.clo fd dids)) ρ2 a2 w2 := hs2
  have hv := hs2.tmps d
  rw [AS.tmp_put, if_pos rfl] at hv
  obtain ⟨cvs, hva, hcl, hcw⟩ : ∃ cvs : List Value, a2.tmps.getD d undef = .func (.func fd) #[] cvs.toArray ∧ cvs.length = dids.length ∧ ∀ (i : Nat) k v, dids[i]? = some k → cvs[i]? = some v → ∃ g, zU (ρ2 k) = some g ∧ v = .pointer (some ⟨g, 0, none⟩) := by
    generalize a2.tmps.getD d undef = u at hv
    cases hv with
    | clo _ _ vs hl h => exact ⟨vs, rfl, hl, h⟩
  unfold wpList
  rw [if_pos (by simp [Region.wanted, hg2])]
  refine .inl ?_
  have hrun : (execOp a2.eval o2).run P w2 = .ok (.defer { target := .fn (.func fd) cvs.toArray, args := #[] }) w2 := by
    unfold execOp
    rw [ho2]
    have hev : a2.eval (.tmp d) = .func (.func fd) #[] cvs.toArray := hva
    simp [resolve, Deferred.ofValue, hev]
  unfold Oper.wp
  rw [hrun, Oper.upon_defer, hd2]
  show rest.wp P _ { a2 with defers := { target := .fn (.func fd) cvs.toArray, args := #[] } :: a2.defers } w2
  rw [hs2.defers.trans hs0.defers.symm]
  -- the rest, in its own frame
  have key := call_effC (C := fun R => ∀ R' : Ending → World → Prop, (∀ e w', R e w' → R' e w') → rest.wp P (bodyPostD P fn R') { a2 with defers := [{ target := .fn (.func fd) cvs.toArray, args := #[] }] } w2) (fun R1 R2 h12 hc R' h' => hc R' fun e w' q => h' e w' (h12 e w' q))
    (xs := T.map Prod.snd) (ids := ids) (B := Bi) (B' := Bi') (ev := .ret x) (S := S'.put d (.clo fd dids)) ⟨hh.len, hh.nodup, hh.ok, hh.at_⟩ hBi' hok' (by rw [List.all_map]; exact hT) hs2 (vs := T.map fun p => a2.tmps.getD p.1 undef) (fun i y v h1 h3 => ?_) (fun M' h' ρ' hw hd' hand' hsat' hreps hfix R' hR' => ?_)
  · refine key _ fun e w' ⟨q1, q2⟩ => ?_
    obtain ⟨r1, r2⟩ := q1.asB hs0.defers.symm hB'
    obtain ⟨v, rfl, r3⟩ := q2 hx
    rw [hxr] at r3
    exact ⟨ρ2, r1, v, rfl, r3.mono fun k c _ hk => r2 k c hk⟩
  · rw [List.getElem?_map, Option.map_eq_some_iff] at h1 h3
    obtain ⟨p, hp, rfl⟩ := h1
    obtain ⟨p', hp', rfl⟩ := h3
    rw [hp] at hp'
    obtain rfl := Option.some.inj hp'
    obtain ⟨q1, q2⟩ := hT1 p (List.mem_of_getElem? hp)
    rw [← q1]
    have := hs2.tmps p.1
    rw [AS.tmp_put, if_neg q2] at this
    exact this
  · have hfr : Sat M' n { h' with d := [{ target := .fn (.func fd) cvs.toArray, args := #[] }] } { t := T, s := numB 1000 Bi } ρ' { a2 with defers := [{ target := .fn (.func fd) cvs.toArray, args := #[] }] } w2 := by
      refine Sat.frame (a := { a2 with defers := [{ target := .fn (.func fd) cvs.toArray, args := #[] }] }) hsat' hs2.size h1000 fun i y hy => ?_
      obtain ⟨j, hj⟩ := List.getElem?_of_mem (look_mem2 hy)
      exact hreps j y _ (by rw [List.getElem?_map, hj]; rfl) (by rw [List.getElem?_map, hj]; rfl)
    refine h2 M' _ ρ' _ w2 _ hfr fun e S2 ρ3 a4 w4 hend hs4 hx4 => ?_
    refine leave_one hs4 hd' rfl hend hx4 (by rw [hcl, hdj, List.length_map]) (fun i k v hk hv => ?_) hR'
    have hkr := List.all_eq_true.1 hdr k (List.mem_of_getElem? hk)
    simp only [decide_eq_true_eq] at hkr
    obtain ⟨g, g1, g2⟩ := hcw i (sig ids k) v (by rw [hdj, List.getElem?_map, hk]; rfl) hv
    refine ⟨g, ?_, g2⟩
    have e1 : ρ3 k = ρ' k := by
      have := hand'.r (k - 1000) (by omega)
      rw [show 1000 + (k - 1000) = k by omega] at this
      exact hs4.fix k _ this
    rw [e1, hfix k hkr.1 hkr.2]
    exact g1
end
end Go.Proofs.YtmfbamiciieooaaGreatDoor
/- What recovers what a program over a log panics with: contracts. -/
namespace Go.Proofs.YtmfbamiciieooaaGreatDoor
set_option maxRecDepth 100000
set_option maxHeartbeats 16000000
open Go Go.RowKit
set_option linter.unusedSimpArgs false
attribute [local irreducible] zY zZ Step zX Sub zD zF Fn
section
variable {P : Program} {n : Nat} {o : Oper} {S : AS} {d : Nat} {x : Operand}
theorem w_assertY {s t : Nat} {y : PV} {pl : List (Nat × Nat)} [hb : BuildA P t pl] (ho : o.op = .typeAssert x s t true) (hx : S.get x = .p (.ifc t y)) (hd : o.dst = some d) (hn : d < n) : zX P n o S [] (.tup [.p y, .p (.val (.bool true))]) none :=
  zX.pure hd hn fun S2 hg _ M w0 ρ a w hs => by
    have h1 := yR hs ((hg x (by rw [ho]; simp [Op.operands])).trans hx)
    generalize hv : a.eval x = v at h1
    cases h1 with
    | ifc _ _ u h =>
      refine ⟨.tuple [u, .bool true].toArray, w, ?_, Below.refl _ _, .tup _ [u, .bool true] rfl fun i c v hc hv => ?_⟩
      · unfold execOp
        rw [ho]
        simp [Instr.typeAssert, run_underlying hb.st, hv]
      · match i with
        | 0 => cases hc; cases hv; exact .p h
        | 1 => cases hc; cases hv; exact .p (.val _)
        | i + 2 => simp at hc
theorem w_assertN {s t : Nat} {pl : List (Nat × Nat)} {z : Value} {cl : List Value} [hb : BuildA P t pl] [hz : ZeroA P t z] (ho : o.op = .typeAssert x s t true) (hx : S.get x = .p (.val .nilIface)) (hc0 : z = .agg cl.toArray) (h1 : cl.all (fun u => u.oneCell') = true) (hd : o.dst = some d) (hn : d < n) : zX P n o S [] (.tup [.p (.agg (cl.map PV.val)), .p (.val (.bool false))]) none :=
  zX.pure hd hn fun S2 hg _ M w0 ρ a w hs => by
    have h2 := yR hs ((hg x (by rw [ho]; simp [Op.operands])).trans hx)
    generalize hv : a.eval x = v at h2
    cases h2
    refine ⟨.tuple [z, .bool false].toArray, w, ?_, Below.refl _ _, .tup _ [z, .bool false] rfl fun i c v hc hv => ?_⟩
    · unfold execOp
      rw [ho]
      simp [Instr.typeAssert, run_underlying hb.st, hv, hz.h]
    · match i with
      | 0 =>
        cases hc; cases hv
        subst hc0
        refine .p (.agg _ cl (by simp) (fun i c v hc hv => ?_) fun u hu => List.all_eq_true.1 h1 u hu)
        rw [List.getElem?_map, hv] at hc
        cases hc
        exact .val _
      | 1 => cases hc; cases hv; exact .p (.val _)
      | i + 2 => simp at hc
end
def accB (kind cell a b : Int) (data : PV) : Blk := .box 50 [.p (.val (.int .i64 kind)), .p (.val (.int .i64 cell)), .p (.val (.int .u64 a)), .p (.val (.int .u64 b)), .p data, .p xQ]
def wK (e : Int) (is : Bool) (n w : Int) : Blk := .box 41 [.p (.val (.int .i64 e)), .p (.val (.bool is)), .p (.val (.int .i64 n)), .p (.val (.int .u64 w)), .p xQ]
theorem run1_none (e : Int) (is : Bool) (n w : Int) (b : Bool) : FnD Tryz.prog 46 [accB 0 0 0 0 xQ, wK e is n w, isB b] none [accB 0 0 0 0 xQ, wK e is n w, isB b] := by
  refine fn_ofDef Tryz.func46 rfl Tryz.ntmps46 (Nat.le_of_ble_eq_true rfl) (by decide) rfl rfl rfl (by decide) rfl ?_
  repeat' (first | (refine zY.is ?_; first | refine zY.nil ?_ | refine zY.v rfl rfl (by first | exact yB rfl rfl rfl (by decide) | exact a_extract rfl rfl rfl rfl (by decide) | exact a_moveT rfl rfl rfl (by decide) | exact w_assertN rfl rfl rfl rfl rfl (by decide)) ?_ | refine zY.m rfl rfl (w_alloc rfl (by decide) rfl (by decide)) ?_ | refine zY.w rfl (by exact yT rfl rfl rfl rfl rfl (by rfl) (by exact Nat.le_of_ble_eq_true rfl) rfl rfl) ?_) | (refine zZ.is ?_; first | refine zZ.seq ?_ | (refine zZ.iq 1 ?_; refine zZ.rqa _ K_8 K_14 ?_; (refine zY.v rfl rfl (yE rfl rfl rfl (by decide)) ?_); refine zY.nil ?_) | refine zZ.yH rfl (by with_reducible rfl) ?_ | refine zZ.skip ?_))
  all_goals exact ⟨by first | exact .inl rfl | exact .inr rfl, wL (by repeat' first | exact trivial | rfl | constructor)⟩
theorem run1_need (kind cell a b : Int) (data : PV) (e : Int) (is : Bool) (n w : Int) (c : Bool) : FnD Tryz.prog 46 [accB 0 0 0 0 xQ, wK e is n w, isB c] (some (.ifc 115 (accV kind cell a b data))) [accB kind cell a b data, wK 0 false 0 0, isB false] := by
  refine fn_ofDef Tryz.func46 rfl Tryz.ntmps46 (Nat.le_of_ble_eq_true rfl) (by decide) rfl rfl rfl (by decide) rfl ?_
  repeat' (first | (refine zY.is ?_; first | refine zY.nil ?_ | refine zY.v rfl rfl (by first | exact yB rfl rfl rfl (by decide) | exact a_extract rfl rfl rfl rfl (by decide) | exact a_moveT rfl rfl rfl (by decide) | exact w_assertY rfl rfl rfl (by decide)) ?_ | refine zY.m rfl rfl (w_alloc rfl (by decide) rfl (by decide)) ?_ | refine zY.w rfl (by exact yT rfl rfl rfl rfl rfl (by rfl) (by exact Nat.le_of_ble_eq_true rfl) rfl rfl) ?_) | (refine zZ.is ?_; first | refine zZ.seq ?_ | (refine zZ.iq 1 ?_; refine zZ.rqa _ K_8 K_14 ?_; (refine zY.v rfl rfl (yE rfl rfl rfl (by decide)) ?_); refine zY.nil ?_) | (refine zZ.isR (id := 2) ?_; refine zZ.xW [0, 1, 2, 3] [3, 1000, 1001, 1002] (by repeat' first | exact zG.nil | apply zG.ptr rfl) (by repeat' first | exact zO.nil | apply zO.boxP rfl rfl) ?_; (refine zY.v rfl rfl (yN rfl rfl rfl (by decide)) ?_); (refine zY.v rfl rfl (yM rfl rfl rfl (by rfl) (by rfl) rfl (by decide)) ?_); (refine zY.v rfl rfl (w_build rfl (by rfl) (by rfl) (by rfl) (by rfl) rfl (by decide)) ?_); (refine zY.w rfl (by exact yT rfl rfl rfl rfl rfl (by rfl) (by exact Nat.le_of_ble_eq_true rfl) rfl rfl) ?_); (refine zY.w rfl (by exact yT rfl rfl rfl rfl rfl (by rfl) (by exact Nat.le_of_ble_eq_true rfl) rfl rfl) ?_); (refine zY.w rfl (by exact yT rfl rfl rfl rfl rfl (by rfl) (by exact Nat.le_of_ble_eq_true rfl) rfl rfl) ?_); refine zY.nil ?_) | refine zZ.yF rfl (by with_reducible rfl) ?_))
  all_goals exact ⟨by first | exact .inl rfl | exact .inr rfl, wL (by repeat' first | exact trivial | rfl | constructor)⟩
end Go.Proofs.YtmfbamiciieooaaGreatDoor
/- Records are taken; operations that are entered and left: the program's, whatever makes its accesses: contracts. -/
namespace Go.Proofs.YtmfbamiciieooaaGreatDoor
set_option maxRecDepth 100000
set_option maxHeartbeats 16000000
open Go Go.RowKit
set_option linter.unusedSimpArgs false
set_option linter.unusedVariables false
attribute [local irreducible] zY zZ Step zX Sub zD zF Fn zB zP xA
def allocS (H : Hnd) (t me r : Int) (i : Nat) (s : H.σ) : AS :=
  { t := [(0, H.doA), (1, .p (.val (.int .i64 t))), (2, .p (.val (.int .i64 me))), (6, .p (.val (.int .i64 0))), (7, .p (.val (.int .i64 r))), (8, .p (.val (.int .i64 (i : Nat))))], s := [(1000, H.b0 s), (1001, H.b1 s), (1002, H.b2 s)] }
theorem alloc_h (H : Hnd) (s0 : H.σ) {t me : Int} (ht : Small t) (h0 : 0 ≤ t) (hm : Small me) : FnH H 50 [H.doA, .p (.val (.int .i64 t)), .p (.val (.int .i64 me))] [] (fun r => .p (.val (.int .i64 r))) (fun _ => []) Rf s0 (allocP t me) := by
  unfold Hnd.doA
  refine yO Tryz.func50 rfl Tryz.ntmps50 (Nat.le_of_ble_eq_true rfl) (by decide) (fine_alloc t me) fun hok hns => ?_
  repeat' (first | (refine zY.is ?_; first | refine zY.nil ?_ | (refine zY.at_ 7 rfl ?_; refine zY.rc (.v zK .e) ?_) | (refine zY.in_ [11] rfl ?_; refine zY.ofT rfl (zF.hd (i := []) (f := pop_h H _ ht) (r := fun x s e g hk => ?_) (p := fun q s e => ?_) (t := ?_)))) | (refine zZ.is ?_; first | refine zZ.seq ?_ | (refine zZ.isR (id := 0) ?_; refine zZ.rc [0, 1, 2] [1000, 1001, 1002] (r := (.v zK .e)) (h := ?_)) | (refine zZ.isR (id := 1) ?_; refine zZ.rc [0, 1, 2, 6] [1000, 1001, 1002] (r := (.v xJ (.v zV .e))) (h := ?_)) | (refine zZ.isR (id := 2) ?_; refine zZ.rc [0, 1, 2, 6, 7] [1000, 1001, 1002] (r := (.v zK .e)) (h := ?_)) | refine zZ.block ?_) | refine zB.n ?_ | refine zB.p ?_)
  all_goals (first | exact fun e => hns (by clear hns; simp only [allocP, run_bind, zC, zJ, Held.zW, Held.zA, Held.zQ, cond_true, cond_false, *]) | exact .pan (q := q) rfl (by repeat' first | exact trivial | rfl | constructor) (by repeat' exact trivial) (by simp only [allocP, run_bind, zC, zJ, Held.zW, Held.zA, Held.zQ, cond_true, cond_false, *]) | skip)
  have ho0 : (allocL t me (3 - 0) x).run H.st s = (allocP t me).run H.st s0 := ((run_bind H.st (allocL t me 3) (popP t) s0).trans (by rw [e]; rfl)).symm
  refine zZ.loop (fun q : Nat × Int × H.σ => allocS H t me q.2.1 q.1 q.2.2) (fun q => q.1 ≤ 3 ∧ Rf q.2.1 ∧ H.ok q.2.2 ∧ (allocL t me (3 - q.1) q.2.1).run H.st q.2.2 = (allocP t me).run H.st s0) (fun q => 3 - q.1) (0, x, s) ?h0 ⟨Nat.zero_le _, g, hk, ho0⟩ ?rd
  case h0 =>
    exact zT K_15 K_0
  case rd =>
    clear ho0 hk g e
    rintro ⟨i, r, s1⟩ ⟨hi, hr, hok1, ho⟩
    dsimp only at hi hr hok1 ho ⊢
    unfold allocS Hnd.doA
    by_cases hlt : i < 3
    case neg =>
      have f1 : decide ((i : Int) < 3) = false := decide_eq_false (by omega)
      rw [show 3 - i = 0 by omega, allocL] at ho
      repeat' (first | (refine zY.nil ?_) | (refine zZ.is ?_; first | refine zZ.seq ?_ | (refine zZ.isR (id := 3) ?_; refine zZ.rc [0, 1, 2, 6, 7, 8, 17] [1000, 1001, 1002] (r := (.v zV (.v xY (.v zV (.gT (.gT (.v xC .e))))))) (h := ?_)) | (refine zZ.isR (id := 8) ?_; refine zZ.rc [6, 7] [1000, 1001, 1002] (r := (.v zV (.v zK .e))) (h := ?_)) | refine zZ.yH rfl bA ?_ | refine zZ.exit ?_ | refine zZ.ret ?_) | refine zB.n ?_ | refine zP.eY ?_ | refine zB.e ?_)
      all_goals exact .ret (x := r) (s' := s1) (.inl rfl) (.one rfl rfl) (by repeat' first | exact trivial | rfl | constructor) ho.symm
    case pos =>
      have f1 : decide ((i : Int) < 3) = true := decide_eq_true (by omega)
      have f2 : IntKind.i64.wrap ((i : Nat) + 1) = ((i + 1 : Nat) : Int) := by rw [wrap_i64 _ (by omega)]; omega
      rw [show 3 - i = (3 - (i + 1)) + 1 by omega, allocL] at ho
      cases hz : decide (r = 0)
      case false =>
        rw [hz, cond_false] at ho
        repeat' (first | (refine zY.nil ?_) | (refine zZ.is ?_; first | refine zZ.seq ?_ | (refine zZ.isR (id := 3) ?_; refine zZ.rc [0, 1, 2, 6, 7, 8, 17] [1000, 1001, 1002] (r := (.v zV (.v xY (.v zV (.gY zV (.gY v41_0 (.v y8 .e))))))) (h := ?_)) | (refine zZ.isR (id := 8) ?_; refine zZ.rc [6, 7] [1000, 1001, 1002] (r := (.v zV (.v zK .e))) (h := ?_)) | refine zZ.yH rfl bA ?_ | refine zZ.exit ?_ | refine zZ.ret ?_) | refine zB.n ?_ | refine zP.eY ?_ | refine zB.e ?_)
        all_goals exact .ret (x := r) (s' := s1) (.inl rfl) (.one rfl rfl) (by repeat' first | exact trivial | rfl | constructor) ho.symm
      case true =>
        rw [hz, cond_true] at ho
        repeat' (first | (refine zY.is ?_; first | refine zY.nil ?_ | (refine zY.at_ 7 rfl ?_; refine zY.rc (.v zK .e) ?_) | (refine zY.in_ [28] rfl ?_; refine zY.ofT rfl (zF.hd (i := []) (f := pop_h H _ ht) (r := fun x s e g hk => ?_) (p := fun q s e => ?_) (t := ?_))) | (refine zY.in_ [22] rfl ?_; refine zY.ofT rfl (zF.hd (i := []) (f := pin_h H _ hm) (r := fun x s e g hk => ?_) (p := fun q s e => ?_) (t := ?_))) | (refine zY.in_ [25] rfl ?_; refine zY.ofT rfl (zF.hd (i := []) (f := advance_h H _ ht h0) (r := fun x s e g hk => ?_) (p := fun q s e => ?_) (t := ?_)))) | (refine zZ.is ?_; first | refine zZ.seq ?_ | (refine zZ.isR (id := 3) ?_; refine zZ.rc [0, 1, 2, 6, 7, 8, 17] [1000, 1001, 1002] (r := (.v zV (.v xY (.v zV (.gY zV (.gY v41_0 (.v y8 .e))))))) (h := ?_)) | (refine zZ.isR (id := 5) ?_; refine zZ.rc [0, 1, 2, 6, 7, 8, 17] [1000, 1001, 1002] (r := (.v xJ (.v zV .e))) (h := ?_)) | (refine zZ.isR (id := 6) ?_; refine zZ.rc [0, 1, 2, 6, 7, 8, 17] [1000, 1001, 1002] (r := (.v xJ (.v zV .e))) (h := ?_)) | (refine zZ.isR (id := 7) ?_; refine zZ.rc [0, 1, 2, 6, 7, 8, 17] [1000, 1001, 1002] (r := (.v xJ (.v zV .e))) (h := ?_)) | (refine zZ.isR (id := 4) ?_; refine zZ.rc [0, 1, 2, 6, 7, 8, 17] [1000, 1001, 1002] (r := (.v zV (.v wC (.v zK .e)))) (h := ?_)) | refine zZ.yF rfl bA ?_ | refine zZ.skip ?_ | refine zZ.block ?_) | refine zB.n ?_ | refine zB.p ?_ | refine zP.n ?_ | refine zP.p ?_)
        all_goals (first | exact fun e => hns (by rw [← ho]; clear ho; clear hns; simp only [run_bind, zC, zJ, Held.zW, Held.zA, Held.zQ, cond_true, cond_false, *]) | exact .pan (q := q) rfl (by repeat' first | exact trivial | rfl | constructor) (by repeat' exact trivial) (by rw [← ho]; clear ho; simp only [run_bind, zC, zJ, Held.zW, Held.zA, Held.zQ, cond_true, cond_false, *]) | skip)
        refine ⟨(i + 1, x, s), ?_, ⟨by show i + 1 ≤ 3; omega, by assumption, hk, Eq.trans ?_ ho⟩, by show 3 - (i + 1) < 3 - i; omega⟩
        · exact zT K_15 K_0
        · clear ho hns
          simp only [run_bind, Held.zW, *]
/-! ### Vertices -/
def outBV (o : OutB) : AV := .tup ([outV o.e o.alt 0 0, .val (.bool o.ok)].map .p)
def workC (H : Hnd) (t me k : Int) : List Cl := [.c H.fn [1000, 1001], .p (.val (.int .i64 t)), .p (.val (.int .i64 me)), .p (.val (.int .u64 k))]
theorem told_h (H : Hnd) (s0 : H.σ) {t me k r b : Int} (is : Bool) (hR : Rc t r) (hb : b = 1 ∨ b = 2) : FnH H 49 [.ag (workC H t me k), .p (.val (.int .i64 r)), .p (.val (.int .i64 b)), .p (.val (.bool is))] [] outBV (fun _ => []) AltOK s0 (toldP t r b is) := by
  unfold workC
  refine yO Tryz.func49 rfl Tryz.ntmps49 (Nat.le_of_ble_eq_true rfl) (by decide) (fine_told t r is hb) fun hok hns => ?_
  repeat' (first | (refine zY.is ?_; first | refine zY.nil ?_ | (refine zY.at_ 10 rfl ?_; refine zY.rc (.v zK .e) ?_) | (refine zY.in_ [17] rfl ?_; refine zY.ofT rfl (zF.hd (i := []) (f := save_h H _ hR hb) (r := fun x s e g hk => ?_) (p := fun q s e => ?_) (t := ?_)))) | (refine zZ.is ?_; first | refine zZ.seq ?_ | (refine zZ.isR (id := 0) ?_; refine zZ.rc [0, 1, 2, 3] [4, 8, 1000, 1001, 1002] (r := (.m m18_6 (.m zS (.v zK .e)))) (h := ?_)) | (refine zZ.isR (id := 1) ?_; refine zZ.rc [1, 2, 3, 4, 8, 9] [4, 8, 1000, 1001, 1002] (r := (.v zH (.v wB (.v zH (.v zN (.v zV (.v zV .e))))))) (h := ?_)) | (refine zZ.isR (id := 2) ?_; refine zZ.rc [3, 8, 9, 10] [4, 8, 1000, 1001, 1002] (r := (.v zV (.v y9 (.v zV (.w zR (.v zK .e)))))) (h := ?_)) | refine zZ.ret ?_) | refine zB.n ?_ | refine zB.p ?_)
  all_goals (first | exact fun e => hns (by clear hns; simp only [toldP, run_bind, zC, zJ, Held.zW, Held.zA, Held.zQ, cond_true, cond_false, *]) | exact .pan (q := q) rfl (by repeat' first | exact trivial | rfl | constructor) (by repeat' exact trivial) (by simp only [toldP, run_bind, zC, zJ, Held.zW, Held.zA, Held.zQ, cond_true, cond_false, *]) | exact .ret (x := ⟨0, is, x, is⟩) (by exact .inl rfl) (by exact .tup rfl (by decide) (.cons (.cellN rfl rfl (by rfl) (by rfl)) (.cons (.tmp rfl) .nil))) (by repeat' first | exact trivial | rfl | constructor) (by simp only [toldP, run_bind, zC, zJ, Held.zW, Held.zA, Held.zQ, cond_true, cond_false, *] <;> rfl))
theorem told2_h (H : Hnd) (s0 : H.σ) {t me k r b : Int} (is : Bool) (hR : Rc t r) (hb : b = 1 ∨ b = 2) : FnH H 49 [.ag (workC H t me k), .p (.val (.int .i64 r)), .p (.val (.int .i64 b)), .p (.val (.bool is))] [] (fun ok => .tup ([outV 0 is 0 0, .val (.bool ok)].map .p)) (fun _ => []) yes s0 (saveP t r b) := by
  unfold workC
  refine yO Tryz.func49 rfl Tryz.ntmps49 (Nat.le_of_ble_eq_true rfl) (by decide) (fine_save t r b hb) fun hok hns => ?_
  repeat' (first | (refine zY.is ?_; first | refine zY.nil ?_ | (refine zY.at_ 10 rfl ?_; refine zY.rc (.v zK .e) ?_) | (refine zY.in_ [17] rfl ?_; refine zY.ofT rfl (zF.hd (i := []) (f := save_h H _ hR hb) (r := fun x s e g hk => ?_) (p := fun q s e => ?_) (t := ?_)))) | (refine zZ.is ?_; first | refine zZ.seq ?_ | (refine zZ.isR (id := 0) ?_; refine zZ.rc [0, 1, 2, 3] [4, 8, 1000, 1001, 1002] (r := (.m m18_6 (.m zS (.v zK .e)))) (h := ?_)) | (refine zZ.isR (id := 1) ?_; refine zZ.rc [1, 2, 3, 4, 8, 9] [4, 8, 1000, 1001, 1002] (r := (.v zH (.v wB (.v zH (.v zN (.v zV (.v zV .e))))))) (h := ?_)) | (refine zZ.isR (id := 2) ?_; refine zZ.rc [3, 8, 9, 10] [4, 8, 1000, 1001, 1002] (r := (.v zV (.v y9 (.v zV (.w zR (.v zK .e)))))) (h := ?_)) | refine zZ.ret ?_) | refine zB.n ?_ | refine zB.p ?_)
  all_goals (first | exact fun e => hns (by clear hns; simp only [run_bind, zC, zJ, Held.zW, Held.zA, Held.zQ, cond_true, cond_false, *]) | exact .pan (q := q) rfl (by repeat' first | exact trivial | rfl | constructor) (by repeat' exact trivial) (by simp only [run_bind, zC, zJ, Held.zW, Held.zA, Held.zQ, cond_true, cond_false, *]) | exact .ret (x := x) (by exact .inl rfl) (by exact .tup rfl (by decide) (.cons (.cellN rfl rfl (by rfl) (by rfl)) (.cons (.tmp rfl) .nil))) (by repeat' first | exact trivial | rfl | constructor) (by simp only [run_bind, zC, zJ, Held.zW, Held.zA, Held.zQ, cond_true, cond_false, *] <;> rfl))
theorem vhas_h (H : Hnd) (s0 : H.σ) {t me k : Int} (ht : Small t) : FnH H 29 [.ag (workC H t me k)] [] outBV (fun _ => []) AltOK s0 (vhasP t k) := by
  unfold workC
  refine yO Tryz.func29 rfl Tryz.ntmps29 (Nat.le_of_ble_eq_true rfl) (by decide) (fine_vhas t k) fun hok hns => ?_
  have cn : ∀ r : Int × Bool, SFound r → (!r.2) = false → Fn Tryz.prog 61 [.val (.int .i64 t), .val (.int .i64 r.1)] (.p (.val (.int .i64 (yK t r.1 0)))) := fun r g h => by
    have h1 := g.n (by simpa using h)
    have := cnext_fn t r.1 ht g.x.le
    rwa [nextF_pos t (decide_eq_false (by omega))] at this
  have ct1 := fun s r is hR => told_h H s (t := t) (me := me) (k := k) (r := r) (b := 1) is hR (.inl rfl)
  have ct2 := fun s r is hR => told_h H s (t := t) (me := me) (k := k) (r := r) (b := 2) is hR (.inr rfl)
  repeat' (first | (refine zY.is ?_; first | refine zY.nil ?_ | (refine zY.at_ 30 rfl ?_; refine zY.rc (.v yV (.v yV (.w zR (.v zK .e)))) ?_) | (refine zY.at_ 35 rfl ?_; refine zY.rc (.v yV (.v yV (.w zR (.v zK .e)))) ?_) | (refine zY.at_ 6 rfl ?_; refine zY.rc (.v wQ (.v yV (.v yV (.v zK (.v zK .e))))) ?_) | (refine zY.in_ [13] rfl ?_; refine zY.ofT rfl (zF.hd (i := []) (f := seek_h H _ ht rf_0) (r := fun x s e g hk => ?_) (p := fun q s e => ?_) (t := ?_))) | (refine zY.in_ [29] rfl ?_; refine zY.ofT rfl (zF.hd (i := []) (f := ct2 _ _ _ (Rf.rc (SFound.x (by assumption)) ht)) (r := fun x s e g hk => ?_) (p := fun q s e => ?_) (t := ?_))) | (refine zY.in_ [34] rfl ?_; refine zY.ofT rfl (zF.hd (i := []) (f := ct1 _ _ _ (Rf.rc (SFound.x (by assumption)) ht)) (r := fun x s e g hk => ?_) (p := fun q s e => ?_) (t := ?_)))) | (refine zZ.is ?_; first | refine zZ.seq ?_ | (refine zZ.isR (id := 0) ?_; refine zZ.rc [0] [1, 2, 1000, 1001, 1002] (r := (.m m18_6 (.m zS (.v zK .e)))) (h := ?_)) | (refine zZ.isR (id := 1) ?_; refine zZ.rc [1, 2, 3] [1, 2, 1000, 1001, 1002] (r := (.v zH (.v wB (.v zH (.v zN (.v zH (.v zN .e))))))) (h := ?_)) | (refine zZ.isR (id := 2) ?_; refine zZ.rc [1, 2, 3, 4, 5] [1, 2, 1000, 1001, 1002] (r := (.v zV (.v v52_8 .e))) (h := ?_)) | (refine zZ.isR (id := 3) ?_; refine zZ.rc [1, 2, 3, 4] [1, 2, 1000, 1001, 1002] (r := (.v y9 (.w zR (.v zK .e)))) (h := ?_)) | (refine zZ.isR (id := 4) ?_; refine zZ.rk [1, 2, 3, 4] [1, 2, 1000, 1001, 1002] ?_; refine zZ.draws ?_) | (refine zZ.isR (id := 5) ?_; refine zZ.rc [1, 2, 3, 4] [1, 2, 1000, 1001, 1002] (r := (.v v2_19 (.v zV .e))) (h := ?_)) | (refine zZ.isR (id := 6) ?_; refine zZ.rc [1, 2, 3, 4] [1, 2, 1000, 1001, 1002] (r := (.v v2_19 (.v zV .e))) (h := ?_)) | refine zZ.cond rfl (fun h => ?_) (fun h => ?_) | refine zZ.skip ?_ | refine zZ.ret ?_) | refine zB.n ?_ | refine zB.r ?_ | refine zB.p ?_ | (refine Draws.is ?_; first | refine Draws.rc (.v zH (.v wB (.v zH (.v zN (.v zV .e))))) ?_ | (refine Draws.in_ [24] rfl ?_; refine Draws.v rfl rfl (zL (cn _ (by assumption) (by assumption)) rfl rfl rfl (by decide)) ?_) | refine Draws.done (by kernel_rfl) (by kernel_rfl) (by kernel_rfl) ?_) | (refine zD.is ?_; first | refine zD.nil ?_ | (refine zD.in_ [26] rfl ?_; refine zD.v rfl rfl (zL (mark_fn _ (U.lo (by assumption)) (U.hi (by assumption))) rfl rfl rfl (by decide)) ?_) | (refine zD.in_ [25] rfl ?_; refine zD.ofT rfl (zF.hd (i := []) (f := vI H _ _) (r := fun x s e g hk => ?_) (p := fun q s e => ?_) (t := ?_)))))
  all_goals try simp only [Bool.not_eq_true', Bool.not_eq_false'] at *
  all_goals first
    | exact .ret (x := ⟨0, false, true, false⟩) (by exact .inl rfl) (.tup rfl (by decide) (.cons (.cellN rfl rfl (by rfl) (by rfl)) (.cons (.tmp rfl) .nil))) (by repeat' first | exact trivial | rfl | constructor) (by simp only [vhasP, run_bind, zC, zJ, Held.zW, cond_true, cond_false, *])
    | skip
  all_goals (first | exact fun e => hns (by clear hns; simp only [vhasP, run_bind, zC, zJ, Held.zW, Held.zA, Held.zQ, cond_true, cond_false, *]) | exact .pan (q := q) rfl (by repeat' first | exact trivial | rfl | constructor) (by repeat' exact trivial) (by simp only [vhasP, run_bind, zC, zJ, Held.zW, Held.zA, Held.zQ, cond_true, cond_false, *]) | exact .ret (x := _) (by exact .inl rfl) (by exact .tup rfl (by decide) (.cons (.cellN rfl rfl (by rfl) (by rfl)) (.cons (.tmp rfl) .nil))) (by repeat' first | exact trivial | rfl | constructor) (by simp only [vhasP, run_bind, zC, zJ, Held.zW, Held.zA, Held.zQ, cond_true, cond_false, *] <;> rfl))
def qM (H : Hnd) (t me k : Int) : Blk := .box 91 [H.doA, .p (.val (.int .i64 t)), .p (.val (.int .i64 me)), .p (.val (.int .u64 k))]
def vaddS (H : Hnd) (t me k r : Int) (s : H.σ) : AS :=
  { t := [(1, .ptr 1 0), (2, .ptr 2 0), (3, .p (.val (.bool false))), (8, .p (.val (.int .i64 r)))], s := [(1, qM H t me k), (2, wK 0 false 0 0), (1000, H.b0 s), (1001, H.b1 s), (1002, H.b2 s)] }
theorem vadd_h (H : Hnd) (s0 : H.σ) {t me k : Int} (ht : Small t) (h0 : 0 ≤ t) (hm : Small me) (hk0 : U k) : FnH H 27 [.ag (workC H t me k)] [] outBV (fun _ => []) AltOK s0 (vaddP t me k) := by
  unfold workC
  refine yO Tryz.func27 rfl Tryz.ntmps27 (Nat.le_of_ble_eq_true rfl) (by decide) (fine_vadd t me hk0) fun hok hns => ?_
  have ct1 := fun s r is hR => told_h H s (t := t) (me := me) (k := k) (r := r) (b := 1) is hR (.inl rfl)
  repeat' (first | (refine zY.nil ?_) | (refine zZ.is ?_; first | refine zZ.seq ?_ | (refine zZ.isR (id := 0) ?_; refine zZ.rc [0] [1, 2, 1000, 1001, 1002] (r := (.m m18_6 (.m zS (.v zK .e)))) (h := ?_))) | refine zB.n ?_)
  apply zZ.scopeG 0 (fun q : Nat × Int × H.σ => vaddS H t me k q.2.1 q.2.2) (fun q => Rf q.2.1 ∧ H.ok q.2.2 ∧ (Pr.loop (qQ t k q.2.1) q.1 ()).run H.st q.2.2 = (vaddP t me k).run H.st s0) (fun q => q.1)
  case hf => exact rfl
  case first =>
    intro hL
    repeat' (first | (refine zY.is ?_; first | refine zY.nil ?_ | (refine zY.at_ 10 rfl ?_; refine zY.rc (.v wQ (.v yV (.v yV (.v yV (.v yV (.v zK (.v zK (.v zK (.v zK .e))))))))) ?_) | (refine zY.at_ 29 rfl ?_; refine zY.rc (.v yV (.v yV (.w zR (.v zK .e)))) ?_) | (refine zY.at_ 8 rfl ?_; refine zY.rc (.v zK .e) ?_) | (refine zY.in_ [17] rfl ?_; refine zY.ofT rfl (zF.hd (i := []) (f := search_h H _ ht) (r := fun x s e g hk => ?_) (p := fun q s e => ?_) (t := ?_))) | (refine zY.in_ [28] rfl ?_; refine zY.ofT rfl (zF.hd (i := []) (f := ct1 _ _ _ (Rf.rc (FOK.x (by assumption)) ht)) (r := fun x s e g hk => ?_) (p := fun q s e => ?_) (t := ?_))) | (refine zY.in_ [37] rfl ?_; refine zY.ofT rfl (zF.hd (i := []) (f := alloc_h H _ ht h0 hm) (r := fun x s e g hk => ?_) (p := fun q s e => ?_) (t := ?_))) | (refine zY.in_ [49] rfl ?_; refine zY.ofT rfl (zF.hd (i := []) (f := make_h H _ 0 0 (Rf.rc (by assumption) ht) hk0 U.zero U.zero U.zero U.zero) (r := fun x s e g hk => ?_) (p := fun q s e => ?_) (t := ?_)))) | (refine zZ.is ?_; first | refine zZ.seq ?_ | (refine zZ.isR (id := 1) ?_; refine zZ.rc [1, 2, 3, 5, 6, 7, 8, 9, 23, 25, 39, 66, 73, 77, 84] [1, 2, 1000, 1001, 1002] (r := (.v zH (.v wB (.v zH (.v zN (.v zH (.v zN .e))))))) (h := ?_)) | (refine zZ.isR (id := 2) ?_; refine zZ.rc [1, 2, 3, 5, 6, 7, 8, 9, 23, 25, 39, 66, 73, 77, 84] [1, 2, 1000, 1001, 1002] (r := (.v zV (.v v52_8 .e))) (h := ?_)) | (refine zZ.isR (id := 3) ?_; refine zZ.rc [1, 2, 3, 5, 6, 7, 8, 9, 23, 25, 39, 66, 73, 77, 84] [1, 2, 1000, 1001, 1002] (r := (.v y9 (.w zR (.v zK .e)))) (h := ?_)) | (refine zZ.isR (id := 4) ?_; refine zZ.rc [1, 2, 3, 5, 6, 7, 8, 9, 23, 25, 39, 66, 73, 77, 84] [1, 2, 1000, 1001, 1002] (r := (.v zV .e)) (h := ?_)) | (refine zZ.isR (id := 5) ?_; refine zZ.rc [1, 2, 3, 5, 6, 7, 8, 9, 23, 25, 39, 66, 73, 77, 84] [1, 2, 1000, 1001, 1002] (r := (.v v2_19 (.v zV .e))) (h := ?_)) | (refine zZ.isR (id := 6) ?_; refine zZ.rc [1, 2, 3, 5, 6, 7, 8, 9, 23, 25, 39, 66, 73, 77, 84] [1, 2, 1000, 1001, 1002] (r := (.v zH (.v wB (.v zH (.v zN (.v zH (.v zN .e))))))) (h := ?_)) | (refine zZ.isR (id := 7) ?_; refine zZ.rc [1, 2, 3, 5, 6, 7, 8, 9, 23, 25, 39, 66, 73, 77, 84] [1, 2, 1000, 1001, 1002] (r := (.v zV (.v v41_8 .e))) (h := ?_)) | (refine zZ.isR (id := 8) ?_; refine zZ.rc [1, 2, 3, 5, 6, 7, 8, 9, 23, 25, 39, 66, 73, 77, 84] [1, 2, 1000, 1001, 1002] (r := (.v y9 (.w zR (.v zK .e)))) (h := ?_)) | (refine zZ.isR (id := 9) ?_; refine zZ.rc [1, 2, 3, 5, 6, 7, 8, 9, 23, 25, 39, 66, 73, 77, 84] [1, 2, 1000, 1001, 1002] (r := (.v zH (.v wB (.v zH (.v zN (.v zV (.v zH (.v zN (.v y9 .e))))))))) (h := ?_)) | refine zZ.cond rfl (fun h => ?_) (fun h => ?_) | refine zZ.skip ?_ | refine zZ.ret ?_) | refine zB.n ?_ | refine zB.r ?_ | refine zB.p ?_ | refine xA.r ?_ | refine xA.p ?_)
    all_goals try simp only [Bool.not_eq_true', Bool.not_eq_false'] at *
    all_goals first
      | exact .ret (x := ⟨0, false, false, false⟩) (.inl rfl) (.tup rfl (by decide) (.cons (.cellN rfl rfl (by rfl) (by rfl)) (.cons (.tmp rfl) .nil))) (by repeat' first | exact trivial | rfl | constructor) (by simp only [vaddP, run_bind, zC, zJ, Held.zW, cond_true, cond_false, *])
      | exact .ret (x := ⟨3, false, true, false⟩) (.inl rfl) (.tup rfl (by decide) (.cons (.cellN rfl rfl (by rfl) (by rfl)) (.cons (.tmp rfl) .nil))) (by repeat' first | exact trivial | rfl | constructor) (by simp only [vaddP, run_bind, zC, zJ, Held.zW, cond_true, cond_false, *])
      | skip
    all_goals (first | exact fun e => hns (by clear hns; simp only [vaddP, run_bind, zC, zJ, Held.zW, Held.zA, Held.zQ, cond_true, cond_false, *]) | exact .pan (q := q) rfl (by repeat' first | exact trivial | rfl | constructor) (by repeat' exact trivial) (by simp only [vaddP, run_bind, zC, zJ, Held.zW, Held.zA, Held.zQ, cond_true, cond_false, *]) | exact .ret (x := _) (by exact .inl rfl) (by exact .tup rfl (by decide) (.cons (.cellN rfl rfl (by rfl) (by rfl)) (.cons (.tmp rfl) .nil))) (by repeat' first | exact trivial | rfl | constructor) (by simp only [vaddP, run_bind, zC, zJ, Held.zW, Held.zA, Held.zQ, cond_true, cond_false, *] <;> rfl) | skip)
    rename_i f s1 e1 g1 hk1 h1 r s2 e2 g2 hk2 h2
    refine zZ.label ?_
    refine zB.n ?_
    refine zZ.sub ?_ (hL (many, r, s) ⟨g2, hk, ?_⟩)
    · unfold vaddS
      exact zT K_16 K_h
    · symm
      simp only [vaddP, run_bind, zC, zJ, Held.zW, cond_true, cond_false, *]
  case round =>
    rintro ⟨n, r, s1⟩ ⟨hr, hok1, ho⟩
    dsimp only at hr hok1 ho ⊢
    unfold vaddS qM wK Hnd.doA
    have ct2 := fun s is => told_h H s (t := t) (me := me) (k := k) (r := r) (b := 1) is (hr.rc ht) (.inl rfl)
    cases n with
    | zero => exact absurd ho.symm hns
    | succ n =>
      rw [vK] at ho
      repeat' (first | (refine zY.is ?_; first | refine zY.nil ?_ | (refine zY.at_ 50 rfl ?_; refine zY.rc (.v wQ (.v yV (.v yV (.v yV (.v yV (.v zK (.v zK (.v zK (.v zK .e))))))))) ?_) | (refine zY.at_ 65 rfl ?_; refine zY.rc (.gY zV (.v xC .e)) ?_) | (refine zY.at_ 65 rfl ?_; refine zY.rc (.gF (.v y8 .e)) ?_) | (refine zY.at_ 82 rfl ?_; refine zY.rc (.v yV (.v yV (.w zR (.v zK .e)))) ?_) | (refine zY.at_ 93 rfl ?_; refine zY.rc (.v v52_8 (.v zK .e)) ?_) | (refine zY.at_ 97 rfl ?_; refine zY.rc (.v yV (.v yV (.w zR (.v zK .e)))) ?_) | (refine zY.in_ [57] rfl ?_; refine zY.ofT rfl (zF.hd (i := []) (f := search_h H _ ht) (r := fun x s e g hk => ?_) (p := fun q s e => ?_) (t := ?_))) | (refine zY.in_ [81] rfl ?_; refine zY.ofT rfl (zF.hd (i := []) (f := ct1 _ _ _ (Rf.rc (FOK.x (by assumption)) ht)) (r := fun x s e g hk => ?_) (p := fun q s e => ?_) (t := ?_))) | (refine zY.in_ [96] rfl ?_; refine zY.ofT rfl (zF.hd (i := []) (f := ct2 _ _) (r := fun x s e g hk => ?_) (p := fun q s e => ?_) (t := ?_))) | (refine zY.in_ [72] rfl ?_; refine zY.ofT rfl (zF.hd (i := []) (f := push_h H _ ht hr) (r := fun x s e g hk => ?_) (p := fun q s e => ?_) (t := ?_))) | (refine zY.in_ [92] rfl ?_; refine zY.ofT rfl (zF.hd (i := []) (f := link_h H _ ht (FOK.p (by assumption)) (FOK.x (by assumption)) hr) (r := fun x s e g hk => ?_) (p := fun q s e => ?_) (t := ?_))) | (fail_if_success refine zY.known rfl rfl rfl (by fail) ?_); refine zY.split rfl rfl rfl (fun h => ?_) (fun h => ?_)) | (refine zZ.is ?_; first | refine zZ.seq ?_ | (refine zZ.isR (id := 10) ?_; refine zZ.rc [1, 2, 3, 5, 6, 7, 8, 9, 23, 25, 39, 66, 73, 77, 84] [1, 2, 1000, 1001, 1002] (r := (.v zH (.v wB (.v zH (.v zN (.v zH (.v zN .e))))))) (h := ?_)) | (refine zZ.isR (id := 11) ?_; refine zZ.rc [1, 2, 3, 5, 6, 7, 8, 9, 23, 25, 39, 66, 73, 77, 84] [1, 2, 1000, 1001, 1002] (r := (.v zV (.v v52_8 (.v zV .e)))) (h := ?_)) | (refine zZ.isR (id := 12) ?_; refine zZ.rc [1, 2, 3, 5, 6, 7, 8, 9, 23, 25, 39, 66, 73, 77, 84] [1, 2, 1000, 1001, 1002] (r := (.v zH (.v wB (.v zH (.v zN (.v zV .e)))))) (h := ?_)) | (refine zZ.isR (id := 13) ?_; refine zZ.rc [1, 2, 3, 5, 6, 7, 8, 9, 23, 25, 39, 66, 73, 77, 84] [1, 2, 1000, 1001, 1002] (r := (.v zV (.v v52_0 (.v zK .e)))) (h := ?_)) | (refine zZ.isR (id := 14) ?_; refine zZ.rc [1, 2, 3, 5, 6, 7, 8, 9, 23, 25, 39, 66, 73, 77, 84] [1, 2, 1000, 1001, 1002] (r := (.v y9 (.w zR (.v zK .e)))) (h := ?_)) | (refine zZ.isR (id := 15) ?_; refine zZ.rc [1, 2, 3, 5, 6, 7, 8, 9, 23, 25, 39, 66, 73, 77, 84] [1, 2, 1000, 1001, 1002] (r := (.v zV (.v zK .e))) (h := ?_)) | (refine zZ.isR (id := 16) ?_; refine zZ.rc [1, 2, 3, 5, 6, 7, 8, 9, 23, 25, 39, 66, 73, 77, 84] [1, 2, 1000, 1001, 1002] (r := (.v v2_19 (.v zV .e))) (h := ?_)) | (refine zZ.isR (id := 17) ?_; refine zZ.rc [1, 2, 3, 5, 6, 7, 8, 9, 23, 25, 39, 66, 73, 77, 84] [1, 2, 1000, 1001, 1002] (r := (.v zH (.v wB (.v zH (.v zN (.v zV (.v zV (.v zV .e)))))))) (h := ?_)) | (refine zZ.isR (id := 18) ?_; refine zZ.rc [1, 2, 3, 5, 6, 7, 8, 9, 23, 25, 39, 66, 73, 77, 84] [1, 2, 1000, 1001, 1002] (r := (.v v2_19 (.v zV .e))) (h := ?_)) | refine zZ.yF rfl bA ?_ | refine zZ.yH rfl bA ?_ | refine zZ.cond rfl (fun h => ?_) (fun h => ?_) | refine zZ.skip ?_ | refine zZ.block ?_ | refine zZ.ret ?_ | refine zZ.goto ?_) | refine zB.n ?_ | refine zB.r ?_ | refine zB.p ?_ | refine zP.n ?_ | refine zP.r ?_ | refine zP.p ?_ | refine zB.g ?_ | refine xA.r ?_ | refine xA.g ?_ | refine zP.g ?_ | refine xA.p ?_)
      all_goals try simp only [Bool.not_eq_true', Bool.not_eq_false'] at *
      all_goals first
        | exact .ret (x := ⟨0, false, false, false⟩) (.inl rfl) (.tup rfl (by decide) (.cons (.cellN rfl rfl (by rfl) (by rfl)) (.cons (.tmp rfl) .nil))) (by repeat' first | exact trivial | rfl | constructor) (by rw [← ho]; clear ho; simp only [qQ, Sum.elim, run_bind, zC, zJ, Held.zW, cond_true, cond_false, *])
        | skip
      all_goals (first | exact fun e => hns (by rw [← ho]; clear ho; clear hns; simp only [qQ, Sum.elim, run_bind, zC, zJ, Held.zW, Held.zA, Held.zQ, cond_true, cond_false, *]) | exact .pan (q := q) rfl (by repeat' first | exact trivial | rfl | constructor) (by repeat' exact trivial) (by rw [← ho]; clear ho; simp only [qQ, Sum.elim, run_bind, zC, zJ, Held.zW, Held.zA, Held.zQ, cond_true, cond_false, *]) | exact .ret (x := _) (by exact .inl rfl) (by exact .tup rfl (by decide) (.cons (.cellN rfl rfl (by rfl) (by rfl)) (.cons (.tmp rfl) .nil))) (by repeat' first | exact trivial | rfl | constructor) (by rw [← ho]; clear ho; simp only [qQ, Sum.elim, run_bind, zC, zJ, Held.zW, Held.zA, Held.zQ, cond_true, cond_false, *] <;> rfl) | skip)
      have e1 : (qQ t k r ()).run H.st s1 = .done (.inl ()) s := by
        clear ho hns
        simp only [qQ, run_bind, zC, zJ, Held.zW, cond_true, cond_false, *]
      refine ⟨(n, r, s), ?_, ⟨hr, hk, by rw [← ho, run_bind, e1, Held.zW]; rfl⟩, Nat.lt_succ_self n⟩
      exact zT K_16 K_h
def vremS (H : Hnd) (t me k : Int) (s : H.σ) : AS :=
  { t := [(1, .ptr 1 0), (2, .ptr 2 0), (3, .p (.val (.bool false)))], s := [(1, qM H t me k), (2, wK 0 false 0 0), (1000, H.b0 s), (1001, H.b1 s), (1002, H.b2 s)] }
theorem vrem_h (H : Hnd) (s0 : H.σ) {t me k : Int} (ht : Small t) : FnH H 28 [.ag (workC H t me k)] [] outBV (fun _ => []) AltOK s0 (vremP t k) := by
  unfold workC
  refine yO Tryz.func28 rfl Tryz.ntmps28 (Nat.le_of_ble_eq_true rfl) (by decide) (fine_vrem t k) fun hok hns => ?_
  have ct2 := fun s r is hR => told2_h H s (t := t) (me := me) (k := k) (r := r) (b := 2) is hR (.inr rfl)
  repeat' (first | (refine zY.nil ?_) | (refine zZ.is ?_; first | refine zZ.seq ?_ | (refine zZ.isR (id := 0) ?_; refine zZ.rc [0] [1, 2, 9, 1000, 1001, 1002] (r := (.m m18_6 (.m zS (.v zK .e)))) (h := ?_)) | refine zZ.block ?_) | refine zB.n ?_)
  refine zZ.loop (fun q : Nat × H.σ => vremS H t me k q.2) (fun q => H.ok q.2 ∧ (Pr.loop (qK t k) q.1 ()).run H.st q.2 = (vremP t k).run H.st s0) (fun q => q.1) (many, s0) ?h0 ⟨hok, rfl⟩ ?rd
  case h0 =>
    unfold vremS
    exact zT K_e K_h
  case rd =>
    rintro ⟨n, s1⟩ ⟨hok1, ho⟩
    dsimp only at hok1 ho ⊢
    unfold vremS qM wK Hnd.doA
    cases n with
    | zero => exact absurd ho.symm hns
    | succ n =>
      rw [vK] at ho
      repeat' (first | refine zZ.hold (id := 7) ?_ | (refine zY.is ?_; first | refine zY.nil ?_ | (refine zY.at_ 10 rfl ?_; refine zY.rc (.v wQ (.v yV (.v yV (.v yV (.v yV (.v zK (.v zK (.v zK (.v zK .e))))))))) ?_) | (refine zY.at_ 25 rfl ?_; refine zY.rc (.gY zV (.gY v52_8 (.v xC .e))) ?_) | (refine zY.at_ 25 rfl ?_; refine zY.rc (.gF (.gF (.v y8 .e))) ?_) | (refine zY.at_ 36 rfl ?_; refine zY.rc (.v v52_8 .e) ?_) | (refine zY.at_ 45 rfl ?_; refine zY.rc (.v wQ (.v yV (.v yV (.m zS (.w zR (.v zK .e)))))) ?_) | (refine zY.in_ [17] rfl ?_; refine zY.ofT rfl (zF.hd (i := []) (f := search_h H _ ht) (r := fun x s e g hk => ?_) (p := fun q s e => ?_) (t := ?_))) | (refine zY.in_ [48] rfl ?_; refine zY.ofT rfl (zF.hd (i := []) (f := ct2 _ _ _ (Rf.rc (FOK.x (by assumption)) ht)) (r := fun x s e g hk => ?_) (p := fun q s e => ?_) (t := ?_))) | (refine zY.in_ [35] rfl ?_; refine zY.ofT rfl (zF.hd (i := []) (f := markOp_h H _ ht (FOK.x (by assumption))) (r := fun x s e g hk => ?_) (p := fun q s e => ?_) (t := ?_))) | (fail_if_success refine zY.known rfl rfl rfl (by fail) ?_); refine zY.split rfl rfl rfl (fun h => ?_) (fun h => ?_)) | (refine zZ.is ?_; first | refine zZ.seq ?_ | (refine zZ.isR (id := 1) ?_; refine zZ.rc [1, 2, 3, 5, 6, 7, 8, 9, 27, 36] [1, 2, 9, 1000, 1001, 1002] (r := (.v zH (.v wB (.v zH (.v zN (.v zH (.v zN .e))))))) (h := ?_)) | (refine zZ.isR (id := 2) ?_; refine zZ.rc [1, 2, 3, 5, 6, 7, 8, 9, 27, 36] [1, 2, 9, 1000, 1001, 1002] (r := (.v zV (.v v52_8 (.v zV .e)))) (h := ?_)) | (refine zZ.isR (id := 3) ?_; refine zZ.rc [1, 2, 3, 5, 6, 7, 8, 9, 27, 36] [1, 2, 9, 1000, 1001, 1002] (r := (.v y9 (.v zV (.w zR (.v zK .e))))) (h := ?_)) | (refine zZ.isR (id := 4) ?_; refine zZ.rc [1, 2, 3, 5, 6, 7, 8, 9, 27, 36] [1, 2, 9, 1000, 1001, 1002] (r := (.v zH (.v wB (.v zH (.v zN (.v zV .e)))))) (h := ?_)) | (refine zZ.isR (id := 5) ?_; refine zZ.rk [1, 2, 3, 5, 6, 7, 8, 9, 27, 36] [1, 2, 9, 1000, 1001, 1002] ?_; refine zZ.draws ?_) | (refine zZ.isR (id := 6) ?_; refine zZ.rc [1, 2, 3, 5, 6, 7, 8, 9, 27, 36] [1, 2, 9, 1000, 1001, 1002] (r := (.v v2_19 (.v zV .e))) (h := ?_)) | refine zZ.yF rfl bA ?_ | refine zZ.cond rfl (fun h => ?_) (fun h => ?_) | refine zZ.skip ?_ | refine zZ.block ?_ | refine zZ.exit ?_ | refine zZ.ret ?_) | refine zB.n ?_ | refine zB.r ?_ | refine zB.p ?_ | refine zP.r ?_ | refine zP.eY ?_ | refine zB.e ?_ | refine zP.p ?_ | (refine Draws.is ?_; first | refine Draws.rc (.v zH (.v wB (.v zH (.v zN (.v zV .e))))) ?_ | (refine Draws.in_ [42] rfl ?_; refine Draws.v rfl rfl (zL (qZ (Rf.rc (FOK.x (by assumption)) ht) 2 (by decide)) rfl rfl rfl (by decide)) ?_) | refine Draws.done (by kernel_rfl) (by kernel_rfl) (by kernel_rfl) ?_) | (refine zD.is ?_; first | refine zD.nil ?_ | (refine zD.at_ 8 rfl ?_; refine zD.rc (.v zK .e) ?_) | (refine zD.in_ [44] rfl ?_; refine zD.v rfl rfl (zL (wstamp_fn _) rfl rfl rfl (by decide)) ?_) | (refine zD.in_ [43] rfl ?_; refine zD.ofT rfl (zF.hd (i := []) (f := vI H _ _) (r := fun x s e g hk => ?_) (p := fun q s e => ?_) (t := ?_)))))
      all_goals try simp only [Bool.not_eq_true', Bool.not_eq_false'] at *
      all_goals first
        | exact .ret (x := ⟨0, false, x.ok, false⟩) (.inl rfl) (.tup rfl (by decide) (.cons (.cellN rfl rfl (by rfl) (by rfl)) (.cons (.tmp rfl) .nil))) (by repeat' first | exact trivial | rfl | constructor) (by rw [← ho]; clear ho; simp only [qK, Sum.elim, run_bind, zC, zJ, Held.zW, cond_true, cond_false, *])
        | skip
      all_goals (first | exact fun e => hns (by rw [← ho]; clear ho; clear hns; simp only [qK, Sum.elim, run_bind, zC, zJ, Held.zW, Held.zA, Held.zQ, cond_true, cond_false, *]) | exact .pan (q := q) rfl (by repeat' first | exact trivial | rfl | constructor) (by repeat' exact trivial) (by rw [← ho]; clear ho; simp only [qK, Sum.elim, run_bind, zC, zJ, Held.zW, Held.zA, Held.zQ, cond_true, cond_false, *]) | skip)
      · have e1 : (qK t k ()).run H.st s1 = .done (.inl ()) s := by
          clear ho hns
          simp only [qK, run_bind, zC, zJ, Held.zW, cond_true, cond_false, *]
        refine ⟨(n, s), ?_, ⟨hk, by rw [← ho, run_bind, e1, Held.zW]; rfl⟩, Nat.lt_succ_self n⟩
        exact zT K_e K_h
      · rename_i f sf ef gf hkf d sd ed gd hkd W sw ew gw hkw hfo hfi
        simp only [qK, run_bind, zJ, ef, ed, ew, e, Held.zW, hfo, hfi, h, cond_true] at ho
        refine Hold.go ?_
        refine zZ.seq ?_
        refine zZ.rk [1, 2, 3, 7, 8, 9] [1, 2, 9, 1000, 1001, 1002] ?_
        refine zZ.drawGo (by kernel_rfl) ?_
        refine DGo.fr 1 ?_ (h := f_mv (.inl rfl) rfl)
        refine DGo.fr 2 ?_ (h := f_mv (.inl rfl) rfl)
        cases x
        case false =>
          replace ho : Held.done ⟨0, false, false, true⟩ s = (vremP t k).run H.st s0 := ho
          refine DGo.frN 3 ?_
          refine DGo.frN 4 ?_
          refine DGo.frN 5 ?_
          refine DGo.frN 6 ?_
          refine DGo.frN 7 ?_
          refine DGo.frN 8 ?_
          refine DGo.share (fu' := 2) (D' := [9, 0, 8, 7, 6, 5, 4, 3, 2, 1]) (F' := { t := [(1, .ptr 1 0), (2, .ptr 2 0), (3, .p (.val (.bool false))), (51, .p (outV 0 true 0 0)), (60, .p (.val (.bool false)))], s := [(1, qM H t me k), (2, wK 0 false 0 0), (9, wK 0 true 0 0), (1000, H.b0 s), (1001, H.b1 s), (1002, H.b2 s)] }) ?B09 (fun B09 => ?_)
          case B09 =>
            refine DGo.all [10] (by kernel_rfl) ?_
            refine zI.cons ?_ (zI.nil)
            · refine zM.at_ 10 ?_
              refine zM.w rfl rfl (by exact yT rfl rfl rfl rfl rfl (by rfl) (by exact Nat.le_of_ble_eq_true rfl) rfl rfl) ?_
              refine DGo.fr 11 ?_
              refine DGo.fin (by kernel_rfl) (zB.n ?_)
              refine zZ.ret ?_
              repeat' (first | refine zB.r ?_ | refine zP.r ?_)
              exact .ret (x := ⟨0, false, false, true⟩) (s' := s) (.inl rfl) (.tup rfl (by decide) (.cons (.cellN rfl rfl (by rfl) (by rfl)) (.cons (.tmp rfl) .nil))) (by repeat' first | exact trivial | rfl | constructor) ho.symm
          refine DGo.share (fu' := 2) (D' := [10, 0, 8, 7, 6, 5, 4, 3, 2, 1]) (F' := { t := [(1, .ptr 1 0), (2, .ptr 2 0), (3, .p (.val (.bool false))), (53, .p (.val (.bool false))), (59, wN)], s := [(1, qM H t me k), (2, wK 0 true 0 0), (9, wK 0 true 0 0), (1000, H.b0 s), (1001, H.b1 s), (1002, H.b2 s)] }) ?B0a (fun B0a => ?_)
          case B0a =>
            refine DGo.all [9] (by kernel_rfl) ?_
            refine zI.cons ?_ (zI.nil)
            · refine zM.at_ 9 ?_
              refine zM.v rfl rfl rfl (by exact w_pickN rfl rfl bA rfl rfl (by decide)) ?_
              refine DGo.fr 11 ?_
              refine DGo.fin (by kernel_rfl) (zB.n ?_)
              refine zZ.ret ?_
              repeat' (first | refine zB.r ?_ | refine zP.r ?_)
              exact .ret (x := ⟨0, false, false, true⟩) (s' := s) (.inl rfl) (.tup rfl (by decide) (.cons (.cellN rfl rfl (by rfl) (by rfl)) (.cons (.tmp rfl) .nil))) (by repeat' first | exact trivial | rfl | constructor) ho.symm
          refine DGo.share (fu' := 3) (D' := [0, 8, 7, 6, 5, 4, 3, 2, 1]) (F' := { t := [(1, .ptr 1 0), (2, .ptr 2 0), (3, .p (.val (.bool false))), (53, .p (.val (.bool false))), (59, wN), (51, .p (outV 0 true 0 0))], s := [(1, qM H t me k), (2, wK 0 false 0 0), (9, wK 0 true 0 0), (1000, H.b0 s), (1001, H.b1 s), (1002, H.b2 s)] }) ?B0 (fun B0 => ?_)
          case B0 =>
            refine DGo.all [9, 10] (by kernel_rfl) ?_
            refine zI.cons ?_ (zI.cons ?_ (zI.nil))
            · refine zM.at_ 9 ?_
              refine zM.v rfl rfl rfl (by exact w_pickN rfl rfl bA rfl rfl (by decide)) ?_
              exact DGo.keep [1, 2, 3, 51, 60] [1, 2, 9, 1000, 1001, 1002] B09
            · refine zM.at_ 10 ?_
              refine zM.w rfl rfl (by exact yT rfl rfl rfl rfl rfl (by rfl) (by exact Nat.le_of_ble_eq_true rfl) rfl rfl) ?_
              exact DGo.keep [1, 2, 3, 53, 59] [1, 2, 9, 1000, 1001, 1002] B0a
          refine DGo.share (fu' := 3) (D' := [9, 8, 7, 6, 5, 4, 3, 2, 1]) (F' := { t := [(1, .ptr 1 0), (2, .ptr 2 0), (3, .p (.val (.bool false))), (9, .ptr 9 0), (60, .p (.val (.bool false)))], s := [(1, qM H t me k), (2, wK 0 false 0 0), (9, wK 0 true 0 0), (1000, H.b0 s), (1001, H.b1 s), (1002, H.b2 s)] }) ?B9 (fun B9 => ?_)
          case B9 =>
            refine DGo.all [0] (by kernel_rfl) ?_
            refine zI.cons ?_ (zI.nil)
            · refine zM.at_ 0 ?_
              refine zM.v rfl rfl rfl (yM rfl rfl rfl (by rfl) (by rfl) rfl (by decide)) ?_
              exact DGo.keep [1, 2, 3, 51, 60] [1, 2, 9, 1000, 1001, 1002] B09
          refine DGo.all [0, 9] (by kernel_rfl) ?_
          refine zI.cons ?_ (zI.cons ?_ (zI.nil))
          · refine zM.at_ 0 ?_
            refine zM.v rfl rfl rfl (yM rfl rfl rfl (by rfl) (by rfl) rfl (by decide)) ?_
            exact DGo.keep [1, 2, 3, 53, 59, 51] [1, 2, 9, 1000, 1001, 1002] B0
          · refine zM.at_ 9 ?_
            refine zM.v rfl rfl rfl (by exact w_pickN rfl rfl bA rfl rfl (by decide)) ?_
            exact DGo.keep [1, 2, 3, 9, 60] [1, 2, 9, 1000, 1001, 1002] B9
        case true =>
          replace ho : (((sweepP t (W / 4)).bind fun s => Pr.ret (Sum.inr (⟨0, true, s, true⟩ : OutB))).bind (Sum.elim (Pr.loop (qK t k) n) .ret)).run H.st s = (vremP t k).run H.st s0 := by rw [← ho, run_bind, run_bind]; rfl
          refine DGo.frY 3 ?_ (f_fieldR rfl rfl)
          refine DGo.frY 5 ?_ (f_fieldR rfl rfl)
          refine DGo.frY 7 ?_ (f_mv (.inl rfl) rfl)
          refine DGo.shareA (α := Bool × H.σ) (c := fun y => (sweepP t (W / 4)).run H.st s = .done y.1 y.2 ∧ yes y.1 ∧ H.ok y.2) (fu' := 2) (D' := [9, 8, 6, 4, 0, 7, 5, 3, 2, 1]) (F' := fun y => { t := [(1, .ptr 1 0), (2, .ptr 2 0), (3, .p (.val (.bool false))), (51, .p (outV 0 true 0 0)), (60, .p (.val (.bool y.1)))], s := [(1, qM H t me k), (2, wK 0 false 0 0), (9, wK 0 true 0 0), (1000, H.b0 y.2), (1001, H.b1 y.2), (1002, H.b2 y.2)] }) ?B04689 (fun B04689 => ?_)
          case B04689 =>
            rintro ⟨x2, s2⟩ ⟨e, g, hk⟩
            dsimp only at e g hk ⊢
            refine DGo.all [10] (by kernel_rfl) ?_
            refine zI.cons ?_ (zI.nil)
            · refine zM.at_ 10 ?_
              refine zM.w rfl rfl (by exact yT rfl rfl rfl rfl rfl (by rfl) (by exact Nat.le_of_ble_eq_true rfl) rfl rfl) ?_
              refine DGo.fr 11 ?_
              refine DGo.fin (by kernel_rfl) (zB.n ?_)
              refine zZ.ret ?_
              repeat' (first | refine zB.r ?_ | refine zP.r ?_)
              exact .ret (x := ⟨0, true, x2, true⟩) (s' := s2) (.inl rfl) (.tup rfl (by decide) (.cons (.cellN rfl rfl (by rfl) (by rfl)) (.cons (.tmp rfl) .nil))) (by repeat' first | exact trivial | rfl | constructor) (ho.symm.trans (by rw [run_bind, run_bind, e]; rfl))
          refine DGo.shareA (α := Bool × H.σ) (c := fun y => (sweepP t (W / 4)).run H.st s = .done y.1 y.2 ∧ yes y.1 ∧ H.ok y.2) (fu' := 2) (D' := [10, 8, 6, 4, 0, 7, 5, 3, 2, 1]) (F' := fun y => { t := [(1, .ptr 1 0), (2, .ptr 2 0), (3, .p (.val (.bool false))), (53, .p (.val (.bool true))), (59, .p (.val (.bool y.1)))], s := [(1, qM H t me k), (2, wK 0 true 0 0), (9, wK 0 true 0 0), (1000, H.b0 y.2), (1001, H.b1 y.2), (1002, H.b2 y.2)] }) ?B0468a (fun B0468a => ?_)
          case B0468a =>
            rintro ⟨x2, s2⟩ ⟨e, g, hk⟩
            dsimp only at e g hk ⊢
            refine DGo.all [9] (by kernel_rfl) ?_
            refine zI.cons ?_ (zI.nil)
            · refine zM.at_ 9 ?_
              refine zM.v rfl rfl rfl (by exact w_pickY rfl rfl bA rfl rfl (by decide)) ?_
              refine DGo.fr 11 ?_
              refine DGo.fin (by kernel_rfl) (zB.n ?_)
              refine zZ.ret ?_
              repeat' (first | refine zB.r ?_ | refine zP.r ?_)
              exact .ret (x := ⟨0, true, x2, true⟩) (s' := s2) (.inl rfl) (.tup rfl (by decide) (.cons (.cellN rfl rfl (by rfl) (by rfl)) (.cons (.tmp rfl) .nil))) (by repeat' first | exact trivial | rfl | constructor) (ho.symm.trans (by rw [run_bind, run_bind, e]; rfl))
          refine DGo.shareA (α := Bool × H.σ) (c := fun y => (sweepP t (W / 4)).run H.st s = .done y.1 y.2 ∧ yes y.1 ∧ H.ok y.2) (fu' := 3) (D' := [8, 6, 4, 0, 7, 5, 3, 2, 1]) (F' := fun y => { t := [(1, .ptr 1 0), (2, .ptr 2 0), (3, .p (.val (.bool false))), (53, .p (.val (.bool true))), (51, .p (outV 0 true 0 0)), (59, .p (.val (.bool y.1)))], s := [(1, qM H t me k), (2, wK 0 false 0 0), (9, wK 0 true 0 0), (1000, H.b0 y.2), (1001, H.b1 y.2), (1002, H.b2 y.2)] }) ?B0468 (fun B0468 => ?_)
          case B0468 =>
            rintro ⟨x2, s2⟩ ⟨e, g, hk⟩
            dsimp only at e g hk ⊢
            refine DGo.all [9, 10] (by kernel_rfl) ?_
            refine zI.cons ?_ (zI.cons ?_ (zI.nil))
            · refine zM.at_ 9 ?_
              refine zM.v rfl rfl rfl (by exact w_pickY rfl rfl bA rfl rfl (by decide)) ?_
              exact DGo.keep [1, 2, 3, 51, 60] [1, 2, 9, 1000, 1001, 1002] (B04689 ⟨x2, s2⟩ ⟨e, g, hk⟩)
            · refine zM.at_ 10 ?_
              refine zM.w rfl rfl (by exact yT rfl rfl rfl rfl rfl (by rfl) (by exact Nat.le_of_ble_eq_true rfl) rfl rfl) ?_
              exact DGo.keep [1, 2, 3, 53, 59] [1, 2, 9, 1000, 1001, 1002] (B0468a ⟨x2, s2⟩ ⟨e, g, hk⟩)
          refine DGo.shareA (α := Bool × H.σ) (c := fun y => (sweepP t (W / 4)).run H.st s = .done y.1 y.2 ∧ yes y.1 ∧ H.ok y.2) (fu' := 3) (D' := [9, 8, 6, 4, 7, 5, 3, 2, 1]) (F' := fun y => { t := [(1, .ptr 1 0), (2, .ptr 2 0), (3, .p (.val (.bool false))), (9, .ptr 9 0), (60, .p (.val (.bool y.1)))], s := [(1, qM H t me k), (2, wK 0 false 0 0), (9, wK 0 true 0 0), (1000, H.b0 y.2), (1001, H.b1 y.2), (1002, H.b2 y.2)] }) ?B4689 (fun B4689 => ?_)
          case B4689 =>
            rintro ⟨x2, s2⟩ ⟨e, g, hk⟩
            dsimp only at e g hk ⊢
            refine DGo.all [0] (by kernel_rfl) ?_
            refine zI.cons ?_ (zI.nil)
            · refine zM.at_ 0 ?_
              refine zM.v rfl rfl rfl (yM rfl rfl rfl (by rfl) (by rfl) rfl (by decide)) ?_
              exact DGo.keep [1, 2, 3, 51, 60] [1, 2, 9, 1000, 1001, 1002] (B04689 ⟨x2, s2⟩ ⟨e, g, hk⟩)
          refine DGo.share (fu' := 4) (D' := [6, 4, 0, 7, 5, 3, 2, 1]) (F' := { t := [(1, .ptr 1 0), (2, .ptr 2 0), (3, .p (.val (.bool false))), (53, .p (.val (.bool true))), (54, .ptr 1 0), (56, .ptr 1 1), (58, .p (.val (.int .u64 (W / 4)))), (51, .p (outV 0 true 0 0)), (55, .clo H.fn [1000, 1001]), (57, .p (.val (.int .i64 t)))], s := [(1, qM H t me k), (2, wK 0 false 0 0), (9, wK 0 true 0 0), (1000, H.b0 s), (1001, H.b1 s), (1002, H.b2 s)] }) ?B046 (fun B046 => ?_)
          case B046 =>
            refine DGo.all [8] (by kernel_rfl) ?_
            refine zI.cons ?_ (zI.nil)
            · refine zM.at_ 8 ?_
              refine zM.ofTg rfl rfl rfl (by decide) rfl rfl (zF.hd (i := []) (f := sweep_h H _ ht) (r := fun x2 s2 e g hk => ?r8) (p := fun q s2 e => ?p8) (t := fun e => hns (ho.symm.trans (by rw [run_bind, run_bind, e]; rfl))))
              case p8 =>
                repeat' (first | refine zB.p ?_ | refine zP.p ?_)
                exact .pan (q := q) rfl (by repeat' first | exact trivial | rfl | constructor) (by repeat' exact trivial) (ho.symm.trans (by rw [run_bind, run_bind, e]; rfl))
              case r8 =>
                exact DGo.keep [1, 2, 3, 53, 51, 59] [1, 2, 9, 1000, 1001, 1002] (B0468 ⟨x2, s2⟩ ⟨e, g, hk⟩)
          refine DGo.shareA (α := Bool × H.σ) (c := fun y => (sweepP t (W / 4)).run H.st s = .done y.1 y.2 ∧ yes y.1 ∧ H.ok y.2) (fu' := 4) (D' := [8, 6, 4, 7, 5, 3, 2, 1]) (F' := fun y => { t := [(1, .ptr 1 0), (2, .ptr 2 0), (3, .p (.val (.bool false))), (9, .ptr 9 0), (53, .p (.val (.bool true))), (59, .p (.val (.bool y.1)))], s := [(1, qM H t me k), (2, wK 0 false 0 0), (9, wK 0 true 0 0), (1000, H.b0 y.2), (1001, H.b1 y.2), (1002, H.b2 y.2)] }) ?B468 (fun B468 => ?_)
          case B468 =>
            rintro ⟨x2, s2⟩ ⟨e, g, hk⟩
            dsimp only at e g hk ⊢
            refine DGo.all [0, 9] (by kernel_rfl) ?_
            refine zI.cons ?_ (zI.cons ?_ (zI.nil))
            · refine zM.at_ 0 ?_
              refine zM.v rfl rfl rfl (yM rfl rfl rfl (by rfl) (by rfl) rfl (by decide)) ?_
              exact DGo.keep [1, 2, 3, 53, 51, 59] [1, 2, 9, 1000, 1001, 1002] (B0468 ⟨x2, s2⟩ ⟨e, g, hk⟩)
            · refine zM.at_ 9 ?_
              refine zM.v rfl rfl rfl (by exact w_pickY rfl rfl bA rfl rfl (by decide)) ?_
              exact DGo.keep [1, 2, 3, 9, 60] [1, 2, 9, 1000, 1001, 1002] (B4689 ⟨x2, s2⟩ ⟨e, g, hk⟩)
          refine DGo.share (fu' := 5) (D' := [4, 0, 7, 5, 3, 2, 1]) (F' := { t := [(1, .ptr 1 0), (2, .ptr 2 0), (3, .p (.val (.bool false))), (53, .p (.val (.bool true))), (54, .ptr 1 0), (56, .ptr 1 1), (58, .p (.val (.int .u64 (W / 4)))), (51, .p (outV 0 true 0 0)), (55, .clo H.fn [1000, 1001])], s := [(1, qM H t me k), (2, wK 0 false 0 0), (9, wK 0 true 0 0), (1000, H.b0 s), (1001, H.b1 s), (1002, H.b2 s)] }) ?B04 (fun B04 => ?_)
          case B04 =>
            refine DGo.all [6] (by kernel_rfl) ?_
            refine zI.cons ?_ (zI.nil)
            · refine zM.at_ 6 ?_
              refine zM.gv rfl rfl rfl (by decide) rfl rfl rfl (yX rfl rfl rfl rfl rfl (by decide)) ?_
              exact DGo.keep [1, 2, 3, 53, 54, 56, 58, 51, 55, 57] [1, 2, 9, 1000, 1001, 1002] B046
          refine DGo.share (fu' := 5) (D' := [6, 0, 7, 5, 3, 2, 1]) (F' := { t := [(1, .ptr 1 0), (2, .ptr 2 0), (3, .p (.val (.bool false))), (53, .p (.val (.bool true))), (54, .ptr 1 0), (56, .ptr 1 1), (58, .p (.val (.int .u64 (W / 4)))), (51, .p (outV 0 true 0 0)), (57, .p (.val (.int .i64 t)))], s := [(1, qM H t me k), (2, wK 0 false 0 0), (9, wK 0 true 0 0), (1000, H.b0 s), (1001, H.b1 s), (1002, H.b2 s)] }) ?B06 (fun B06 => ?_)
          case B06 =>
            refine DGo.all [4] (by kernel_rfl) ?_
            refine zI.cons ?_ (zI.nil)
            · refine zM.at_ 4 ?_
              refine zM.gv rfl rfl rfl (by decide) rfl rfl rfl (yP rfl rfl rfl rfl rfl (by decide)) ?_
              exact DGo.keep [1, 2, 3, 53, 54, 56, 58, 51, 55, 57] [1, 2, 9, 1000, 1001, 1002] B046
          refine DGo.share (fu' := 5) (D' := [6, 4, 7, 5, 3, 2, 1]) (F' := { t := [(1, .ptr 1 0), (2, .ptr 2 0), (3, .p (.val (.bool false))), (9, .ptr 9 0), (53, .p (.val (.bool true))), (54, .ptr 1 0), (56, .ptr 1 1), (58, .p (.val (.int .u64 (W / 4)))), (55, .clo H.fn [1000, 1001]), (57, .p (.val (.int .i64 t)))], s := [(1, qM H t me k), (2, wK 0 false 0 0), (9, wK 0 true 0 0), (1000, H.b0 s), (1001, H.b1 s), (1002, H.b2 s)] }) ?B46 (fun B46 => ?_)
          case B46 =>
            refine DGo.all [0, 8] (by kernel_rfl) ?_
            refine zI.cons ?_ (zI.cons ?_ (zI.nil))
            · refine zM.at_ 0 ?_
              refine zM.v rfl rfl rfl (yM rfl rfl rfl (by rfl) (by rfl) rfl (by decide)) ?_
              exact DGo.keep [1, 2, 3, 53, 54, 56, 58, 51, 55, 57] [1, 2, 9, 1000, 1001, 1002] B046
            · refine zM.at_ 8 ?_
              refine zM.ofTg rfl rfl rfl (by decide) rfl rfl (zF.hd (i := []) (f := sweep_h H _ ht) (r := fun x2 s2 e g hk => ?r8) (p := fun q s2 e => ?p8) (t := fun e => hns (ho.symm.trans (by rw [run_bind, run_bind, e]; rfl))))
              case p8 =>
                repeat' (first | refine zB.p ?_ | refine zP.p ?_)
                exact .pan (q := q) rfl (by repeat' first | exact trivial | rfl | constructor) (by repeat' exact trivial) (ho.symm.trans (by rw [run_bind, run_bind, e]; rfl))
              case r8 =>
                exact DGo.keep [1, 2, 3, 9, 53, 59] [1, 2, 9, 1000, 1001, 1002] (B468 ⟨x2, s2⟩ ⟨e, g, hk⟩)
          refine DGo.share (fu' := 6) (D' := [0, 7, 5, 3, 2, 1]) (F' := { t := [(1, .ptr 1 0), (2, .ptr 2 0), (3, .p (.val (.bool false))), (53, .p (.val (.bool true))), (54, .ptr 1 0), (56, .ptr 1 1), (58, .p (.val (.int .u64 (W / 4)))), (51, .p (outV 0 true 0 0))], s := [(1, qM H t me k), (2, wK 0 false 0 0), (9, wK 0 true 0 0), (1000, H.b0 s), (1001, H.b1 s), (1002, H.b2 s)] }) ?B0 (fun B0 => ?_)
          case B0 =>
            refine DGo.all [4, 6] (by kernel_rfl) ?_
            refine zI.cons ?_ (zI.cons ?_ (zI.nil))
            · refine zM.at_ 4 ?_
              refine zM.gv rfl rfl rfl (by decide) rfl rfl rfl (yP rfl rfl rfl rfl rfl (by decide)) ?_
              exact DGo.keep [1, 2, 3, 53, 54, 56, 58, 51, 55] [1, 2, 9, 1000, 1001, 1002] B04
            · refine zM.at_ 6 ?_
              refine zM.gv rfl rfl rfl (by decide) rfl rfl rfl (yX rfl rfl rfl rfl rfl (by decide)) ?_
              exact DGo.keep [1, 2, 3, 53, 54, 56, 58, 51, 57] [1, 2, 9, 1000, 1001, 1002] B06
          refine DGo.share (fu' := 6) (D' := [4, 7, 5, 3, 2, 1]) (F' := { t := [(1, .ptr 1 0), (2, .ptr 2 0), (3, .p (.val (.bool false))), (9, .ptr 9 0), (53, .p (.val (.bool true))), (54, .ptr 1 0), (56, .ptr 1 1), (58, .p (.val (.int .u64 (W / 4)))), (55, .clo H.fn [1000, 1001])], s := [(1, qM H t me k), (2, wK 0 false 0 0), (9, wK 0 true 0 0), (1000, H.b0 s), (1001, H.b1 s), (1002, H.b2 s)] }) ?B4 (fun B4 => ?_)
          case B4 =>
            refine DGo.all [0, 6] (by kernel_rfl) ?_
            refine zI.cons ?_ (zI.cons ?_ (zI.nil))
            · refine zM.at_ 0 ?_
              refine zM.v rfl rfl rfl (yM rfl rfl rfl (by rfl) (by rfl) rfl (by decide)) ?_
              exact DGo.keep [1, 2, 3, 53, 54, 56, 58, 51, 55] [1, 2, 9, 1000, 1001, 1002] B04
            · refine zM.at_ 6 ?_
              refine zM.gv rfl rfl rfl (by decide) rfl rfl rfl (yX rfl rfl rfl rfl rfl (by decide)) ?_
              exact DGo.keep [1, 2, 3, 9, 53, 54, 56, 58, 55, 57] [1, 2, 9, 1000, 1001, 1002] B46
          refine DGo.share (fu' := 6) (D' := [6, 7, 5, 3, 2, 1]) (F' := { t := [(1, .ptr 1 0), (2, .ptr 2 0), (3, .p (.val (.bool false))), (9, .ptr 9 0), (53, .p (.val (.bool true))), (54, .ptr 1 0), (56, .ptr 1 1), (58, .p (.val (.int .u64 (W / 4)))), (57, .p (.val (.int .i64 t)))], s := [(1, qM H t me k), (2, wK 0 false 0 0), (9, wK 0 true 0 0), (1000, H.b0 s), (1001, H.b1 s), (1002, H.b2 s)] }) ?B6 (fun B6 => ?_)
          case B6 =>
            refine DGo.all [0, 4] (by kernel_rfl) ?_
            refine zI.cons ?_ (zI.cons ?_ (zI.nil))
            · refine zM.at_ 0 ?_
              refine zM.v rfl rfl rfl (yM rfl rfl rfl (by rfl) (by rfl) rfl (by decide)) ?_
              exact DGo.keep [1, 2, 3, 53, 54, 56, 58, 51, 57] [1, 2, 9, 1000, 1001, 1002] B06
            · refine zM.at_ 4 ?_
              refine zM.gv rfl rfl rfl (by decide) rfl rfl rfl (yP rfl rfl rfl rfl rfl (by decide)) ?_
              exact DGo.keep [1, 2, 3, 9, 53, 54, 56, 58, 55, 57] [1, 2, 9, 1000, 1001, 1002] B46
          refine DGo.all [0, 4, 6] (by kernel_rfl) ?_
          refine zI.cons ?_ (zI.cons ?_ (zI.cons ?_ (zI.nil)))
          · refine zM.at_ 0 ?_
            refine zM.v rfl rfl rfl (yM rfl rfl rfl (by rfl) (by rfl) rfl (by decide)) ?_
            exact DGo.keep [1, 2, 3, 53, 54, 56, 58, 51] [1, 2, 9, 1000, 1001, 1002] B0
          · refine zM.at_ 4 ?_
            refine zM.gv rfl rfl rfl (by decide) rfl rfl rfl (yP rfl rfl rfl rfl rfl (by decide)) ?_
            exact DGo.keep [1, 2, 3, 9, 53, 54, 56, 58, 55] [1, 2, 9, 1000, 1001, 1002] B4
          · refine zM.at_ 6 ?_
            refine zM.gv rfl rfl rfl (by decide) rfl rfl rfl (yX rfl rfl rfl rfl rfl (by decide)) ?_
            exact DGo.keep [1, 2, 3, 9, 53, 54, 56, 58, 57] [1, 2, 9, 1000, 1001, 1002] B6
end Go.Proofs.YtmfbamiciieooaaGreatDoor
/- Own maps: from numbers to plain values. Generic over the program. -/
namespace Go.Proofs.YtmfbamiciieooaaGreatDoor
set_option maxRecDepth 100000
set_option maxHeartbeats 16000000
open Go Go.RowKit
set_option linter.unusedSimpArgs false
set_option linter.unusedVariables false
/-- plain values: one cell, or some -/
def PV.one : PV → Bool
  | .val v => v.oneCell'
  | _ => false
def PV.plain : PV → Bool
  | .val v => v.oneCell'
  | .agg cs => cs.all PV.one
  | _ => false
def PV.v1 : PV → Value
  | .val v => v
  | _ => undef
def PV.vv : PV → Value
  | .val v => v
  | .agg cs => .agg (cs.map PV.v1).toArray
  | _ => undef
def PV.ofV : Value → PV
  | .agg cs => .agg (cs.toList.map PV.val)
  | v => .val v
theorem rep_one {M : Nat → Nat → Prop} {w : World} {x : PV} (h : x.one = true) : Rep M w x x.v1 ∧ x.v1.oneCell' = true := by
  cases x with
  | val v => exact ⟨.val v, h⟩
  | _ => cases h
theorem rep_plain {M : Nat → Nat → Prop} {w : World} {x : PV} (h : x.plain = true) : Rep M w x x.vv := by
  cases x with
  | val v => exact .val v
  | agg cs =>
    have h1 := List.all_eq_true.1 (show cs.all PV.one = true from h)
    refine .agg cs _ (by simp) (fun i c v hc hv => ?_) fun v hv => ?_
    · rw [List.getElem?_map, hc] at hv
      cases hv
      exact (rep_one (h1 c (List.mem_of_getElem? hc))).1
    · obtain ⟨c, hc, rfl⟩ := List.mem_map.1 hv
      exact (rep_one (M := M) (w := w) (h1 c hc)).2
  | _ => cases h
theorem rep_is {M : Nat → Nat → Prop} {w : World} {x : PV} {v : Value} (h : x.plain = true) (hr : Rep M w x v) : v = x.vv := by
  cases x with
  | val u => exact rep_val hr
  | agg cs =>
    obtain ⟨vs, rfl, hl, he⟩ := rep_agg hr
    have h1 := List.all_eq_true.1 (show cs.all PV.one = true from h)
    show _ = Value.agg (cs.map PV.v1).toArray
    congr 2
    apply List.ext_getElem?
    intro i
    rw [List.getElem?_map]
    cases hc : cs[i]? with
    | none =>
      rw [List.getElem?_eq_none_iff] at hc
      rw [List.getElem?_eq_none (by omega)]
      rfl
    | some c =>
      have hi : i < vs.length := by have := (List.getElem?_eq_some_iff.1 hc).1; omega
      rw [List.getElem?_eq_getElem hi]
      have h2 := he i c vs[i] hc (List.getElem?_eq_getElem hi)
      have h3 := h1 c (List.mem_of_getElem? hc)
      cases c with
      | val u => rw [rep_val h2]; rfl
      | _ => cases h3
  | _ => cases h
/-- a map's content: keys, in the order of their births, with values -/
abbrev ML := List (Int × PV)
def mget : ML → Int → Option PV
  | [], _ => none
  | (k, x) :: r, j => if k = j then some x else mget r j
structure MapQ (L : ML) (es : Array MapEntry) (clock : Nat) : Prop where
  is : es.toList.map (fun e => (e.key, e.val)) = L.map fun p => (Value.int .u64 p.1, p.2.vv)
  old : ∀ e ∈ es.toList, e.born < clock
  nodup : (es.toList.map (·.born)).Nodup
  keys : (L.map (·.1)).Nodup
  plain : ∀ p ∈ L, p.2.plain = true
def IsMap (L : ML) (_ : Nat) (o : Obj) : Prop := ∃ es clock, o = .map es clock ∧ MapQ L es clock
def mapB (L : ML) : Blk := .obj true (IsMap L)
theorem MapQ.nil : MapQ [] #[] 0 := ⟨rfl, fun e he => by simp at he, by simp, by simp, fun p hp => by cases hp⟩
theorem mget_mem : ∀ {L : ML} {j : Int} {x : PV}, mget L j = some x → (j, x) ∈ L
  | (k, y) :: r, j, x, h => by
    by_cases hk : k = j
    · subst hk; simp [mget] at h; simp [h]
    · simp only [mget, hk, if_false] at h
      exact List.mem_cons_of_mem _ (mget_mem h)
section
variable {P : Program} {w : World} {t e key : Nat}
end
section
variable {P : Program} {w : World} {t e key : Nat}
end
section
variable {P : Program} {n : Nat} {o : Oper} {S : AS} {d : Nat} {t : TypeId} {x y : Operand}
theorem w_makeMap (ho : o.op = .makeMap t none) (hd : o.dst = some d) (hn : d < n) : zX P n o S [] (.own d) (some (mapB [])) :=
  zX.made hd hn fun S2 hg _ M w0 ρ a w hs => by
    refine ⟨.map (some w.heap.size), w.alloc (.map #[] 0), ?_, World.grownBy_alloc w _ none, fun k hk => ?_, ?_, .inl rfl⟩
    · unfold execOp
      rw [ho]
      simp [Instr.makeMap, newObj, Sem.run]
    · simp only [zU, Option.some.injEq] at hk; omega
    · exact ⟨w.heap.size, .map #[] 0, rfl, Nat.zero_le _, by rw [heap_alloc_new], _, _, rfl, MapQ.nil⟩
/-- a map of the frame's own, where it lies -/
theorem Sat.mapAt {M : Nat → Nat → Prop} {w0 : Home} {w : World} {ρ : Nat → Value} {a : Act} (hs : Sat M n w0 S ρ a w) {x : Operand} {id : Nat} {Q : Nat → Obj → Prop} {L : ML} (hx : S.get x = .own id) (hb : S.blk id = some (.obj true Q)) (hQ : ∀ g o, Q g o → IsMap L g o) :
    ∃ m es clock, a.eval x = .map (some m) ∧ ρ id = .map (some m) ∧ w.heap[m]? = some (.map es clock) ∧ MapQ L es clock ∧ Q m (.map es clock) := by
  have h1 := hs.rep x
  rw [hx] at h1
  have h2 := vD h1
  obtain ⟨g, o, h3, _, h4, h5⟩ := hs.blks id _ hb
  obtain ⟨es, clock, rfl, h6⟩ := hQ g o h5
  exact ⟨g, es, clock, by rw [h2, h3]; rfl, by rw [h3]; rfl, h4, h6, h5⟩
end
def mapAt (m : Nat) (es : Array MapEntry) (clock : Nat) : Blk := .obj true fun g o => g = m ∧ o = .map es clock
section
variable {P : Program} {n : Nat} {o : Oper} {S : AS} {d : Nat} {t : TypeId} {x y : Operand}
end
end Go.Proofs.YtmfbamiciieooaaGreatDoor
/- Own maps from whole numbers. Generic over the program. -/
namespace Go.Proofs.YtmfbamiciieooaaGreatDoor
set_option maxRecDepth 100000
set_option maxHeartbeats 16000000
open Go Go.RowKit
set_option linter.unusedSimpArgs false
set_option linter.unusedVariables false
structure MapQI (L : ML) (es : Array MapEntry) (clock : Nat) : Prop where
  is : es.toList.map (fun e => (e.key, e.val)) = L.map fun p => (Value.int .i64 p.1, p.2.vv)
  plain : ∀ p ∈ L, p.2.plain = true
def IsMapI (L : ML) (_ : Nat) (o : Obj) : Prop := ∃ es clock, o = .map es clock ∧ MapQI L es clock
def mapBI (L : ML) : Blk := .obj true (IsMapI L)
theorem entries_consI {L : ML} {l : List MapEntry} (h : l.map (fun e => (e.key, e.val)) = L.map fun p => (Value.int .i64 p.1, p.2.vv)) : (l = [] ∧ L = []) ∨ ∃ e l' k x L', l = e :: l' ∧ L = (k, x) :: L' ∧ e.key = .int .i64 k ∧ e.val = x.vv ∧ l'.map (fun e => (e.key, e.val)) = L'.map fun p => (Value.int .i64 p.1, p.2.vv) := by
  cases l with
  | nil => cases L with
    | nil => exact .inl ⟨rfl, rfl⟩
    | cons => simp at h
  | cons e l' => cases L with
    | nil => simp at h
    | cons p L' =>
      simp only [List.map_cons, List.cons.injEq, Prod.mk.injEq] at h
      exact .inr ⟨e, l', p.1, p.2, L', rfl, rfl, h.1.1, h.1.2, h.2⟩
theorem findNow_mapI (j : Int) : ∀ (l : List MapEntry) (L : ML) (i : Nat), l.map (fun e => (e.key, e.val)) = L.map (fun p => (Value.int .i64 p.1, p.2.vv)) →
    (mget L j = none ∧ Instr.findNow (.int .i64) (.int .i64 j) l i = some none) ∨ ∃ q x, mget L j = some x ∧ Instr.findNow (.int .i64) (.int .i64 j) l i = some (some (i + q, x.vv)) := by
  intro l
  induction l with
  | nil =>
    intro L i h
    rcases entries_consI h with ⟨_, rfl⟩ | ⟨_, _, _, _, _, h, _⟩
    · exact .inl ⟨rfl, rfl⟩
    · cases h
  | cons e l ih =>
    intro L i h
    rcases entries_consI h with ⟨h, _⟩ | ⟨e', l', k, x, L', h1, rfl, h3, h4, h5⟩
    · cases h
    · injection h1 with h1 h2
      subst h1 h2
      by_cases hk : k = j
      · subst hk
        refine .inr ⟨0, x, by simp [mget], ?_⟩
        simp [Instr.findNow, h3, Instr.sameNow, h4]
      · have hk' : (j == k) = false := by simpa using fun h => hk h.symm
        rcases ih L' (i + 1) h5 with ⟨h6, h7⟩ | ⟨q, y, h8, h9⟩
        · refine .inl ⟨by simp [mget, hk, h6], ?_⟩
          simp [Instr.findNow, h3, Instr.sameNow, hk', h7]
        · refine .inr ⟨q + 1, y, by simp [mget, hk, h8], ?_⟩
          have e1 : i + 1 + q = i + (q + 1) := by omega
          simp [Instr.findNow, h3, Instr.sameNow, hk', h9, e1]
section
variable {P : Program} {w : World} {t e key : Nat}
theorem checkKey_intI {key : Nat} (b : Bool) (j : Int) (hk : P.underlying key = some (.int .i64)) : (Instr.checkKey b 10000 key (.int .i64 j)).run P w = .ok () w := by
  unfold Instr.checkKey
  simp [run_underlying hk]
theorem findKey_runI {j : Int} {L : ML} {es : Array MapEntry} {clock : Nat} (hk : P.underlying key = some (.int .i64)) (hQ : MapQI L es clock) :
    (mget L j = none ∧ (Instr.findKey key (.int .i64 j) es.toList).run P w = .ok none w) ∨ ∃ q x, mget L j = some x ∧ (Instr.findKey key (.int .i64 j) es.toList).run P w = .ok (some (q, x.vv)) w := by
  rcases findNow_mapI j es.toList L 0 hQ.is with ⟨h1, h2⟩ | ⟨q, x, h3, h4⟩
  · refine .inl ⟨h1, ?_⟩
    simp [Instr.findKey, run_underlying hk, h2]
  · refine .inr ⟨q, x, h3, ?_⟩
    simp [Instr.findKey, run_underlying hk, h4]
theorem lookup_runI {m : Nat} {j : Int} {L : ML} {es : Array MapEntry} {clock : Nat} {z : Value} (ht : P.underlying t = some (.map key e)) (hk : P.underlying key = some (.int .i64)) (hz : (zeroValue e).run P w = .ok z w) (hb : w.heap[m]? = some (.map es clock)) (hQ : MapQI L es clock) :
    (Instr.lookup t (.map (some m)) (.int .i64 j) true).run P w = .ok (match mget L j with | some x => .tuple #[x.vv, .bool true] | none => .tuple #[z, .bool false]) w := by
  rcases findKey_runI (P := P) (w := w) (j := j) hk hQ with ⟨h1, h2⟩ | ⟨q, x, h1, h2⟩
  · rw [h1]
    simp [Instr.lookup, run_underlying ht, MapKept.run_getObj_map hb, checkKey_intI _ _ hk, h2, hz]
  · rw [h1]
    simp [Instr.lookup, run_underlying ht, MapKept.run_getObj_map hb, checkKey_intI _ _ hk, h2]
theorem insert_runI {m : Nat} {j : Int} {L : ML} {es : Array MapEntry} {clock : Nat} {y : PV} (ht : P.underlying t = some (.map key e)) (hk : P.underlying key = some (.int .i64)) (hb : w.heap[m]? = some (.map es clock)) (hQ : MapQI L es clock) (hy : y.plain = true) (hn : mget L j = none) :
    ∃ es' clock', (Instr.mapUpdate t (.map (some m)) (.int .i64 j) y.vv).run P w = .ok () (w.putObj m (.map es' clock')) ∧ MapQI (L ++ [(j, y)]) es' clock' := by
  have hset : ∀ o, (setObj m o).run P w = .ok () (w.putObj m o) := fun o => by
    simp [setObj, Sem.run, hb, World.putObj]
  rcases findKey_runI (P := P) (w := w) (j := j) hk hQ with ⟨h1, h2⟩ | ⟨q, x, h1, _⟩
  · refine ⟨es.push { key := .int .i64 j, val := y.vv, born := clock }, clock + 1, ?_, ⟨by simp [hQ.is], fun p hp => ?_⟩⟩
    · simp [Instr.mapUpdate, run_underlying ht, MapKept.run_getObj_map hb, checkKey_intI _ _ hk, h2, hset]
    · rcases List.mem_append.1 hp with hp | hp
      · exact hQ.plain p hp
      · simp at hp; subst hp; exact hy
  · rw [hn] at h1; cases h1
end
section
variable {P : Program} {n : Nat} {o : Oper} {S : AS} {d : Nat} {t : TypeId} {x y : Operand}
theorem Sat.mapAtI {M : Nat → Nat → Prop} {w0 : Home} {w : World} {ρ : Nat → Value} {a : Act} (hs : Sat M n w0 S ρ a w) {x : Operand} {id : Nat} {L : ML} (hx : S.get x = .own id) (hb : S.blk id = some (mapBI L)) :
    ∃ m es clock, a.eval x = .map (some m) ∧ ρ id = .map (some m) ∧ w.heap[m]? = some (.map es clock) ∧ MapQI L es clock := by
  have h1 := hs.rep x
  rw [hx] at h1
  have h2 := vD h1
  obtain ⟨g, o, h3, _, h4, es, clock, rfl, h6⟩ := hs.blks id _ hb
  exact ⟨g, es, clock, by rw [h2, h3]; rfl, by rw [h3]; rfl, h4, h6⟩
theorem w_lookupI {k : Operand} {id key e : Nat} {j : Int} {L : ML} {zv : Value} {r : Option PV} [ht : Und P t (.map key e)] [hk : Und P key (.int .i64)] [hz : ZeroA P e zv] (hm : mget L j = r) (ho : o.op = .lookup t x k true) (hx : S.get x = .own id) (hb : S.blk id = some (mapBI L)) (hj : S.get k = .p (.val (.int .i64 j)))
    (hzp : (PV.ofV zv).plain = true) (hzv : (PV.ofV zv).vv = zv) (hd : o.dst = some d) (hn : d < n) : zX P n o S [id] (.tup [.p (r.getD (PV.ofV zv)), .p (.val (.bool r.isSome))]) none :=
  zX.pure hd hn fun S2 hg hbl M w0 ρ a w hs => by
    have hb2 : S2.blk id = some (mapBI L) := (hbl id (by simp)).trans hb
    obtain ⟨m, es, clock, h1, _, h3, h4⟩ := hs.mapAtI (x := x) ((hg x (by rw [ho]; simp [Op.operands])).trans hx) hb2
    have h5 := hs.val ((hg k (by rw [ho]; simp [Op.operands])).trans hj)
    have h6 := lookup_runI (P := P) (w := w) (j := j) (z := zv) ht.h hk.h (hz.h w) h3 h4
    subst hm
    have hz0 : Rep (Mut M S2 ρ) w (PV.ofV zv) zv := by have := rep_plain (M := Mut M S2 ρ) (w := w) hzp; rwa [hzv] at this
    have hr : ∀ u, (Instr.lookup t (.map (some m)) (.int .i64 j) true).run P w = .ok u w → (execOp a.eval o).run P w = .ok (.value u) w := fun u h => by
      unfold execOp
      rw [ho]
      simp only [h1, h5]
      simp [h]
    cases hmm : mget L j with
    | none =>
      rw [hmm] at h6
      refine ⟨_, w, hr _ h6, Below.refl _ _, .tup _ [zv, .bool false] rfl fun i c u hc hu => ?_⟩
      match i with
      | 0 => cases hc; cases hu; exact .p hz0
      | 1 => cases hc; cases hu; exact .p (.val _)
      | i + 2 => cases hc
    | some v =>
      rw [hmm] at h6
      refine ⟨_, w, hr _ h6, Below.refl _ _, .tup _ [v.vv, .bool true] rfl fun i c u hc hu => ?_⟩
      match i with
      | 0 => cases hc; cases hu; exact .p (rep_plain (h4.plain _ (mget_mem hmm)))
      | 1 => cases hc; cases hu; exact .p (.val _)
      | i + 2 => cases hc
theorem w_lookupT {k : Operand} {id key e : Nat} {j : Int} {L : ML} {zv : Value} {v : PV} [ht : Und P t (.map key e)] [hk : Und P key (.int .i64)] [hz : ZeroA P e zv] (hm : mget L j = some v) (ho : o.op = .lookup t x k true) (hx : S.get x = .own id) (hb : S.blk id = some (mapBI L)) (hj : S.get k = .p (.val (.int .i64 j)))
    (hzp : (PV.ofV zv).plain = true) (hzv : (PV.ofV zv).vv = zv) (hd : o.dst = some d) (hn : d < n) : zX P n o S [id] (.tup [.p v, .p (.val (.bool true))]) none := w_lookupI hm ho hx hb hj hzp hzv hd hn
theorem w_lookupF {k : Operand} {id key e : Nat} {j : Int} {L : ML} {zv : Value} [ht : Und P t (.map key e)] [hk : Und P key (.int .i64)] [hz : ZeroA P e zv] (hm : mget L j = none) (ho : o.op = .lookup t x k true) (hx : S.get x = .own id) (hb : S.blk id = some (mapBI L)) (hj : S.get k = .p (.val (.int .i64 j)))
    (hzp : (PV.ofV zv).plain = true) (hzv : (PV.ofV zv).vv = zv) (hd : o.dst = some d) (hn : d < n) : zX P n o S [id] (.tup [.p (PV.ofV zv), .p (.val (.bool false))]) none := w_lookupI hm ho hx hb hj hzp hzv hd hn
theorem s_insertI {k : Operand} {id key e : Nat} {j : Int} {L : ML} {v : PV} [ht : Und P t (.map key e)] [hk : Und P key (.int .i64)] (ho : o.op = .insert t x k y) (hx : S.get x = .own id) (hb : S.blk id = some (mapBI L)) (hj : S.get k = .p (.val (.int .i64 j))) (hy : S.get y = .p v) (hv : v.plain = true) (hm : mget L j = none) (hd : o.dst = none) :
    Step P n o S { S with s := putL S.s id (mapBI (L ++ [(j, v)])) } := by
  intro M w0 ρ a w K Q hs hK
  obtain ⟨m, es, clock, h1, h2, h3, h4⟩ := hs.mapAtI (x := x) hx hb
  have h5 := hs.val hj
  have h6 := hs.rep y
  rw [hy] at h6
  have h7 : a.eval y = v.vv := by
    generalize a.eval y = u at h6
    cases h6 with
    | p h => exact rep_is hv h
  obtain ⟨es', clock', h8, h9⟩ := insert_runI (P := P) (w := w) (j := j) (y := v) ht.h hk.h h3 h4 hv hm
  unfold Oper.wp
  have he : (execOp a.eval o).run P w = .ok .skip (w.putObj m (.map es' clock')) := by
    unfold execOp
    rw [ho]
    simp only [h1, h5, h7]
    simp [h8]
  rw [he]
  show K (a.put o.dst undef) _
  rw [hd]
  have hg : w.grownBy (w.putObj m (.map es' clock')) (some m) := by
    refine ⟨rfl, rfl, rfl, by simp [World.putObj], fun q hq hne => ?_⟩
    exact World.putObj_heap_other fun e => hne (by rw [e])
  exact hK ρ a _ (hs.turn hb (by rw [h2]; rfl) hg (fun _ => trivial) ⟨m, .map es' clock', by rw [h2]; rfl, Nat.zero_le _, World.putObj_heap_same (Array.getElem?_eq_some_iff.1 h3).1, _, _, rfl, h9⟩)
theorem s_insert0 {k : Operand} {id key e : Nat} {j : Int} {v : PV} [ht : Und P t (.map key e)] [hk : Und P key (.int .i64)] (ho : o.op = .insert t x k y) (hx : S.get x = .own id) (hb : S.blk id = some (mapB [])) (hj : S.get k = .p (.val (.int .i64 j))) (hy : S.get y = .p v) (hv : v.plain = true) (hd : o.dst = none) :
    Step P n o S { S with s := putL S.s id (mapBI [(j, v)]) } := by
  intro M w0 ρ a w K Q hs hK
  obtain ⟨m, es, clock, h1, h2, h3, h4, _⟩ := hs.mapAt (x := x) hx hb fun _ _ h => h
  have h5 := hs.val hj
  have h6 := hs.rep y
  rw [hy] at h6
  have h7 : a.eval y = v.vv := by
    generalize a.eval y = u at h6
    cases h6 with
    | p h => exact rep_is hv h
  obtain ⟨es', clock', h8, h9⟩ := insert_runI (P := P) (w := w) (j := j) (y := v) (L := []) ht.h hk.h h3 ⟨h4.is, fun p hp => by cases hp⟩ hv rfl
  unfold Oper.wp
  have he : (execOp a.eval o).run P w = .ok .skip (w.putObj m (.map es' clock')) := by
    unfold execOp
    rw [ho]
    simp only [h1, h5, h7]
    simp [h8]
  rw [he]
  show K (a.put o.dst undef) _
  rw [hd]
  have hg : w.grownBy (w.putObj m (.map es' clock')) (some m) := by
    refine ⟨rfl, rfl, rfl, by simp [World.putObj], fun q hq hne => ?_⟩
    exact World.putObj_heap_other fun e => hne (by rw [e])
  exact hK ρ a _ (hs.turn hb (by rw [h2]; rfl) hg (fun _ => trivial) ⟨m, .map es' clock', by rw [h2]; rfl, Nat.zero_le _, World.putObj_heap_same (Array.getElem?_eq_some_iff.1 h3).1, _, _, rfl, h9⟩)
end
end Go.Proofs.YtmfbamiciieooaaGreatDoor
/- Instances that hang on functions' types. Written by inst.py. -/
namespace Go.Proofs.YtmfbamiciieooaaGreatDoor
set_option maxRecDepth 100000
set_option maxHeartbeats 16000000
open Go Go.RowKit
set_option maxRecDepth 100000
instance ty88 : TyA Tryz.prog 88 false 1 := ⟨fun _ => by kernel_rfl, fun _ => by kernel_rfl⟩
instance ze88 : ZeroA Tryz.prog 88 (Value.nilFunc) := ⟨fun _ => by kernel_rfl⟩
instance ty145 : TyA Tryz.prog 145 false 1 := ⟨fun _ => by kernel_rfl, fun _ => by kernel_rfl⟩
instance bu147 : BuildA Tryz.prog 147 [(0, 1), (1, 1)] := ⟨by kernel_rfl, by kernel_rfl⟩
end Go.Proofs.YtmfbamiciieooaaGreatDoor
/- What a list's operation asks next, of a log: the program's: contracts. -/
namespace Go.Proofs.YtmfbamiciieooaaGreatDoor
set_option maxRecDepth 100000
set_option maxHeartbeats 16000000
open Go Go.RowKit
set_option linter.unusedSimpArgs false
set_option linter.unusedVariables false
attribute [local irreducible] zY zZ Step zX Sub zD zF Fn
def outRN (o : OutN) : AV := .p (outV o.e o.is o.n o.w)
end Go.Proofs.YtmfbamiciieooaaGreatDoor
/- Operations that are entered and left; a vertex's operation: the program's, whatever makes its accesses: contracts. -/
namespace Go.Proofs.YtmfbamiciieooaaGreatDoor
set_option maxRecDepth 100000
set_option maxHeartbeats 16000000
open Go Go.RowKit
set_option linter.unusedSimpArgs false
set_option linter.unusedVariables false
attribute [local irreducible] zY zZ Step zX Sub zD zF Fn zB zP
def fnB (f : FuncId) : Blk := .box 88 [.p (.val (.func (.func f) #[] #[]))]
def bkV (H : Hnd) (f : FuncId) (t me k : Int) : List Blk := [fnB f, doB H, yG t, yG me, wordB k]
/-- which operation -/
def vopOf (f : FuncId) (t me k : Int) : Pr OutB := if f = 27 then vaddP t me k else if f = 28 then vremP t k else vhasP t k
def IsOp (f : FuncId) : Prop := f = 27 ∨ f = 28 ∨ f = 29
theorem fine_vopOf {f : FuncId} (t me : Int) {k : Int} (hU : U k) : (vopOf f t me k).yZ AltOK := by
  unfold vopOf
  split
  · exact fine_vadd t me hU
  · split
    · exact fine_vrem t k
    · exact fine_vhas t k
theorem vopOf_h (H : Hnd) (s0 : H.σ) {f : FuncId} (hf : IsOp f) {t me k : Int} (ht : Small t) (h0 : 0 ≤ t) (hm : Small me) (hU : U k) : FnH H f [.ag (workC H t me k)] [] outBV (fun _ => []) AltOK s0 (vopOf f t me k) := by
  rcases hf with rfl | rfl | rfl
  · exact vadd_h H s0 ht h0 hm hU
  · exact vrem_h H s0 ht
  · exact vhas_h H s0 ht
theorem isOp_has {f : FuncId} (h : IsOp f) : HasFn Tryz.prog f := by
  rcases h with rfl | rfl | rfl <;> infer_instance
theorem next11V_h (H : Hnd) (s0 : H.σ) {f : FuncId} (hf : IsOp f) {t me k : Int} (ht : Small t) (h0 : 0 ≤ t) (hm : Small me) (hU : U k) : FnH H 32 [.ptr 1003 0, .ptr 1004 0, .ptr 1005 0, .ptr 1006 0, .ptr 1007 0] (bkV H f t me k) outBV (fun _ => bkV H f t me k) AltOK s0 (vopOf f t me k) := by
  have := isOp_has hf
  unfold bkV fnB doB yG wordB Hnd.doA
  refine yO Tryz.func32 rfl Tryz.ntmps32 (Nat.le_of_ble_eq_true rfl) (by decide) (fine_vopOf t me hU) fun hok hns => ?_
  repeat' (first | (refine zY.is ?_; first | refine zY.nil ?_ | (refine zY.at_ 14 rfl ?_; refine zY.rc (.v yV (.v yV (.w zR (.v zK .e)))) ?_) | (refine zY.in_ [13] rfl ?_; refine zY.ofT rfl (zF.hd (i := []) (f := vopOf_h H _ hf ht h0 hm hU) (r := fun x s e g hk => ?_) (p := fun q s e => ?_) (t := ?_)))) | (refine zZ.is ?_; first | refine zZ.seq ?_ | (refine zZ.isR (id := 0) ?_; refine zZ.rc [0, 1, 2, 3, 4] [5, 1000, 1001, 1002, 1003, 1004, 1005, 1006, 1007] (r := (.m zS (.v zK .e))) (h := ?_)) | (refine zZ.isR (id := 1) ?_; refine zZ.rc [0, 1, 2, 3, 4, 5, 6] [5, 1000, 1001, 1002, 1003, 1004, 1005, 1006, 1007] (r := (.v zN (.v wB (.v zN (.v zN (.v zN (.v v10_2 .e))))))) (h := ?_)) | refine zZ.ret ?_) | refine zB.n ?_ | refine zB.p ?_)
  all_goals (first | exact fun e => hns (by clear hns; simp only [run_bind, zC, zJ, Held.zW, Held.zA, Held.zQ, cond_true, cond_false, *]) | exact .pan (q := q) rfl (by repeat' first | exact trivial | rfl | constructor) (by repeat' first | exact trivial | exact ⟨_, rfl, rfl⟩ | constructor) (by simp only [run_bind, zC, zJ, Held.zW, Held.zA, Held.zQ, cond_true, cond_false, *]) | exact .ret (x := x) (by exact .inl rfl) (by exact .tup rfl (by decide) (.cons (.cellN rfl rfl (by rfl) (by rfl)) (.cons (.tmp rfl) .nil))) (by repeat' first | exact trivial | rfl | constructor) (by simp only [run_bind, zC, zJ, Held.zW, Held.zA, Held.zQ, cond_true, cond_false, *] <;> rfl))
theorem u1_U : U 1 := by unfold U; decide
theorem in_h (H : Hnd) (s0 : H.σ) {f : FuncId} (hf : IsOp f) {t me k : Int} (ht : Small t) (h0 : 0 ≤ t) (hm : Small me) (hU : U k) : FnH H 31 [H.doA, .p (.val (.int .i64 me)), .clo 32 [1003, 1004, 1005, 1006, 1007]] (bkV H f t me k) outRN (fun _ => bkV H f t me k) yes s0 (inP me (vopOf f t me k)) := by
  unfold bkV Hnd.doA
  refine yO Tryz.func31 rfl Tryz.ntmps31 (Nat.le_of_ble_eq_true rfl) (by decide) (fine_in me (fine_vopOf t me hU)) fun hok hns => ?_
  repeat' (first | (refine zY.is ?_; first | refine zY.nil ?_ | (refine zY.at_ 11 rfl ?_; refine zY.rc (.v v42_8 .e) ?_) | (refine zY.at_ 16 rfl ?_; refine zY.rc (.v wQ (.v yV (.v yV (.m zS (.w zR (.v zK .e)))))) ?_) | (refine zY.in_ [10] rfl ?_; refine zY.ofT rfl (zF.hd (i := []) (f := vI H _ 7) (r := fun x s e g hk => ?_) (p := fun q s e => ?_) (t := ?_))) | (refine zY.in_ [15] rfl ?_; refine zY.ofT rfl (zF.hd (i := []) (f := pin_h H _ hm) (r := fun x s e g hk => ?_) (p := fun q s e => ?_) (t := ?_))) | (refine zY.in_ [18] rfl ?_; refine zY.ofT rfl (zF.hd (i := [1003, 1004, 1005, 1006, 1007]) (f := next11V_h H _ hf ht h0 hm hU) (r := fun x s e g hk => ?_) (p := fun q s e => ?_) (t := ?_))) | (refine zY.in_ [24] rfl ?_; refine zY.ofT rfl (zF.hd (i := []) (f := qJ H _ 7 1 u1_U) (r := fun x s e g hk => ?_) (p := fun q s e => ?_) (t := ?_))) | (refine zY.in_ [28] rfl ?_; refine zY.ofT rfl (zF.hd (i := []) (f := unpin_h H _ hm) (r := fun x s e g hk => ?_) (p := fun q s e => ?_) (t := ?_)))) | (refine zZ.is ?_; first | refine zZ.seq ?_ | (refine zZ.isR (id := 0) ?_; refine zZ.rc [0, 1, 2] [6, 7, 1000, 1001, 1002, 1003, 1004, 1005, 1006, 1007] (r := (.m zS .e)) (h := ?_)) | (refine zZ.isR (id := 1) ?_; refine zZ.rc [0, 1, 2, 6] [6, 7, 1000, 1001, 1002, 1003, 1004, 1005, 1006, 1007] (r := (.v xJ .e)) (h := ?_)) | (refine zZ.isR (id := 2) ?_; refine zZ.rc [0, 1, 2, 6] [6, 7, 1000, 1001, 1002, 1003, 1004, 1005, 1006, 1007] (r := (.v y9 (.w zR .e))) (h := ?_)) | (refine zZ.isR (id := 3) ?_; refine zZ.rc [0, 1, 2, 6] [6, 7, 1000, 1001, 1002, 1003, 1004, 1005, 1006, 1007] (r := (.v xJ (.v zV .e))) (h := ?_)) | (refine zZ.isR (id := 4) ?_; refine zZ.rc [0, 1, 2, 6] [6, 7, 1000, 1001, 1002, 1003, 1004, 1005, 1006, 1007] (r := (.v xJ .e)) (h := ?_)) | (refine zZ.isR (id := 5) ?_; refine zZ.rc [0, 1, 6, 7, 8] [6, 7, 1000, 1001, 1002, 1003, 1004, 1005, 1006, 1007] (r := (.v zV (.v v52_8 .e))) (h := ?_)) | (refine zZ.isR (id := 6) ?_; refine zZ.rc [0, 1, 6, 7] [6, 7, 1000, 1001, 1002, 1003, 1004, 1005, 1006, 1007] (r := (.v xJ .e)) (h := ?_)) | (refine zZ.isR (id := 7) ?_; refine zZ.rc [0, 1, 6, 7] [6, 7, 1000, 1001, 1002, 1003, 1004, 1005, 1006, 1007] (r := (.v y9 (.w zR .e))) (h := ?_)) | (refine zZ.isR (id := 8) ?_; refine zZ.rc [0, 1, 6, 7] [6, 7, 1000, 1001, 1002, 1003, 1004, 1005, 1006, 1007] (r := (.v xJ (.v zV .e))) (h := ?_)) | (refine zZ.isR (id := 9) ?_; refine zZ.rc [6, 7] [6, 7, 1000, 1001, 1002, 1003, 1004, 1005, 1006, 1007] (r := (.v yU (.w zR .e))) (h := ?_)) | refine zZ.cond rfl (fun h => ?_) (fun h => ?_) | refine zZ.skip ?_ | refine zZ.ret ?_) | refine zB.n ?_ | refine zB.r ?_ | refine zB.p ?_)
  all_goals try simp only [Bool.not_eq_true', Bool.not_eq_false'] at *
  all_goals first
    | exact .ret (x := ⟨6, false, 0, 0⟩) (.inl rfl) (.p rfl (.cellN rfl rfl (by rfl) (by rfl))) (by repeat' first | exact trivial | rfl | constructor) (by simp only [inP, run_bind, zC, zJ, Held.zW, cond_true, cond_false, *, Bool.not_false])
    | exact .ret (x := ⟨7, false, 0, 0⟩) (.inl rfl) (.p rfl (.cellN rfl rfl (by rfl) (by rfl))) (by repeat' first | exact trivial | rfl | constructor) (by simp only [inP, leaveP, run_bind, zC, zJ, Held.zW, cond_true, cond_false, *, Bool.not_true])
    | skip
  all_goals (first | exact fun e => hns (by clear hns; simp only [inP, leaveP, Bool.not_true, run_bind, zC, zJ, Held.zW, Held.zA, Held.zQ, cond_true, cond_false, *]) | exact .pan (q := q) rfl (by repeat' first | exact trivial | rfl | constructor) (by repeat' first | exact trivial | exact ⟨_, rfl, rfl⟩ | constructor) (by simp only [inP, leaveP, Bool.not_true, run_bind, zC, zJ, Held.zW, Held.zA, Held.zQ, cond_true, cond_false, *]) | skip)
  rename_i w0 sa ea ga ha0 u1 sb eb gb hb0 o sc ec gc hc0 hz
  have ha : o.alt = o.is := gc h
  rw [ha]
  exact .ret (x := ⟨o.e, o.is, 0, 0⟩) (s' := s) (.inl rfl) (.p rfl (.cellN rfl rfl (by rfl) (by rfl))) (by repeat' first | exact trivial | rfl | constructor) (by simp only [inP, leaveP, run_bind, zC, zJ, Held.zW, cond_true, cond_false, *, Bool.not_true])
def fV (f : FuncId) : PV := .val (.func (.func f) #[] #[])
def doesL : ML := [(11, fV 27), (12, fV 28), (13, fV 29)]
theorem nextV1_h (H : Hnd) (s0 : H.σ) {t me k u v w : Int} (ht : Small t) (h0 : 0 ≤ t) (hm : Small me) : FnH H 26 [H.doA, .ptr 1003 0, .ptr 1004 0, .ptr 1005 0] [opB k u v w, yG me, yG t] outRN (fun _ => [opB k u v w, yG me, yG t]) yes s0 (vM t me k u) := by
  have cv := vertex_fn u
  have hU := vkF_U u
  have fin : ∀ f, IsOp f → (k = 11 ∧ f = 27 ∨ k = 12 ∧ f = 28 ∨ k = 13 ∧ f = 29) → vOK u = true → vM t me k u = inP me (vopOf f t me (vkF u)) := fun f _ h hu => by
    unfold vM vopB vopOf
    rw [hu]
    rcases h with ⟨rfl, rfl⟩ | ⟨rfl, rfl⟩ | ⟨rfl, rfl⟩ <;> rfl
  unfold Hnd.doA opB yG
  refine yO Tryz.func26 rfl Tryz.ntmps26 (Nat.le_of_ble_eq_true rfl) (by decide) (fine_vop t me k u) fun hok hns => ?_
  by_cases hk3 : k = 11 ∨ k = 12 ∨ k = 13
  case neg =>
    have hg : mget doesL k = none := by
      unfold doesL mget mget mget mget
      rw [if_neg (by omega), if_neg (by omega), if_neg (by omega)]
    repeat' (first | refine zY.w rfl (s_insert0 rfl rfl rfl rfl rfl rfl rfl) ?_ | refine zY.w rfl (s_insertI rfl rfl rfl rfl rfl rfl (by rfl) rfl) ?_ | (refine zY.at_ 17 rfl ?_; refine zY.v rfl rfl (by exact w_lookupF hg rfl rfl rfl rfl rfl rfl rfl (by decide)) ?_) | (refine zY.is ?_; first | refine zY.nil ?_ | (refine zY.at_ 12 rfl ?_; refine zY.rc (.v v0_1 (.v v1_1 .e)) ?_) | (refine zY.at_ 13 rfl ?_; refine zY.rc (.v wQ (.v yV (.v yV (.m zS (.w zR (.v zK .e)))))) ?_)) | (refine zZ.is ?_; first | refine zZ.seq ?_ | (refine zZ.isR (id := 0) ?_; refine zZ.rc [0, 1, 2, 3] [4, 5, 7, 9, 11, 1000, 1001, 1002, 1003, 1004, 1005] (r := (.m m18_3 (.m zS .e))) (h := ?_)) | (refine zZ.isR (id := 1) ?_; refine zZ.rc [1, 2, 3, 4, 5] [4, 5, 7, 9, 11, 1000, 1001, 1002, 1003, 1004, 1005] (r := (.m m22_0 .e)) (h := ?_)) | (refine zZ.isR (id := 2) ?_; refine zZ.rc [1, 2, 3, 4, 5, 6] [4, 5, 7, 9, 11, 1000, 1001, 1002, 1003, 1004, 1005] (r := (.v v0_1 (.v zH (.v zN .e)))) (h := ?_)) | (refine zZ.isR (id := 3) ?_; refine zZ.rc [1, 2, 3, 4, 5, 7, 8] [4, 5, 7, 9, 11, 1000, 1001, 1002, 1003, 1004, 1005] (r := (.v zV (.v v52_4 .e))) (h := ?_)) | (refine zZ.isR (id := 4) ?_; refine zZ.rc [1, 2, 3, 4, 5, 7] [4, 5, 7, 9, 11, 1000, 1001, 1002, 1003, 1004, 1005] (r := (.v y9 (.w zR .e))) (h := ?_)) | refine zZ.yF rfl bA ?_ | refine zZ.ret ?_) | refine zB.n ?_ | refine zB.r ?_)
    all_goals exact .ret (x := ⟨1, false, 0, 0⟩) (s' := s0) (.inl rfl) (.p rfl (.cellN rfl rfl (by rfl) (by rfl))) (by repeat' first | exact trivial | rfl | constructor) (by unfold vM; rw [decide_eq_false (by omega), decide_eq_false (by omega), decide_eq_false (by omega)]; rfl)
  case pos =>
    obtain ⟨f, hf, hkf, hg⟩ : ∃ f, IsOp f ∧ (k = 11 ∧ f = 27 ∨ k = 12 ∧ f = 28 ∨ k = 13 ∧ f = 29) ∧ mget doesL k = some (fV f) := by
      rcases hk3 with rfl | rfl | rfl
      · exact ⟨_, .inl rfl, .inl ⟨rfl, rfl⟩, rfl⟩
      · exact ⟨_, .inr (.inl rfl), .inr (.inl ⟨rfl, rfl⟩), rfl⟩
      · exact ⟨_, .inr (.inr rfl), .inr (.inr ⟨rfl, rfl⟩), rfl⟩
    cases hu : vOK u
    case false =>
      have hE : vkE u = 4 := by unfold vkE; rw [hu]; rfl
      rw [hE] at cv
      repeat' (first | refine zY.w rfl (s_insert0 rfl rfl rfl rfl rfl rfl rfl) ?_ | refine zY.w rfl (s_insertI rfl rfl rfl rfl rfl rfl (by rfl) rfl) ?_ | (refine zY.at_ 17 rfl ?_; refine zY.v rfl rfl (by exact w_lookupT hg rfl rfl rfl rfl rfl rfl rfl (by decide)) ?_) | (refine zY.is ?_; first | refine zY.nil ?_ | (refine zY.at_ 12 rfl ?_; refine zY.rc (.v v0_1 (.v v1_1 .e)) ?_) | (refine zY.at_ 13 rfl ?_; refine zY.rc (.v wQ (.v yV (.v yV (.m zS (.w zR (.v zK .e)))))) ?_) | (refine zY.at_ 23 rfl ?_; refine zY.rc (.v wQ (.v yV (.v yV (.m zS (.w zR (.v zK .e)))))) ?_) | (refine zY.in_ [26] rfl ?_; refine zY.v rfl rfl (yS (cv) rfl rfl rfl (by decide)) ?_)) | (refine zZ.is ?_; first | refine zZ.seq ?_ | (refine zZ.isR (id := 0) ?_; refine zZ.rc [0, 1, 2, 3] [4, 5, 7, 9, 11, 1000, 1001, 1002, 1003, 1004, 1005] (r := (.m m18_3 (.m zS .e))) (h := ?_)) | (refine zZ.isR (id := 1) ?_; refine zZ.rc [1, 2, 3, 4, 5] [4, 5, 7, 9, 11, 1000, 1001, 1002, 1003, 1004, 1005] (r := (.m m22_0 .e)) (h := ?_)) | (refine zZ.isR (id := 2) ?_; refine zZ.rc [1, 2, 3, 4, 5, 6] [4, 5, 7, 9, 11, 1000, 1001, 1002, 1003, 1004, 1005] (r := (.v v0_1 (.v zH (.v zN .e)))) (h := ?_)) | (refine zZ.isR (id := 3) ?_; refine zZ.rc [1, 2, 3, 4, 5, 7, 8] [4, 5, 7, 9, 11, 1000, 1001, 1002, 1003, 1004, 1005] (r := (.v zV (.v qI .e))) (h := ?_)) | (refine zZ.isR (id := 5) ?_; refine zZ.rc [1, 2, 3, 4, 5, 7] [4, 5, 7, 9, 11, 1000, 1001, 1002, 1003, 1004, 1005] (r := (.v zH (.v zN .e))) (h := ?_)) | (refine zZ.isR (id := 6) ?_; refine zZ.rc [2, 3, 4, 5, 7, 9, 10] [4, 5, 7, 9, 11, 1000, 1001, 1002, 1003, 1004, 1005] (r := (.v zV (.v v42_4 .e))) (h := ?_)) | (refine zZ.isR (id := 7) ?_; refine zZ.rc [2, 3, 4, 5, 7, 9, 10] [4, 5, 7, 9, 11, 1000, 1001, 1002, 1003, 1004, 1005] (r := (.v zV (.v y9 (.w zR .e)))) (h := ?_)) | refine zZ.yF rfl bA ?_ | refine zZ.yH rfl bA ?_ | refine zZ.skip ?_ | refine zZ.ret ?_) | refine zB.n ?_ | refine zB.r ?_)
      all_goals exact .ret (x := ⟨4, false, 0, 0⟩) (s' := s0) (.inl rfl) (.p rfl (.cellN rfl rfl (by rfl) (by rfl))) (by repeat' first | exact trivial | rfl | constructor) (by unfold vM; rw [hu]; rcases hk3 with rfl | rfl | rfl <;> rfl)
    case true =>
      have hE : vkE u = 0 := by unfold vkE; rw [hu]; rfl
      rw [hE] at cv
      rw [fin f hf hkf hu] at hns ⊢
      repeat' (first | refine zY.w rfl (s_insert0 rfl rfl rfl rfl rfl rfl rfl) ?_ | refine zY.w rfl (s_insertI rfl rfl rfl rfl rfl rfl (by rfl) rfl) ?_ | (refine zY.at_ 17 rfl ?_; refine zY.v rfl rfl (by exact w_lookupT hg rfl rfl rfl rfl rfl rfl rfl (by decide)) ?_) | (refine zY.is ?_; first | refine zY.nil ?_ | (refine zY.at_ 12 rfl ?_; refine zY.rc (.v v0_1 (.v v1_1 .e)) ?_) | (refine zY.at_ 13 rfl ?_; refine zY.rc (.v wQ (.v yV (.v yV (.m zS (.w zR (.v zK .e)))))) ?_) | (refine zY.at_ 23 rfl ?_; refine zY.rc (.v wQ (.v yV (.v yV (.m zS (.w zR (.v zK .e)))))) ?_) | refine zY.rc (.w zR .e) ?_ | (refine zY.in_ [26] rfl ?_; refine zY.v rfl rfl (yS (cv) rfl rfl rfl (by decide)) ?_) | (refine zY.in_ [36] rfl ?_; refine zY.ofT rfl (zF.hd (i := [7, 4, 1005, 1004, 9]) (f := in_h H _ hf ht h0 hm hU) (r := fun x s e g hk => ?_) (p := fun q s e => ?_) (t := ?_)))) | (refine zZ.is ?_; first | refine zZ.seq ?_ | (refine zZ.isR (id := 0) ?_; refine zZ.rc [0, 1, 2, 3] [4, 5, 7, 9, 11, 1000, 1001, 1002, 1003, 1004, 1005] (r := (.m m18_3 (.m zS .e))) (h := ?_)) | (refine zZ.isR (id := 1) ?_; refine zZ.rc [1, 2, 3, 4, 5] [4, 5, 7, 9, 11, 1000, 1001, 1002, 1003, 1004, 1005] (r := (.m m22_0 .e)) (h := ?_)) | (refine zZ.isR (id := 2) ?_; refine zZ.rc [1, 2, 3, 4, 5, 6] [4, 5, 7, 9, 11, 1000, 1001, 1002, 1003, 1004, 1005] (r := (.v v0_1 (.v zH (.v zN .e)))) (h := ?_)) | (refine zZ.isR (id := 3) ?_; refine zZ.rc [1, 2, 3, 4, 5, 7, 8] [4, 5, 7, 9, 11, 1000, 1001, 1002, 1003, 1004, 1005] (r := (.v zV (.v qI .e))) (h := ?_)) | (refine zZ.isR (id := 5) ?_; refine zZ.rc [1, 2, 3, 4, 5, 7] [4, 5, 7, 9, 11, 1000, 1001, 1002, 1003, 1004, 1005] (r := (.v zH (.v zN .e))) (h := ?_)) | (refine zZ.isR (id := 6) ?_; refine zZ.rc [2, 3, 4, 5, 7, 9, 10] [4, 5, 7, 9, 11, 1000, 1001, 1002, 1003, 1004, 1005] (r := (.v zV (.v v42_5 .e))) (h := ?_)) | (refine zZ.isR (id := 8) ?_; refine zZ.rc [2, 3, 4, 5, 7, 9] [4, 5, 7, 9, 11, 1000, 1001, 1002, 1003, 1004, 1005] (r := (.v wB (.v zN (.v v14_0 .e)))) (h := ?_)) | refine zZ.yH rfl bA ?_ | refine zZ.skip ?_ | refine zZ.ret ?_) | refine zB.n ?_ | refine zB.p ?_)
      all_goals (first | exact fun e => hns (by clear hns; simp only [run_bind, zC, zJ, Held.zW, Held.zA, Held.zQ, cond_true, cond_false, *]) | exact .pan (q := q) rfl (by repeat' first | exact trivial | rfl | constructor) (by repeat' first | exact trivial | exact ⟨_, rfl, rfl⟩ | constructor) (by simp only [run_bind, zC, zJ, Held.zW, Held.zA, Held.zQ, cond_true, cond_false, *]) | exact .ret (x := x) (by exact .inl rfl) (by exact .p rfl (.cellN rfl rfl (by rfl) (by rfl))) (by repeat' first | exact trivial | rfl | constructor) (by simp only [run_bind, zC, zJ, Held.zW, Held.zA, Held.zQ, cond_true, cond_false, *] <;> rfl))
end Go.Proofs.YtmfbamiciieooaaGreatDoor
/- What a vertex's operation asks next, of a log: the program's: contracts. -/
namespace Go.Proofs.YtmfbamiciieooaaGreatDoor
set_option maxRecDepth 100000
set_option maxHeartbeats 16000000
open Go Go.RowKit
set_option linter.unusedSimpArgs false
set_option linter.unusedVariables false
attribute [local irreducible] zY zZ Step zX Sub zD zF Fn
/-- the frame behind Run's results -/
def runVS (k u v w me t : Int) (L : List xM) : AS := { t := [(6, .ptr 6 0), (5, .ptr 5 0), (4, .ptr 4 0), (3, .ptr 3 0), (0, .clo 26 [1000, 1001, 1002]), (1, .p (logV L))], s := [(6, isB false), (5, wK 0 false 0 0), (4, accB 0 0 0 0 xQ), (3, logB L), (1000, opB k u v w), (1001, yG me), (1002, yG t)] }
def runVT : List (Nat × AV) := [(0, .clo 26 [1004, 1005, 1006]), (3, .ptr 1000 0), (4, .ptr 1001 0), (5, .ptr 1002 0), (6, .ptr 1003 0)]
theorem runV_done (L : List xM) (hL : LogOK L) {t me k u v w : Int} (ht : Small t) (h0 : 0 ≤ t) (hm : Small me) {o : OutN} {j : Nat} (hr : (vM t me k u).run (wP L) 0 = .done o j) :
    FnE Tryz.prog 25 [.clo 26 [1000, 1001, 1002], .p (logV L)] [opB k u v w, yG me, yG t] (.ret (.tup ([accV 0 0 0 0 xQ, outV o.e o.is o.n o.w, .val (.bool true)].map .p))) [opB k u v w, yG me, yG t] := by
  have hn := (nextV1_h (hLog L hL) (0 : Nat) (k := k) (u := u) (v := v) (w := w) ht h0 hm).done (Nat.zero_le _) hr
  have hn2 : FnE Tryz.prog 26 [.clo 47 [1000, 1001], .ptr 1003 0, .ptr 1004 0, .ptr 1005 0] [atB 0, logB L, isB false, opB k u v w, yG me, yG t] (.ret (outRN o)) [atB j, logB L, isB false, opB k u v w, yG me, yG t] := hn.2.2
  refine fn_ofD (S1 := runVS k u v w me t L) (ids := [3, 4, 5, 6, 1000, 1001, 1002]) (Bi := [logB L, accB 0 0 0 0 xQ, wK 0 false 0 0, isB false, opB k u v w, yG me, yG t]) (Bi' := [logB L, accB 0 0 0 0 xQ, wK o.e o.is o.n o.w, isB true, opB k u v w, yG me, yG t]) (T := runVT) (dj := [1001, 1002, 1003])
    Tryz.func25 rfl Tryz.ntmps25 (Nat.le_of_ble_eq_true rfl) (by decide) ?_ rfl rfl (by decide) rfl (by rfl) rfl rfl rfl (by rfl) (by rfl) (vH (by decide) rfl (by repeat' first | exact trivial | rfl | constructor)) rfl rfl rfl (by
      intro p hp
      simp only [runVT, List.mem_cons, List.not_mem_nil, or_false] at hp
      rcases hp with rfl | rfl | rfl | rfl | rfl <;> exact ⟨rfl, by decide⟩) ?_ rfl rfl (wL (by repeat' first | exact trivial | rfl | constructor))
  case refine_1 =>
    repeat' (first | (refine zY.nil ?_) | (refine zZ.is ?_; (refine zZ.isR (id := 0) ?_; refine zZ.rc [0, 1] [3, 4, 5, 6, 7, 1000, 1001, 1002] (r := (.m m18_2 (.m zS (.m zS (.m zS .e))))) (h := ?_))))
    exact ⟨rfl, rfl⟩
  case refine_2 =>
    unfold runVT
    repeat' (first | (refine zY.is ?_; first | refine zY.nil ?_ | refine zY.rc (.w zR .e) ?_ | (refine zY.in_ [11] rfl ?_; refine zY.ofT rfl (zF.eR [7, 1000, 1003, 1004, 1005, 1006] (hn2) ?_))) | (refine zZ.is ?_; first | refine zZ.seq ?_ | (refine zZ.isR (id := 2) ?_; refine zZ.rc [0, 3, 4, 5, 6] [3, 4, 5, 6, 7, 1000, 1001, 1002, 1003, 1004, 1005, 1006] (r := (.m zS (.w zR .e))) (h := ?_)) | (refine zZ.isR (id := 3) ?_; refine zZ.rc [0, 3, 4, 5, 6, 7] [3, 4, 5, 6, 7, 1000, 1001, 1002, 1003, 1004, 1005, 1006] (r := (.v xJ (.v v14_0 .e))) (h := ?_)) | (refine zZ.isR (id := 4) ?_; refine zZ.rk [4, 5, 6] [3, 4, 5, 6, 7, 1000, 1001, 1002, 1003, 1004, 1005, 1006] ?_; refine zZ.drawGo (by kernel_rfl) ?_) | refine zZ.ret ?_) | (refine DGo.at_ [] ?_; refine DGo.all [0, 1] (by kernel_rfl) ?_) | (refine DGo.at_ [1] ?_; refine DGo.all [0] (by kernel_rfl) ?_) | (refine DGo.at_ [0, 1] ?_; refine DGo.all [2] (by kernel_rfl) ?_) | (refine DGo.at_ [2, 0, 1] ?_; refine DGo.all [3] (by kernel_rfl) ?_) | (refine DGo.at_ [3, 2, 0, 1] ?_; refine DGo.all [4] (by kernel_rfl) ?_) | (refine DGo.at_ [4, 3, 2, 0, 1] ?_; refine DGo.fin (by kernel_rfl) ?_) | (refine DGo.at_ [0] ?_; refine DGo.all [1, 2] (by kernel_rfl) ?_) | (refine DGo.at_ [2, 0] ?_; refine DGo.all [1] (by kernel_rfl) ?_) | (refine DGo.at_ [1, 2, 0] ?_; refine DGo.all [3] (by kernel_rfl) ?_) | (refine DGo.at_ [3, 1, 2, 0] ?_; refine DGo.all [4] (by kernel_rfl) ?_) | (refine DGo.at_ [4, 3, 1, 2, 0] ?_; refine DGo.fin (by kernel_rfl) ?_) | (refine DGo.at_ [1, 0] ?_; refine DGo.all [2] (by kernel_rfl) ?_) | (refine DGo.at_ [2, 1, 0] ?_; refine DGo.all [3] (by kernel_rfl) ?_) | (refine DGo.at_ [3, 2, 1, 0] ?_; refine DGo.all [4] (by kernel_rfl) ?_) | (refine DGo.at_ [4, 3, 2, 1, 0] ?_; refine DGo.fin (by kernel_rfl) ?_) | refine zI.cons ?_ ?_ | exact zI.nil | (refine zM.at_ 0 ?_; refine zM.v rfl rfl rfl (w_build rfl (by rfl) (by rfl) (by rfl) (by rfl) rfl (by decide)) ?_) | (refine zM.at_ 1 ?_; refine zM.v rfl rfl rfl (yM rfl rfl rfl (by rfl) (by rfl) rfl (by decide)) ?_) | (refine zM.at_ 2 ?_; refine zM.w rfl rfl (by exact yT rfl rfl rfl rfl rfl (by rfl) (by exact Nat.le_of_ble_eq_true rfl) rfl rfl) ?_) | (refine zM.at_ 3 ?_; refine zM.w rfl rfl (by exact yT rfl rfl rfl rfl rfl (by rfl) (by exact Nat.le_of_ble_eq_true rfl) rfl rfl) ?_) | (refine zM.at_ 4 ?_; refine zM.w rfl rfl (by exact yT rfl rfl rfl rfl rfl (by rfl) (by exact Nat.le_of_ble_eq_true rfl) rfl rfl) ?_))
    all_goals exact ⟨_, _, _, run1_none o.e o.is o.n o.w true, .inl ⟨rfl, by first | exact .inl rfl | exact .inr rfl⟩, vH (by decide) rfl (by repeat' first | exact trivial | rfl | constructor), rfl, rfl, .tup rfl (by decide) (.cons (.cellN rfl rfl (by rfl) (by rfl)) (.cons (.cellN rfl rfl (by rfl) (by rfl)) (.cons (.cell1 rfl rfl rfl) .nil))), wL (by repeat' first | exact trivial | rfl | constructor)⟩
theorem runV_need (L : List xM) (hL : LogOK L) {t me k u v w : Int} (ht : Small t) (h0 : 0 ≤ t) (hm : Small me) {q : Ned} {j : Nat} (hr : (vM t me k u).run (wP L) 0 = .need q j) :
    FnE Tryz.prog 25 [.clo 26 [1000, 1001, 1002], .p (logV L)] [opB k u v w, yG me, yG t] (.ret (.tup ([accQ q, outV 0 false 0 0, .val (.bool false)].map .p))) [(opB k u v w).forget, (yG me).forget, (yG t).forget] := by
  have hn := (nextV1_h (hLog L hL) (0 : Nat) (k := k) (u := u) (v := v) (w := w) ht h0 hm).need (Nat.zero_le _) hr
  have hn2 : FnE Tryz.prog 26 [.clo 47 [1000, 1001], .ptr 1003 0, .ptr 1004 0, .ptr 1005 0] [atB 0, logB L, isB false, opB k u v w, yG me, yG t] (.pan (needA (accQ q))) [atB j, logB L, isB false, (opB k u v w).forget, (yG me).forget, (yG t).forget] := hn.2
  unfold accQ at hn2 ⊢
  refine fn_ofD (S1 := runVS k u v w me t L) (ids := [3, 4, 5, 6, 1000, 1001, 1002]) (Bi := [logB L, accB 0 0 0 0 xQ, wK 0 false 0 0, isB false, opB k u v w, yG me, yG t]) (Bi' := [logB L, accB q.kind q.cell q.a q.b q.d, wK 0 false 0 0, isB false, (opB k u v w).forget, (yG me).forget, (yG t).forget]) (T := runVT) (dj := [1001, 1002, 1003])
    Tryz.func25 rfl Tryz.ntmps25 (Nat.le_of_ble_eq_true rfl) (by decide) ?_ rfl rfl (by decide) rfl (by rfl) rfl rfl rfl (by rfl) (by rfl) (vH (by decide) rfl (by repeat' first | exact trivial | rfl | constructor)) rfl rfl rfl (by
      intro p hp
      simp only [runVT, List.mem_cons, List.not_mem_nil, or_false] at hp
      rcases hp with rfl | rfl | rfl | rfl | rfl <;> exact ⟨rfl, by decide⟩) ?_ rfl rfl (wL (by repeat' first | exact trivial | rfl | constructor))
  case refine_1 =>
    repeat' (first | (refine zY.nil ?_) | (refine zZ.is ?_; (refine zZ.isR (id := 0) ?_; refine zZ.rc [0, 1] [3, 4, 5, 6, 7, 1000, 1001, 1002] (r := (.m m18_2 (.m zS (.m zS (.m zS .e))))) (h := ?_))))
    exact ⟨rfl, rfl⟩
  case refine_2 =>
    unfold runVT
    repeat' (first | (refine zY.is ?_; first | refine zY.nil ?_ | (refine zY.in_ [11] rfl ?_; refine zY.ofT rfl (zF.eP [7, 1000, 1003, 1004, 1005, 1006] (hn2) ?_))) | (refine zZ.is ?_; first | refine zZ.seq ?_ | (refine zZ.isR (id := 2) ?_; refine zZ.rc [0, 3, 4, 5, 6] [3, 4, 5, 6, 7, 1000, 1001, 1002, 1003, 1004, 1005, 1006] (r := (.m zS (.w zR .e))) (h := ?_)) | (refine zZ.isR (id := 3) ?_; refine zZ.rc [0, 3, 4, 5, 6, 7] [3, 4, 5, 6, 7, 1000, 1001, 1002, 1003, 1004, 1005, 1006] (r := (.v xJ (.v v14_0 .e))) (h := ?_))))
    all_goals exact ⟨_, _, _, run1_need q.kind q.cell q.a q.b q.d 0 false 0 0 false, .inr ⟨_, rfl, rfl, rfl⟩, vH (by decide) rfl (by repeat' first | exact trivial | rfl | constructor), rfl, rfl, .tup rfl (by decide) (.cons (.cellN rfl rfl (by rfl) (by rfl)) (.cons (.cellN rfl rfl (by rfl) (by rfl)) (.cons (.cell1 rfl rfl rfl) .nil))), wL (by repeat' first | exact trivial | rfl | constructor)⟩
theorem nextV_done (L : List xM) (hL : LogOK L) {t me : Int} (c : Int) {k u v w : Int} (ht : Small t) (h0 : 0 ≤ t) (hm : Small me) {o : OutN} {j : Nat} (hr : (vM t me k u).run (wP L) 0 = .done o j) :
    Fn Tryz.prog 12 [.val (.int .i64 t), .val (.int .i64 c), .val (.int .i64 me), opV k u v w, logV L] (.tup [accV 0 0 0 0 xQ, outV o.e o.is o.n o.w, .val (.bool true)]) := by
  have hr := runV_done L hL (v := v) (w := w) ht h0 hm hr
  refine z8 Tryz.func12 rfl Tryz.ntmps12 (Nat.le_of_ble_eq_true rfl) ?_
  repeat' (first | (refine zY.is ?_; first | refine zY.nil ?_ | (refine zY.at_ 16 rfl ?_; refine zY.rc (.v yV (.v yV (.v yV (.w zR (.w zR (.v zK .e)))))) ?_) | (refine zY.in_ [15] rfl ?_; refine zY.ofT rfl (zF.eR [8, 7, 5] (hr) ?_))) | (refine zZ.is ?_; first | refine zZ.seq ?_ | (refine zZ.isR (id := 0) ?_; refine zZ.rc [0, 2, 3, 4] [5, 7, 8, 10, 11] (r := (.m m18_1 (.m m18_1 (.m yD (.m zS (.m zS (.v zK .e))))))) (h := ?_)) | (refine zZ.isR (id := 1) ?_; refine zZ.rc [4, 5, 7, 8, 10, 11, 12] [5, 7, 8, 10, 11] (r := (.v v14_0 (.v zV .e))) (h := ?_)) | refine zZ.ret ?_))
  all_goals exact ⟨by first | exact .inl rfl | exact .inr rfl, _, Sub.refl _, .tupE rfl (by decide) (.cons (.cellN rfl rfl (by rfl) (by rfl)) (.cons (.cellN rfl rfl (by rfl) (by rfl)) (.cons (.tmp rfl) .nil))) rfl⟩
theorem nextV_need (L : List xM) (hL : LogOK L) {t me : Int} (c : Int) {k u v w : Int} (ht : Small t) (h0 : 0 ≤ t) (hm : Small me) {q : Ned} {j : Nat} (hr : (vM t me k u).run (wP L) 0 = .need q j) :
    Fn Tryz.prog 12 [.val (.int .i64 t), .val (.int .i64 c), .val (.int .i64 me), opV k u v w, logV L] (.tup [accQ q, outV 0 false 0 0, .val (.bool false)]) := by
  have hr := runV_need L hL (v := v) (w := w) ht h0 hm hr
  unfold accQ at hr ⊢
  refine z8 Tryz.func12 rfl Tryz.ntmps12 (Nat.le_of_ble_eq_true rfl) ?_
  repeat' (first | (refine zY.is ?_; first | refine zY.nil ?_ | (refine zY.at_ 16 rfl ?_; refine zY.rc (.v yV (.v yV (.v yV (.w zR (.w zR (.v zK .e)))))) ?_) | (refine zY.in_ [15] rfl ?_; refine zY.ofT rfl (zF.eR [8, 7, 5] (hr) ?_))) | (refine zZ.is ?_; first | refine zZ.seq ?_ | (refine zZ.isR (id := 0) ?_; refine zZ.rc [0, 2, 3, 4] [5, 7, 8, 10, 11] (r := (.m m18_1 (.m m18_1 (.m yD (.m zS (.m zS (.v zK .e))))))) (h := ?_)) | (refine zZ.isR (id := 1) ?_; refine zZ.rc [4, 5, 7, 8, 10, 11, 12] [5, 7, 8, 10, 11] (r := (.v v14_0 (.v zV .e))) (h := ?_)) | refine zZ.ret ?_))
  all_goals exact ⟨by first | exact .inl rfl | exact .inr rfl, _, Sub.refl _, .tupE rfl (by decide) (.cons (.cellN rfl rfl (by rfl) (by rfl)) (.cons (.cellN rfl rfl (by rfl) (by rfl)) (.cons (.tmp rfl) .nil))) rfl⟩
end Go.Proofs.YtmfbamiciieooaaGreatDoor
/- Worlds: copies of rows, accesses of words: contracts. -/
namespace Go.Proofs.YtmfbamiciieooaaGreatDoor
set_option maxRecDepth 100000
set_option maxHeartbeats 16000000
open Go Go.RowKit
set_option linter.unusedSimpArgs false
attribute [local irreducible] zY zZ Step zX Sub zD zF Fn
/-- words, as a slice's elements -/
def wds (ws : List Int) : List PV := ws.map fun n => .val (.int .u64 n)
theorem vS (ws : List Int) : (wds ws).length = ws.length := by simp [wds]
theorem wds_one (ws : List Int) : ∀ e ∈ wds ws, e.cells = [e] := fun e he => by
  obtain ⟨x, _, rfl⟩ := List.mem_map.1 he
  rfl
theorem wds_cells (ws : List Int) : ∀ e ∈ wds ws, e.cells.length = 1 := fun e he => by rw [wds_one ws e he]; rfl
theorem grow_lim (n k : Nat) (h : n ≤ 1000000) (hk : k ≤ 1000) : (([] : List PV).length + n) * k ≤ 140737488355328 ∧ ([] : List PV).length + n ≤ maxLen := by
  have h2 : n * k ≤ 1000000 * 1000 := Nat.mul_le_mul h hk
  simp only [List.length_nil, Nat.zero_add, maxLen]
  omega
theorem cloneW_fn (ws : List Int) (h0 : 1 ≤ ws.length) (h1 : ws.length ≤ 1000000) : Fn Tryz.prog 35 [.sl (wds ws)] (.row 27 1 (wds ws).length (flat (wds ws))) := by
  have g1 := wds_cells ws
  have g2 : wds ws ≠ [] := fun e => by have := congrArg List.length e; rw [vS, List.length_nil] at this; omega
  have g3 := grow_lim (wds ws).length 8 (by rw [vS]; exact h1) (by decide)
  refine z8 Tryz.func35 rfl Tryz.ntmps35 (Nat.le_of_ble_eq_true rfl) ?_
  repeat' (first | (refine zY.nil ?_) | (refine zZ.is ?_; first | refine zZ.seq ?_ | (refine zZ.isR (id := 0) ?_; refine zZ.rc [0] [2, 5] (r := (.v zK .e)) (h := ?_)) | (refine zZ.isR (id := 1) ?_; refine zZ.rc [0, 2] [2, 5] (r := (.v zV (.v v41_41 .e))) (h := ?_)) | (refine zZ.isR (id := 3) ?_; refine zZ.rc [0, 2] [2, 5] (r := (.m m20_0 (.v zV (.w w55_2 (.v v1_1 .e))))) (h := ?_)) | refine zZ.yH rfl bA ?_ | refine zZ.skip ?_ | refine zZ.ret ?_))
  all_goals exact ⟨by first | exact .inl rfl | exact .inr rfl, givesRowV rfl rfl rfl⟩
/-! ### The accesses of a word -/
def funV (f : Nat) : Value := .func (.func f) #[] #[]
def turnsL : List PV := [.agg [.val (.int .i64 0), .val (funV 106)], .agg [.val (.int .i64 1), .val (funV 107)], .agg [.val (.int .i64 2), .val (funV 108)], .agg [.val (.int .i64 3), .val (funV 109)], .agg [.val (.int .i64 4), .val (funV 110)]]
theorem turns_fn : Fn Tryz.prog 72 [] (.p (.sl turnsL)) := by
  refine z8 Tryz.func72 rfl Tryz.ntmps72 (Nat.le_of_ble_eq_true rfl) ?_
  have ps_ := trivial
  repeat' (first | (refine zY.nil ?_) | (refine zZ.is ?_; first | refine zZ.seq ?_ | (refine zZ.isR (id := 0) ?_; refine zZ.rc [] [0, 6] (r := (.v zK .e)) (h := ?_)) | (refine zZ.isR (id := 1) ?_; refine zZ.rc [0] [0, 6] (r := (.v y9 (.v y9 (.v y9 (.v y9 (.v y9 (.v v20_0 (.v zK .e)))))))) (h := ?_)) | refine zZ.ret ?_))
  all_goals exact ⟨by first | exact .inl rfl | exact .inr rfl, _, Sub.refl _, .p rfl (.tmp rfl)⟩
/-- what an access of a word tells, and the word then -/
def turnR (kind old a b : Int) : Int × Int := if kind = 0 then (old, old) else if kind = 1 then (0, a) else if kind = 2 then (if old = a then (1, b) else (0, old)) else if kind = 3 then (old, IntKind.u64.wrap (old + a)) else (old, a)
theorem turn1_fn (old kind cell a b : Int) (d w : PV) : Fn Tryz.prog 106 [.val (.int .u64 old), .agg [.val (.int .i64 kind), .val (.int .i64 cell), .val (.int .u64 a), .val (.int .u64 b), d, w]] (.tup [.val (.int .u64 old), .val (.int .u64 old)]) := by
  refine z8 Tryz.func106 rfl Tryz.ntmps106 (Nat.le_of_ble_eq_true rfl) ?_
  repeat' (first | (refine zY.nil ?_) | (refine zZ.is ?_; first | refine zZ.seq ?_ | (refine zZ.isR (id := 0) ?_; refine zZ.rc [0, 1] [3] (r := (.m yD (.v zK (.v zK .e)))) (h := ?_)) | (refine zZ.isR (id := 1) ?_; refine zZ.rc [0, 4, 5] [3] (r := (.v zV (.v zV (.v zK (.v zK .e))))) (h := ?_)) | refine zZ.ret ?_))
  all_goals exact ⟨by first | exact .inl rfl | exact .inr rfl, _, Sub.refl _, .tupE rfl (by decide) (.cons (.tmp rfl) (.cons (.tmp rfl) .nil)) rfl⟩
theorem turn2_fn (old kind cell a b : Int) (d w : PV) : Fn Tryz.prog 107 [.val (.int .u64 old), .agg [.val (.int .i64 kind), .val (.int .i64 cell), .val (.int .u64 a), .val (.int .u64 b), d, w]] (.tup [.val (.int .u64 0), .val (.int .u64 a)]) := by
  refine z8 Tryz.func107 rfl Tryz.ntmps107 (Nat.le_of_ble_eq_true rfl) ?_
  repeat' (first | (refine zY.nil ?_) | (refine zZ.is ?_; first | refine zZ.seq ?_ | (refine zZ.isR (id := 0) ?_; refine zZ.rc [1] [3] (r := (.m yD (.v zK (.v zK .e)))) (h := ?_)) | (refine zZ.isR (id := 1) ?_; refine zZ.dc [3, 4, 5] [3] (r := (.v zH (.v zN (.v zK (.v zK .e))))) (q := .e) (h := ?_)) | refine zZ.ret ?_) | (refine zD.nil ?_))
  all_goals exact ⟨by first | exact .inl rfl | exact .inr rfl, _, Sub.refl _, .tupE rfl (by decide) (.cons (.tmp rfl) (.cons (.tmp rfl) .nil)) rfl⟩
theorem turn3_fn (old kind cell a b : Int) (d w : PV) : Fn Tryz.prog 108 [.val (.int .u64 old), .agg [.val (.int .i64 kind), .val (.int .i64 cell), .val (.int .u64 a), .val (.int .u64 b), d, w]] (.tup [.val (.int .u64 (turnR 2 old a b).1), .val (.int .u64 (turnR 2 old a b).2)]) := by
  refine z8 Tryz.func108 rfl Tryz.ntmps108 (Nat.le_of_ble_eq_true rfl) ?_
  repeat' (first | (refine zY.nil ?_) | (refine zZ.is ?_; first | refine zZ.seq ?_ | (refine zZ.isR (id := 0) ?_; refine zZ.rc [0, 1] [3] (r := (.m yD (.v zK (.v zK .e)))) (h := ?_)) | (refine zZ.isR (id := 1) ?_; refine zZ.rc [0, 3, 4, 5] [3] (r := (.v zV (.v zH (.v zN (.v v41_8 .e))))) (h := ?_)) | (refine zZ.isR (id := 2) ?_; refine zZ.dc [0, 3, 4, 5] [3] (r := (.v zH (.v zN (.v zK (.v zK .e))))) (q := .e) (h := ?_)) | (refine zZ.isR (id := 3) ?_; refine zZ.rc [0, 4, 5] [3] (r := (.v zV (.v zK (.v zK .e)))) (h := ?_)) | refine zZ.cond rfl (fun h => ?_) (fun h => ?_) | refine zZ.skip ?_ | refine zZ.ret ?_) | refine zB.r ?_ | (refine zD.nil ?_))
  all_goals exact ⟨by first | exact .inl rfl | exact .inr rfl, _, Sub.refl _, .tupE rfl (by decide) (.cons (.tmp rfl) (.cons (.tmp rfl) .nil)) (by simp_all [turnR])⟩
theorem turn4_fn (old kind cell a b : Int) (d w : PV) : Fn Tryz.prog 109 [.val (.int .u64 old), .agg [.val (.int .i64 kind), .val (.int .i64 cell), .val (.int .u64 a), .val (.int .u64 b), d, w]] (.tup [.val (.int .u64 old), .val (.int .u64 (IntKind.u64.wrap (old + a)))]) := by
  refine z8 Tryz.func109 rfl Tryz.ntmps109 (Nat.le_of_ble_eq_true rfl) ?_
  repeat' (first | (refine zY.nil ?_) | (refine zZ.is ?_; first | refine zZ.seq ?_ | (refine zZ.isR (id := 0) ?_; refine zZ.rc [0, 1] [3] (r := (.m yD (.v zK (.v zK .e)))) (h := ?_)) | (refine zZ.isR (id := 1) ?_; refine zZ.dc [0, 3, 4, 5] [3] (r := (.v zV (.v zV (.v zH (.v zN (.v v30_6 (.v zK (.v zK .e)))))))) (q := .e) (h := ?_)) | refine zZ.ret ?_) | (refine zD.nil ?_))
  all_goals exact ⟨by first | exact .inl rfl | exact .inr rfl, _, Sub.refl _, .tupE rfl (by decide) (.cons (.tmp rfl) (.cons (.tmp rfl) .nil)) rfl⟩
theorem turn5_fn (old kind cell a b : Int) (d w : PV) : Fn Tryz.prog 110 [.val (.int .u64 old), .agg [.val (.int .i64 kind), .val (.int .i64 cell), .val (.int .u64 a), .val (.int .u64 b), d, w]] (.tup [.val (.int .u64 old), .val (.int .u64 (a))]) := by
  refine z8 Tryz.func110 rfl Tryz.ntmps110 (Nat.le_of_ble_eq_true rfl) ?_
  repeat' (first | (refine zY.nil ?_) | (refine zZ.is ?_; first | refine zZ.seq ?_ | (refine zZ.isR (id := 0) ?_; refine zZ.rc [0, 1] [3] (r := (.m yD (.v zK (.v zK .e)))) (h := ?_)) | (refine zZ.isR (id := 1) ?_; refine zZ.dc [0, 3, 4, 5] [3] (r := (.v zV (.v zH (.v zN (.v zK (.v zK .e)))))) (q := .e) (h := ?_)) | refine zZ.ret ?_) | (refine zD.nil ?_))
  all_goals exact ⟨by first | exact .inl rfl | exact .inr rfl, _, Sub.refl _, .tupE rfl (by decide) (.cons (.tmp rfl) (.cons (.tmp rfl) .nil)) rfl⟩
end Go.Proofs.YtmfbamiciieooaaGreatDoor
/- An access of a word: contracts. -/
namespace Go.Proofs.YtmfbamiciieooaaGreatDoor
set_option maxRecDepth 100000
set_option maxHeartbeats 16000000
open Go Go.RowKit
set_option linter.unusedSimpArgs false
attribute [local irreducible] zY zZ Step zX Sub zD zF Fn
def memV (t c : Int) (ws : List Int) : PV := .agg [.val (.int .i64 t), .val (.int .i64 c), .sl (wds ws)]
def resN (n : Int) : PV := .agg [.val (.int .u64 n), .val (.slice none 0 0), .val (.bool false)]
theorem turns_cells : ∀ e ∈ turnsL, e.cells.length = 2 := fun e he => by
  simp only [turnsL, List.mem_cons, List.not_mem_nil, or_false] at he
  rcases he with rfl | rfl | rfl | rfl | rfl <;> rfl
theorem wds_set (ws : List Int) (i : Nat) (x : Int) : (wds ws).set i (.val (.int .u64 x)) = wds (ws.set i x) := by simp [wds, List.map_set]
theorem wds_at {ws : List Int} {i : Nat} {x : Int} (h : ws[i]? = some x) : (wds ws)[i]? = some (.val (.int .u64 x)) := by simp [wds, h]
theorem set_same {ws : List Int} {i : Nat} {x : Int} (h : ws[i]? = some x) : ws.set i x = ws := by
  apply List.ext_getElem?
  intro j
  rw [List.getElem?_set]
  by_cases hj : i = j
  · subst hj
    have := (List.getElem?_eq_some_iff.1 h).1
    rw [if_pos rfl, if_pos this, h]
  · rw [if_neg hj]
theorem eq_of_nd {x y : Int} (h : (!decide (x = y)) = false) : x = y := by simpa using h
theorem turns_at {k : Nat} (hk : k ≤ 4) (old cell a b : Int) (d w : PV) : ∃ f, HasFn Tryz.prog f ∧ turnsL[k]? = some (.agg [.val (.int .i64 ((k : Nat) : Int)), .val (.func (.func f) #[] #[])]) ∧
    FnE Tryz.prog f [.p (.val (.int .u64 old)), .p (.agg [.val (.int .i64 ((k : Nat) : Int)), .val (.int .i64 cell), .val (.int .u64 a), .val (.int .u64 b), d, w])] [] (.ret (.tup ([.val (.int .u64 (turnR k old a b).1), .val (.int .u64 (turnR k old a b).2)].map .p))) [] := by
  have h5 : k = 0 ∨ k = 1 ∨ k = 2 ∨ k = 3 ∨ k = 4 := by omega
  rcases h5 with rfl | rfl | rfl | rfl | rfl
  · exact ⟨_, inferInstance, rfl, FnE.ofFnT (turn1_fn old 0 cell a b d w)⟩
  · exact ⟨_, inferInstance, rfl, FnE.ofFnT (turn2_fn old 1 cell a b d w)⟩
  · exact ⟨_, inferInstance, rfl, FnE.ofFnT (turn3_fn old 2 cell a b d w)⟩
  · exact ⟨_, inferInstance, rfl, FnE.ofFnT (turn4_fn old 3 cell a b d w)⟩
  · exact ⟨_, inferInstance, rfl, FnE.ofFnT (turn5_fn old 4 cell a b d w)⟩
theorem words_end {t c n n' : Int} {ws' : List Int} {W : List PV} (h1 : W = wds ws') (h2 : n = n') : [memV t c ws', resN n'] = [.agg [.val (.int .i64 t), .val (.int .i64 c), .sl W], .agg [.val (.int .u64 n), .val (.slice none 0 0), .val (.bool false)]] := by
  subst h1 h2
  rfl
def wordsS (t c kind a b old : Int) (i : Nat) (ws : List Int) (d : PV) (k : Nat) : AS :=
  { t := [(2, .ptr 2 0), (3, .ptr 3 0), (4, .ptr 4 0), (5, .ptr 5 0), (6, .p (.val (.int .u64 old))), (30, .p (.sl turnsL)), (31, .p (.val (.int .i64 5))), (32, .p (.val (.int .i64 (k : Nat))))],
    s := [(2, .box 26 [.p (.val (.int .i64 t)), .p (.val (.int .i64 c)), .p (.sl (wds ws))]), (3, .box 50 [.p (.val (.int .i64 kind)), .p (.val (.int .i64 i)), .p (.val (.int .u64 a)), .p (.val (.int .u64 b)), .p d, .p xQ]),
      (4, .box 26 [.p (.val (.int .i64 0)), .p (.val (.int .i64 0)), .p (.val (.slice none 0 0))]), (5, .box 55 [.p (.val (.int .u64 0)), .p (.val (.slice none 0 0)), .p (.val (.bool false))])] }
theorem words_fn (t c kd a b old : Int) (hkd : 0 ≤ kd ∧ kd ≤ 4) (i : Nat) (ws : List Int) (d : PV) (hi : ws[i]? = some old) (h1 : ws.length ≤ 1000000) :
    Fn Tryz.prog 36 [memV t c ws, accV kd i a b d] (.tup [memV t c (ws.set i (turnR kd old a b).2), resN (turnR kd old a b).1]) := by
  have hlt : i < ws.length := (List.getElem?_eq_some_iff.1 hi).1
  have g1 := wds_cells ws
  have g2 := turns_cells
  have g3 := wds_at hi
  have g4 : decide ((i : Int) < 0) = false := decide_eq_false (by omega)
  have g5 : decide (((wds ws).length : Int) ≤ (i : Int)) = false := decide_eq_false (by rw [vS]; omega)
  have g6 : (0 : Int) ≤ (i : Int) ∧ (i : Int) < (wds ws).length := by rw [vS]; omega
  have g7 : (i : Int).toNat < (wds ws).length := by rw [vS]; omega
  have c1 := cloneW_fn ws (by omega) h1
  refine z8 Tryz.func36 rfl Tryz.ntmps36 (Nat.le_of_ble_eq_true rfl) ?_
  repeat' (first | (refine zY.is ?_; first | refine zY.nil ?_ | (refine zY.at_ 31 rfl ?_; refine zY.rc (.v wO (.v zV .e)) ?_) | (refine zY.in_ [30] rfl ?_; refine zY.v rfl rfl (zL (turns_fn) rfl rfl rfl (by decide)) ?_)) | (refine zZ.is ?_; first | refine zZ.seq ?_ | (refine zZ.isR (id := 0) ?_; refine zZ.rc [0, 1] [2, 3, 4, 5, 8, 19, 30, 31, 46, 54] (r := (.m yD (.m yD (.m zS (.m zS .e))))) (h := ?_)) | (refine zZ.isR (id := 1) ?_; refine zZ.rc [2, 3, 4, 5] [2, 3, 4, 5, 8, 19, 30, 31, 46, 54] (r := (.v zH (.v zN (.v xY (.v zV (.gY zH (.gY zN (.gY zH (.gY zN (.gY wO (.gY vT (.v xC .e)))))))))))) (h := ?_)) | (refine zZ.isR (id := 3) ?_; refine zZ.rc [2, 3, 4, 5] [2, 3, 4, 5, 8, 19, 30, 31, 46, 54] (r := (.v zH (.v zN (.v zH (.v zN (.v v7_18 (.v v2_1 (.v zK .e)))))))) (h := ?_)) | (refine zZ.isR (id := 4) ?_; refine zZ.rc [2, 3, 4, 5, 6] [2, 3, 4, 5, 8, 19, 30, 31, 46, 54] (r := .e) (h := ?_)) | refine zZ.yH rfl bA ?_ | refine zZ.skip ?_ | refine zZ.block ?_))
  refine zZ.loop (wordsS t c kd a b old i ws d) (fun k => (k : Int) ≤ kd) (fun k => 5 - k) 0 ?h0 hkd.1 ?rd
  case h0 =>
    exact zT K_17 K_i
  case rd =>
    rintro k hk
    obtain ⟨f, hp, hT, hf⟩ := turns_at (k := k) (by omega) old i a b d xQ
    have g8 : (0 : Int) ≤ ((k : Nat) : Int) ∧ ((k : Nat) : Int) < turnsL.length := by show _ ∧ _ < (5 : Int); omega
    have g9 : turnsL[((k : Nat) : Int).toNat]? = some _ := hT
    have gl : decide (((k : Nat) : Int) < 5) = true := decide_eq_true (by omega)
    have gw : IntKind.i64.wrap (((k : Nat) : Int) + 1) = ((k + 1 : Nat) : Int) := by rw [wrap_i64 _ (by omega)]; omega
    by_cases hke : (k : Int) = kd
    case neg =>
      have gd : (!decide (((k : Nat) : Int) = kd)) = true := by simp; exact hke
      repeat' (first | (refine zY.nil ?_) | (refine zZ.is ?_; first | refine zZ.seq ?_ | (refine zZ.isR (id := 5) ?_; refine zZ.rc [2, 3, 4, 5, 6, 8, 9, 10, 30, 31, 32, 33, 40, 51] [2, 3, 4, 5, 8, 19, 30, 31, 46, 54] (r := (.v xY .e)) (h := ?_)) | (refine zZ.isR (id := 6) ?_; refine zZ.rc [2, 3, 4, 5, 6, 8, 9, 10, 30, 31, 32, 33, 40, 51] [2, 3, 4, 5, 8, 19, 30, 31, 46, 54] (r := (.v v7_18 (.v v2_7 (.m zS (.w zR .e))))) (h := ?_)) | (refine zZ.isR (id := 7) ?_; refine zZ.rc [2, 3, 4, 5, 6, 8, 9, 10, 30, 31, 32, 33, 40, 51] [2, 3, 4, 5, 8, 19, 30, 31, 46, 54] (r := (.v zH (.v zN (.v zH (.v zN (.v v42_0 .e)))))) (h := ?_)) | (refine zZ.isR (id := 13) ?_; refine zZ.rc [2, 3, 4, 5, 6, 8, 9, 10, 30, 31, 32, 33, 40, 51] [2, 3, 4, 5, 8, 19, 30, 31, 46, 54] (r := (.v wC (.v zV .e))) (h := ?_)) | refine zZ.yF rfl bA ?_ | refine zZ.skip ?_ | refine zZ.block ?_ | refine zZ.exit ?_) | refine zB.n ?_)
      refine ⟨k + 1, ?_, (by omega), by omega⟩
      exact zT K_17 K_i
    case pos =>
      subst hke
      have gx : (!decide (((k : Nat) : Int) = ((k : Nat) : Int))) = false := by simp
      repeat' (first | (refine zY.is ?_; first | refine zY.nil ?_ | (refine zY.at_ 41 rfl ?_; refine zY.rc (.v wQ (.v yV (.v yV (.v zK (.v zK .e))))) ?_) | (refine zY.at_ 55 rfl ?_; refine zY.rc (.v zH (.w w24_0 .e)) ?_) | (refine zY.in_ [54] rfl ?_; refine zY.m rfl rfl (w_callRowV c1 rfl rfl rfl (by decide)) ?_) | (refine zY.in_ [46] rfl ?_; refine zY.ofT rfl (zF.eR [] (hf) ?_))) | (refine zZ.is ?_; first | refine zZ.seq ?_ | (refine zZ.isR (id := 5) ?_; refine zZ.rc [2, 3, 4, 5, 6, 8, 9, 10, 30, 31, 32, 33, 40, 51] [2, 3, 4, 5, 8, 19, 30, 31, 46, 54] (r := (.v xY .e)) (h := ?_)) | (refine zZ.isR (id := 6) ?_; refine zZ.rc [2, 3, 4, 5, 6, 8, 9, 10, 30, 31, 32, 33, 40, 51] [2, 3, 4, 5, 8, 19, 30, 31, 46, 54] (r := (.v v7_18 (.v v2_7 (.m zS (.w zR .e))))) (h := ?_)) | (refine zZ.isR (id := 7) ?_; refine zZ.rc [2, 3, 4, 5, 6, 8, 9, 10, 30, 31, 32, 33, 40, 51] [2, 3, 4, 5, 8, 19, 30, 31, 46, 54] (r := (.v zH (.v zN (.v zH (.v zN (.v v42_0 .e)))))) (h := ?_)) | (refine zZ.isR (id := 8) ?_; refine zZ.rc [2, 3, 4, 5, 6, 8, 9, 10, 30, 31, 32, 33, 40, 51] [2, 3, 4, 5, 8, 19, 30, 31, 46, 54] (r := (.v zH (.v zN (.v zV (.v yU .e))))) (h := ?_)) | (refine zZ.isR (id := 9) ?_; refine zZ.rc [2, 3, 4, 5, 6, 8, 9, 10, 30, 31, 32, 33, 40, 51] [2, 3, 4, 5, 8, 19, 30, 31, 46, 54] (r := (.v zV (.v zV (.v v42_8 .e)))) (h := ?_)) | (refine zZ.isR (id := 10) ?_; refine zZ.rc [2, 3, 4, 5, 6, 8, 9, 10, 30, 31, 32, 33, 40, 51] [2, 3, 4, 5, 8, 19, 30, 31, 46, 54] (r := (.v zH (.v zN .e))) (h := ?_)) | (refine zZ.isR (id := 11) ?_; refine zZ.rc [2, 3, 4, 5, 6, 8, 9, 10, 30, 31, 32, 33, 40, 51] [2, 3, 4, 5, 8, 19, 30, 31, 46, 54] (r := (.v zH (.v v2_8 (.v zH (.v zN (.v zV (.v v7_38 (.w w24_1 .e)))))))) (h := ?_)) | (refine zZ.isR (id := 12) ?_; (first | refine zZ.sub (sub_frz (id := 54) rfl) ?_ | skip); refine zZ.rc [2, 3, 4, 5, 6, 8, 9, 10, 30, 31, 32, 33, 40, 51] [2, 3, 4, 5, 8, 19, 30, 31, 46, 54] (r := (.v yU (.v zV (.v y9 (.w zR (.w zR .e)))))) (h := ?_)) | refine zZ.yF rfl bA ?_ | refine zZ.yH rfl bA ?_ | refine zZ.cond rfl (fun h => ?_) (fun h => ?_) | refine zZ.skip ?_ | refine zZ.block ?_ | refine zZ.ret ?_) | refine zB.r ?_ | refine zP.r ?_)
      all_goals refine ⟨by first | exact .inl rfl | exact .inr rfl, _, Sub.refl _, .tupE (rs := [.cell 4 26, .cell 5 55]) rfl (by decide) (.cons (.cellN rfl rfl (by rfl) (by rfl)) (.cons (.cellN rfl rfl (by rfl) (by rfl)) .nil)) ?_⟩
      all_goals first
        | exact words_end (wds_set ws i _) rfl
        | exact words_end (congrArg wds (set_same (hi.trans (congrArg some (eq_of_nd h).symm))).symm) rfl
        | exact words_end (congrArg wds (set_same hi).symm) rfl
theorem wordsOut_fn (t c kd cell a b : Int) (ws : List Int) (d : PV) (hi : cell < 0 ∨ (ws.length : Int) ≤ cell) :
    Fn Tryz.prog 36 [memV t c ws, accV kd cell a b d] (.tup [memV t c ws, resN 0]) := by
  by_cases hn : cell < 0
  case pos =>
    have g4 : decide (cell < 0) = true := decide_eq_true hn
    refine z8 Tryz.func36 rfl Tryz.ntmps36 (Nat.le_of_ble_eq_true rfl) ?_
    repeat' (first | (refine zY.nil ?_) | (refine zZ.is ?_; first | refine zZ.seq ?_ | (refine zZ.isR (id := 0) ?_; refine zZ.rc [0, 1] [2, 3, 4, 5, 8, 19, 30, 31, 46, 54] (r := (.m yD (.m yD (.m zS (.m zS .e))))) (h := ?_)) | (refine zZ.isR (id := 1) ?_; refine zZ.rc [2, 3, 4, 5] [2, 3, 4, 5, 8, 19, 30, 31, 46, 54] (r := (.v zH (.v zN (.v xY (.v zV (.gF (.gF (.gF (.gF (.gF (.gF (.v y8 .e)))))))))))) (h := ?_)) | (refine zZ.isR (id := 2) ?_; refine zZ.rc [2, 3, 4, 5] [2, 3, 4, 5, 8, 19, 30, 31, 46, 54] (r := (.v yU (.v y9 (.w zR (.w zR .e))))) (h := ?_)) | refine zZ.yF rfl bA ?_ | refine zZ.ret ?_) | refine zB.r ?_)
    all_goals exact ⟨by first | exact .inl rfl | exact .inr rfl, _, Sub.refl _, .tupE (rs := [.cell 4 26, .cell 5 55]) rfl (by decide) (.cons (.cellN rfl rfl (by rfl) (by rfl)) (.cons (.cellN rfl rfl (by rfl) (by rfl)) .nil)) rfl⟩
  case neg =>
    have g4 : decide (cell < 0) = false := decide_eq_false hn
    have g5 : decide (((wds ws).length : Int) ≤ cell) = true := decide_eq_true (by rw [vS]; omega)
    refine z8 Tryz.func36 rfl Tryz.ntmps36 (Nat.le_of_ble_eq_true rfl) ?_
    repeat' (first | (refine zY.nil ?_) | (refine zZ.is ?_; first | refine zZ.seq ?_ | (refine zZ.isR (id := 0) ?_; refine zZ.rc [0, 1] [2, 3, 4, 5, 8, 19, 30, 31, 46, 54] (r := (.m yD (.m yD (.m zS (.m zS .e))))) (h := ?_)) | (refine zZ.isR (id := 1) ?_; refine zZ.rc [2, 3, 4, 5] [2, 3, 4, 5, 8, 19, 30, 31, 46, 54] (r := (.v zH (.v zN (.v xY (.v zV (.gY zH (.gY zN (.gY zH (.gY zN (.gY wO (.gY vT (.v xC .e)))))))))))) (h := ?_)) | (refine zZ.isR (id := 2) ?_; refine zZ.rc [2, 3, 4, 5] [2, 3, 4, 5, 8, 19, 30, 31, 46, 54] (r := (.v yU (.v y9 (.w zR (.w zR .e))))) (h := ?_)) | refine zZ.yF rfl bA ?_ | refine zZ.ret ?_) | refine zB.r ?_)
    all_goals exact ⟨by first | exact .inl rfl | exact .inr rfl, _, Sub.refl _, .tupE (rs := [.cell 4 26, .cell 5 55]) rfl (by decide) (.cons (.cellN rfl rfl (by rfl) (by rfl)) (.cons (.cellN rfl rfl (by rfl) (by rfl)) .nil)) rfl⟩
end Go.Proofs.YtmfbamiciieooaaGreatDoor
/- Worlds: streams and disks: contracts. -/
namespace Go.Proofs.YtmfbamiciieooaaGreatDoor
set_option maxRecDepth 100000
set_option maxHeartbeats 16000000
open Go Go.RowKit
set_option linter.unusedSimpArgs false
attribute [local irreducible] zY zZ Step zX Sub zD zF Fn
/-- a stream -/
def strV (d : List Int) (s : Int) : PV := .agg [.sl (byts d), .val (.int .i64 s)]
/-- streams, as a slice's elements; a disk -/
def strs (l : List (List Int × Int)) : List PV := l.map fun p => strV p.1 p.2
def wE (root : Int) (r0 r1 : List (List Int × Int)) : PV := .agg [.val (.int .u64 root), .sl (strs r0), .sl (strs r1)]
theorem wF (l : List (List Int × Int)) : (strs l).length = l.length := by simp [strs]
theorem vO (l : List (List Int × Int)) : ∀ e ∈ strs l, e.cells.length = 2 := fun e he => by
  obtain ⟨x, _, rfl⟩ := List.mem_map.1 he
  rfl
theorem strs_at {l : List (List Int × Int)} {i : Nat} {d : List Int} {s : Int} (h : l[i]? = some (d, s)) : (strs l)[i]? = some (strV d s) := by simp [strs, h]
theorem strs_set (l : List (List Int × Int)) (i : Nat) (d : List Int) (s : Int) : (strs l).set i (strV d s) = strs (l.set i (d, s)) := by simp [strs, List.map_set]
theorem isDisk_fn (k : Int) : Fn Tryz.prog 33 [.val (.int .i64 k)] (.p (.val (.bool (decide (5 ≤ k) && decide (k ≤ 12))))) := by
  refine z8 Tryz.func33 rfl Tryz.ntmps33 (Nat.le_of_ble_eq_true rfl) ?_
  repeat' (first | (refine zY.is ?_; first | refine zY.nil ?_ | (refine zY.at_ 6 rfl ?_; refine zY.rc (.gY zV (.gY v44_8 (.v y8 (.v zK .e)))) ?_) | (refine zY.at_ 6 rfl ?_; refine zY.rc (.gT (.gT (.v xC (.v zK .e)))) ?_) | (fail_if_success refine zY.known rfl rfl rfl (by fail) ?_); refine zY.split rfl rfl rfl (fun h => ?_) (fun h => ?_)) | (refine zZ.is ?_; first | refine zZ.seq ?_ | (refine zZ.isR (id := 0) ?_; refine zZ.rc [0] [] (r := (.v zK .e)) (h := ?_)) | (refine zZ.isR (id := 1) ?_; refine zZ.rc [0, 2] [] (r := (.v zV (.v v46_8 (.v zV .e)))) (h := ?_)) | refine zZ.ret ?_))
  · rw [h, Bool.true_and]
    exact ⟨by first | exact .inl rfl | exact .inr rfl, _, Sub.refl _, .p rfl (.tmp rfl)⟩
  · rw [h, Bool.false_and]
    exact ⟨by first | exact .inl rfl | exact .inr rfl, _, Sub.refl _, .p rfl (.tmp rfl)⟩
theorem row_fn (root : Int) (r0 r1 : PV) (h0 : 0 ≤ root) : Fn Tryz.prog 66 [.agg [.val (.int .u64 root), r0, r1]] (.p (.val (.int .i64 (root % 2)))) := by
  refine z8 Tryz.func66 rfl Tryz.ntmps66 (Nat.le_of_ble_eq_true rfl) ?_
  repeat' (first | (refine zY.nil ?_) | (refine zZ.is ?_; first | refine zZ.seq ?_ | (refine zZ.isR (id := 0) ?_; refine zZ.rc [0] [1] (r := (.m yD (.v zK .e))) (h := ?_)) | (refine zZ.isR (id := 1) ?_; refine zZ.rc [1, 2] [1] (r := (.v zH (.v zN (.v v34_3 (.v v6_6 (.v zK .e)))))) (h := ?_)) | refine zZ.ret ?_))
  have e : IntKind.i64.wrap (root.tmod 2) = root % 2 := by
    have h1 : root.tmod 2 = root % 2 := Int.tmod_eq_emod_of_nonneg h0
    have h2 := Int.emod_nonneg root (show (2 : Int) ≠ 0 by decide)
    have h3 := Int.emod_lt_of_pos root (show (0 : Int) < 2 by decide)
    rw [h1]
    rcases (show root % 2 = 0 ∨ root % 2 = 1 by omega) with h | h <;> rw [h] <;> rfl
  all_goals exact ⟨by first | exact .inl rfl | exact .inr rfl, _, Sub.refl _, .p rfl (.tmp (by rw [← e]; rfl))⟩
theorem strApp_fn (d b : List Int) (s : Int) (h : d.length + b.length ≤ 100000000) : Fn Tryz.prog 102 [strV d s, .sl (byts b)] (.p (strV (d ++ b) s)) := by
  refine z8 Tryz.func102 rfl Tryz.ntmps102 (Nat.le_of_ble_eq_true rfl) ?_
  repeat' (first | (refine zY.nil ?_) | (refine zZ.is ?_; first | refine zZ.seq ?_ | (refine zZ.isR (id := 0) ?_; refine zZ.rc [0, 1] [2, 4] (r := (.m yD (.m zS .e))) (h := ?_)) | (refine zZ.isR (id := 1) ?_; refine zZ.rc [1, 2, 4] [2, 4] (r := (.v zH (.v zN (.v v57_0 (.v zK .e))))) (h := ?_)) | (refine zZ.isR (id := 2) ?_; refine zZ.rc [1, 2, 4, 5] [2, 4] (r := (.v zH (.v zN (.v zV (.v zV .e))))) (h := ?_))))
  refine zY.appTight (es := byts d) (bs := byts b) rfl rfl rfl rfl rfl rfl rfl rfl rfl rfl rfl rfl ?_ ?_ rfl (by decide) rfl (by decide) (by decide) (by decide) (byts_one d) (byts_one b) ?_ rfl (by decide) ?_
  · rw [qX]
  · rw [qX]
  · rw [qX, qX]
    simp only [maxLen]
    omega
  rw [show byts d ++ byts b = byts (d ++ b) by simp [byts]]
  repeat' (first | (refine zY.is ?_; first | refine zY.nil ?_ | (refine zY.at_ 16 rfl ?_; refine zY.rc (.v zH (.w zR .e)) ?_)) | (refine zZ.is ?_; first | refine zZ.seq ?_ | (refine zZ.isR (id := 3) ?_; refine zZ.rc [2, 4] [2, 4] (r := (.v yU (.w zR .e))) (h := ?_)) | refine zZ.ret ?_))
  all_goals exact ⟨by first | exact .inl rfl | exact .inr rfl, _, Sub.refl _, .p (r := .cell 4 68) rfl (.cellN rfl rfl (by rfl) (by rfl))⟩
theorem strSync_fn (d : List Int) (s : Int) : Fn Tryz.prog 103 [strV d s] (.p (strV d d.length)) := by
  refine z8 Tryz.func103 rfl Tryz.ntmps103 (Nat.le_of_ble_eq_true rfl) ?_
  repeat' (first | (refine zY.nil ?_) | (refine zZ.is ?_; first | refine zZ.seq ?_ | (refine zZ.isR (id := 0) ?_; refine zZ.rc [0] [1, 2] (r := (.m yD (.m zS .e))) (h := ?_)) | (refine zZ.isR (id := 1) ?_; refine zZ.rc [1, 2] [1, 2] (r := (.v zH (.v zN (.v v57_0 (.v zH (.w zR .e)))))) (h := ?_)) | (refine zZ.isR (id := 2) ?_; refine zZ.rc [1, 2] [1, 2] (r := (.v yU (.w zR .e))) (h := ?_)) | refine zZ.ret ?_))
  all_goals exact ⟨by first | exact .inl rfl | exact .inr rfl, _, Sub.refl _, .p (r := .cell 2 68) rfl (.cellN rfl rfl (by rfl) (by rfl))⟩
theorem cloneS_fn (l : List (List Int × Int)) (h0 : 1 ≤ l.length) (h1 : l.length ≤ 1000000) : Fn Tryz.prog 124 [.sl (strs l)] (.row 68 2 (strs l).length (flat (strs l))) := by
  have g1 := vO l
  have g2 : strs l ≠ [] := fun e => by have := congrArg List.length e; rw [wF, List.length_nil] at this; omega
  have g3 := grow_lim (strs l).length 32 (by rw [wF]; exact h1) (by decide)
  refine z8 Tryz.func124 rfl Tryz.ntmps124 (Nat.le_of_ble_eq_true rfl) ?_
  repeat' (first | (refine zY.nil ?_) | (refine zZ.is ?_; first | refine zZ.seq ?_ | (refine zZ.isR (id := 0) ?_; refine zZ.rc [0] [2, 5] (r := (.v zK .e)) (h := ?_)) | (refine zZ.isR (id := 1) ?_; refine zZ.rc [0, 2] [2, 5] (r := (.v zV (.v v41_41 .e))) (h := ?_)) | (refine zZ.isR (id := 3) ?_; refine zZ.rc [0, 2] [2, 5] (r := (.m m20_0 (.v zV (.w w55_2 (.v v1_1 .e))))) (h := ?_)) | refine zZ.yH rfl bA ?_ | refine zZ.skip ?_ | refine zZ.ret ?_))
  all_goals exact ⟨by first | exact .inl rfl | exact .inr rfl, givesRowV rfl rfl rfl⟩
end Go.Proofs.YtmfbamiciieooaaGreatDoor
/- Disks: a stream turned: contracts. -/
namespace Go.Proofs.YtmfbamiciieooaaGreatDoor
set_option maxRecDepth 100000
set_option maxHeartbeats 16000000
open Go Go.RowKit
set_option linter.unusedSimpArgs false
attribute [local irreducible] zY zZ Step zX Sub zD zF Fn
theorem appendC_fn (d bs : List Int) (s : Int) (h : d.length + bs.length ≤ 100000000) : FnE Tryz.prog 101 ([strV d s].map AV.p ++ [.ptr 1000 0]) [.box 22 [.p (.sl (byts bs))]] (.ret (.p (strV (d ++ bs) s))) [.box 22 [.p (.sl (byts bs))]] := by
  have c := strApp_fn d bs s h
  refine fn_ofE Tryz.func101 rfl Tryz.ntmps101 (Nat.le_of_ble_eq_true rfl) (by decide) ?_
  repeat' (first | (refine zY.is ?_; first | refine zY.nil ?_ | refine zY.rc (.w zR .e) ?_ | (refine zY.in_ [6] rfl ?_; refine zY.v rfl rfl (zL (c) rfl rfl rfl (by decide)) ?_)) | (refine zZ.is ?_; first | refine zZ.seq ?_ | (refine zZ.isR (id := 0) ?_; refine zZ.rc [0, 1] [2, 3, 1000] (r := (.m yD (.m zS .e))) (h := ?_)) | (refine zZ.isR (id := 1) ?_; refine zZ.rc [1, 2, 3] [2, 3, 1000] (r := (.v yU (.v zN .e))) (h := ?_)) | refine zZ.ret ?_))
  all_goals exact ⟨(by exact .inl rfl), _, Sub.refl _, .p (r := .cell 3 68) rfl (.cellN rfl rfl (by rfl) (by rfl)), wL (by repeat' first | exact trivial | rfl | constructor)⟩
theorem is0_fn (root : Int) (r0 r1 : List (List Int × Int)) (i : Nat) (hi : i < r0.length) : Fn Tryz.prog 104 [wE root r0 r1, .val (.int .i64 0), .val (.int .i64 i)] (.p (.val (.bool true))) := by
  have g1 : decide ((0 : Int) ≤ i) = true := decide_eq_true (by omega)
  have g2 : decide ((i : Int) < (strs r0).length) = true := decide_eq_true (by rw [wF]; omega)
  refine z8 Tryz.func104 rfl Tryz.ntmps104 (Nat.le_of_ble_eq_true rfl) ?_
  repeat' (first | (refine zY.nil ?_) | (refine zZ.is ?_; first | refine zZ.seq ?_ | (refine zZ.isR (id := 0) ?_; refine zZ.rc [0, 1, 2] [3] (r := (.m yD (.v zK .e))) (h := ?_)) | (refine zZ.isR (id := 1) ?_; refine zZ.rc [1, 2, 3, 6] [3] (r := (.v zV (.v v46_4 (.v zV (.gY zV (.gY v43_4 (.v y8 (.v zV (.gY zV (.gY vT (.v y8 (.v zV (.gY zV (.gY zV (.gY zH (.gY wY (.gY zN (.gY wO (.gY xY (.v y8 (.v zK .e))))))))))))))))))))) (h := ?_)) | refine zZ.ret ?_))
  all_goals exact ⟨by first | exact .inl rfl | exact .inr rfl, _, Sub.refl _, .p rfl (.tmp rfl)⟩
theorem turnA0_fn (root : Int) (r0 r1 : List (List Int × Int)) (i : Nat) (d : List Int) (s : Int) (bs : List Int) (hi : r0[i]? = some (d, s)) (h1 : r0.length ≤ 1000000) (h2 : d.length + bs.length ≤ 100000000) :
    FnE Tryz.prog 100 [.p (wE root r0 r1), .p (.val (.int .i64 0)), .p (.val (.int .i64 i)), .clo 101 [1000]] [.box 22 [.p (.sl (byts bs))]] (.ret (.tup [.p (wE root (r0.set i (d ++ bs, s)) r1), .p (.val (.int .i64 0))])) [.box 22 [.p (.sl (byts bs))]] := by
  have hlt : i < r0.length := (List.getElem?_eq_some_iff.1 hi).1
  have g1 := vO r0
  have g3 := strs_at hi
  have g6 : (0 : Int) ≤ (i : Int) ∧ (i : Int) < (strs r0).length := by rw [wF]; omega
  have g7 : (i : Int).toNat < (strs r0).length := by rw [wF]; omega
  have c0 := is0_fn root r0 r1 i hlt
  have c1 := cloneS_fn r0 (by omega) h1
  have e : wE root (r0.set i (d ++ bs, s)) r1 = .agg [.val (.int .u64 root), .sl ((strs r0).set (i : Int).toNat (strV (d ++ bs) s)), .sl (strs r1)] := by simp [wE, strs_set]
  have c2 := appendC_fn d bs s h2
  refine fn_ofE Tryz.func100 rfl Tryz.ntmps100 (Nat.le_of_ble_eq_true rfl) (by decide) ?_
  repeat' (first | (refine zY.is ?_; first | refine zY.nil ?_ | (refine zY.at_ 14 rfl ?_; refine zY.rc (.v qI .e) ?_) | (refine zY.at_ 22 rfl ?_; refine zY.rc (.v zH (.v wY (.w w24_0 .e))) ?_) | (refine zY.in_ [13] rfl ?_; refine zY.v rfl rfl (zL (c0) rfl rfl rfl (by decide)) ?_) | (refine zY.in_ [21] rfl ?_; refine zY.m rfl rfl (w_callRowV c1 rfl rfl rfl (by decide)) ?_)) | (refine zZ.is ?_; first | refine zZ.seq ?_ | (refine zZ.isR (id := 0) ?_; refine zZ.rc [0, 1, 2, 3] [4, 8, 13, 21, 37, 1000] (r := (.m yD (.m zS (.v zK .e)))) (h := ?_)) | (refine zZ.isR (id := 1) ?_; refine zZ.rc [1, 2, 3, 4, 8, 9] [4, 8, 13, 21, 37, 1000] (r := (.v yU (.v zV (.v zV .e)))) (h := ?_)) | (refine zZ.isR (id := 3) ?_; refine zZ.rc [1, 2, 3, 4, 8, 9] [4, 8, 13, 21, 37, 1000] (r := (.v zV (.v zV (.v zH (.v wY (.v zN .e)))))) (h := ?_)) | (refine zZ.isR (id := 4) ?_; refine zZ.rk [1, 2, 3, 4, 8, 9] [4, 8, 13, 21, 37, 1000] ?_; refine zZ.draws ?_) | (refine zZ.isR (id := 5) ?_; (refine zZ.sub (sub_frz (id := 21) rfl) ?_); refine zZ.rc [4, 8, 9] [4, 8, 13, 21, 37, 1000] (r := (.v yU (.w zR (.v zK .e)))) (h := ?_)) | refine zZ.yH rfl bA ?_ | refine zZ.skip ?_ | refine zZ.ret ?_) | (refine Draws.is ?_; first | refine Draws.rc (.v zV (.v zH (.v wY (.v v2_8 (.v zV (.v xJ (.v zV (.v zH (.v wY (.v v2_8 (.v zV (.v v7_38 (.v v2_14 .e))))))))))))) ?_ | refine Draws.rc (.v v7_38 .e) ?_ | (refine Draws.in_ [37] rfl ?_; refine Draws.v rfl rfl (w_callClo (c2) rfl rfl rfl rfl rfl rfl rfl (by decide)) ?_) | refine Draws.done (by kernel_rfl) (by kernel_rfl) (by kernel_rfl) ?_) | (refine zD.is ?_; first | refine zD.nil ?_ | refine zD.rc (.w w24_1 .e) ?_))
  rw [e]
  all_goals exact ⟨(by exact .inl rfl), _, Sub.refl _, .tup (rs := [.cell 8 31, .tmp 9]) (l := [.agg [.val (.int .u64 root), .sl ((strs r0).set (i : Int).toNat (strV (d ++ bs) s)), .sl (strs r1)], .val (.int .i64 0)]) rfl (by decide) (.cons (.cellN rfl rfl (by rfl) (by rfl)) (.cons (.tmp rfl) .nil)), wL (by repeat' first | exact trivial | rfl | constructor)⟩
theorem turnS0_fn (root : Int) (r0 r1 : List (List Int × Int)) (i : Nat) (d : List Int) (s : Int) (hi : r0[i]? = some (d, s)) (h1 : r0.length ≤ 1000000) :
    Fn Tryz.prog 100 [wE root r0 r1, .val (.int .i64 0), .val (.int .i64 i), .val (funV 103)] (.tup [wE root (r0.set i (d, d.length)) r1, .val (.int .i64 0)]) := by
  have hlt : i < r0.length := (List.getElem?_eq_some_iff.1 hi).1
  have g1 := vO r0
  have g3 := strs_at hi
  have g6 : (0 : Int) ≤ (i : Int) ∧ (i : Int) < (strs r0).length := by rw [wF]; omega
  have g7 : (i : Int).toNat < (strs r0).length := by rw [wF]; omega
  have c0 := is0_fn root r0 r1 i hlt
  have c1 := cloneS_fn r0 (by omega) h1
  have e : wE root (r0.set i (d, d.length)) r1 = .agg [.val (.int .u64 root), .sl ((strs r0).set (i : Int).toNat (strV d d.length)), .sl (strs r1)] := by simp [wE, strs_set]
  have c2 := strSync_fn d s
  refine z8 Tryz.func100 rfl Tryz.ntmps100 (Nat.le_of_ble_eq_true rfl) ?_
  repeat' (first | (refine zY.is ?_; first | refine zY.nil ?_ | (refine zY.at_ 14 rfl ?_; refine zY.rc (.v qI .e) ?_) | (refine zY.at_ 22 rfl ?_; refine zY.rc (.v zH (.v wY (.w w24_0 .e))) ?_) | (refine zY.in_ [13] rfl ?_; refine zY.v rfl rfl (zL (c0) rfl rfl rfl (by decide)) ?_) | (refine zY.in_ [21] rfl ?_; refine zY.m rfl rfl (w_callRowV c1 rfl rfl rfl (by decide)) ?_)) | (refine zZ.is ?_; first | refine zZ.seq ?_ | (refine zZ.isR (id := 0) ?_; refine zZ.rc [0, 1, 2, 3] [4, 8, 13, 21, 37] (r := (.m yD (.m zS (.v zK .e)))) (h := ?_)) | (refine zZ.isR (id := 1) ?_; refine zZ.rc [1, 2, 3, 4, 8, 9] [4, 8, 13, 21, 37] (r := (.v yU (.v zV (.v zV .e)))) (h := ?_)) | (refine zZ.isR (id := 3) ?_; refine zZ.rc [1, 2, 3, 4, 8, 9] [4, 8, 13, 21, 37] (r := (.v zV (.v zV (.v zH (.v wY (.v zN .e)))))) (h := ?_)) | (refine zZ.isR (id := 4) ?_; refine zZ.rk [1, 2, 3, 4, 8, 9] [4, 8, 13, 21, 37] ?_; refine zZ.draws ?_) | (refine zZ.isR (id := 5) ?_; (refine zZ.sub (sub_frz (id := 21) rfl) ?_); refine zZ.rc [4, 8, 9] [4, 8, 13, 21, 37] (r := (.v yU (.w zR (.v zK .e)))) (h := ?_)) | refine zZ.yH rfl bA ?_ | refine zZ.skip ?_ | refine zZ.ret ?_) | (refine Draws.is ?_; first | refine Draws.rc (.v zV (.v zH (.v wY (.v v2_8 (.v zV (.v zV (.v zV (.v zH (.v wY (.v v2_8 (.v zV (.v v7_38 (.v v2_14 .e))))))))))))) ?_ | refine Draws.rc (.v v7_38 .e) ?_ | (refine Draws.in_ [37] rfl ?_; refine Draws.v rfl rfl (w_callFV (c2) rfl rfl rfl rfl (by decide)) ?_) | refine Draws.done (by kernel_rfl) (by kernel_rfl) (by kernel_rfl) ?_) | (refine zD.is ?_; first | refine zD.nil ?_ | refine zD.rc (.w w24_1 .e) ?_))
  rw [e]
  all_goals exact ⟨(by exact .inl rfl), _, Sub.refl _, .tup (rs := [.cell 8 31, .tmp 9]) (l := [.agg [.val (.int .u64 root), .sl ((strs r0).set (i : Int).toNat (strV d d.length)), .sl (strs r1)], .val (.int .i64 0)]) rfl (by decide) (.cons (.cellN rfl rfl (by rfl) (by rfl)) (.cons (.tmp rfl) .nil))⟩
theorem diskApp0_fn (root : Int) (r0 r1 : List (List Int × Int)) (i : Nat) (d : List Int) (s : Int) (bs : List Int) (hi : r0[i]? = some (d, s)) (h1 : r0.length ≤ 1000000) (h2 : d.length + bs.length ≤ 100000000) :
    Fn Tryz.prog 67 [wE root r0 r1, .val (.int .i64 0), .val (.int .i64 i), .sl (byts bs)] (.tup [wE root (r0.set i (d ++ bs, s)) r1, .val (.int .i64 0)]) := by
  refine z8 Tryz.func67 rfl Tryz.ntmps67 (Nat.le_of_ble_eq_true rfl) ?_
  repeat' (first | (refine zY.is ?_; first | refine zY.nil ?_ | (refine zY.at_ 15 rfl ?_; refine zY.rc (.v yV (.v yV (.w zR (.v zK .e)))) ?_) | (refine zY.in_ [14] rfl ?_; refine zY.ofT rfl (zF.eR [7] (turnA0_fn root r0 r1 i d s bs hi h1 h2) ?_))) | (refine zZ.is ?_; first | refine zZ.seq ?_ | (refine zZ.isR (id := 0) ?_; refine zZ.rc [0, 1, 2, 3] [4, 7, 8] (r := (.m yD (.m m18_2 (.m zS (.v zK .e))))) (h := ?_)) | (refine zZ.isR (id := 1) ?_; refine zZ.rc [1, 2, 4, 7, 8, 9] [4, 7, 8] (r := (.v yU (.v zV (.v zV (.v v14_0 .e))))) (h := ?_)) | refine zZ.ret ?_))
  all_goals exact ⟨(by exact .inl rfl), _, Sub.refl _, .tup (rs := [.cell 8 31, .tmp 9]) (l := [wE root (r0.set i (d ++ bs, s)) r1, .val (.int .i64 0)]) rfl (by decide) (.cons (.cellN rfl rfl (by rfl) (by rfl)) (.cons (.tmp rfl) .nil))⟩
theorem diskSync0_fn (root : Int) (r0 r1 : List (List Int × Int)) (i : Nat) (d : List Int) (s : Int) (hi : r0[i]? = some (d, s)) (h1 : r0.length ≤ 1000000) :
    Fn Tryz.prog 68 [wE root r0 r1, .val (.int .i64 0), .val (.int .i64 i)] (.tup [wE root (r0.set i (d, d.length)) r1, .val (.int .i64 0)]) := by
  refine z8 Tryz.func68 rfl Tryz.ntmps68 (Nat.le_of_ble_eq_true rfl) ?_
  repeat' (first | (refine zY.is ?_; first | refine zY.nil ?_ | (refine zY.at_ 12 rfl ?_; refine zY.rc (.v yV (.v yV (.w zR (.v zK .e)))) ?_) | (refine zY.in_ [11] rfl ?_; refine zY.v rfl rfl (yS (turnS0_fn root r0 r1 i d s hi h1) rfl rfl rfl (by decide)) ?_)) | (refine zZ.is ?_; first | refine zZ.seq ?_ | (refine zZ.isR (id := 0) ?_; refine zZ.rc [0, 1, 2] [3, 6] (r := (.m yD (.m zS (.v zK .e)))) (h := ?_)) | (refine zZ.isR (id := 1) ?_; refine zZ.rc [1, 2, 3, 6, 7] [3, 6] (r := (.v yU (.v zV (.v zV .e)))) (h := ?_)) | refine zZ.ret ?_))
  all_goals exact ⟨(by exact .inl rfl), _, Sub.refl _, .tup (rs := [.cell 6 31, .tmp 7]) (l := [wE root (r0.set i (d, d.length)) r1, .val (.int .i64 0)]) rfl (by decide) (.cons (.cellN rfl rfl (by rfl) (by rfl)) (.cons (.tmp rfl) .nil))⟩
end Go.Proofs.YtmfbamiciieooaaGreatDoor
