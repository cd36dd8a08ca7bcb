/- ALONE: records of keys that are told are searched for, linked where the search says, marked, and searched for again: the list is the keys that are in, rising (Part 6 of 8.) -/
import Derived.Test.YteadaggehndacaaDoorLo5
import Derived.Scope
import Derived.Recover
/- A region that draws its order, walked in each order that may be; what reads and writes registers alone comes first. Generic over the program. -/
namespace Go.Proofs.YteadaggehndacaaDoor
set_option maxRecDepth 100000
set_option maxHeartbeats 16000000
open Go Go.RowKit
set_option linter.unusedSimpArgs false
set_option linter.unusedVariables false
/-- what is said where it panics is not of the slots -/
class PanK (K : Exit → AS → Prop) : Prop where
  h : ∀ S, K (.panic []) S → K (.panic []) { S with t := [] }
instance {next : AS → Prop} {K : Exit → AS → Prop} [h : PanK K] : PanK (zS next K) := ⟨fun S hk => h.h S hk⟩
instance {id : Nat} {K : Exit → AS → Prop} [h : PanK K] : PanK (yA id K) := ⟨fun S hk => h.h S hk⟩
instance {P : Program} {fn : Func} {ev : EV} {B : List Blk} : PanK (EndE P fn ev B) := ⟨fun S hk => by
  cases ev with
  | ret x => rcases hk.1 with h | h <;> cases h
  | pan x => exact hk⟩
instance {G : AS → Prop} : PanK (fun e S => (e = .ret ∨ e = .normal) ∧ G S) := ⟨fun S hk => by rcases hk.1 with h | h <;> cases h⟩
theorem Sat.bareT {M : Nat → Nat → Prop} {n : Nat} {w0 : Home} {S : AS} {ρ : Nat → Value} {a : Act} {d : Option Nat} {v : Value} {w : World} (h : Sat M n w0 S ρ (a.put d v) w) : Sat M n w0 { S with t := [] } ρ a w where
  below := h.below
  out := h.out
  tab := h.tab
  size := by
    have := h.size
    cases d <;> simpa [Act.put] using this
  defers := by
    have := h.defers
    cases d <;> simpa [Act.put] using this
  tmps := fun i => .any _
  blks := h.blks
  mine := h.mine
  fix := h.fix
  free := h.free
  dist := h.dist
/-- the ways out -/
def QK (M : Nat → Nat → Prop) (n : Nat) (w0 : Home) (K : Exit → AS → Prop) (e : Exit) (a : Act) (w : World) : Prop := ∃ S ρ, K (bare e) S ∧ Sat M n w0 S ρ a w ∧ ExOK M S ρ w e
/-- these are done; the others in each order that may be -/
def DGo (P : Program) (n : Nat) (l : List Oper) (K : Exit → AS → Prop) (fu : Nat) (done : List Nat) (S : AS) : Prop :=
  ∀ (M : Nat → Nat → Prop) (w0 : Home) (ρ : Nat → Value) (a : Act) (w : World) (listed : Array Bool), listed.size = l.length → (∀ i, listed.getD i false = done.contains i) → Sat M n w0 S ρ a w → wpAny P .any l.toArray (QK M n w0 K) fu listed a w
/-- this one is next -/
def zU (P : Program) (n : Nat) (l : List Oper) (K : Exit → AS → Prop) (fu : Nat) (done : List Nat) (S : AS) (i : Nat) : Prop :=
  ∀ (M : Nat → Nat → Prop) (w0 : Home) (ρ : Nat → Value) (a : Act) (w : World) (listed : Array Bool), listed.size = l.length → i < l.length → (∀ i, listed.getD i false = done.contains i) → Sat M n w0 S ρ a w →
    wpOp P l.toArray (QK M n w0 K) i (wpAny P .any l.toArray (QK M n w0 K) fu (listed.setIfInBounds i true)) a w
/-- the operation's value hangs on its operands alone -/
def FStep (P : Program) (n : Nat) (o : Oper) (S : AS) (av : AV) : Prop :=
  ∀ (M : Nat → Nat → Prop) (w0 : Home) (ρ : Nat → Value) (a : Act) (w : World), Sat M n w0 S ρ a w → ∃ v, (∀ w', (execOp a.eval o).run P w' = .ok (.value v) w') ∧ yE (Mut M S ρ) ρ w av v
def noSel (l : List Oper) : Bool := l.all fun o => match o.op with
  | .select _ _ => false
  | _ => true
/-- what is left hangs on it, or keeps apart from it -/
def freeB (l : List Oper) (done : List Nat) (i : Nat) : Bool := match l[i]? with
  | some o => noSel l && !done.contains i && o.guard.isNone && (o.after.toList.all fun e => !Region.binds .any e || done.contains e.on) && ((List.range l.length).all fun j => j == i || done.contains j || (match l[j]? with
    | some q => q.after.toList.any (fun e => Region.binds .any e && e.on == i) || o.apart l.toArray q
    | none => true))
  | none => false
theorem listed_step {l : List Oper} {listed : Array Bool} {done : List Nat} {i : Nat} (hz : listed.size = l.length) (hil : i < l.length) (hl : ∀ i, listed.getD i false = done.contains i) (k : Nat) : (listed.setIfInBounds i true).getD k false = (i :: done).contains k := by
  simp only [Array.getD_eq_getD_getElem?, Array.getElem?_setIfInBounds, List.contains_cons]
  by_cases hik : i = k
  · subst hik
    simp [hz, hil]
  · have : (k == i) = false := by simpa using fun e => hik e.symm
    rw [if_neg hik, this, Bool.false_or, ← hl k, Array.getD_eq_getD_getElem?]
section
variable {P : Program} {n : Nat} {l : List Oper} {K : Exit → AS → Prop} {fu : Nat} {done : List Nat} {S S1 : AS} {i d : Nat} {o : Oper}
theorem DGo.at_ (k : List Nat) (h : DGo P n l K fu k S) : DGo P n l K fu k S := h
theorem DGo.fin (hr : (readyD l done).isEmpty = true) (h : K .normal S) : DGo P n l K fu done S := by
  intro M w0 ρ a w listed hz hl hs
  have hq : QK M n w0 K .normal a w := ⟨S, ρ, h, hs, trivial⟩
  have hno : ∀ j, j ∉ Region.ready .any l.toArray listed := fun j hj => by
    have := (kD hz hl j).1 hj
    rw [List.isEmpty_iff.1 hr] at this
    simp at this
  cases fu with
  | zero => exact ⟨List.eq_nil_iff_forall_not_mem.2 hno, hq⟩
  | succ fu => exact ⟨fun _ => hq, fun j hj => absurd hj (hno j)⟩
theorem DGo.all (is : List Nat) (hr : (readyD l done == is && !is.isEmpty) = true) (h : zP (zU P n l K fu done S) is) : DGo P n l K (fu + 1) done S := by
  rw [Bool.and_eq_true, beq_iff_eq] at hr
  obtain ⟨rfl, hne⟩ := hr
  intro M w0 ρ a w listed hz hl hs
  refine ⟨fun hnil => ?_, fun j hj => ?_⟩
  · cases hd : readyD l done with
    | nil => rw [hd] at hne; cases hne
    | cons j r =>
      have := (kD hz hl j).2 (by rw [hd]; simp)
      rw [hnil] at this
      simp at this
  · have hj' := (kD hz hl j).1 hj
    exact h.all j hj' M w0 ρ a w listed hz (xE hj).1 hl hs
theorem DGo.free [hp : PanK K] (i : Nat) {av : AV} (hf : freeB l done i = true) (ho : l[i]? = some o) (hd : o.dst = some d) (hn : d < n) (h : FStep P n o S av) (hr : DGo P n l K fu (i :: done) (S.put d av)) : DGo P n l K (fu + 1) done S := by
  intro M w0 ρ a w listed hz hl hs
  unfold freeB at hf
  rw [ho] at hf
  simp only [Bool.and_eq_true, Bool.not_eq_true', List.all_eq_true, List.mem_range, Bool.or_eq_true, beq_iff_eq] at hf
  obtain ⟨⟨⟨⟨hsel, hnd⟩, hg⟩, hrd⟩, hap⟩ := hf
  have hil : i < l.length := (List.getElem?_eq_some_iff.1 ho).1
  obtain ⟨v, hv, hrep⟩ := h M w0 ρ a w hs
  have hg' : o.guard = none := by simpa using hg
  have key := wpAny_first (P := P) (md := .any) (ops := l.toArray) (Q := QK M n w0 K) (i := i) (oi := o) (v := v) (by simpa using ho) (fun j q cs b hj e => by
      have hq : q ∈ l := List.mem_of_getElem? (by simpa using hj)
      have := List.all_eq_true.1 hsel q hq
      rw [e] at this
      cases this)
    (fun c a' w' ⟨S', ρ', h1, h2, h3⟩ => ⟨{ S' with t := [] }, ρ', hp.h S' h1, h2.bareT, by
      obtain ⟨u, hu, hx⟩ := h3
      exact ⟨u, hu, hx⟩⟩) fu listed a w
  refine key (fun j q hj hji hlj hno => ?_) ?_ (.inl ⟨by simp [Region.wanted, hg'], hv⟩) ?_
  · have hjl : j < l.length := by
      have := (Array.getElem?_eq_some_iff.1 hj).1
      simpa using this
    have hj' : l[j]? = some q := by simpa using hj
    rcases hap j hjl with (h1 | h1) | h1
    · exact absurd h1 hji
    · rw [← hl j] at h1
      have : listed.getD j true = true := by
        have hlt : j < listed.size := by rw [hz]; exact hjl
        simp only [Array.getD_eq_getD_getElem?, Array.getElem?_eq_getElem hlt, Option.getD_some] at h1 ⊢
        exact h1
      rw [this] at hlj
      cases hlj
    · rw [hj'] at h1
      simp only [Bool.or_eq_true, List.any_eq_true, Bool.and_eq_true, beq_iff_eq] at h1
      rcases h1 with ⟨e, he, hb, hon⟩ | h1
      · exact absurd hon (hno e (by simpa using he) hb)
      · exact h1
  · refine (kD hz hl i).2 ?_
    unfold readyD
    simp only [List.mem_filter, List.mem_range, ho, Bool.and_eq_true, Bool.not_eq_true', List.all_eq_true]
    exact ⟨hil, hnd, fun e he => by simpa using hrd e he⟩
  · refine hr M w0 ρ _ w _ (by simp [hz]) (listed_step hz hil hl) ?_
    rw [hd]
    exact hs.put hn hrep
theorem zU.at_ (i : Nat) (h : zU P n l K fu done S i) : zU P n l K fu done S i := h
theorem zU.ofT (ho : l[i]? = some o) (hg : o.guard = none) (h : zR P n o S K fun S1 => DGo P n l K fu (i :: done) S1) : zU P n l K fu done S i := by
  intro M w0 ρ a w listed hz hil hl hs
  unfold wpOp
  simp only [List.getElem?_toArray, ho]
  rw [if_pos (by simp [Region.wanted, hg])]
  exact .inl (h M w0 ρ a w _ _ hs (fun S1 ρ' a' w' hd1 hs' => hd1 M w0 ρ' a' w' _ (by simp [hz]) (listed_step hz hil hl) hs') fun e S' ρ' a' w' h1 h2 h3 => ⟨S', ρ', h1, h2, h3⟩)
theorem zU.ofTg {j t : Nat} {want b : Bool} (ho : l[i]? = some o) (hg : o.guard = some (j, want)) (ht : wV l j = some t) (htn : t < n) (hb : S.tmp t = .p (.val (.bool b))) (hbw : b = want) (h : zR P n o S K fun S1 => DGo P n l K fu (i :: done) S1) : zU P n l K fu done S i := by
  intro M w0 ρ a w listed hz hil hl hs
  have hw := hs.wanted (ops := l.toArray) hg (by simpa [wV] using ht) htn hb
  unfold wpOp
  simp only [List.getElem?_toArray, ho]
  rw [if_pos (by rw [hw]; simp [wantB, hbw])]
  exact .inl (h M w0 ρ a w _ _ hs (fun S1 ρ' a' w' hd1 hs' => hd1 M w0 ρ' a' w' _ (by simp [hz]) (listed_step hz hil hl) hs') fun e S' ρ' a' w' h1 h2 h3 => ⟨S', ρ', h1, h2, h3⟩)
theorem zU.gN {j t : Nat} {want b : Bool} (ho : l[i]? = some o) (hg : o.guard = some (j, want)) (ht : wV l j = some t) (htn : t < n) (hb : S.tmp t = .p (.val (.bool b))) (hbw : b = !want) (hd : o.dst = some d) (hdn : d < n) (h : DGo P n l K fu (i :: done) (S.put d xK)) : zU P n l K fu done S i := by
  intro M w0 ρ a w listed hz hil hl hs
  have hw := hs.wanted (ops := l.toArray) hg (by simpa [wV] using ht) htn hb
  unfold wpOp
  simp only [List.getElem?_toArray, ho]
  rw [if_neg (by rw [hw]; subst hbw; cases want <;> simp [wantB])]
  refine h M w0 ρ _ w _ (by simp [hz]) (listed_step hz hil hl) ?_
  rw [hd]
  exact hs.put hdn (.p (.val _))
theorem zU.v {bs : List Nat} {av : AV} (ho : l[i]? = some o) (hg : o.guard = none) (hd : o.dst = some d) (h : zQ P n o S bs av none) (hr : DGo P n l K fu (i :: done) (S.put d av)) : zU P n l K fu done S i := .ofT ho hg (Step.t h.step (by rw [hd]; exact hr))
theorem zU.m {bs : List Nat} {av : AV} {b : Blk} (ho : l[i]? = some o) (hg : o.guard = none) (hd : o.dst = some d) (h : zQ P n o S bs av (some b)) (hr : DGo P n l K fu (i :: done) ((S.create d b).put d av)) : zU P n l K fu done S i := .ofT ho hg (Step.t h.step (by rw [hd]; exact hr))
theorem zU.w (ho : l[i]? = some o) (hg : o.guard = none) (h : Step P n o S S1) (hr : DGo P n l K fu (i :: done) S1) : zU P n l K fu done S i := .ofT ho hg (h.t hr)
theorem zU.split {j t : Nat} {want b : Bool} (_ho : l[i]? = some o) (_hg : o.guard = some (j, want)) (_ht : wV l j = some t) (_hb : S.tmp t = .p (.val (.bool b))) (h1 : b = true → zU P n l K fu done S i) (h2 : b = false → zU P n l K fu done S i) : zU P n l K fu done S i := by
  cases b
  · exact h2 rfl
  · exact h1 rfl
theorem zZ.drawGo {id : Nat} (hm : P.follows .mixedOrders = true) (h : DGo P n l K l.length [] S) : zZ P n (.region id l.toArray true) S K := by
  intro M w0 ρ a w Q hs hK
  refine Code.wp_mono (Q := QK M n w0 K) (fun e a w ⟨S', ρ', h1, h2, h3⟩ => hK e S' ρ' a w h1 h2 h3) (wp_region_any hm ?_)
  have := h M w0 ρ a { w with drawn := w.drawn + 1 } (Array.replicate l.length false) (by simp) (fun i => by rw [getD_replicate_false]; rfl) (hs.ext ((Below.refl _ _).drew))
  simpa using this
/-! ### Values of registers -/
theorem f_mv {x : Operand} {av : AV} (ho : o.op = .move x ∨ o.op = .assign x) (hx : S.get x = av) : FStep P n o S av := fun M w0 ρ a w hs => ⟨a.eval x, fun w' => by unfold execOp; rcases ho with ho | ho <;> rw [ho] <;> rfl, hx ▸ hs.rep x⟩
theorem f_mvP {x : Operand} {v : PV} (ho : o.op = .move x) (hx : S.get x = .p v) : FStep P n o S (.p v) := f_mv (.inl ho) hx
theorem f_mvR {x : Operand} {i k : Nat} (ho : o.op = .move x) (hx : S.get x = .ptr i k) : FStep P n o S (.ptr i k) := f_mv (.inl ho) hx
theorem f_mvT {x : Operand} {l : List AV} (ho : o.op = .move x) (hx : S.get x = .tup l) : FStep P n o S (.tup l) := f_mv (.inl ho) hx
theorem f_mvC {x : Operand} {i : Nat} {l : List Nat} (ho : o.op = .move x) (hx : S.get x = .clo i l) : FStep P n o S (.clo i l) := f_mv (.inl ho) hx
theorem f_mvS {x : Operand} {l : List PV} (ho : o.op = .move x) (hx : S.get x = .pt l) : FStep P n o S (.pt l) := f_mv (.inl ho) hx
theorem f_asP {x : Operand} {v : PV} (ho : o.op = .assign x) (hx : S.get x = .p v) : FStep P n o S (.p v) := f_mv (.inr ho) hx
theorem f_asR {x : Operand} {i k : Nat} (ho : o.op = .assign x) (hx : S.get x = .ptr i k) : FStep P n o S (.ptr i k) := f_mv (.inr ho) hx
theorem f_asC {x : Operand} {i : Nat} {l : List Nat} (ho : o.op = .assign x) (hx : S.get x = .clo i l) : FStep P n o S (.clo i l) := f_mv (.inr ho) hx
theorem f_nilR {x : Operand} {id off : Nat} (ho : o.op = .nilCheck x) (hx : S.get x = .ptr id off) : FStep P n o S (.ptr id off) := fun M w0 ρ a w hs => by
  have h1 := hs.rep x
  rw [hx] at h1
  have h2 := h1
  obtain ⟨g, hgv, hv⟩ := vE h1
  refine ⟨a.eval x, fun w' => ?_, h2⟩
  unfold execOp
  rw [ho]
  simp only [hv]
  rfl
theorem f_fieldR {x : Operand} {s f k id off : Nat} [h : FieldA P s f k] (ho : o.op = .fieldAddr s x f) (hx : S.get x = .ptr id off) : FStep P n o S (.ptr id (off + k)) := fun M w0 ρ a w hs => by
  have h1 := hs.rep x
  rw [hx] at h1
  obtain ⟨g, hgv, hv⟩ := vE h1
  refine ⟨.pointer (some ⟨g, off + k, none⟩), fun w' => ?_, .ptr id (off + k) g hgv⟩
  unfold execOp
  rw [ho]
  simp only [hv, Sem.run_bind, h.h]
  rfl
theorem f_extract {x : Operand} {avs : List AV} {ix : Nat} {v : PV} (ho : o.op = .extract x ix) (hx : S.get x = .tup avs) (hi : avs[ix]? = some (.p v)) : FStep P n o S (.p v) := fun M w0 ρ a w hs => by
  have h1 := hs.rep x
  rw [hx] at h1
  generalize hev : a.eval x = ev at h1
  cases h1 with
  | tup _ vs hl h =>
    have hlt : ix < vs.length := by rw [hl]; exact (List.getElem?_eq_some_iff.1 hi).1
    refine ⟨vs[ix], fun w' => ?_, h ix _ _ hi (List.getElem?_eq_getElem hlt)⟩
    unfold execOp
    rw [ho]
    simp [hev, Instr.extract, hlt]
/-- one of these, found by itself -/
theorem DGo.fr [hp : PanK K] (i : Nat) {av : AV} (hr : DGo P n l K fu (i :: done) (S.put d av)) (ho : l[i]? = some o := by rfl) (hd : o.dst = some d := by rfl) (hn : d < n := by decide) (hf : freeB l done i = true := by kernel_rfl)
    (h : FStep P n o S av := by first | exact f_mvR rfl rfl | exact f_mvP rfl rfl | exact f_fieldR rfl rfl | exact f_nilR rfl rfl | exact f_extract rfl rfl rfl | exact f_asP rfl rfl | exact f_mvT rfl rfl | exact f_mvC rfl rfl | exact f_mvS rfl rfl | exact f_asR rfl rfl | exact f_asC rfl rfl) : DGo P n l K (fu + 1) done S := DGo.free i hf ho hd hn h hr
end
attribute [irreducible] DGo zU FStep
end Go.Proofs.YteadaggehndacaaDoor
/- A scope whose code jumps back to its label. Generic over the program. -/
namespace Go.Proofs.YteadaggehndacaaDoor
set_option maxRecDepth 100000
set_option maxHeartbeats 16000000
open Go Go.RowKit
/-- by a goto to label l: J; by any other goto: no way out -/
def qQ (l : Nat) (J : AS → Prop) (K : Exit → AS → Prop) : Exit → AS → Prop
  | .goto l', S => l' = l ∧ J S
  | e, S => K e S
theorem qQ.n {S : AS} {l : Nat} {J : AS → Prop} {K : Exit → AS → Prop} (h : K .normal S) : qQ l J K .normal S := h
theorem qQ.r {S : AS} {l : Nat} {J : AS → Prop} {K : Exit → AS → Prop} (h : K .ret S) : qQ l J K .ret S := h
theorem qQ.e {S : AS} {l i : Nat} {J : AS → Prop} {K : Exit → AS → Prop} (h : K (.exit i) S) : qQ l J K (.exit i) S := h
theorem qQ.p {S : AS} {l : Nat} {J : AS → Prop} {K : Exit → AS → Prop} {c} (h : K (.panic c) S) : qQ l J K (.panic c) S := h
theorem qQ.g {S : AS} {l : Nat} {J : AS → Prop} {K : Exit → AS → Prop} (h : J S) : qQ l J K (.goto l) S := ⟨rfl, h⟩
section
variable {P : Program} {n : Nat} {S : AS}
/-- the label stands at the scope's beginning -/
theorem zZ.scopeL {rest : Code} {K : Exit → AS → Prop} {ι : Type} (l : Nat) (inv : ι → AS) (ok : ι → Prop) (μ : ι → Nat) (i0 : ι) (h0 : Sub S (inv i0)) (hi0 : ok i0)
    (round : ∀ i, ok i → zZ P n rest (inv i) (qQ l (fun S' => ∃ j, Sub S' (inv j) ∧ ok j ∧ μ j < μ i) K)) : zZ P n (.scope (.seq (.label l) rest)) S K := by
  intro M w0 ρ a w Q hs hK
  obtain ⟨ρ0, hs0⟩ := h0 M n w0 ρ a w hs
  intro b k cs
  have hg : gotoIn l (.inScope (.seq (.label l) rest) :: k) = some (.code (.seq .skip rest) :: .inScope (.seq (.label l) rest) :: k) := by simp [gotoIn, findLabel]
  have key : ∀ (m : Nat) (i : ι) (ρ : Nat → Value) (a : Act) (w : World), μ i = m → ok i → Sat M n w0 (inv i) ρ a w →
      ∃ e a' w', Q e a' w' ∧ Arrives P (lone (b.at a (.code rest :: .inScope (.seq (.label l) rest) :: k)) cs w) b k cs e a' w' := by
    intro m
    induction m using Nat.strongRecOn with
    | _ m ih =>
      intro i ρ a w hm hi hsi
      have hr := round i hi M w0 ρ a w (fun e a' w' => match e with
          | .goto l' => l' = l ∧ ∃ j ρ', ok j ∧ μ j < μ i ∧ Sat M n w0 (inv j) ρ' a' w'
          | e => Q e a' w') hsi (fun e S' ρ' a' w' hk hs' hx => by
        cases e with
        | goto l' =>
          obtain ⟨h1, j, hsub, hj, hlt⟩ := hk
          obtain ⟨ρ'', hs''⟩ := hsub M n w0 ρ' a' w' hs'
          exact ⟨h1, j, ρ'', hj, hlt, hs''⟩
        | normal => exact hK .normal S' ρ' a' w' hk hs' hx
        | exit id => exact hK (.exit id) S' ρ' a' w' hk hs' hx
        | ret => exact hK .ret S' ρ' a' w' hk hs' hx
        | panic c => exact hK (.panic c) S' ρ' a' w' hk hs' hx
        | outgrown => exact hK .outgrown S' ρ' a' w' hk hs' hx)
      obtain ⟨e, a₁, w₁, hq, harr⟩ := hr b (.inScope (.seq (.label l) rest) :: k) cs
      cases e with
      | normal => exact ⟨.normal, a₁, w₁, hq, Steps.trans harr (.one step_inScope)⟩
      | exit id => exact ⟨.exit id, a₁, w₁, hq, fun k' hk => harr k' (by simp [exitTo, hk])⟩
      | goto l' =>
        obtain ⟨rfl, j, ρ', hj, hlt, hs'⟩ := hq
        obtain ⟨e₂, a₂, w₂, hq₂, harr₂⟩ := ih (μ j) (by omega) j ρ' a₁ w₁ rfl hj hs'
        exact ⟨e₂, a₂, w₂, hq₂, .of_steps (Steps.trans (harr _ hg) (.head step_seq (.one step_skip))) harr₂⟩
      | ret => exact ⟨_, a₁, w₁, hq, harr⟩
      | panic ch => exact ⟨_, a₁, w₁, hq, harr⟩
      | outgrown => exact ⟨_, a₁, w₁, hq, harr⟩
  obtain ⟨e, a', w', hq, harr⟩ := key _ i0 ρ0 a w rfl hi0 hs0
  exact ⟨e, a', w', hq, .of_steps (.head step_scope (.head step_seq (.one step_label))) harr⟩
end
end Go.Proofs.YteadaggehndacaaDoor
/- Where functions that make accesses, or go through a log, panic: what is said then is not of slots; nor by jumps. -/
namespace Go.Proofs.YteadaggehndacaaDoor
set_option maxRecDepth 100000
set_option maxHeartbeats 16000000
open Go Go.RowKit
instance {l : Nat} {J : AS → Prop} {K : Exit → AS → Prop} [h : PanK K] : PanK (qQ l J K) := ⟨fun S hk => h.h S hk⟩
theorem hasL_bare {S : AS} : ∀ (B : List Blk) (i : Nat), hasL S i B → hasL { S with t := [] } i B
  | [], _, _ => trivial
  | _ :: r, i, h => ⟨h.1, hasL_bare r (i + 1) h.2⟩
theorem fgL_bare {S : AS} : ∀ (B : List Blk) (i : Nat), fgL S i B → fgL { S with t := [] } i B
  | [], _, _ => trivial
  | _ :: r, i, h => ⟨h.1, fgL_bare r (i + 1) h.2⟩
instance {α : Type} {H : Hnd} {fn : Func} {res : α → AV} {bk : List Blk} {bk' : α → List Blk} {m : Held H.σ α} : PanK (EndH H fn res bk bk' m) := ⟨fun S hk => by
  cases hk with
  | pan hx hB hF h => exact .pan hx (hasL_bare _ _ hB) (fgL_bare _ _ hF) h
  | ret he hg hB h => rcases he with h | h <;> cases h⟩
end Go.Proofs.YteadaggehndacaaDoor
/- A record is given back; a walk's steps: the program's, whatever makes its accesses: contracts. -/
namespace Go.Proofs.YteadaggehndacaaDoor
set_option maxRecDepth 100000
set_option maxHeartbeats 16000000
open Go Go.RowKit
set_option linter.unusedSimpArgs false
set_option linter.unusedVariables false
attribute [local irreducible] zY zZ Step zQ Sub zO zR Fn zS yA
theorem limbo_fn (e : Int) (h0 : 0 ≤ e) : Fn Tryd.prog 85 [.val (.int .u64 e)] (.p (.val (.int .i64 (wZ e)))) := by
  have g1 : e.tmod 3 = e % 3 := Int.tmod_eq_emod_of_nonneg h0
  have g2 : IntKind.i64.wrap (e % 3) = e % 3 := wrap_i64 _ (by omega)
  have g3 : IntKind.i64.wrap (4 + e % 3) = wZ e := wrap_i64 _ (by omega)
  refine kL Tryd.func85 rfl Tryd.ntmps85 (Nat.le_of_ble_eq_true rfl) ?_
  repeat' (first | (refine zY.nil ?_) | (refine zZ.is ?_; first | refine zZ.seq ?_ | (refine zZ.isR (id := 0) ?_; refine zZ.rc [0] [] (r := (.v yV .e)) (h := ?_)) | (refine zZ.isR (id := 1) ?_; refine zZ.rc [0, 2] [] (r := (.v zC (.v v34_0 (.v v6_0 (.v v30_0 (.v yV .e)))))) (h := ?_)) | refine zZ.ret ?_) | refine zS.n ?_)
  all_goals exact ⟨.inl rfl, gives1 rfl rfl rfl⟩
def retS (H : Hnd) (t r at_ : Int) (d : Bool) (s : H.σ) : AS :=
  { t := [(0, H.doA), (1, .p (.val (.int .i64 t))), (2, .p (.val (.int .i64 r))), (6, .p (.val (.int .i64 at_))), (7, .p (.val (.bool d)))], s := [(1000, H.b0 s), (1001, H.b1 s), (1002, H.b2 s)] }
/-- what is left behind a round -/
def retRest (t r at_ : Int) (n : Nat) (d : Bool) : Pr Unit := bif d then .ret () else .loop (retRound t r at_) n ()
theorem retire_h (H : Hnd) (s0 : H.σ) {t r : Int} (ht : Small t) (hr : Rf r) : FnH H 70 [H.doA, .p (.val (.int .i64 t)), .p (.val (.int .i64 r))] [] (fun _ => .any) (fun _ => []) yes s0 (retireP t r) := by
  have wr : IntKind.u64.wrap r = r := wrap_u64 _ ⟨hr.lo, by have := hr.hi; omega⟩
  have hru := hr.u
  have cf := fieldR (hr.rc ht) 7 (by decide)
  unfold Hnd.doA
  refine wJ Tryd.func70 rfl Tryd.ntmps70 (Nat.le_of_ble_eq_true rfl) (by decide) (fine_retire t hr.u) fun hok hns => ?_
  repeat' (first | (refine zY.is ?_; first | refine zY.nil ?_ | (refine zY.at_ 6 rfl ?_; refine zY.rc (.v yV .e) ?_) | (refine zY.in_ [11] rfl ?_; refine zY.v rfl rfl (yK (limbo_fn _ (U.lo (by assumption))) rfl rfl rfl (by decide)) ?_) | (refine zY.in_ [10] rfl ?_; refine zY.ofT rfl (zR.hd (i := []) (f := load_h H _ 3) (r := fun x s e g hk => ?_) (p := fun q s e => ?_) (t := ?_)))) | (refine zZ.is ?_; first | refine zZ.seq ?_ | (refine zZ.isR (id := 0) ?_; refine zZ.rc [0, 1, 2] [1000, 1001, 1002] (r := (.v vM .e)) (h := ?_)) | (refine zZ.isR (id := 1) ?_; refine zZ.rc [0, 1, 2, 6] [1000, 1001, 1002] (r := (.v yV .e)) (h := ?_)) | refine zZ.block ?_) | refine zS.n ?_ | refine zS.p ?_)
  all_goals (first | exact fun e => hns (by clear hns; simp only [retireP, run_bind, zN, zM, Held.zB, Held.zI, Held.zD, cond_true, cond_false, *]) | exact .pan (q := q) rfl (by repeat' first | exact trivial | rfl | constructor) (by repeat' exact trivial) (by simp only [retireP, run_bind, zN, zM, Held.zB, Held.zI, Held.zD, cond_true, cond_false, *]) | skip)
  have ho0 : (retireP t r).run H.st s0 = (retLoop t r (wZ x)).run H.st s := by simp only [retireP, run_bind, zN, Held.zB, *]
  rw [ho0] at hns ⊢
  generalize wZ x = at_ at *
  refine zZ.loop (fun p : Bool × Nat × H.σ => retS H t r at_ p.1 p.2.2) (fun p => H.ok p.2.2 ∧ (retRest t r at_ p.2.1 p.1).run H.st p.2.2 = (retLoop t r at_).run H.st s) (fun p => p.2.1) (false, many, s) ?h0 ⟨by assumption, rfl⟩ ?rd
  case h0 =>
    refine yM (is := [0, 1, 2, 6, 7]) (js := [1000, 1001, 1002]) ?_ ?_
    repeat' first | exact zX.nil | apply zX.p rfl | apply zX.ptr rfl | apply zX.own rfl | apply zX.clo rfl | apply zX.ifp rfl | apply zX.pt rfl | apply zX.tup rfl | apply zX.skip
    repeat' first | exact zW.nil | apply zW.boxP rfl rfl | apply zW.xG rfl | (apply zW.at0; exact yX rfl (H.nk _).1 (by repeat' exact KB.refl)) | (apply zW.at1; exact yX rfl (H.nk _).2.1 (by repeat' exact KB.refl)) | (apply zW.at2; exact yX rfl (H.nk _).2.2 (by repeat' exact KB.refl)) | apply zW.some rfl | apply zW.skip
  case rd =>
    rintro ⟨d, n, s1⟩ ⟨hok1, ho⟩
    dsimp only at hok1 ho ⊢
    unfold retS Hnd.doA
    cases d with
    | true =>
      have ho : Held.done () s1 = (retLoop t r at_).run H.st s := ho
      rw [← ho] at hns ⊢
      repeat' (first | (refine zY.nil ?_) | (refine zZ.is ?_; first | refine zZ.seq ?_ | (refine zZ.isR (id := 2) ?_; refine zZ.rc [0, 1, 2, 6, 7, 8, 13] [1000, 1001, 1002] (r := (.v zC (.v v52_5 .e))) (h := ?_)) | refine zZ.yU rfl bA ?_ | refine zZ.exit ?_) | refine zS.n ?_ | refine yA.eY ?_ | refine zS.e ?_)
      all_goals (exact .ret (x := ()) (by exact .inr rfl) (by exact .none rfl) (by repeat' first | exact trivial | rfl | constructor) (by simp only [run_bind, zN, zM, Held.zB, Held.zI, Held.zD, cond_true, cond_false, *] <;> rfl))
    | false =>
      have ho : (Pr.loop (retRound t r at_) n ()).run H.st s1 = (retLoop t r at_).run H.st s := ho
      cases n with
      | zero => exact absurd ho.symm hns
      | succ n =>
        rw [Pr.loop_succ] at ho
        rw [← ho] at hns ⊢
        repeat' (first | (refine zY.is ?_; first | refine zY.nil ?_ | (refine zY.at_ 21 rfl ?_; refine zY.rc (.v zC .e) ?_) | (refine zY.at_ 7 rfl ?_; refine zY.rc (.v yV .e) ?_) | (refine zY.at_ 8 rfl ?_; refine zY.rc (.v yV .e) ?_) | (refine zY.in_ [20] rfl ?_; refine zY.v rfl rfl (yK (cf) rfl rfl rfl (by decide)) ?_) | (refine zY.in_ [16] rfl ?_; refine zY.ofT rfl (zR.hd (i := []) (f := load_h H _ _) (r := fun x s e g hk => ?_) (p := fun q s e => ?_) (t := ?_))) | (refine zY.in_ [22] rfl ?_; refine zY.ofT rfl (zR.hd (i := []) (f := store_h H _ _ _ (by assumption)) (r := fun x s e g hk => ?_) (p := fun q s e => ?_) (t := ?_))) | (refine zY.in_ [28] rfl ?_; refine zY.ofT rfl (zR.hd (i := []) (f := cas_h H _ _ _ _ (by assumption) hru) (r := fun x s e g hk => ?_) (p := fun q s e => ?_) (t := ?_)))) | (refine zZ.is ?_; first | refine zZ.seq ?_ | (refine zZ.isR (id := 2) ?_; refine zZ.rc [0, 1, 2, 6, 7, 8, 13] [1000, 1001, 1002] (r := (.v zC (.v v52_4 .e))) (h := ?_)) | (refine zZ.isR (id := 3) ?_; refine zZ.rc [0, 1, 2, 6, 7, 8, 13] [1000, 1001, 1002] (r := (.v vM (.v zC .e))) (h := ?_)) | (refine zZ.isR (id := 4) ?_; refine zZ.rc [0, 1, 2, 6, 7, 8, 13] [1000, 1001, 1002] (r := (.v vM (.v zC (.v zC .e)))) (h := ?_)) | (refine zZ.isR (id := 5) ?_; refine zZ.rc [0, 1, 2, 6, 7, 8, 13] [1000, 1001, 1002] (r := (.v vM (.v zC (.v zC (.v zC (.v v6_0 .e)))))) (h := ?_)) | refine zZ.yT rfl bA ?_ | refine zZ.skip ?_ | refine zZ.block ?_) | refine zS.n ?_ | refine zS.p ?_ | refine yA.n ?_ | refine yA.p ?_)
        all_goals (first | exact fun e => hns (by clear hns; simp only [retRound, run_bind, zN, zM, Held.zB, Held.zI, Held.zD, cond_true, cond_false, *]) | exact .pan (q := q) rfl (by repeat' first | exact trivial | rfl | constructor) (by repeat' exact trivial) (by simp only [retRound, run_bind, zN, zM, Held.zB, Held.zI, Held.zD, cond_true, cond_false, *]) | skip)
        refine ⟨(x, n, s), ?_, ⟨by assumption, ?_⟩, Nat.lt_succ_self n⟩
        · refine yM (is := [0, 1, 2, 6, 7]) (js := [1000, 1001, 1002]) ?_ ?_
          repeat' first | exact zX.nil | apply zX.p rfl | apply zX.ptr rfl | apply zX.own rfl | apply zX.clo rfl | apply zX.ifp rfl | apply zX.pt rfl | apply zX.tup rfl | apply zX.skip
          repeat' first | exact zW.nil | apply zW.boxP rfl rfl | apply zW.xG rfl | (apply zW.at0; exact yX rfl (H.nk _).1 (by repeat' exact KB.refl)) | (apply zW.at1; exact yX rfl (H.nk _).2.1 (by repeat' exact KB.refl)) | (apply zW.at2; exact yX rfl (H.nk _).2.2 (by repeat' exact KB.refl)) | apply zW.some rfl | apply zW.skip
        · clear ho hns
          simp only [retRound, run_bind, zN, Held.zB, *]
          cases x <;> rfl
/-! ### A walk's variable, and its steps -/
def vS (H : Hnd) (t p x : Int) : Blk := .box 85 [H.doA, .p (.val (.int .i64 t)), .p (.val (.int .i64 p)), .p (.val (.int .i64 x))]
theorem start_h (H : Hnd) (s0 : H.σ) {t p x : Int} (ht : Small t) : FnH H 53 [.ptr 1003 0] [vS H t p x] (fun _ => .any) (fun w => [vS H t 0 (xL w)]) U s0 (wH 0) := by
  have cn : Fn Tryd.prog 36 [.val (.int .i64 t), .val (.int .i64 0)] (.p (.val (.int .i64 0))) := cnext_fn t 0 ht (by decide)
  unfold vS Hnd.doA
  refine wJ Tryd.func53 rfl Tryd.ntmps53 (Nat.le_of_ble_eq_true rfl) (by decide) (xZ _) fun hok hns => ?_
  repeat' (first | (refine zZ.is ?_; (refine zZ.isR (id := 0) ?_; refine zZ.rk [0] [1000, 1001, 1002, 1003] ?_; refine zZ.drawGo (by kernel_rfl) ?_)) | (refine DGo.at_ [] ?_; refine DGo.fr 0 ?_) | (refine DGo.at_ [0] ?_; refine DGo.fr 1 ?_) | (refine DGo.at_ [1, 0] ?_; refine DGo.fr 2 ?_) | (refine DGo.at_ [2, 1, 0] ?_; refine DGo.fr 3 ?_) | (refine DGo.at_ [3, 2, 1, 0] ?_; refine DGo.fr 4 ?_) | (refine DGo.at_ [4, 3, 2, 1, 0] ?_; refine DGo.fr 6 ?_) | (refine DGo.at_ [6, 4, 3, 2, 1, 0] ?_; refine DGo.fr 7 ?_) | (refine DGo.at_ [7, 6, 4, 3, 2, 1, 0] ?_; refine DGo.fr 8 ?_) | (refine DGo.at_ [8, 7, 6, 4, 3, 2, 1, 0] ?_; refine DGo.all [5, 9] (by kernel_rfl) ?_) | (refine DGo.at_ [9, 8, 7, 6, 4, 3, 2, 1, 0] ?_; refine DGo.all [5, 10] (by kernel_rfl) ?_) | (refine DGo.at_ [10, 9, 8, 7, 6, 4, 3, 2, 1, 0] ?_; refine DGo.all [5] (by kernel_rfl) ?_) | (refine DGo.at_ [5, 10, 9, 8, 7, 6, 4, 3, 2, 1, 0] ?_; refine DGo.all [11] (by kernel_rfl) ?_) | (refine DGo.at_ [11, 5, 10, 9, 8, 7, 6, 4, 3, 2, 1, 0] ?_; refine DGo.all [12] (by kernel_rfl) ?_) | (refine DGo.at_ [12, 11, 5, 10, 9, 8, 7, 6, 4, 3, 2, 1, 0] ?_; refine DGo.fr 13 ?_) | (refine DGo.at_ [13, 12, 11, 5, 10, 9, 8, 7, 6, 4, 3, 2, 1, 0] ?_; refine DGo.fr 14 ?_) | (refine DGo.at_ [14, 13, 12, 11, 5, 10, 9, 8, 7, 6, 4, 3, 2, 1, 0] ?_; refine DGo.all [15] (by kernel_rfl) ?_) | (refine DGo.at_ [15, 14, 13, 12, 11, 5, 10, 9, 8, 7, 6, 4, 3, 2, 1, 0] ?_; refine DGo.fr 16 ?_) | (refine DGo.at_ [16, 15, 14, 13, 12, 11, 5, 10, 9, 8, 7, 6, 4, 3, 2, 1, 0] ?_; refine DGo.fr 17 ?_) | (refine DGo.at_ [17, 16, 15, 14, 13, 12, 11, 5, 10, 9, 8, 7, 6, 4, 3, 2, 1, 0] ?_; refine DGo.all [18] (by kernel_rfl) ?_) | (refine DGo.at_ [18, 17, 16, 15, 14, 13, 12, 11, 5, 10, 9, 8, 7, 6, 4, 3, 2, 1, 0] ?_; refine DGo.fin (by kernel_rfl) ?_) | (refine DGo.at_ [5, 9, 8, 7, 6, 4, 3, 2, 1, 0] ?_; refine DGo.all [10] (by kernel_rfl) ?_) | (refine DGo.at_ [10, 5, 9, 8, 7, 6, 4, 3, 2, 1, 0] ?_; refine DGo.all [11] (by kernel_rfl) ?_) | (refine DGo.at_ [11, 10, 5, 9, 8, 7, 6, 4, 3, 2, 1, 0] ?_; refine DGo.all [12] (by kernel_rfl) ?_) | (refine DGo.at_ [12, 11, 10, 5, 9, 8, 7, 6, 4, 3, 2, 1, 0] ?_; refine DGo.fr 13 ?_) | (refine DGo.at_ [13, 12, 11, 10, 5, 9, 8, 7, 6, 4, 3, 2, 1, 0] ?_; refine DGo.fr 14 ?_) | (refine DGo.at_ [14, 13, 12, 11, 10, 5, 9, 8, 7, 6, 4, 3, 2, 1, 0] ?_; refine DGo.all [15] (by kernel_rfl) ?_) | (refine DGo.at_ [15, 14, 13, 12, 11, 10, 5, 9, 8, 7, 6, 4, 3, 2, 1, 0] ?_; refine DGo.fr 16 ?_) | (refine DGo.at_ [16, 15, 14, 13, 12, 11, 10, 5, 9, 8, 7, 6, 4, 3, 2, 1, 0] ?_; refine DGo.fr 17 ?_) | (refine DGo.at_ [17, 16, 15, 14, 13, 12, 11, 10, 5, 9, 8, 7, 6, 4, 3, 2, 1, 0] ?_; refine DGo.all [18] (by kernel_rfl) ?_) | (refine DGo.at_ [18, 17, 16, 15, 14, 13, 12, 11, 10, 5, 9, 8, 7, 6, 4, 3, 2, 1, 0] ?_; refine DGo.fin (by kernel_rfl) ?_) | (refine DGo.at_ [5, 8, 7, 6, 4, 3, 2, 1, 0] ?_; refine DGo.all [9] (by kernel_rfl) ?_) | (refine DGo.at_ [9, 5, 8, 7, 6, 4, 3, 2, 1, 0] ?_; refine DGo.all [10] (by kernel_rfl) ?_) | (refine DGo.at_ [10, 9, 5, 8, 7, 6, 4, 3, 2, 1, 0] ?_; refine DGo.all [11] (by kernel_rfl) ?_) | (refine DGo.at_ [11, 10, 9, 5, 8, 7, 6, 4, 3, 2, 1, 0] ?_; refine DGo.all [12] (by kernel_rfl) ?_) | (refine DGo.at_ [12, 11, 10, 9, 5, 8, 7, 6, 4, 3, 2, 1, 0] ?_; refine DGo.fr 13 ?_) | (refine DGo.at_ [13, 12, 11, 10, 9, 5, 8, 7, 6, 4, 3, 2, 1, 0] ?_; refine DGo.fr 14 ?_) | (refine DGo.at_ [14, 13, 12, 11, 10, 9, 5, 8, 7, 6, 4, 3, 2, 1, 0] ?_; refine DGo.all [15] (by kernel_rfl) ?_) | (refine DGo.at_ [15, 14, 13, 12, 11, 10, 9, 5, 8, 7, 6, 4, 3, 2, 1, 0] ?_; refine DGo.fr 16 ?_) | (refine DGo.at_ [16, 15, 14, 13, 12, 11, 10, 9, 5, 8, 7, 6, 4, 3, 2, 1, 0] ?_; refine DGo.fr 17 ?_) | (refine DGo.at_ [17, 16, 15, 14, 13, 12, 11, 10, 9, 5, 8, 7, 6, 4, 3, 2, 1, 0] ?_; refine DGo.all [18] (by kernel_rfl) ?_) | (refine DGo.at_ [18, 17, 16, 15, 14, 13, 12, 11, 10, 9, 5, 8, 7, 6, 4, 3, 2, 1, 0] ?_; refine DGo.fin (by kernel_rfl) ?_) | refine zP.cons ?_ ?_ | exact zP.nil | (refine zU.at_ 5 ?_; refine zU.v rfl rfl rfl (w_loadC rfl rfl rfl rfl rfl (by decide)) ?_) | (refine zU.at_ 9 ?_; refine zU.v rfl rfl rfl (zA rfl rfl rfl rfl rfl (by decide)) ?_) | (refine zU.at_ 10 ?_; refine zU.v rfl rfl rfl (by exact yK (cn) rfl rfl rfl (by decide)) ?_) | (refine zU.at_ 11 ?_; refine zU.ofT rfl rfl (zR.hd (i := []) (f := load_h H _ _) (r := fun x s e g hk => ?_) (p := fun q s e => ?_) (t := ?_))) | (refine zU.at_ 12 ?_; refine zU.v rfl rfl rfl (by exact yK (ref_fn _ (U.lo (by assumption)) (U.hi (by assumption))) rfl rfl rfl (by decide)) ?_) | (refine zU.at_ 15 ?_; refine zU.w rfl rfl (by exact zH rfl rfl rfl rfl rfl (by rfl) (by exact Nat.le_of_ble_eq_true rfl) rfl rfl) ?_) | (refine zU.at_ 18 ?_; refine zU.w rfl rfl (by exact zH rfl rfl rfl rfl rfl (by rfl) (by exact Nat.le_of_ble_eq_true rfl) rfl rfl) ?_))
  all_goals (first | exact fun e => hns (by clear hns; simp only [run_bind, zN, zM, Held.zB, Held.zI, Held.zD, cond_true, cond_false, *]) | exact .pan (q := q) rfl (by repeat' first | exact trivial | rfl | constructor) (by repeat' first | exact trivial | exact ⟨_, rfl, rfl⟩ | constructor) (by simp only [run_bind, zN, zM, Held.zB, Held.zI, Held.zD, cond_true, cond_false, *]) | exact .ret (x := x) (by exact .inr rfl) (by exact .none rfl) (by repeat' first | exact trivial | rfl | constructor) (by simp only [run_bind, zN, zM, Held.zB, Held.zI, Held.zD, cond_true, cond_false, *] <;> rfl))
theorem field_h (H : Hnd) (s0 : H.σ) {t p x f : Int} (hx : Rc t x) (hf : 0 ≤ f ∧ f ≤ 7) : FnH H 33 [.ptr 1003 0, .p (.val (.int .i64 f))] [vS H t p x] (fun w => .p (.val (.int .u64 w))) (fun _ => [vS H t p x]) U s0 (wH (zF t x f)) := by
  have cf := fieldR hx f hf
  unfold vS Hnd.doA
  refine wJ Tryd.func33 rfl Tryd.ntmps33 (Nat.le_of_ble_eq_true rfl) (by decide) (xZ _) fun hok hns => ?_
  repeat' (first | (refine zY.nil ?_) | (refine zZ.is ?_; first | refine zZ.seq ?_ | (refine zZ.isR (id := 0) ?_; refine zZ.rc [0, 1] [1000, 1001, 1002, 1003] (r := (.v yV .e)) (h := ?_)) | (refine zZ.isR (id := 1) ?_; refine zZ.rk [0, 1, 4] [1000, 1001, 1002, 1003] ?_; refine zZ.draws ?_) | refine zZ.ret ?_) | refine zS.n ?_ | refine zS.p ?_ | (refine Draws.is ?_; first | refine Draws.rc (.v v0_2 (.v v4_0 (.v yR (.v v2_13 (.v v0_2 (.v v4_0 (.v yR (.v yN (.v v0_2 (.v v4_0 (.v yR (.v yN (.v zC .e))))))))))))) ?_ | (refine Draws.in_ [18] rfl ?_; refine Draws.v rfl rfl (yK (cf) rfl rfl rfl (by decide)) ?_) | refine Draws.done (by kernel_rfl) (by kernel_rfl) (by kernel_rfl) ?_) | (refine zO.is ?_; first | refine zO.nil ?_ | (refine zO.at_ 4 rfl ?_; refine zO.rc (.v yV .e) ?_) | (refine zO.in_ [19] rfl ?_; refine zO.ofT rfl (zR.hd (i := []) (f := load_h H _ _) (r := fun x s e g hk => ?_) (p := fun q s e => ?_) (t := ?_)))))
  all_goals (first | exact fun e => hns (by clear hns; simp only [run_bind, zN, zM, Held.zB, Held.zI, Held.zD, cond_true, cond_false, *]) | exact .pan (q := q) rfl (by repeat' first | exact trivial | rfl | constructor) (by repeat' first | exact trivial | exact ⟨_, rfl, rfl⟩ | constructor) (by simp only [run_bind, zN, zM, Held.zB, Held.zI, Held.zD, cond_true, cond_false, *]) | exact .ret (by exact .inl rfl) (by exact .one rfl rfl) (by repeat' first | exact trivial | rfl | constructor) (by simp only [run_bind, zN, zM, Held.zB, Held.zI, Held.zD, cond_true, cond_false, *] <;> rfl))
theorem on_h (H : Hnd) (s0 : H.σ) {t p x w : Int} (hw : U w) : FnH H 45 [.ptr 1003 0, .p (.val (.int .u64 w))] [vS H t p x] (fun _ => .any) (fun _ => [vS H t x (xL w)]) yes s0 (.ret ()) := by
  have cr := ref_fn w hw.1 hw.2
  unfold vS Hnd.doA
  refine wJ Tryd.func45 rfl Tryd.ntmps45 (Nat.le_of_ble_eq_true rfl) (by decide) trivial fun hok hns => ?_
  repeat' (first | (refine zZ.is ?_; (refine zZ.isR (id := 0) ?_; refine zZ.rk [0, 1] [1000, 1001, 1002, 1003] ?_; refine zZ.drawGo (by kernel_rfl) ?_)) | (refine DGo.at_ [] ?_; refine DGo.fr 0 ?_) | (refine DGo.at_ [0] ?_; refine DGo.fr 1 ?_) | (refine DGo.at_ [1, 0] ?_; refine DGo.fr 2 ?_) | (refine DGo.at_ [2, 1, 0] ?_; refine DGo.fr 3 ?_) | (refine DGo.at_ [3, 2, 1, 0] ?_; refine DGo.fr 4 ?_) | (refine DGo.at_ [4, 3, 2, 1, 0] ?_; refine DGo.fr 6 ?_) | (refine DGo.at_ [6, 4, 3, 2, 1, 0] ?_; refine DGo.all [5, 7] (by kernel_rfl) ?_) | (refine DGo.at_ [7, 6, 4, 3, 2, 1, 0] ?_; refine DGo.all [5] (by kernel_rfl) ?_) | (refine DGo.at_ [5, 7, 6, 4, 3, 2, 1, 0] ?_; refine DGo.fr 8 ?_) | (refine DGo.at_ [8, 5, 7, 6, 4, 3, 2, 1, 0] ?_; refine DGo.fr 9 ?_) | (refine DGo.at_ [9, 8, 5, 7, 6, 4, 3, 2, 1, 0] ?_; refine DGo.all [10] (by kernel_rfl) ?_) | (refine DGo.at_ [10, 9, 8, 5, 7, 6, 4, 3, 2, 1, 0] ?_; refine DGo.fr 11 ?_) | (refine DGo.at_ [11, 10, 9, 8, 5, 7, 6, 4, 3, 2, 1, 0] ?_; refine DGo.fr 12 ?_) | (refine DGo.at_ [12, 11, 10, 9, 8, 5, 7, 6, 4, 3, 2, 1, 0] ?_; refine DGo.all [13] (by kernel_rfl) ?_) | (refine DGo.at_ [13, 12, 11, 10, 9, 8, 5, 7, 6, 4, 3, 2, 1, 0] ?_; refine DGo.fin (by kernel_rfl) ?_) | (refine DGo.at_ [5, 6, 4, 3, 2, 1, 0] ?_; refine DGo.all [7] (by kernel_rfl) ?_) | (refine DGo.at_ [7, 5, 6, 4, 3, 2, 1, 0] ?_; refine DGo.fr 8 ?_) | (refine DGo.at_ [8, 7, 5, 6, 4, 3, 2, 1, 0] ?_; refine DGo.fr 9 ?_) | (refine DGo.at_ [9, 8, 7, 5, 6, 4, 3, 2, 1, 0] ?_; refine DGo.all [10] (by kernel_rfl) ?_) | (refine DGo.at_ [10, 9, 8, 7, 5, 6, 4, 3, 2, 1, 0] ?_; refine DGo.fr 11 ?_) | (refine DGo.at_ [11, 10, 9, 8, 7, 5, 6, 4, 3, 2, 1, 0] ?_; refine DGo.fr 12 ?_) | (refine DGo.at_ [12, 11, 10, 9, 8, 7, 5, 6, 4, 3, 2, 1, 0] ?_; refine DGo.all [13] (by kernel_rfl) ?_) | (refine DGo.at_ [13, 12, 11, 10, 9, 8, 7, 5, 6, 4, 3, 2, 1, 0] ?_; refine DGo.fin (by kernel_rfl) ?_) | refine zP.cons ?_ ?_ | exact zP.nil | (refine zU.at_ 5 ?_; refine zU.v rfl rfl rfl (zA rfl rfl rfl rfl rfl (by decide)) ?_) | (refine zU.at_ 7 ?_; refine zU.v rfl rfl rfl (by exact yK (cr) rfl rfl rfl (by decide)) ?_) | (refine zU.at_ 10 ?_; refine zU.w rfl rfl (by exact zH rfl rfl rfl rfl rfl (by rfl) (by exact Nat.le_of_ble_eq_true rfl) rfl rfl) ?_) | (refine zU.at_ 13 ?_; refine zU.w rfl rfl (by exact zH rfl rfl rfl rfl rfl (by rfl) (by exact Nat.le_of_ble_eq_true rfl) rfl rfl) ?_))
  all_goals (exact .ret (x := ()) (by exact .inr rfl) (by exact .none rfl) (by repeat' first | exact trivial | rfl | constructor) (by simp only [run_bind, zN, zM, Held.zB, Held.zI, Held.zD, cond_true, cond_false, *] <;> rfl))
theorem save2_h (H : Hnd) (s0 : H.σ) {t x : Int} (hx : Rc t x) : FnH H 69 [H.doA, .p (.val (.int .i64 t)), .p (.val (.int .i64 x)), .p (.val (.int .i64 2))] [] (fun x => .p (.val (.bool x))) (fun _ => []) yes s0 (saveP t x 2) := save_h H s0 hx (.inr rfl)
def tookB (H : Hnd) (t p x w : Int) (r : Took) : Blk := vS H t p (bif r.d then xL w else x)
theorem out_h (H : Hnd) (s0 : H.σ) {t p x w : Int} (ht : Small t) (hW : WOK p x) (hw : U w) : FnH H 54 [.ptr 1003 0, .p (.val (.int .u64 w))] [vS H t p x] (fun r => .tup ([.val (.bool r.d), .val (.bool r.ok)].map .p)) (fun r => [tookB H t p x w r]) yes s0 (takeP t p x w) := by
  have cn := cnext_fn t p ht hW.p.le
  have c1 := link_fn x hW.x.le
  have c2 := link_fn (xL w) (kT w).le
  have c3 := ref_fn w hw.1 hw.2
  have u1 := hW.x.u2
  have u2 := (kT w).u2
  have hf := fine_take t p w hW.x
  have hx := hW.x.rc ht
  unfold tookB vS Hnd.doA
  refine wJ Tryd.func54 rfl Tryd.ntmps54 (Nat.le_of_ble_eq_true rfl) (by decide) hf fun hok hns => ?_
  repeat' (first | (refine zY.is ?_; first | refine zY.nil ?_ | (refine zY.at_ 58 rfl ?_; refine zY.rc (.v v4_0 (.v yR (.w yI .e))) ?_) | (refine zY.in_ [57] rfl ?_; refine zY.v rfl rfl (yK (c3) rfl rfl rfl (by decide)) ?_)) | (refine zZ.is ?_; first | refine zZ.seq ?_ | (refine zZ.isR (id := 0) ?_; refine zZ.rc [0, 1] [1000, 1001, 1002, 1003] (r := (.v yV (.v yV .e))) (h := ?_)) | (refine zZ.isR (id := 1) ?_; refine zZ.rk [0, 1, 4, 5] [1000, 1001, 1002, 1003] ?_; refine zZ.draws ?_) | (refine zZ.isR (id := 2) ?_; refine zZ.rc [0, 1, 4, 5] [1000, 1001, 1002, 1003] (r := (.v yV (.v yV .e))) (h := ?_)) | (refine zZ.isR (id := 3) ?_; refine zZ.rc [0, 1, 4, 5] [1000, 1001, 1002, 1003] (r := (.v v0_2 (.v v4_0 (.v yR (.v yN (.v yV .e)))))) (h := ?_)) | (refine zZ.isR (id := 4) ?_; refine zZ.rk [0, 1, 4, 5, 6] [1000, 1001, 1002, 1003] ?_; refine zZ.draws ?_) | (refine zZ.isR (id := 5) ?_; refine zZ.rc [0, 1, 4, 5, 6] [1000, 1001, 1002, 1003] (r := (.v yV (.v yV .e))) (h := ?_)) | (refine zZ.isR (id := 6) ?_; refine zZ.rk [0, 1, 4, 5, 6] [1000, 1001, 1002, 1003] ?_; refine zZ.draws ?_) | (refine zZ.isR (id := 7) ?_; refine zZ.rc [0, 1, 4, 5] [1000, 1001, 1002, 1003] (r := (.v v0_2 (.v zC .e))) (h := ?_)) | (refine zZ.isR (id := 8) ?_; refine zZ.rc [4, 5] [1000, 1001, 1002, 1003] (r := (.v yV (.v yV .e))) (h := ?_)) | refine zZ.cond rfl (fun h => ?_) (fun h => ?_) | refine zZ.skip ?_ | refine zZ.ret ?_) | refine zS.n ?_ | refine zS.r ?_ | refine zS.p ?_ | (refine Draws.is ?_; first | refine Draws.rc (.v zC .e) ?_ | refine Draws.rc (.v v0_2 (.v v4_0 (.v yR (.v v2_13 (.v v0_2 (.v v4_0 (.v yR (.v yN (.v zC .e))))))))) ?_ | refine Draws.rc (.v v0_2 (.v v4_0 (.v yR (.v v2_13 (.v v0_2 (.v v4_0 (.v yR (.v yN (.v v0_2 (.v v4_0 (.v yR (.v yN .e)))))))))))) ?_ | (refine Draws.in_ [37] rfl ?_; refine Draws.v rfl rfl (yK (cn) rfl rfl rfl (by decide)) ?_) | (refine Draws.in_ [39] rfl ?_; refine Draws.v rfl rfl (yK (c1) rfl rfl rfl (by decide)) ?_) | (refine Draws.in_ [42] rfl ?_; refine Draws.v rfl rfl (yK (c2) rfl rfl rfl (by decide)) ?_) | (refine Draws.in_ [41] rfl ?_; refine Draws.v rfl rfl (yK (c3) rfl rfl rfl (by decide)) ?_) | refine Draws.done (by kernel_rfl) (by kernel_rfl) (by kernel_rfl) ?_) | (refine zO.is ?_; first | refine zO.nil ?_ | (refine zO.at_ 20 rfl ?_; refine zO.rc (.v v52_8 .e) ?_) | (refine zO.at_ 44 rfl ?_; refine zO.rc (.v v52_8 .e) ?_) | (refine zO.in_ [19] rfl ?_; refine zO.ofT rfl (zR.hd (i := []) (f := save2_h H _ hx) (r := fun x s e g hk => ?_) (p := fun q s e => ?_) (t := ?_))) | (refine zO.in_ [43] rfl ?_; refine zO.ofT rfl (zR.hd (i := []) (f := cas_h H _ _ _ _ u1 u2) (r := fun x s e g hk => ?_) (p := fun q s e => ?_) (t := ?_))) | (refine zO.in_ [54] rfl ?_; refine zO.ofT rfl (zR.hd (i := []) (f := retire_h H _ ht hW.x) (r := fun x s e g hk => ?_) (p := fun q s e => ?_) (t := ?_)))))
  all_goals try simp only [Bool.not_eq_true', Bool.not_eq_false'] at *
  all_goals first
    | exact .ret (x := .fail) (.inl rfl) (.tup rfl (by decide) (.cons (.tmp rfl) (.cons (.tmp rfl) .nil))) (by repeat' first | exact trivial | rfl | constructor) (by simp only [takeP, run_bind, zN, zM, Held.zB, cond_true, cond_false, *])
    | exact .ret (x := .miss) (.inl rfl) (.tup rfl (by decide) (.cons (.tmp rfl) (.cons (.tmp rfl) .nil))) (by repeat' first | exact trivial | rfl | constructor) (by simp only [takeP, run_bind, zN, zM, Held.zB, cond_true, cond_false, *])
    | skip
  all_goals (first | exact fun e => hns (by clear hns; simp only [takeP, run_bind, zN, zM, Held.zB, Held.zI, Held.zD, cond_true, cond_false, *]) | exact .pan (q := q) rfl (by repeat' first | exact trivial | rfl | constructor) (by repeat' first | exact trivial | exact ⟨_, rfl, rfl⟩ | constructor) (by simp only [takeP, run_bind, zN, zM, Held.zB, Held.zI, Held.zD, cond_true, cond_false, *]) | exact .ret (x := .done) (by exact .inl rfl) (by exact .tup rfl (by decide) (.cons (.tmp rfl) (.cons (.tmp rfl) .nil))) (by repeat' first | exact trivial | rfl | constructor) (by simp only [takeP, run_bind, zN, zM, Held.zB, Held.zI, Held.zD, cond_true, cond_false, *] <;> rfl))
end Go.Proofs.YteadaggehndacaaDoor
/- Functions that make variables, and hand them back to their callers. Generic over the program. -/
namespace Go.Proofs.YteadaggehndacaaDoor
set_option maxRecDepth 100000
set_option maxHeartbeats 16000000
open Go Go.RowKit
set_option linter.unusedSimpArgs false
set_option linter.unusedVariables false
/-- What function f does: of such arguments, and such variables of its callers'; it hands back new variables, numbered behind those. -/
def FnX (P : Program) (f : FuncId) (args : List AV) (B : List Blk) (x : AV) (B' New : List Blk) : Prop :=
  ∀ (M : Nat → Nat → Prop) (h : Home) (ρ : Nat → Value) (vs : List Value), Handed h B ρ → (∀ k, 1000 + B.length ≤ k → h.r k = none) → Sat M 0 h (asB B) ρ wT h.w → vs.length = args.length →
    (∀ (i : Nat) x v, args[i]? = some x → vs[i]? = some v → yE (Mut M (asB B) ρ) ρ h.w x v) →
    Calls P f vs.toArray h.w fun e w' => ∃ ρ' v, e = .returned v ∧ Sat M 0 h (asB (B' ++ New)) ρ' wT w' ∧ yE (Mut M (asB (B' ++ New)) ρ') ρ' w' x v
section
variable {M : Nat → Nat → Prop} {n : Nat} {w0 : Home} {w : World} {S : AS} {ρ : Nat → Value} {a : Act}
theorem Sat.dropU (h : Sat M n w0 S ρ a w) (id : Nat) (u : Value) (hr : w0.r id = none) : Sat M n w0 (S.drop id) (upd ρ id u) a w := by
  have hu : ∀ j, j ≠ id → upd ρ id u j = ρ j := fun j hj => by simp [upd, hj]
  have hm : ∀ k c, Mut M (S.drop id) (upd ρ id u) k c → Mut M S ρ k c := fun k c hk => by
    rcases hk with hk | ⟨j, b, hb, hk, ht⟩
    · exact .inl hk
    · rw [AS.wU] at hb
      split at hb
      · cases hb
      · rename_i hne
        obtain ⟨b1, h1, rfl⟩ := Option.map_eq_some_iff.1 hb
        rw [hu j (fun e => hne e.symm)] at hk
        exact .inr ⟨j, b1, h1, hk, (Blk.kV b1 id c).1 ht⟩
  have hk : ∀ {x : AV} {v : Value}, yE (Mut M S ρ) ρ w x v → yE (Mut M (S.drop id) (upd ρ id u)) (upd ρ id u) w (x.kill id) v := fun {x v} hx => (hx.killed id u).mono fun k c _ hk => hm k c hk
  refine ⟨h.below, h.out, h.tab, h.size, h.defers, fun i => ?_, fun j b hb => ?_, fun j b k hb hk => ?_, fun k v hv => ?_, h.free, fun i j bi bj k hi hj h1 h2 => ?_⟩
  · have e : (S.drop id).tmp i = (S.tmp i).kill id := S.tmp_kill id i
    rw [e]
    exact hk (h.tmps i)
  · rw [AS.wU] at hb
    split at hb
    · cases hb
    · rename_i hne
      obtain ⟨b1, h1, rfl⟩ := Option.map_eq_some_iff.1 hb
      have := h.blks j b1 h1
      rw [hu j (fun e => hne e.symm)]
      cases b1 with
      | row t size m xs =>
        obtain ⟨ys, ho, hc⟩ := this
        exact ⟨ys, ho, (hc.killed id u).mono fun k c _ hk => hm k c hk⟩
      | prow t size m xs =>
        obtain ⟨ys, ho, hc⟩ := this
        exact ⟨ys, ho, (qK xs id ▸ hc.killed id u : yH _ _ _ (xs.map AV.p) ys).mono fun k c _ hk => hm k c hk⟩
      | box t xs =>
        obtain ⟨g, ys, hv, hg, hh, hc⟩ := this
        exact ⟨g, ys, hv, hg, hh, (hc.killed id u).mono fun k c _ hk => hm k c hk⟩
      | lent t size m xs =>
        obtain ⟨ys, ho, hc⟩ := this
        exact ⟨ys, ho, (qK xs id ▸ hc.killed id u : yH _ _ _ (xs.map AV.p) ys).mono fun k c _ hk => hm k c hk⟩
      | obj mp Q => exact this
  · rw [AS.wU] at hb
    split at hb
    · cases hb
    · rename_i hne
      obtain ⟨b1, h1, _⟩ := Option.map_eq_some_iff.1 hb
      rw [hu j (fun e => hne e.symm)] at hk
      exact h.mine j b1 k h1 hk
  · by_cases e : k = id
    · subst e
      rw [hr] at hv; cases hv
    · rw [hu k e]
      exact h.fix k v hv
  · rw [AS.wU] at hi hj
    split at hi
    · cases hi
    · rename_i hi1
      split at hj
      · cases hj
      · rename_i hj1
        obtain ⟨b1, h3, _⟩ := Option.map_eq_some_iff.1 hi
        obtain ⟨b2, h4, _⟩ := Option.map_eq_some_iff.1 hj
        rw [hu i (fun e => hi1 e.symm)] at h1
        rw [hu j (fun e => hj1 e.symm)] at h2
        exact h.dist i j b1 b2 k h3 h4 h1 h2
def AS.drops (S : AS) (ids : List Nat) : AS := ids.foldl AS.drop S
theorem Sat.drops : ∀ (ids : List Nat) {S : AS} {ρ : Nat → Value}, Sat M n w0 S ρ a w → (∀ j ∈ ids, w0.r j = none) → ∀ ρ', (∀ j, j ∉ ids → ρ' j = ρ j) → Sat M n w0 (S.drops ids) ρ' a w
  | [], S, ρ, h, _, ρ', e => by
    have : ρ' = ρ := funext fun j => e j (by simp)
    subst this
    exact h
  | id :: r, S, ρ, h, hr, ρ', e => by
    show Sat M n w0 ((S.drop id).drops r) ρ' a w
    refine Sat.drops r (h.dropU id (ρ' id) (hr id (by simp))) (fun j hj => hr j (by simp [hj])) ρ' fun j hj => ?_
    by_cases h1 : j = id
    · subst h1
      simp [upd]
    · rw [e j (by simp [h1, hj])]
      simp [upd, h1]
end
section
variable {P : Program} {n : Nat} {o : Oper} {S : AS} {d : Nat}
end
end Go.Proofs.YteadaggehndacaaDoor
/- Calls that make no access. Generic over the program. -/
namespace Go.Proofs.YteadaggehndacaaDoor
set_option maxRecDepth 100000
set_option maxHeartbeats 16000000
open Go Go.RowKit
set_option linter.unusedVariables false
section
variable {n : Nat} {o : Oper} {S : AS} {d : Nat} {K : Exit → AS → Prop}
/-- a call of what makes no access -/
theorem zR.h0 {α : Type} {f0 : FuncId} {avs xs : List AV} {bk : List Blk} {res : α → AV} {bk' : α → List Blk} {good : α → Prop} {H : Hnd} {s : H.σ} {x : α} {N : AS → Prop} (i : List Nat) (hd : o.dst = some d := by rfl) (hn : d < n := by decide) (he : Enters Tryd.prog o S f0 avs := by exact enA)
    (hx : avs = xs.map (AV.ren (sig (1000 :: 1001 :: 1002 :: i))) := by rfl) (hnd : (1000 :: 1001 :: 1002 :: i).Nodup := by decide)
    (h0 : S.blk 1000 = some (H.b0 s) := by first | rfl | exact yX rfl (H.nk _).1 (by repeat' first | exact KB.refl | apply KB.kill | decide)) (h1 : S.blk 1001 = some (H.b1 s) := by first | rfl | exact yX rfl (H.nk _).2.1 (by repeat' first | exact KB.refl | apply KB.kill | decide)) (h2 : S.blk 1002 = some (H.b2 s) := by first | rfl | exact yX rfl (H.nk _).2.2 (by repeat' first | exact KB.refl | apply KB.kill | decide))
    (hat : AtB S (1000 :: 1001 :: 1002 :: i) i bk := by repeat' first | exact trivial | rfl | constructor) (hbk : bk.all (Blk.okE (bk.length + 3)) = true := by rfl) (hxs : xs.all (AV.okE (bk.length + 3)) = true := by rfl) (hrx : ∀ x, (res x).okE (bk.length + 3) = true := by exact fun _ => rfl)
    (hbk' : ∀ x, (bk' x).length = bk.length ∧ (bk' x).all (Blk.okE (bk.length + 3)) = true := by exact fun _ => ⟨rfl, rfl⟩) (hok : H.ok s := by assumption) (f : FnH H f0 xs bk res bk' good s (.ret x))
    (r : good x → N (({ S with s := qO (1000 :: 1001 :: 1002 :: i) (H.b0 s :: H.b1 s :: H.b2 s :: (bk' x).map (Blk.ren (sig (1000 :: 1001 :: 1002 :: i)))) S.s } : AS).put d ((res x).ren (sig (1000 :: 1001 :: 1002 :: i))))) : zR Tryd.prog n o S K N :=
  zR.held H i hd hn he hx hnd h0 h1 h2 hat hbk hxs hrx hbk' hok f (fun y s' e g _ => by rw [zN] at e; cases e; exact r g) (fun q s' e => by rw [zN] at e; cases e) (by rw [zN]; intro e; cases e)
/-- a call, two ways by what is answered -/
theorem zR.hdB {α : Type} {f0 : FuncId} {avs xs : List AV} {bk : List Blk} {res : α → AV} {bk' : α → List Blk} {good : α → Prop} {H : Hnd} {s : H.σ} {p0 : Pr α} {N : AS → Prop} (c : α → Bool) (i : List Nat) (hd : o.dst = some d := by rfl) (hn : d < n := by decide) (he : Enters Tryd.prog o S f0 avs := by exact enA)
    (hx : avs = xs.map (AV.ren (sig (1000 :: 1001 :: 1002 :: i))) := by rfl) (hnd : (1000 :: 1001 :: 1002 :: i).Nodup := by decide)
    (h0 : S.blk 1000 = some (H.b0 s) := by first | rfl | exact yX rfl (H.nk _).1 (by repeat' first | exact KB.refl | apply KB.kill | decide)) (h1 : S.blk 1001 = some (H.b1 s) := by first | rfl | exact yX rfl (H.nk _).2.1 (by repeat' first | exact KB.refl | apply KB.kill | decide)) (h2 : S.blk 1002 = some (H.b2 s) := by first | rfl | exact yX rfl (H.nk _).2.2 (by repeat' first | exact KB.refl | apply KB.kill | decide))
    (hat : AtB S (1000 :: 1001 :: 1002 :: i) i bk := by repeat' first | exact trivial | rfl | constructor) (hbk : bk.all (Blk.okE (bk.length + 3)) = true := by rfl) (hxs : xs.all (AV.okE (bk.length + 3)) = true := by rfl) (hrx : ∀ x, (res x).okE (bk.length + 3) = true := by exact fun _ => rfl)
    (hbk' : ∀ x, (bk' x).length = bk.length ∧ (bk' x).all (Blk.okE (bk.length + 3)) = true := by exact fun _ => ⟨rfl, rfl⟩) (hok : H.ok s := by assumption) (f : FnH H f0 xs bk res bk' good s p0)
    (r0 : ∀ x s', p0.run H.st s = .done x s' → good x → H.ok s' → c x = false → N (({ S with s := qO (1000 :: 1001 :: 1002 :: i) (H.b0 s' :: H.b1 s' :: H.b2 s' :: (bk' x).map (Blk.ren (sig (1000 :: 1001 :: 1002 :: i)))) S.s } : AS).put d ((res x).ren (sig (1000 :: 1001 :: 1002 :: i)))))
    (r1 : ∀ x s', p0.run H.st s = .done x s' → good x → H.ok s' → c x = true → N (({ S with s := qO (1000 :: 1001 :: 1002 :: i) (H.b0 s' :: H.b1 s' :: H.b2 s' :: (bk' x).map (Blk.ren (sig (1000 :: 1001 :: 1002 :: i)))) S.s } : AS).put d ((res x).ren (sig (1000 :: 1001 :: 1002 :: i)))))
    (p : ∀ q s', p0.run H.st s = .need q s' → K (.panic []) { S with s := qO (1000 :: 1001 :: 1002 :: i) (H.b0 s' :: H.b1 s' :: H.b2 s' :: (bk.map Blk.forget).map (Blk.ren (sig (1000 :: 1001 :: 1002 :: i)))) S.s, x := needA (accQ q) })
    (t : p0.run H.st s ≠ .stuck) : zR Tryd.prog n o S K N := zR.held H i hd hn he hx hnd h0 h1 h2 hat hbk hxs hrx hbk' hok f (fun x s' e g k => by
      cases hc : c x
      · exact r0 x s' e g k hc
      · exact r1 x s' e g k hc) p t
end
end Go.Proofs.YteadaggehndacaaDoor
/- A call of what takes a record out: three ways. (No walk here: a text with walks is cut, and what is found by itself would be cut, too.) -/
namespace Go.Proofs.YteadaggehndacaaDoor
set_option maxRecDepth 100000
set_option maxHeartbeats 16000000
open Go Go.RowKit
set_option linter.unusedVariables false
section
variable {n : Nat} {o : Oper} {S : AS} {d : Nat} {K : Exit → AS → Prop}
/-- a call of what takes a record out -/
theorem zR.hdT {f0 : FuncId} {avs xs : List AV} {bk : List Blk} {res : Took → AV} {bk' : Took → List Blk} {good : Took → Prop} {H : Hnd} {s : H.σ} {p0 : Pr Took} {N : AS → Prop} (i : List Nat) (hd : o.dst = some d := by rfl) (hn : d < n := by decide) (he : Enters Tryd.prog o S f0 avs := by exact enA)
    (hx : avs = xs.map (AV.ren (sig (1000 :: 1001 :: 1002 :: i))) := by rfl) (hnd : (1000 :: 1001 :: 1002 :: i).Nodup := by decide)
    (h0 : S.blk 1000 = some (H.b0 s) := by first | rfl | exact yX rfl (H.nk _).1 (by repeat' first | exact KB.refl | apply KB.kill | decide)) (h1 : S.blk 1001 = some (H.b1 s) := by first | rfl | exact yX rfl (H.nk _).2.1 (by repeat' first | exact KB.refl | apply KB.kill | decide)) (h2 : S.blk 1002 = some (H.b2 s) := by first | rfl | exact yX rfl (H.nk _).2.2 (by repeat' first | exact KB.refl | apply KB.kill | decide))
    (hat : AtB S (1000 :: 1001 :: 1002 :: i) i bk := by repeat' first | exact trivial | rfl | constructor) (hbk : bk.all (Blk.okE (bk.length + 3)) = true := by rfl) (hxs : xs.all (AV.okE (bk.length + 3)) = true := by rfl) (hrx : ∀ x, (res x).okE (bk.length + 3) = true := by exact fun _ => rfl)
    (hbk' : ∀ x, (bk' x).length = bk.length ∧ (bk' x).all (Blk.okE (bk.length + 3)) = true := by exact fun _ => ⟨rfl, rfl⟩) (hok : H.ok s := by assumption) (f : FnH H f0 xs bk res bk' good s p0)
    (r0 : ∀ s', p0.run H.st s = .done .fail s' → good .fail → H.ok s' → N (({ S with s := qO (1000 :: 1001 :: 1002 :: i) (H.b0 s' :: H.b1 s' :: H.b2 s' :: (bk' .fail).map (Blk.ren (sig (1000 :: 1001 :: 1002 :: i)))) S.s } : AS).put d ((res .fail).ren (sig (1000 :: 1001 :: 1002 :: i)))))
    (r1 : ∀ s', p0.run H.st s = .done .miss s' → good .miss → H.ok s' → N (({ S with s := qO (1000 :: 1001 :: 1002 :: i) (H.b0 s' :: H.b1 s' :: H.b2 s' :: (bk' .miss).map (Blk.ren (sig (1000 :: 1001 :: 1002 :: i)))) S.s } : AS).put d ((res .miss).ren (sig (1000 :: 1001 :: 1002 :: i)))))
    (r2 : ∀ s', p0.run H.st s = .done .done s' → good .done → H.ok s' → N (({ S with s := qO (1000 :: 1001 :: 1002 :: i) (H.b0 s' :: H.b1 s' :: H.b2 s' :: (bk' .done).map (Blk.ren (sig (1000 :: 1001 :: 1002 :: i)))) S.s } : AS).put d ((res .done).ren (sig (1000 :: 1001 :: 1002 :: i)))))
    (p : ∀ q s', p0.run H.st s = .need q s' → K (.panic []) { S with s := qO (1000 :: 1001 :: 1002 :: i) (H.b0 s' :: H.b1 s' :: H.b2 s' :: (bk.map Blk.forget).map (Blk.ren (sig (1000 :: 1001 :: 1002 :: i)))) S.s, x := needA (accQ q) })
    (t : p0.run H.st s ≠ .stuck) : zR Tryd.prog n o S K N := zR.held H i hd hn he hx hnd h0 h1 h2 hat hbk hxs hrx hbk' hok f (fun x => match x with
    | .fail => r0
    | .miss => r1
    | .done => r2) p t
end
end Go.Proofs.YteadaggehndacaaDoor
/- Searches, seeks, links and marks: the program's, whatever makes its accesses: contracts. -/
namespace Go.Proofs.YteadaggehndacaaDoor
set_option maxRecDepth 100000
set_option maxHeartbeats 16000000
open Go Go.RowKit
set_option linter.unusedSimpArgs false
set_option linter.unusedVariables false
attribute [local irreducible] zY zZ Step zQ Sub zO zR Fn zS yA qQ
theorem notT {b : Bool} (h : (!b) = true) : b = false := by cases b <;> simp_all
theorem or1 (w : Int) (hw : U w) (he : decide (w % 2 = 1) = false) : bits .or .u64 w 1 = w + 1 := by
  refine (orBit w 1 hw.lo hw.hi (.inl rfl) ?_).1
  unfold qL
  simpa using he
theorem mark_h (H : Hnd) (s0 : H.σ) {t x w : Int} (ht : Small t) (hx : Rf x) (hw : U w) (he : decide (w % 2 = 1) = false) : FnH H 40 [H.doA, .p (.val (.int .i64 t)), .p (.val (.int .i64 x)), .p (.val (.int .u64 w))] [] (fun x => .p (.val (.bool x))) (fun _ => []) yes s0 (setMark t x w) := by
  have cn := cnext_fn t x ht hx.le
  have g1 := or1 w hw he
  have u1 := hw.succ he
  unfold Hnd.doA
  refine wJ Tryd.func40 rfl Tryd.ntmps40 (Nat.le_of_ble_eq_true rfl) (by decide) (kR _ hw u1) fun hok hns => ?_
  repeat' (first | (refine zY.is ?_; first | refine zY.nil ?_ | (refine zY.at_ 13 rfl ?_; refine zY.rc (.v zC (.v zC (.v v36_0 .e))) ?_) | (refine zY.at_ 8 rfl ?_; refine zY.rc (.v yV .e) ?_) | (refine zY.in_ [12] rfl ?_; refine zY.v rfl rfl (yK (cn) rfl rfl rfl (by decide)) ?_) | (refine zY.in_ [16] rfl ?_; refine zY.ofT rfl (zR.hd (i := []) (f := cas_h H _ _ _ _ hw u1) (r := fun x s e g hk => ?_) (p := fun q s e => ?_) (t := ?_)))) | (refine zZ.is ?_; first | refine zZ.seq ?_ | (refine zZ.isR (id := 0) ?_; refine zZ.rc [0, 1, 2, 3] [1000, 1001, 1002] (r := (.v yV .e)) (h := ?_)) | (refine zZ.isR (id := 1) ?_; refine zZ.rc [0, 1, 2, 3, 8] [1000, 1001, 1002] (r := (.v vM (.v zC (.v zC .e)))) (h := ?_)) | refine zZ.ret ?_) | refine zS.n ?_ | refine zS.p ?_)
  all_goals (first | exact fun e => hns (by clear hns; simp only [setMark, run_bind, zN, zM, Held.zB, Held.zI, Held.zD, cond_true, cond_false, *]) | exact .pan (q := q) rfl (by repeat' first | exact trivial | rfl | constructor) (by repeat' exact trivial) (by simp only [setMark, run_bind, zN, zM, Held.zB, Held.zI, Held.zD, cond_true, cond_false, *]) | exact .ret (by exact .inl rfl) (by exact .one rfl rfl) (by repeat' first | exact trivial | rfl | constructor) (by simp only [setMark, run_bind, zN, zM, Held.zB, Held.zI, Held.zD, cond_true, cond_false, *] <;> rfl))
theorem markOp_h (H : Hnd) (s0 : H.σ) {t x : Int} (ht : Small t) (hx : Rf x) : FnH H 19 [H.doA, .p (.val (.int .i64 t)), .p (.val (.int .i64 x))] [] (fun x => .p (.val (.bool x))) (fun _ => []) yes s0 (markP t x) := by
  have cn := cnext_fn t x ht hx.le
  unfold Hnd.doA
  refine wJ Tryd.func19 rfl Tryd.ntmps19 (Nat.le_of_ble_eq_true rfl) (by decide) (fine_mark t x) fun hok hns => ?_
  repeat' (first | (refine zY.is ?_; first | refine zY.nil ?_ | (refine zY.at_ 15 rfl ?_; refine zY.rc (.v v52_8 (.v zC .e)) ?_) | (refine zY.at_ 17 rfl ?_; refine zY.rc (.gY vM (.gY zC (.gY zC (.gY zC .e)))) ?_) | (refine zY.at_ 17 rfl ?_; refine zY.rc (.gT (.gT (.gT (.gT (.gT (.v qY (.v yV .e))))))) ?_) | (refine zY.at_ 22 rfl ?_; refine zY.rc (.v qI (.v yV .e)) ?_) | (refine zY.at_ 7 rfl ?_; refine zY.rc (.v yV .e) ?_) | (refine zY.in_ [11] rfl ?_; refine zY.v rfl rfl (yK (cn) rfl rfl rfl (by decide)) ?_) | (refine zY.in_ [14] rfl ?_; refine zY.v rfl rfl (yK (mark_fn _ (U.lo (by assumption)) (U.hi (by assumption))) rfl rfl rfl (by decide)) ?_) | (refine zY.in_ [12] rfl ?_; refine zY.ofT rfl (zR.hd (i := []) (f := load_h H _ _) (r := fun x s e g hk => ?_) (p := fun q s e => ?_) (t := ?_))) | (refine zY.in_ [21] rfl ?_; refine zY.ofTg rfl rfl (by decide) rfl bA (zR.hd (i := []) (f := mark_h H _ ht hx (by assumption) (notT (by assumption))) (r := fun x s e g hk => ?_) (p := fun q s e => ?_) (t := ?_))) | (fail_if_success refine zY.known rfl rfl rfl (by fail) ?_); refine zY.split rfl rfl rfl (fun h => ?_) (fun h => ?_)) | (refine zZ.is ?_; first | refine zZ.seq ?_ | (refine zZ.isR (id := 0) ?_; refine zZ.rc [0, 1, 2] [1000, 1001, 1002] (r := (.v yV .e)) (h := ?_)) | (refine zZ.isR (id := 1) ?_; refine zZ.rc [0, 1, 2, 6] [1000, 1001, 1002] (r := (.v vM (.v zC (.v zC .e)))) (h := ?_)) | (refine zZ.isR (id := 2) ?_; refine zZ.rc [0, 1, 2, 6, 7] [1000, 1001, 1002] (r := (.v zC .e)) (h := ?_)) | refine zZ.ret ?_) | refine zS.n ?_ | refine zS.p ?_)
  all_goals try simp only [Bool.not_eq_true', Bool.not_eq_false'] at *
  all_goals (first | exact fun e => hns (by clear hns; simp only [markP, run_bind, zN, zM, Held.zB, Held.zI, Held.zD, cond_true, cond_false, *]) | exact .pan (q := q) rfl (by repeat' first | exact trivial | rfl | constructor) (by repeat' exact trivial) (by simp only [markP, run_bind, zN, zM, Held.zB, Held.zI, Held.zD, cond_true, cond_false, *]) | exact .ret (by exact .inl rfl) (by exact .one rfl rfl) (by repeat' first | exact trivial | rfl | constructor) (by simp only [markP, run_bind, zN, zM, Held.zB, Held.zI, Held.zD, cond_true, cond_false, *] <;> rfl))
theorem link_h (H : Hnd) (s0 : H.σ) {t p x r : Int} (ht : Small t) (hp : Rf p) (hx : Rf x) (hr : Rf r) : FnH H 18 [H.doA, .p (.val (.int .i64 t)), .p (.val (.int .i64 p)), .p (.val (.int .i64 x)), .p (.val (.int .i64 r))] [] (fun x => .p (.val (.bool x))) (fun _ => []) yes s0 (linkP t p x r) := by
  have cn := cnext_fn t p ht hp.le
  have cm := cnext_fn t r ht hr.le
  have cx := link_fn x hx.le
  have cr := link_fn r hr.le
  have ux := hx.u2
  have ur := hr.u2
  unfold Hnd.doA
  refine wJ Tryd.func18 rfl Tryd.ntmps18 (Nat.le_of_ble_eq_true rfl) (by decide) (fine_link t p hx hr) fun hok hns => ?_
  repeat' (first | (refine zY.is ?_; first | refine zY.nil ?_ | (refine zY.at_ 10 rfl ?_; refine zY.rc (.v yV .e) ?_) | (refine zY.at_ 11 rfl ?_; refine zY.rc (.v yV .e) ?_) | (refine zY.at_ 18 rfl ?_; refine zY.rc (.v zC .e) ?_) | (refine zY.at_ 24 rfl ?_; refine zY.rc (.v zC (.v zC .e)) ?_) | (refine zY.in_ [23] rfl ?_; refine zY.v rfl rfl (yK (cn) rfl rfl rfl (by decide)) ?_) | (refine zY.in_ [17] rfl ?_; refine zY.v rfl rfl (yK (cm) rfl rfl rfl (by decide)) ?_) | (refine zY.in_ [13] rfl ?_; refine zY.v rfl rfl (yK (cx) rfl rfl rfl (by decide)) ?_) | (refine zY.in_ [26] rfl ?_; refine zY.v rfl rfl (yK (cr) rfl rfl rfl (by decide)) ?_) | (refine zY.in_ [19] rfl ?_; refine zY.ofT rfl (zR.hd (i := []) (f := store_h H _ _ _ ux) (r := fun x s e g hk => ?_) (p := fun q s e => ?_) (t := ?_))) | (refine zY.in_ [27] rfl ?_; refine zY.ofT rfl (zR.hd (i := []) (f := cas_h H _ _ _ _ ux ur) (r := fun x s e g hk => ?_) (p := fun q s e => ?_) (t := ?_)))) | (refine zZ.is ?_; first | refine zZ.seq ?_ | (refine zZ.isR (id := 0) ?_; refine zZ.rc [0, 1, 2, 3, 4] [1000, 1001, 1002] (r := (.v yV .e)) (h := ?_)) | (refine zZ.isR (id := 1) ?_; refine zZ.rc [0, 1, 2, 3, 4, 10] [1000, 1001, 1002] (r := (.v zC .e)) (h := ?_)) | (refine zZ.isR (id := 2) ?_; refine zZ.rc [0, 1, 2, 4, 10, 11] [1000, 1001, 1002] (r := (.v vM (.v zC (.v zC .e)))) (h := ?_)) | (refine zZ.isR (id := 3) ?_; refine zZ.rc [0, 1, 2, 4, 10, 11] [1000, 1001, 1002] (r := (.v vM (.v zC (.v zC .e)))) (h := ?_)) | refine zZ.ret ?_) | refine zS.n ?_ | refine zS.p ?_)
  all_goals (first | exact fun e => hns (by clear hns; simp only [linkP, run_bind, zN, zM, Held.zB, Held.zI, Held.zD, cond_true, cond_false, *]) | exact .pan (q := q) rfl (by repeat' first | exact trivial | rfl | constructor) (by repeat' exact trivial) (by simp only [linkP, run_bind, zN, zM, Held.zB, Held.zI, Held.zD, cond_true, cond_false, *]) | exact .ret (by exact .inl rfl) (by exact .one rfl rfl) (by repeat' first | exact trivial | rfl | constructor) (by simp only [linkP, run_bind, zN, zM, Held.zB, Held.zI, Held.zD, cond_true, cond_false, *] <;> rfl))
/-! ### Seeks -/
def seekS (H : Hnd) (t k p x : Int) (s : H.σ) : AS :=
  { t := [(3, .p (.val (.int .u64 k))), (8, .p (.val (.int .i64 0))), (9, .p (.val (.bool false))), (10, .ptr 21 0)], s := [(1000, H.b0 s), (1001, H.b1 s), (1002, H.b2 s), (21, vS H t p x)] }
theorem seek_h (H : Hnd) (s0 : H.σ) {t f k : Int} (ht : Small t) (hf : Rf f) : FnH H 21 [H.doA, .p (.val (.int .i64 t)), .p (.val (.int .i64 f)), .p (.val (.int .u64 k))] [] (fun r => .tup ([.val (.int .i64 r.1), .val (.bool r.2)].map .p)) (fun _ => []) SFound s0 (seekP t f k) := by
  have cn := cnext_fn t f ht hf.le
  unfold Hnd.doA
  refine wJ Tryd.func21 rfl Tryd.ntmps21 (Nat.le_of_ble_eq_true rfl) (by decide) (fine_seek t f k) fun hok hns => ?_
  repeat' (first | (refine zY.is ?_; first | refine zY.nil ?_ | (refine zY.at_ 10 rfl ?_; refine zY.rc (.v v1_2 .e) ?_) | (refine zY.in_ [17] rfl ?_; refine zY.v rfl rfl (yK (cn) rfl rfl rfl (by decide)) ?_) | (refine zY.in_ [19] rfl ?_; refine zY.v rfl rfl (yK (ref_fn _ (U.lo (by assumption)) (U.hi (by assumption))) rfl rfl rfl (by decide)) ?_) | (refine zY.in_ [18] rfl ?_; refine zY.ofT rfl (zR.hd (i := []) (f := load_h H _ _) (r := fun x s e g hk => ?_) (p := fun q s e => ?_) (t := ?_))) | refine zY.buildBx rfl rfl rfl rfl rfl rfl (by decide) (by decide) rfl rfl rfl rfl ?_) | (refine zZ.is ?_; first | refine zZ.seq ?_ | (refine zZ.isR (id := 0) ?_; refine zZ.rc [0, 1, 2, 3] [21, 1000, 1001, 1002] (r := (.v yV (.v yV .e))) (h := ?_)) | (refine zZ.isR (id := 1) ?_; refine zZ.rc [0, 1, 2, 3, 8, 9] [21, 1000, 1001, 1002] (r := (.v vM (.v zC (.v vM (.v zC (.v zC .e)))))) (h := ?_)) | refine zZ.block ?_) | refine zS.n ?_ | refine zS.p ?_)
  all_goals (first | exact fun e => hns (by clear hns; simp only [seekP, run_bind, zN, zM, Held.zB, Held.zI, Held.zD, cond_true, cond_false, *]) | exact .pan (q := q) rfl (by repeat' first | exact trivial | rfl | constructor) (by repeat' exact trivial) (by simp only [seekP, run_bind, zN, zM, Held.zB, Held.zI, Held.zD, cond_true, cond_false, *]) | skip)
  have ho0 : (seekP t f k).run H.st s0 = (contS t k many (xL x)).run H.st s := by
    simp only [seekP, run_bind, zN, Held.zB, *]
    rfl
  rw [ho0] at hns ⊢
  refine zZ.loop (fun q : Nat × (Int × Int) × H.σ => seekS H t k q.2.1.1 q.2.1.2 q.2.2) (fun q => H.ok q.2.2 ∧ Rf q.2.1.2 ∧ (contS t k q.1 q.2.1.2).run H.st q.2.2 = (contS t k many (xL x)).run H.st s) (fun q => q.1) (many, (0, xL x), s) ?h0 ⟨by assumption, kT _, rfl⟩ ?rd
  case h0 =>
    refine yM (is := [3, 8, 9, 10]) (js := [1000, 1001, 1002, 21]) ?_ ?_
    repeat' first | exact zX.nil | apply zX.p rfl | apply zX.ptr rfl | apply zX.own rfl | apply zX.clo rfl | apply zX.ifp rfl | apply zX.pt rfl | apply zX.tup rfl | apply zX.skip
    repeat' first | exact zW.nil | apply zW.boxP rfl rfl | apply zW.xG rfl | (apply zW.at0; exact yX rfl (H.nk _).1 (by repeat' first | exact KB.refl | apply KB.kill | decide)) | (apply zW.at1; exact yX rfl (H.nk _).2.1 (by repeat' first | exact KB.refl | apply KB.kill | decide)) | (apply zW.at2; exact yX rfl (H.nk _).2.2 (by repeat' first | exact KB.refl | apply KB.kill | decide)) | apply zW.some rfl | apply zW.skip
  case rd =>
    clear e
    generalize xL x = y0 at *
    rintro ⟨n, ⟨p, x1⟩, s1⟩ ⟨hok1, hx, ho⟩
    dsimp only at hok1 hx ho ⊢
    rw [← ho] at hns ⊢
    unfold seekS
    unfold contS at *
    cases hz : decide (x1 = 0)
    case true =>
      rw [hz] at ho hns
      have hz' : (!decide (x1 = 0)) = false := by rw [hz]; rfl
      unfold vS Hnd.doA
      repeat' (first | (refine zY.nil ?_) | (refine zZ.is ?_; first | refine zZ.seq ?_ | (refine zZ.isR (id := 2) ?_; refine zZ.rc [3, 8, 9, 10, 11, 26, 31] [21, 1000, 1001, 1002] (r := (.v v0_2 (.v v4_0 (.v yR (.v yN (.v v42_0 .e)))))) (h := ?_)) | (refine zZ.isR (id := 7) ?_; refine zZ.rc [8, 9] [21, 1000, 1001, 1002] (r := (.v yV (.v yV .e))) (h := ?_)) | refine zZ.yU rfl bA ?_ | refine zZ.exit ?_ | refine zZ.ret ?_) | refine zS.n ?_ | refine yA.eY ?_ | refine zS.e ?_)
      all_goals (exact .ret (x := (_, _)) (by exact .inl rfl) (by exact .tup rfl (by decide) (.cons (.tmp rfl) (.cons (.tmp rfl) .nil))) (by repeat' first | exact trivial | rfl | constructor) (by simp only [run_bind, zN, zM, Held.zB, Held.zI, Held.zD, cond_true, cond_false, *] <;> rfl))
    case false =>
      rw [hz] at ho hns
      have hz' : (!decide (x1 = 0)) = true := by rw [hz]; rfl
      have hxr := hx.rc ht
      rw [cond_false] at ho hns ⊢
      cases n with
      | zero => exact absurd rfl hns
      | succ n =>
        rw [kG] at ho hns ⊢
        repeat' (first | (refine zY.is ?_; first | refine zY.nil ?_ | (refine zY.at_ 11 rfl ?_; refine zY.rc (.v yV .e) ?_) | (refine zY.in_ [28, 41] rfl ?_; refine zY.ofT rfl (zR.hd (i := [21]) (f := field_h H _ hxr (by decide)) (r := fun x s e g hk => ?_) (p := fun q s e => ?_) (t := ?_))) | (refine zY.in_ [42] rfl ?_; refine zY.ofT rfl (zR.h0 (i := [21]) (f := on_h H _ (by assumption)) (r := fun g => ?_)))) | (refine zZ.is ?_; first | refine zZ.seq ?_ | (refine zZ.isR (id := 2) ?_; refine zZ.rc [3, 8, 9, 10, 11, 26, 31] [21, 1000, 1001, 1002] (r := (.v v0_2 (.v v4_0 (.v yR (.v yN (.v v42_0 .e)))))) (h := ?_)) | (refine zZ.isR (id := 3) ?_; refine zZ.rc [3, 8, 9, 10, 11, 26, 31] [21, 1000, 1001, 1002] (r := (.v v0_2 .e)) (h := ?_)) | (refine zZ.isR (id := 4) ?_; refine zZ.rc [3, 8, 9, 10, 11, 26, 31] [21, 1000, 1001, 1002] (r := (.v zC (.v zC (.v v46_8 .e)))) (h := ?_)) | (refine zZ.isR (id := 5) ?_; refine zZ.rc [3, 8, 9, 10, 11, 26, 31] [21, 1000, 1001, 1002] (r := (.v v0_2 (.v v4_0 (.v yR (.v yN (.v zC (.v zC (.v v41_8 (.v yV (.v yV .e)))))))))) (h := ?_)) | (refine zZ.isR (id := 6) ?_; refine zZ.rc [3, 8, 9, 10, 11, 26, 31] [21, 1000, 1001, 1002] (r := (.v v0_2 (.v v0_2 .e))) (h := ?_)) | refine zZ.yT rfl bA ?_ | refine zZ.cond rfl (fun h => ?_) (fun h => ?_) | refine zZ.skip ?_ | refine zZ.block ?_ | refine zZ.ret ?_) | refine zS.n ?_ | refine zS.r ?_ | refine zS.p ?_ | refine yA.n ?_ | refine yA.r ?_ | refine yA.p ?_)
        all_goals (first | exact fun e => hns (by clear hns; simp only [vX, run_bind, zN, zM, Held.zB, Held.zI, Held.zD, cond_true, cond_false, *]) | exact .pan (q := q) rfl (by repeat' first | exact trivial | rfl | constructor) (by repeat' exact trivial) (by simp only [vX, run_bind, zN, zM, Held.zB, Held.zI, Held.zD, cond_true, cond_false, *]) | exact .ret (x := (_, _)) (by exact .inl rfl) (by exact .tup rfl (by decide) (.cons (.tmp rfl) (.cons (.tmp rfl) .nil))) (by repeat' first | exact trivial | rfl | constructor) (by simp only [vX, run_bind, zN, zM, Held.zB, Held.zI, Held.zD, cond_true, cond_false, *] <;> rfl) | skip)
        refine ⟨(n, (x1, xL x), s), ?_, ⟨hk, kT _, ?_⟩, Nat.lt_succ_self n⟩
        · refine yM (is := [3, 8, 9, 10]) (js := [1000, 1001, 1002, 21]) ?_ ?_
          repeat' first | exact zX.nil | apply zX.p rfl | apply zX.ptr rfl | apply zX.own rfl | apply zX.clo rfl | apply zX.ifp rfl | apply zX.pt rfl | apply zX.tup rfl | apply zX.skip
          repeat' first | exact zW.nil | apply zW.boxP rfl rfl | apply zW.xG rfl | (apply zW.at0; exact yX rfl (H.nk _).1 (by repeat' exact KB.refl)) | (apply zW.at1; exact yX rfl (H.nk _).2.1 (by repeat' exact KB.refl)) | (apply zW.at2; exact yX rfl (H.nk _).2.2 (by repeat' exact KB.refl)) | apply zW.some rfl | apply zW.skip
        · have e1 : (vX t k x1).run H.st s1 = .done (endS (xL x)) s := by
            clear ho hns ho0
            simp only [vX, run_bind, zN, zM, Held.zB, cond_false, *]
          rw [run_bind, e1, Held.zB]
          exact congrArg (fun p => Pr.run H.st p s) (contS_eq t k n (xL x)).symm
/-! ### A walk that is told where to stop -/
def ptrB (i : Nat) : Blk := .box 83 [.ptr i 0]
def keyB (k : Int) : Blk := .box 27 [.p (.val (.int .u64 k))]
theorem search1_h (H : Hnd) (s0 : H.σ) {t p x k w : Int} (f : Bool) (hx : Rc t x) : FnH H 32 [.p (.val (.int .u64 w)), .ptr 1004 0, .ptr 1005 0, .ptr 1006 0] [vS H t p x, ptrB 1003, keyB k, isB f] (fun n => .tup ([.val (.bool (decide (k ≤ n))), .val (.bool false)].map .p)) (fun n => [vS H t p x, ptrB 1003, keyB k, isB (decide (n = k))]) U s0 (wH (zF t x 1)) := by
  unfold ptrB keyB
  refine wJ Tryd.func32 rfl Tryd.ntmps32 (Nat.le_of_ble_eq_true rfl) (by decide) (xZ _) fun hok hns => ?_
  repeat' (first | (refine zY.is ?_; first | refine zY.nil ?_ | (refine zY.at_ 7 rfl ?_; refine zY.rc (.v yV .e) ?_) | (refine zY.in_ [9] rfl ?_; refine zY.ofT rfl (zR.hd (i := [1003]) (f := field_h H _ hx (by decide)) (r := fun x s e g hk => ?_) (p := fun q s e => ?_) (t := ?_)))) | (refine zZ.is ?_; first | refine zZ.seq ?_ | (refine zZ.isR (id := 0) ?_; refine zZ.rc [1, 2, 3] [1000, 1001, 1002, 1003, 1004, 1005, 1006] (r := (.v yV (.v yV .e))) (h := ?_)) | (refine zZ.isR (id := 1) ?_; refine zZ.rc [1, 2, 3, 5, 6] [1000, 1001, 1002, 1003, 1004, 1005, 1006] (r := (.v v2_12 .e)) (h := ?_)) | (refine zZ.isR (id := 2) ?_; refine zZ.rc [2, 3, 5, 6, 7] [1000, 1001, 1002, 1003, 1004, 1005, 1006] (r := (.v zC (.v yN (.v v41_8 (.w yI .e))))) (h := ?_)) | (refine zZ.isR (id := 3) ?_; refine zZ.rc [2, 5, 6, 7] [1000, 1001, 1002, 1003, 1004, 1005, 1006] (r := (.v zC (.v yN (.v v46_8 (.v yV (.v yV .e)))))) (h := ?_)) | refine zZ.ret ?_) | refine zS.n ?_ | refine zS.p ?_)
  all_goals (first | exact fun e => hns (by clear hns; simp only [run_bind, zN, zM, Held.zB, Held.zI, Held.zD, cond_true, cond_false, *]) | exact .pan (q := q) rfl (by repeat' first | exact trivial | rfl | constructor) (by repeat' first | exact trivial | exact ⟨_, rfl, rfl⟩ | constructor) (by simp only [run_bind, zN, zM, Held.zB, Held.zI, Held.zD, cond_true, cond_false, *]) | exact .ret (x := x) (by exact .inl rfl) (by exact .tup rfl (by decide) (.cons (.tmp rfl) (.cons (.tmp rfl) .nil))) (by repeat' first | exact trivial | rfl | constructor) (by simp only [run_bind, zN, zM, Held.zB, Held.zI, Held.zD, cond_true, cond_false, *] <;> rfl))
def alongF (H : Hnd) (t k p x : Int) (s : H.σ) : AS :=
  { t := [(0, .ptr 1003 0), (1, .clo 32 [1004, 1005, 1006]), (4, .p (.val (.bool false)))], s := [(1000, H.b0 s), (1001, H.b1 s), (1002, H.b2 s), (1003, vS H t p x), (1004, ptrB 1003), (1005, keyB k), (1006, isB false)] }
theorem along_h (H : Hnd) (s0 : H.σ) {t k : Int} (ht : Small t) : FnH H 31 [.ptr 1003 0, .clo 32 [1004, 1005, 1006]] [vS H t 0 0, ptrB 1003, keyB k, isB false] (fun r => .p (.val (.bool r.ok))) (fun r => [vS H t r.p r.x, ptrB 1003, keyB k, isB r.is]) FOK s0 (alongP t k) := by
  refine wJ Tryd.func31 rfl Tryd.ntmps31 (Nat.le_of_ble_eq_true rfl) (by decide) (fine_along t k) fun hok hns => ?_
  repeat' (first | (refine zY.nil ?_) | (refine zZ.is ?_; first | refine zZ.seq ?_ | (refine zZ.isR (id := 0) ?_; refine zZ.rc [0, 1] [1000, 1001, 1002, 1003, 1004, 1005, 1006] (r := (.v yV .e)) (h := ?_))) | refine zS.n ?_)
  refine zZ.scopeL 0 (fun q : Nat × (Int × Int) × H.σ => alongF H t k q.2.1.1 q.2.1.2 q.2.2) (fun q => H.ok q.2.2 ∧ (Pr.loop (yB t (xC t k)) q.1 none).run H.st q.2.2 = (alongP t k).run H.st s0) (fun q => q.1) (many, (0, 0), s0) ?h0 ⟨hok, rfl⟩ ?rd
  case h0 =>
    refine yM (is := [0, 1, 4]) (js := [1000, 1001, 1002, 1003, 1004, 1005, 1006]) ?_ ?_
    repeat' first | exact zX.nil | apply zX.p rfl | apply zX.ptr rfl | apply zX.own rfl | apply zX.clo rfl | apply zX.ifp rfl | apply zX.pt rfl | apply zX.tup rfl | apply zX.skip
    repeat' first | exact zW.nil | apply zW.boxP rfl rfl | apply zW.xG rfl | (apply zW.at0; exact yX rfl (H.nk _).1 (by repeat' exact KB.refl)) | (apply zW.at1; exact yX rfl (H.nk _).2.1 (by repeat' exact KB.refl)) | (apply zW.at2; exact yX rfl (H.nk _).2.2 (by repeat' exact KB.refl)) | apply zW.some rfl | apply zW.skip
  case rd =>
    rintro ⟨n, ⟨p, x⟩, s1⟩ ⟨hok1, ho⟩
    dsimp only at hok1 ho ⊢
    rw [← ho] at hns ⊢
    unfold alongF
    cases n with
    | zero => exact absurd rfl hns
    | succ n =>
      rw [kG] at ho hns ⊢
      repeat' (first | (refine zY.is ?_; first | refine zY.nil ?_ | (refine zY.in_ [11] rfl ?_; refine zY.ofT rfl (zR.hd (i := [1003]) (f := start_h H _ ht) (r := fun x s e g hk => ?_) (p := fun q s e => ?_) (t := ?_)))) | (refine zZ.is ?_; first | refine zZ.seq ?_ | (refine zZ.isR (id := 1) ?_; refine zZ.rc [0, 1, 4] [1000, 1001, 1002, 1003, 1004, 1005, 1006] (r := (.v v0_2 .e)) (h := ?_)) | refine zZ.block ?_) | refine zS.n ?_ | refine zS.p ?_ | refine qQ.p ?_)
      all_goals (first | exact fun e => hns (by clear hns; simp only [yB, run_bind, zN, zM, Held.zB, Held.zI, Held.zD, cond_true, cond_false, *]) | exact .pan (q := q) rfl (by repeat' first | exact trivial | rfl | constructor) (by repeat' first | exact trivial | exact ⟨_, rfl, rfl⟩ | constructor) (by simp only [yB, run_bind, zN, zM, Held.zB, Held.zI, Held.zD, cond_true, cond_false, *]) | skip)
      have e1 : (yB t (xC t k) none).run H.st s1 = .done (endW 0 (xL x)) s := by
        clear ho hns
        simp only [yB, run_bind, zN, Held.zB, *]
      rw [run_bind, e1, Held.zB, vI] at ho hns ⊢
      refine zZ.loop (fun q : Nat × (Int × Int) × H.σ => alongF H t k q.2.1.1 q.2.1.2 q.2.2) (fun q => q.1 ≤ n ∧ H.ok q.2.2 ∧ Rf q.2.1.1 ∧ Rf q.2.1.2 ∧ (contL t (xC t k) q.1 q.2.1.1 q.2.1.2).run H.st q.2.2 = (contL t (xC t k) n 0 (xL x)).run H.st s) (fun q => q.1) (n, (0, xL x), s) ?h0 ⟨Nat.le_refl _, hk, rf_0, kT _, rfl⟩ ?rd
      case h0 =>
        refine yM (is := [0, 1, 4]) (js := [1000, 1001, 1002, 1003, 1004, 1005, 1006]) ?_ ?_
        repeat' first | exact zX.nil | apply zX.p rfl | apply zX.ptr rfl | apply zX.own rfl | apply zX.clo rfl | apply zX.ifp rfl | apply zX.pt rfl | apply zX.tup rfl | apply zX.skip
        repeat' first | exact zW.nil | apply zW.boxP rfl rfl | apply zW.xG rfl | (apply zW.at0; exact yX rfl (H.nk _).1 (by repeat' exact KB.refl)) | (apply zW.at1; exact yX rfl (H.nk _).2.1 (by repeat' exact KB.refl)) | (apply zW.at2; exact yX rfl (H.nk _).2.2 (by repeat' exact KB.refl)) | apply zW.some rfl | apply zW.skip
      case rd =>
        rintro ⟨m, ⟨p1, x1⟩, s2⟩ ⟨hmn, hok2, hp1, hx1, ho2⟩
        dsimp only at hmn hok2 hp1 hx1 ho2 ⊢
        clear e1 e hk
        rw [← ho2] at ho hns ⊢
        unfold alongF
        unfold contL at ho hns ⊢
        cases hz : decide (x1 = 0)
        case true =>
          rw [hz] at ho hns
          obtain rfl : x1 = 0 := of_decide_eq_true hz
          have hz' : (!decide ((0 : Int) = 0)) = false := rfl
          repeat' (first | (refine zY.nil ?_) | (refine zZ.is ?_; first | refine zZ.seq ?_ | (refine zZ.isR (id := 2) ?_; refine zZ.rc [0, 1, 4, 5, 6, 7, 8, 9, 16, 20, 28, 30, 37, 39] [1000, 1001, 1002, 1003, 1004, 1005, 1006] (r := (.v v0_2 (.v v4_0 (.v yR (.v yN (.v v42_0 .e)))))) (h := ?_)) | (refine zZ.isR (id := 14) ?_; refine zZ.rc [4] [1000, 1001, 1002, 1003, 1004, 1005, 1006] (r := (.v yV .e)) (h := ?_)) | refine zZ.yU rfl bA ?_ | refine zZ.exit ?_ | refine zZ.ret ?_) | refine zS.n ?_ | refine yA.eY ?_ | refine zS.e ?_ | refine qQ.r ?_)
          all_goals (exact .ret (x := ⟨_, _, _, _⟩) (by exact .inl rfl) (by exact .one rfl rfl) (by repeat' first | exact trivial | rfl | constructor) (by simp only [run_bind, zN, zM, Held.zB, Held.zI, Held.zD, cond_true, cond_false, *] <;> rfl))
        case false =>
          rw [hz] at ho hns
          have hz' : (!decide (x1 = 0)) = true := by rw [hz]; rfl
          have hxr := hx1.rc ht
          have hw : WOK p1 x1 := ⟨hp1, hx1, hz⟩
          have hnk : ∀ n : Int, decide (k ≤ n) = false → decide (n = k) = false := fun n h => by
            have := of_decide_eq_false h
            exact decide_eq_false (by omega)
          rw [cond_false] at ho hns ⊢
          cases m with
          | zero => exact absurd rfl hns
          | succ m =>
            rw [kG] at ho hns ⊢
            repeat' (first | (refine zY.is ?_; first | refine zY.nil ?_ | (refine zY.at_ 21 rfl ?_; refine zY.rc (.v v0_4 (.v x9 (.v x9 (.v yV (.v yV .e))))) ?_) | (refine zY.at_ 31 rfl ?_; refine zY.rc (.v v0_4 (.v x9 (.v x9 (.v yV (.v yV .e))))) ?_) | (refine zY.at_ 5 rfl ?_; refine zY.rc (.v yV .e) ?_) | (refine zY.in_ [20] rfl ?_; refine zY.v rfl rfl (yK (mark_fn _ (U.lo (by assumption)) (U.hi (by assumption))) rfl rfl rfl (by decide)) ?_) | (refine zY.in_ [18] rfl ?_; refine zY.ofT rfl (zR.hd (i := [1003]) (f := field_h H _ hxr (by decide)) (r := fun x s e g hk => ?_) (p := fun q s e => ?_) (t := ?_))) | (refine zY.in_ [34] rfl ?_; refine zY.ofT rfl (zR.hd (i := [1003, 1004, 1005, 1006]) (f := search1_h H _ _ hxr) (r := fun x s e g hk => ?_) (p := fun q s e => ?_) (t := ?_))) | (refine zY.in_ [24] rfl ?_; refine zY.ofT rfl (zR.hdT (i := [1003]) (f := out_h H _ ht hw (by assumption)) (r0 := fun s e g hk => ?_) (r1 := fun s e g hk => ?_) (r2 := fun s e g hk => ?_) (p := fun q s e => ?_) (t := ?_))) | (refine zY.in_ [42] rfl ?_; refine zY.ofT rfl (zR.h0 (i := [1003]) (f := on_h H _ (by assumption)) (r := fun g => ?_)))) | (refine zZ.is ?_; first | refine zZ.seq ?_ | (refine zZ.isR (id := 2) ?_; refine zZ.rc [0, 1, 4, 5, 6, 7, 8, 9, 16, 20, 28, 30, 37, 39] [1000, 1001, 1002, 1003, 1004, 1005, 1006] (r := (.v v0_2 (.v v4_0 (.v yR (.v yN (.v v42_0 .e)))))) (h := ?_)) | (refine zZ.isR (id := 3) ?_; refine zZ.rc [0, 1, 4, 5, 6, 7, 8, 9, 16, 20, 28, 30, 37, 39] [1000, 1001, 1002, 1003, 1004, 1005, 1006] (r := (.v v0_2 .e)) (h := ?_)) | (refine zZ.isR (id := 4) ?_; refine zZ.rc [0, 1, 4, 5, 6, 7, 8, 9, 16, 20, 28, 30, 37, 39] [1000, 1001, 1002, 1003, 1004, 1005, 1006] (r := (.v zC .e)) (h := ?_)) | (refine zZ.isR (id := 5) ?_; refine zZ.rc [0, 1, 4, 5, 6, 7, 8, 9, 16, 20, 28, 30, 37, 39] [1000, 1001, 1002, 1003, 1004, 1005, 1006] (r := (.v v0_2 (.v zC .e))) (h := ?_)) | (refine zZ.isR (id := 6) ?_; refine zZ.rc [0, 1, 4, 5, 6, 7, 8, 9, 16, 20, 28, 30, 37, 39] [1000, 1001, 1002, 1003, 1004, 1005, 1006] (r := (.v zC (.v v52_4 .e))) (h := ?_)) | (refine zZ.isR (id := 6) ?_; refine zZ.rc [0, 1, 4, 5, 6, 7, 8, 9, 16, 20, 28, 30, 37, 39] [1000, 1001, 1002, 1003, 1004, 1005, 1006] (r := (.v zC (.v v52_5 .e))) (h := ?_)) | (refine zZ.isR (id := 7) ?_; refine zZ.rc [0, 1, 4, 5, 6, 7, 8, 9, 16, 20, 28, 30, 37, 39] [1000, 1001, 1002, 1003, 1004, 1005, 1006] (r := (.v yV .e)) (h := ?_)) | (refine zZ.isR (id := 8) ?_; refine zZ.rc [0, 1, 4, 5, 6, 7, 8, 9, 16, 20, 28, 30, 37, 39] [1000, 1001, 1002, 1003, 1004, 1005, 1006] (r := (.v zC (.v v52_4 .e))) (h := ?_)) | (refine zZ.isR (id := 8) ?_; refine zZ.rc [0, 1, 4, 5, 6, 7, 8, 9, 16, 20, 28, 30, 37, 39] [1000, 1001, 1002, 1003, 1004, 1005, 1006] (r := (.v zC (.v v52_5 .e))) (h := ?_)) | (refine zZ.isR (id := 9) ?_; refine zZ.rc [0, 1, 4, 5, 6, 7, 8, 9, 16, 20, 28, 30, 37, 39] [1000, 1001, 1002, 1003, 1004, 1005, 1006] (r := (.v vM (.v zC .e))) (h := ?_)) | (refine zZ.isR (id := 10) ?_; refine zZ.rc [0, 1, 4, 5, 6, 7, 8, 9, 16, 20, 28, 30, 37, 39] [1000, 1001, 1002, 1003, 1004, 1005, 1006] (r := (.v zC .e)) (h := ?_)) | (refine zZ.isR (id := 11) ?_; refine zZ.rc [0, 1, 4, 5, 6, 7, 8, 9, 16, 20, 28, 30, 37, 39] [1000, 1001, 1002, 1003, 1004, 1005, 1006] (r := (.v yV .e)) (h := ?_)) | (refine zZ.isR (id := 12) ?_; refine zZ.rc [0, 1, 4, 5, 6, 7, 8, 9, 16, 20, 28, 30, 37, 39] [1000, 1001, 1002, 1003, 1004, 1005, 1006] (r := (.v zC (.v v52_4 .e))) (h := ?_)) | (refine zZ.isR (id := 13) ?_; refine zZ.rc [0, 1, 4, 5, 6, 7, 8, 9, 16, 20, 28, 30, 37, 39] [1000, 1001, 1002, 1003, 1004, 1005, 1006] (r := (.v v0_2 (.v zC .e))) (h := ?_)) | refine zZ.yT rfl bA ?_ | refine zZ.yU rfl bA ?_ | refine zZ.cond rfl (fun h => ?_) (fun h => ?_) | refine zZ.skip ?_ | refine zZ.block ?_ | refine zZ.exit ?_ | refine zZ.ret ?_ | refine zZ.goto ?_) | refine zS.n ?_ | refine zS.r ?_ | refine zS.p ?_ | refine yA.n ?_ | refine yA.r ?_ | refine yA.eY ?_ | refine zS.e ?_ | refine yA.p ?_ | refine zS.g ?_ | refine qQ.r ?_ | refine qQ.g ?_ | refine yA.g ?_ | refine qQ.p ?_)
            all_goals (first | exact fun e => hns (by clear hns; simp only [yB, qR, tookR, xC, run_bind, zN, zM, Held.zB, Held.zI, Held.zD, cond_true, cond_false, *]) | exact .pan (q := q) rfl (by repeat' first | exact trivial | rfl | constructor) (by repeat' first | exact trivial | exact ⟨_, rfl, rfl⟩ | constructor) (by simp only [yB, qR, tookR, xC, run_bind, zN, zM, Held.zB, Held.zI, Held.zD, cond_true, cond_false, *]) | exact .ret (x := ⟨_, _, _, _⟩) (by exact .inl rfl) (by exact .one rfl rfl) (by repeat' first | exact trivial | rfl | constructor) (by simp only [yB, qR, tookR, xC, run_bind, zN, zM, Held.zB, Held.zI, Held.zD, cond_true, cond_false, *] <;> rfl) | skip)
            · have e1 : (yB t (xC t k) (some (p1, x1))).run H.st s2 = .done (.inl none) s := by
                clear ho hns ho2
                simp only [yB, qR, tookR, run_bind, zN, zM, Held.zB, cond_true, cond_false, *]
              refine ⟨(m, (p1, x1), s), ?_, ⟨hk, (by rw [run_bind, e1, Held.zB]; rfl)⟩, by dsimp only; omega⟩
              refine yM (is := [0, 1, 4]) (js := [1000, 1001, 1002, 1003, 1004, 1005, 1006]) ?_ ?_
              repeat' first | exact zX.nil | apply zX.p rfl | apply zX.ptr rfl | apply zX.own rfl | apply zX.clo rfl | apply zX.ifp rfl | apply zX.pt rfl | apply zX.tup rfl | apply zX.skip
              repeat' first | exact zW.nil | apply zW.boxP rfl rfl | apply zW.xG rfl | (apply zW.at0; exact yX rfl (H.nk _).1 (by repeat' exact KB.refl)) | (apply zW.at1; exact yX rfl (H.nk _).2.1 (by repeat' exact KB.refl)) | (apply zW.at2; exact yX rfl (H.nk _).2.2 (by repeat' exact KB.refl)) | apply zW.some rfl | apply zW.skip
            · have e1 : (yB t (xC t k) (some (p1, x1))).run H.st s2 = .done (endW p1 (xL x)) s := by
                clear ho hns ho2
                simp only [yB, qR, tookR, run_bind, zN, zM, Held.zB, cond_true, cond_false, *]
              refine ⟨(m, (p1, xL x), s), ?_, ⟨by dsimp only; omega, hk, hp1, kT _, ?_⟩, Nat.lt_succ_self m⟩
              · refine yM (is := [0, 1, 4]) (js := [1000, 1001, 1002, 1003, 1004, 1005, 1006]) ?_ ?_
                repeat' first | exact zX.nil | apply zX.p rfl | apply zX.ptr rfl | apply zX.own rfl | apply zX.clo rfl | apply zX.ifp rfl | apply zX.pt rfl | apply zX.tup rfl | apply zX.skip
                repeat' first | exact zW.nil | apply zW.boxP rfl rfl | apply zW.xG rfl | (apply zW.at0; exact yX rfl (H.nk _).1 (by repeat' exact KB.refl)) | (apply zW.at1; exact yX rfl (H.nk _).2.1 (by repeat' exact KB.refl)) | (apply zW.at2; exact yX rfl (H.nk _).2.2 (by repeat' exact KB.refl)) | apply zW.some rfl | apply zW.skip
              · rw [run_bind, e1, Held.zB]
                exact congrArg (fun p => Pr.run H.st p s) (vI t (xC t k) m p1 (xL x)).symm
            · rename_i w s4 e4 g4 hk4 hm4 g5
              have e1 : (yB t (xC t k) (some (p1, x1))).run H.st s2 = .done (endW x1 (xL w)) s := by
                clear ho hns ho2
                simp only [yB, xC, run_bind, zN, zM, Held.zB, cond_true, cond_false, *]
              have hdk := hnk x h
              refine ⟨(m, (x1, xL w), s), ?_, ⟨by dsimp only; omega, hk, hx1, kT _, ?_⟩, Nat.lt_succ_self m⟩
              · rw [hdk]
                refine yM (is := [0, 1, 4]) (js := [1000, 1001, 1002, 1003, 1004, 1005, 1006]) ?_ ?_
                repeat' first | exact zX.nil | apply zX.p rfl | apply zX.ptr rfl | apply zX.own rfl | apply zX.clo rfl | apply zX.ifp rfl | apply zX.pt rfl | apply zX.tup rfl | apply zX.skip
                repeat' first | exact zW.nil | apply zW.boxP rfl rfl | apply zW.xG rfl | (apply zW.at0; exact yX rfl (H.nk _).1 (by repeat' exact KB.refl)) | (apply zW.at1; exact yX rfl (H.nk _).2.1 (by repeat' exact KB.refl)) | (apply zW.at2; exact yX rfl (H.nk _).2.2 (by repeat' exact KB.refl)) | apply zW.some rfl | apply zW.skip
              · rw [run_bind, e1, Held.zB]
                exact congrArg (fun p => Pr.run H.st p s) (vI t (xC t k) m x1 (xL w)).symm
theorem search_h (H : Hnd) (s0 : H.σ) {t k : Int} (ht : Small t) : FnH H 17 [H.doA, .p (.val (.int .i64 t)), .p (.val (.int .u64 k))] [] (fun r => .tup ([.val (.int .i64 r.p), .val (.int .i64 r.x), .val (.bool r.is), .val (.bool r.ok)].map .p)) (fun _ => []) FOK s0 (kU t k) := by
  unfold Hnd.doA
  refine wJ Tryd.func17 rfl Tryd.ntmps17 (Nat.le_of_ble_eq_true rfl) (by decide) (fine_search t k) fun hok hns => ?_
  repeat' (first | (refine zY.is ?_; first | refine zY.nil ?_ | (refine zY.at_ 10 rfl ?_; refine zY.rc (.m xY (.w yI .e)) ?_) | (refine zY.at_ 9 rfl ?_; refine zY.rc (.v yV .e) ?_) | (refine zY.in_ [17] rfl ?_; refine zY.ofT rfl (zR.hdB (c := wL.is) (i := [14, 10, 5, 8]) (f := along_h H _ ht) (r0 := fun x s e g hk h => ?_) (r1 := fun x s e g hk h => ?_) (p := fun q s e => ?_) (t := ?_))) | refine zY.buildBx rfl rfl rfl rfl rfl rfl (by decide) (by decide) rfl rfl rfl rfl ?_) | (refine zZ.is ?_; first | refine zZ.seq ?_ | (refine zZ.isR (id := 0) ?_; refine zZ.rc [0, 1, 2] [5, 8, 10, 14, 1000, 1001, 1002] (r := (.m m18_1 (.v yV (.v yV (.m xY (.v yV .e)))))) (h := ?_)) | (refine zZ.isR (id := 1) ?_; refine zZ.rc [0, 1, 5, 6, 7, 8, 9] [5, 8, 10, 14, 1000, 1001, 1002] (r := (.v vM (.v zC .e))) (h := ?_)) | (refine zZ.isR (id := 2) ?_; refine zZ.rc [5, 6, 7, 8, 9, 10] [5, 8, 10, 14, 1000, 1001, 1002] (r := (.v v2_12 (.v v14_0 .e))) (h := ?_)) | (refine zZ.isR (id := 3) ?_; refine zZ.rc [6, 7, 8, 9, 10] [5, 8, 10, 14, 1000, 1001, 1002] (r := (.v zC (.v v52_8 .e))) (h := ?_)) | (refine zZ.isR (id := 4) ?_; refine zZ.rc [6, 7, 8, 9, 10] [5, 8, 10, 14, 1000, 1001, 1002] (r := (.v yV (.v yV (.w yI (.v yV .e))))) (h := ?_)) | (refine zZ.isR (id := 5) ?_; refine zZ.dc [6, 7, 8, 9, 10] [5, 8, 10, 14, 1000, 1001, 1002] (r := (.v v2_12 (.v v4_0 (.v yR (.v yN (.v v2_12 (.v v4_0 (.v yR (.v yN (.v yN (.v zC (.gY v2_12 (.gY v4_0 (.gY yR (.gY yN (.gY v42_8 (.v qI (.v yV (.v yV .e))))))))))))))))))) (q := (.w yI (.v yV .e))) (h := ?_)) | (refine zZ.isR (id := 5) ?_; refine zZ.dc [6, 7, 8, 9, 10] [5, 8, 10, 14, 1000, 1001, 1002] (r := (.v v2_12 (.v v4_0 (.v yR (.v yN (.v v2_12 (.v v4_0 (.v yR (.v yN (.v yN (.v zC (.gT (.gT (.gT (.gT (.gT (.v qY (.v yV (.v yV .e))))))))))))))))))) (q := (.w yI (.v yV .e))) (h := ?_)) | refine zZ.cond rfl (fun h => ?_) (fun h => ?_) | refine zZ.skip ?_ | refine zZ.ret ?_) | refine zS.n ?_ | refine zS.r ?_ | refine zS.p ?_ | (refine zO.nil ?_))
  all_goals try
    rename_i his
    obtain ⟨p, y, is, ok⟩ := x
    obtain rfl : is = _ := his
  all_goals try
    have hok2 : ok = false := by simpa using h
    subst hok2
    exact .ret (x := ⟨0, 0, false, false⟩) (.inl rfl) (.tup rfl (by decide) (.cons (.tmp rfl) (.cons (.tmp rfl) (.cons (.cell1 rfl rfl rfl) (.cons (.tmp rfl) .nil))))) (by repeat' first | exact trivial | rfl | constructor) (by simp only [kU, run_bind, e, Held.zB, cond_false, zN])
  all_goals try
    have hok2 : ok = true := by simpa using h
    subst hok2
    first
      | exact .ret (x := ⟨p, y, false, true⟩) (.inl rfl) (.tup rfl (by decide) (.cons (.tmp rfl) (.cons (.tmp rfl) (.cons (.cell1 rfl rfl rfl) (.cons (.tmp rfl) .nil))))) (by repeat' first | exact trivial | rfl | constructor) (by simp only [kU, run_bind, e, Held.zB, cond_true, zN])
      | (have hy : (!decide (y = 0)) = true := by
           have : 1 ≤ y := g.n rfl
           rw [decide_eq_false (by omega)]
           rfl
         refine .ret (x := ⟨p, y, true, true⟩) (.inl rfl) (.tup rfl (by decide) (.cons (.tmp rfl) (.cons (.tmp rfl) (.cons (.cell1 rfl rfl (by rw [← hy]; rfl)) (.cons (.tmp rfl) .nil))))) (by repeat' first | exact trivial | rfl | constructor) (by simp only [kU, run_bind, e, Held.zB, cond_true, zN]))
  all_goals (first | exact fun e => hns (by clear hns; simp only [kU, run_bind, zN, zM, Held.zB, Held.zI, Held.zD, cond_true, cond_false, *]) | exact .pan (q := q) rfl (by repeat' first | exact trivial | rfl | constructor) (by repeat' exact trivial) (by simp only [kU, run_bind, zN, zM, Held.zB, Held.zI, Held.zD, cond_true, cond_false, *]))
end Go.Proofs.YteadaggehndacaaDoor
/- Sweeps: the program's, whatever makes its accesses: contracts. -/
namespace Go.Proofs.YteadaggehndacaaDoor
set_option maxRecDepth 100000
set_option maxHeartbeats 16000000
open Go Go.RowKit
set_option linter.unusedSimpArgs false
set_option linter.unusedVariables false
attribute [local irreducible] zY zZ Step zQ Sub zO zR Fn zS yA qQ
theorem ksplit_fn (k : Int) (h0 : 0 ≤ k) (h1 : k < 18446744073709551616) : Fn Tryd.prog 42 [.val (.int .u64 k)] (.tup [.val (.int .i64 (k / 2147483648)), .val (.int .i64 (k % 2147483648 - 1))]) := by
  have g1 : bits .and .u64 k 2147483647 = k % 2147483648 := andLow k 31 (by decide) h0 h1
  have g2 : IntKind.i64.wrap (k / 2147483648) = k / 2147483648 := wrap_i64 _ (by omega)
  have g3 : IntKind.i64.wrap (k % 2147483648) = k % 2147483648 := wrap_i64 _ (by omega)
  have g4 : IntKind.i64.wrap (k % 2147483648 - 1) = k % 2147483648 - 1 := wrap_i64 _ (by omega)
  refine kL Tryd.func42 rfl Tryd.ntmps42 (Nat.le_of_ble_eq_true rfl) ?_
  repeat' (first | (refine zY.nil ?_) | (refine zZ.is ?_; first | refine zZ.seq ?_ | (refine zZ.isR (id := 0) ?_; refine zZ.rc [0] [] (r := (.v yV (.v yV .e))) (h := ?_)) | (refine zZ.isR (id := 1) ?_; refine zZ.rc [0, 2, 3] [] (r := (.v zC (.v v39_1 (.v v6_0 (.v zC (.v v35_0 (.v v6_0 (.v v31_0 (.v yV (.v yV .e)))))))))) (h := ?_)) | refine zZ.ret ?_) | refine zS.n ?_)
  all_goals exact ⟨.inl rfl, givesT (ts := [2, 3]) rfl (by decide) rfl⟩
theorem sweep1_h (H : Hnd) (s0 : H.σ) {t p x k w : Int} (ht : Small t) (hW : WOK p x) (hw : U w) (he : decide (w % 2 = 1) = false) : FnH H 41 [.p (.val (.int .u64 w)), .ptr 1004 0, .ptr 1005 0, .ptr 1006 0, .ptr 1007 0] [vS H t p x, ptrB 1003, keyB k, doB H, qG t] (fun b => .tup ([.val (.bool false), .val (.bool b)].map .p)) (fun _ => [vS H t p x, ptrB 1003, keyB k, doB H, qG t]) yes s0 (sweepIn t k x w) := by
  have hxr := hW.x.rc ht
  have hxx := hW.x
  have F1 := fun y : Int => (decide_eq_decide.2 (by omega) : decide (y % 2147483648 - 1 < 0) = decide (y % 2147483648 = 0))
  unfold ptrB keyB doB qG vS Hnd.doA
  refine wJ Tryd.func41 rfl Tryd.ntmps41 (Nat.le_of_ble_eq_true rfl) (by decide) (fine_sweepIn t k x w hw he) fun hok hns => ?_
  repeat' (first | (refine zY.is ?_; first | refine zY.nil ?_ | (refine zY.at_ 10 rfl ?_; refine zY.rc (.v yV .e) ?_) | (refine zY.at_ 11 rfl ?_; refine zY.rc (.v yV .e) ?_) | (refine zY.at_ 12 rfl ?_; refine zY.rc (.v v0_4 (.v x9 (.v x9 (.v yV (.v yV .e))))) ?_) | (refine zY.at_ 28 rfl ?_; refine zY.rc (.gY zC (.gY yN (.gY v42_8 (.v qI .e)))) ?_) | (refine zY.at_ 28 rfl ?_; refine zY.rc (.gT (.gT (.gT (.v qY .e)))) ?_) | (refine zY.in_ [15] rfl ?_; refine zY.v rfl rfl (xI (ksplit_fn _ (U.lo (by assumption)) (U.hi (by assumption))) rfl rfl rfl (by decide)) ?_) | (refine zY.in_ [14, 21, 23] rfl ?_; refine zY.ofT rfl (zR.hd (i := [1003]) (f := field_h H _ hxr (by decide)) (r := fun x s e g hk => ?_) (p := fun q s e => ?_) (t := ?_))) | (fail_if_success refine zY.known rfl rfl rfl (by fail) ?_); refine zY.split rfl rfl rfl (fun h => ?_) (fun h => ?_)) | (refine zZ.is ?_; first | refine zZ.seq ?_ | (refine zZ.isR (id := 0) ?_; refine zZ.rc [0, 1, 2, 3, 4] [1000, 1001, 1002, 1003, 1004, 1005, 1006, 1007] (r := (.v yV (.v yV .e))) (h := ?_)) | (refine zZ.isR (id := 1) ?_; refine zZ.rc [0, 1, 2, 3, 4, 6, 7] [1000, 1001, 1002, 1003, 1004, 1005, 1006, 1007] (r := (.v v2_12 .e)) (h := ?_)) | (refine zZ.isR (id := 2) ?_; refine zZ.rc [0, 1, 2, 3, 4, 6, 7, 9] [1000, 1001, 1002, 1003, 1004, 1005, 1006, 1007] (r := (.v zC (.v v43_1 .e))) (h := ?_)) | (refine zZ.isR (id := 3) ?_; refine zZ.rc [0, 1, 2, 3, 4, 6, 7] [1000, 1001, 1002, 1003, 1004, 1005, 1006, 1007] (r := (.v yV (.v yV .e))) (h := ?_)) | (refine zZ.isR (id := 4) ?_; refine zZ.rc [0, 1, 2, 3, 4, 6, 7] [1000, 1001, 1002, 1003, 1004, 1005, 1006, 1007] (r := (.v v2_12 .e)) (h := ?_)) | (refine zZ.isR (id := 5) ?_; refine zZ.rc [0, 1, 2, 3, 4, 6, 7, 10] [1000, 1001, 1002, 1003, 1004, 1005, 1006, 1007] (r := (.v v2_12 .e)) (h := ?_)) | (refine zZ.isR (id := 6) ?_; refine zZ.rc [0, 1, 2, 3, 4, 6, 7, 10, 11] [1000, 1001, 1002, 1003, 1004, 1005, 1006, 1007] (r := (.v zC (.v yN (.v v42_8 (.v zC .e))))) (h := ?_)) | (refine zZ.isR (id := 7) ?_; refine zZ.rc [0, 1, 3, 4, 6, 7] [1000, 1001, 1002, 1003, 1004, 1005, 1006, 1007] (r := (.v yV (.v yV .e))) (h := ?_)) | (refine zZ.isR (id := 8) ?_; refine zZ.rk [0, 1, 3, 4, 6, 7] [1000, 1001, 1002, 1003, 1004, 1005, 1006, 1007] ?_; refine zZ.draws ?_) | (refine zZ.isR (id := 9) ?_; refine zZ.rk [1, 3, 4, 6, 7] [1000, 1001, 1002, 1003, 1004, 1005, 1006, 1007] ?_; refine zZ.draws ?_) | (refine zZ.isR (id := 10) ?_; refine zZ.rc [6, 7] [1000, 1001, 1002, 1003, 1004, 1005, 1006, 1007] (r := (.v yV (.v yV .e))) (h := ?_)) | refine zZ.yU rfl bA ?_ | refine zZ.cond rfl (fun h => ?_) (fun h => ?_) | refine zZ.skip ?_ | refine zZ.ret ?_) | refine zS.n ?_ | refine zS.r ?_ | refine zS.p ?_ | (refine Draws.is ?_; first | refine Draws.rc (.v v2_13 (.v yN (.v v2_12 (.v v4_0 (.v yR (.v yN (.v zC .e))))))) ?_ | refine Draws.rc (.v v2_13 (.v yN (.v v2_12 (.v v4_0 (.v yR (.v yN .e)))))) ?_ | refine Draws.done (by kernel_rfl) (by kernel_rfl) (by kernel_rfl) ?_) | (refine zO.is ?_; first | refine zO.nil ?_ | (refine zO.in_ [39] rfl ?_; refine zO.ofT rfl (zR.hd (i := []) (f := mark_h H _ ht hxx hw he) (r := fun x s e g hk => ?_) (p := fun q s e => ?_) (t := ?_))) | (refine zO.in_ [46] rfl ?_; refine zO.ofT rfl (zR.hd (i := []) (f := setOp_h H _ hxr (.inr rfl)) (r := fun x s e g hk => ?_) (p := fun q s e => ?_) (t := ?_)))))
  all_goals (first | exact fun e => hns (by clear hns; simp only [sweepIn, Bool.true_and, Bool.false_and, run_bind, zN, zM, Held.zB, Held.zI, Held.zD, cond_true, cond_false, *]) | exact .pan (q := q) rfl (by repeat' first | exact trivial | rfl | constructor) (by repeat' first | exact trivial | exact ⟨_, rfl, rfl⟩ | constructor) (by simp only [sweepIn, Bool.true_and, Bool.false_and, run_bind, zN, zM, Held.zB, Held.zI, Held.zD, cond_true, cond_false, *]) | exact .ret (x := _) (by exact .inl rfl) (by exact .tup rfl (by decide) (.cons (.tmp rfl) (.cons (.tmp rfl) .nil))) (by repeat' first | exact trivial | rfl | constructor) (by simp only [sweepIn, Bool.true_and, Bool.false_and, run_bind, zN, zM, Held.zB, Held.zI, Held.zD, cond_true, cond_false, *] <;> rfl))
def alongG (H : Hnd) (t k p x : Int) (s : H.σ) : AS :=
  { t := [(0, .ptr 1003 0), (1, .clo 41 [1004, 1005, 1006, 1007]), (4, .p (.val (.bool false)))], s := [(1000, H.b0 s), (1001, H.b1 s), (1002, H.b2 s), (1003, vS H t p x), (1004, ptrB 1003), (1005, keyB k), (1006, doB H), (1007, qG t)] }
theorem alongS_h (H : Hnd) (s0 : H.σ) {t k : Int} (ht : Small t) : FnH H 31 [.ptr 1003 0, .clo 41 [1004, 1005, 1006, 1007]] [vS H t 0 0, ptrB 1003, keyB k, doB H, qG t] (fun r => .p (.val (.bool r.ok))) (fun r => [vS H t r.p r.x, ptrB 1003, keyB k, doB H, qG t]) FOK s0 (sweepL t k) := by
  refine wJ Tryd.func31 rfl Tryd.ntmps31 (Nat.le_of_ble_eq_true rfl) (by decide) (fine_sweepL t k) fun hok hns => ?_
  repeat' (first | (refine zY.nil ?_) | (refine zZ.is ?_; first | refine zZ.seq ?_ | (refine zZ.isR (id := 0) ?_; refine zZ.rc [0, 1] [1000, 1001, 1002, 1003, 1004, 1005, 1006, 1007] (r := (.v yV .e)) (h := ?_))) | refine zS.n ?_)
  refine zZ.scopeL 0 (fun q : Nat × (Int × Int) × H.σ => alongG H t k q.2.1.1 q.2.1.2 q.2.2) (fun q => H.ok q.2.2 ∧ (Pr.loop (yB t (xA t k)) q.1 none).run H.st q.2.2 = (sweepL t k).run H.st s0) (fun q => q.1) (many, (0, 0), s0) ?h0 ⟨hok, rfl⟩ ?rd
  case h0 =>
    refine yM (is := [0, 1, 4]) (js := [1000, 1001, 1002, 1003, 1004, 1005, 1006, 1007]) ?_ ?_
    repeat' first | exact zX.nil | apply zX.p rfl | apply zX.ptr rfl | apply zX.own rfl | apply zX.clo rfl | apply zX.ifp rfl | apply zX.pt rfl | apply zX.tup rfl | apply zX.skip
    repeat' first | exact zW.nil | apply zW.boxP rfl rfl | apply zW.xG rfl | (apply zW.at0; exact yX rfl (H.nk _).1 (by repeat' exact KB.refl)) | (apply zW.at1; exact yX rfl (H.nk _).2.1 (by repeat' exact KB.refl)) | (apply zW.at2; exact yX rfl (H.nk _).2.2 (by repeat' exact KB.refl)) | apply zW.some rfl | apply zW.skip
  case rd =>
    rintro ⟨n, ⟨p, x⟩, s1⟩ ⟨hok1, ho⟩
    dsimp only at hok1 ho ⊢
    rw [← ho] at hns ⊢
    unfold alongG
    cases n with
    | zero => exact absurd rfl hns
    | succ n =>
      rw [kG] at ho hns ⊢
      repeat' (first | (refine zY.is ?_; first | refine zY.nil ?_ | (refine zY.in_ [11] rfl ?_; refine zY.ofT rfl (zR.hd (i := [1003]) (f := start_h H _ ht) (r := fun x s e g hk => ?_) (p := fun q s e => ?_) (t := ?_)))) | (refine zZ.is ?_; first | refine zZ.seq ?_ | (refine zZ.isR (id := 1) ?_; refine zZ.rc [0, 1, 4] [1000, 1001, 1002, 1003, 1004, 1005, 1006, 1007] (r := (.v v0_2 .e)) (h := ?_)) | refine zZ.block ?_) | refine zS.n ?_ | refine zS.p ?_ | refine qQ.p ?_)
      all_goals (first | exact fun e => hns (by clear hns; simp only [yB, run_bind, zN, zM, Held.zB, Held.zI, Held.zD, cond_true, cond_false, *]) | exact .pan (q := q) rfl (by repeat' first | exact trivial | rfl | constructor) (by repeat' first | exact trivial | exact ⟨_, rfl, rfl⟩ | constructor) (by simp only [yB, run_bind, zN, zM, Held.zB, Held.zI, Held.zD, cond_true, cond_false, *]) | skip)
      have e1 : (yB t (xA t k) none).run H.st s1 = .done (endW 0 (xL x)) s := by
        clear ho hns
        simp only [yB, run_bind, zN, Held.zB, *]
      rw [run_bind, e1, Held.zB, vI] at ho hns ⊢
      refine zZ.loop (fun q : Nat × (Int × Int) × H.σ => alongG H t k q.2.1.1 q.2.1.2 q.2.2) (fun q => q.1 ≤ n ∧ H.ok q.2.2 ∧ Rf q.2.1.1 ∧ Rf q.2.1.2 ∧ (contL t (xA t k) q.1 q.2.1.1 q.2.1.2).run H.st q.2.2 = (contL t (xA t k) n 0 (xL x)).run H.st s) (fun q => q.1) (n, (0, xL x), s) ?h0 ⟨Nat.le_refl _, hk, rf_0, kT _, rfl⟩ ?rd
      case h0 =>
        refine yM (is := [0, 1, 4]) (js := [1000, 1001, 1002, 1003, 1004, 1005, 1006, 1007]) ?_ ?_
        repeat' first | exact zX.nil | apply zX.p rfl | apply zX.ptr rfl | apply zX.own rfl | apply zX.clo rfl | apply zX.ifp rfl | apply zX.pt rfl | apply zX.tup rfl | apply zX.skip
        repeat' first | exact zW.nil | apply zW.boxP rfl rfl | apply zW.xG rfl | (apply zW.at0; exact yX rfl (H.nk _).1 (by repeat' exact KB.refl)) | (apply zW.at1; exact yX rfl (H.nk _).2.1 (by repeat' exact KB.refl)) | (apply zW.at2; exact yX rfl (H.nk _).2.2 (by repeat' exact KB.refl)) | apply zW.some rfl | apply zW.skip
      case rd =>
        rintro ⟨m, ⟨p1, x1⟩, s2⟩ ⟨hmn, hok2, hp1, hx1, ho2⟩
        dsimp only at hmn hok2 hp1 hx1 ho2 ⊢
        clear e1 e hk
        rw [← ho2] at ho hns ⊢
        unfold alongG
        unfold contL at ho hns ⊢
        cases hz : decide (x1 = 0)
        case true =>
          rw [hz] at ho hns
          obtain rfl : x1 = 0 := of_decide_eq_true hz
          have hz' : (!decide ((0 : Int) = 0)) = false := rfl
          repeat' (first | (refine zY.nil ?_) | (refine zZ.is ?_; first | refine zZ.seq ?_ | (refine zZ.isR (id := 2) ?_; refine zZ.rc [0, 1, 4, 5, 6, 7, 8, 9, 16, 20, 28, 30, 37, 39] [1000, 1001, 1002, 1003, 1004, 1005, 1006, 1007] (r := (.v v0_2 (.v v4_0 (.v yR (.v yN (.v v42_0 .e)))))) (h := ?_)) | (refine zZ.isR (id := 14) ?_; refine zZ.rc [4] [1000, 1001, 1002, 1003, 1004, 1005, 1006, 1007] (r := (.v yV .e)) (h := ?_)) | refine zZ.yU rfl bA ?_ | refine zZ.exit ?_ | refine zZ.ret ?_) | refine zS.n ?_ | refine yA.eY ?_ | refine zS.e ?_ | refine qQ.r ?_)
          all_goals (exact .ret (x := ⟨_, _, _, _⟩) (by exact .inl rfl) (by exact .one rfl rfl) (by repeat' first | exact trivial | rfl | constructor) (by simp only [run_bind, zN, zM, Held.zB, Held.zI, Held.zD, cond_true, cond_false, *] <;> rfl))
        case false =>
          rw [hz] at ho hns
          have hz' : (!decide (x1 = 0)) = true := by rw [hz]; rfl
          have hxr := hx1.rc ht
          have hw : WOK p1 x1 := ⟨hp1, hx1, hz⟩
          rw [cond_false] at ho hns ⊢
          cases m with
          | zero => exact absurd rfl hns
          | succ m =>
            rw [kG] at ho hns ⊢
            repeat' (first | (refine zY.is ?_; first | refine zY.nil ?_ | (refine zY.at_ 21 rfl ?_; refine zY.rc (.v v0_4 (.v x9 (.v x9 (.v yV (.v yV .e))))) ?_) | (refine zY.at_ 31 rfl ?_; refine zY.rc (.v v0_4 (.v x9 (.v x9 (.v yV (.v yV .e))))) ?_) | (refine zY.at_ 5 rfl ?_; refine zY.rc (.v yV .e) ?_) | (refine zY.in_ [20] rfl ?_; refine zY.v rfl rfl (yK (mark_fn _ (U.lo (by assumption)) (U.hi (by assumption))) rfl rfl rfl (by decide)) ?_) | (refine zY.in_ [18] rfl ?_; refine zY.ofT rfl (zR.hd (i := [1003]) (f := field_h H _ hxr (by decide)) (r := fun x s e g hk => ?_) (p := fun q s e => ?_) (t := ?_))) | (refine zY.in_ [34] rfl ?_; refine zY.ofT rfl (zR.hd (i := [1003, 1004, 1005, 1006, 1007]) (f := sweep1_h H _ ht hw (by assumption) (by assumption)) (r := fun x s e g hk => ?_) (p := fun q s e => ?_) (t := ?_))) | (refine zY.in_ [24] rfl ?_; refine zY.ofT rfl (zR.hdT (i := [1003]) (f := out_h H _ ht hw (by assumption)) (r0 := fun s e g hk => ?_) (r1 := fun s e g hk => ?_) (r2 := fun s e g hk => ?_) (p := fun q s e => ?_) (t := ?_))) | (refine zY.in_ [42] rfl ?_; refine zY.ofT rfl (zR.h0 (i := [1003]) (f := on_h H _ (by assumption)) (r := fun g => ?_)))) | (refine zZ.is ?_; first | refine zZ.seq ?_ | (refine zZ.isR (id := 2) ?_; refine zZ.rc [0, 1, 4, 5, 6, 7, 8, 9, 16, 20, 28, 30, 37, 39] [1000, 1001, 1002, 1003, 1004, 1005, 1006, 1007] (r := (.v v0_2 (.v v4_0 (.v yR (.v yN (.v v42_0 .e)))))) (h := ?_)) | (refine zZ.isR (id := 3) ?_; refine zZ.rc [0, 1, 4, 5, 6, 7, 8, 9, 16, 20, 28, 30, 37, 39] [1000, 1001, 1002, 1003, 1004, 1005, 1006, 1007] (r := (.v v0_2 .e)) (h := ?_)) | (refine zZ.isR (id := 4) ?_; refine zZ.rc [0, 1, 4, 5, 6, 7, 8, 9, 16, 20, 28, 30, 37, 39] [1000, 1001, 1002, 1003, 1004, 1005, 1006, 1007] (r := (.v zC .e)) (h := ?_)) | (refine zZ.isR (id := 5) ?_; refine zZ.rc [0, 1, 4, 5, 6, 7, 8, 9, 16, 20, 28, 30, 37, 39] [1000, 1001, 1002, 1003, 1004, 1005, 1006, 1007] (r := (.v v0_2 (.v zC .e))) (h := ?_)) | (refine zZ.isR (id := 6) ?_; refine zZ.rc [0, 1, 4, 5, 6, 7, 8, 9, 16, 20, 28, 30, 37, 39] [1000, 1001, 1002, 1003, 1004, 1005, 1006, 1007] (r := (.v zC (.v v52_4 .e))) (h := ?_)) | (refine zZ.isR (id := 6) ?_; refine zZ.rc [0, 1, 4, 5, 6, 7, 8, 9, 16, 20, 28, 30, 37, 39] [1000, 1001, 1002, 1003, 1004, 1005, 1006, 1007] (r := (.v zC (.v v52_5 .e))) (h := ?_)) | (refine zZ.isR (id := 7) ?_; refine zZ.rc [0, 1, 4, 5, 6, 7, 8, 9, 16, 20, 28, 30, 37, 39] [1000, 1001, 1002, 1003, 1004, 1005, 1006, 1007] (r := (.v yV .e)) (h := ?_)) | (refine zZ.isR (id := 8) ?_; refine zZ.rc [0, 1, 4, 5, 6, 7, 8, 9, 16, 20, 28, 30, 37, 39] [1000, 1001, 1002, 1003, 1004, 1005, 1006, 1007] (r := (.v zC (.v v52_4 .e))) (h := ?_)) | (refine zZ.isR (id := 8) ?_; refine zZ.rc [0, 1, 4, 5, 6, 7, 8, 9, 16, 20, 28, 30, 37, 39] [1000, 1001, 1002, 1003, 1004, 1005, 1006, 1007] (r := (.v zC (.v v52_5 .e))) (h := ?_)) | (refine zZ.isR (id := 9) ?_; refine zZ.rc [0, 1, 4, 5, 6, 7, 8, 9, 16, 20, 28, 30, 37, 39] [1000, 1001, 1002, 1003, 1004, 1005, 1006, 1007] (r := (.v vM (.v zC .e))) (h := ?_)) | (refine zZ.isR (id := 10) ?_; refine zZ.rc [0, 1, 4, 5, 6, 7, 8, 9, 16, 20, 28, 30, 37, 39] [1000, 1001, 1002, 1003, 1004, 1005, 1006, 1007] (r := (.v zC .e)) (h := ?_)) | (refine zZ.isR (id := 12) ?_; refine zZ.rc [0, 1, 4, 5, 6, 7, 8, 9, 16, 20, 28, 30, 37, 39] [1000, 1001, 1002, 1003, 1004, 1005, 1006, 1007] (r := (.v zC (.v v52_8 .e))) (h := ?_)) | (refine zZ.isR (id := 13) ?_; refine zZ.rc [0, 1, 4, 5, 6, 7, 8, 9, 16, 20, 28, 30, 37, 39] [1000, 1001, 1002, 1003, 1004, 1005, 1006, 1007] (r := (.v v0_2 (.v zC .e))) (h := ?_)) | refine zZ.yT rfl bA ?_ | refine zZ.yU rfl bA ?_ | refine zZ.cond rfl (fun h => ?_) (fun h => ?_) | refine zZ.skip ?_ | refine zZ.block ?_ | refine zZ.exit ?_ | refine zZ.ret ?_ | refine zZ.goto ?_) | refine zS.n ?_ | refine zS.r ?_ | refine zS.p ?_ | refine yA.n ?_ | refine yA.r ?_ | refine yA.eY ?_ | refine zS.e ?_ | refine yA.p ?_ | refine zS.g ?_ | refine qQ.r ?_ | refine qQ.g ?_ | refine yA.g ?_ | refine qQ.p ?_)
            all_goals (first | exact fun e => hns (by clear hns; simp only [yB, qR, tookR, xA, run_bind, zN, zM, Held.zB, Held.zI, Held.zD, cond_true, cond_false, *]) | exact .pan (q := q) rfl (by repeat' first | exact trivial | rfl | constructor) (by repeat' first | exact trivial | exact ⟨_, rfl, rfl⟩ | constructor) (by simp only [yB, qR, tookR, xA, run_bind, zN, zM, Held.zB, Held.zI, Held.zD, cond_true, cond_false, *]) | exact .ret (x := ⟨_, _, _, _⟩) (by exact .inl rfl) (by exact .one rfl rfl) (by repeat' first | exact trivial | rfl | constructor) (by simp only [yB, qR, tookR, xA, run_bind, zN, zM, Held.zB, Held.zI, Held.zD, cond_true, cond_false, *] <;> rfl) | skip)
            · have e1 : (yB t (xA t k) (some (p1, x1))).run H.st s2 = .done (.inl none) s := by
                clear ho hns ho2
                simp only [yB, qR, tookR, run_bind, zN, zM, Held.zB, cond_true, cond_false, *]
              refine ⟨(m, (p1, x1), s), ?_, ⟨hk, (by rw [run_bind, e1, Held.zB]; rfl)⟩, by dsimp only; omega⟩
              refine yM (is := [0, 1, 4]) (js := [1000, 1001, 1002, 1003, 1004, 1005, 1006, 1007]) ?_ ?_
              repeat' first | exact zX.nil | apply zX.p rfl | apply zX.ptr rfl | apply zX.own rfl | apply zX.clo rfl | apply zX.ifp rfl | apply zX.pt rfl | apply zX.tup rfl | apply zX.skip
              repeat' first | exact zW.nil | apply zW.boxP rfl rfl | apply zW.xG rfl | (apply zW.at0; exact yX rfl (H.nk _).1 (by repeat' exact KB.refl)) | (apply zW.at1; exact yX rfl (H.nk _).2.1 (by repeat' exact KB.refl)) | (apply zW.at2; exact yX rfl (H.nk _).2.2 (by repeat' exact KB.refl)) | apply zW.some rfl | apply zW.skip
            · have e1 : (yB t (xA t k) (some (p1, x1))).run H.st s2 = .done (endW p1 (xL x)) s := by
                clear ho hns ho2
                simp only [yB, qR, tookR, run_bind, zN, zM, Held.zB, cond_true, cond_false, *]
              refine ⟨(m, (p1, xL x), s), ?_, ⟨by dsimp only; omega, hk, hp1, kT _, ?_⟩, Nat.lt_succ_self m⟩
              · refine yM (is := [0, 1, 4]) (js := [1000, 1001, 1002, 1003, 1004, 1005, 1006, 1007]) ?_ ?_
                repeat' first | exact zX.nil | apply zX.p rfl | apply zX.ptr rfl | apply zX.own rfl | apply zX.clo rfl | apply zX.ifp rfl | apply zX.pt rfl | apply zX.tup rfl | apply zX.skip
                repeat' first | exact zW.nil | apply zW.boxP rfl rfl | apply zW.xG rfl | (apply zW.at0; exact yX rfl (H.nk _).1 (by repeat' exact KB.refl)) | (apply zW.at1; exact yX rfl (H.nk _).2.1 (by repeat' exact KB.refl)) | (apply zW.at2; exact yX rfl (H.nk _).2.2 (by repeat' exact KB.refl)) | apply zW.some rfl | apply zW.skip
              · rw [run_bind, e1, Held.zB]
                exact congrArg (fun p => Pr.run H.st p s) (vI t (xA t k) m p1 (xL x)).symm
            · rename_i w s4 e4 g4 hk4 hm4 g5
              have hx : x = false := by simpa using h
              have e1 : (yB t (xA t k) (some (p1, x1))).run H.st s2 = .done (endW x1 (xL w)) s := by
                clear ho hns ho2
                simp only [yB, xA, run_bind, zN, zM, Held.zB, cond_true, cond_false, *]
              refine ⟨(m, (x1, xL w), s), ?_, ⟨by dsimp only; omega, hk, hx1, kT _, ?_⟩, Nat.lt_succ_self m⟩
              · refine yM (is := [0, 1, 4]) (js := [1000, 1001, 1002, 1003, 1004, 1005, 1006, 1007]) ?_ ?_
                repeat' first | exact zX.nil | apply zX.p rfl | apply zX.ptr rfl | apply zX.own rfl | apply zX.clo rfl | apply zX.ifp rfl | apply zX.pt rfl | apply zX.tup rfl | apply zX.skip
                repeat' first | exact zW.nil | apply zW.boxP rfl rfl | apply zW.xG rfl | (apply zW.at0; exact yX rfl (H.nk _).1 (by repeat' exact KB.refl)) | (apply zW.at1; exact yX rfl (H.nk _).2.1 (by repeat' exact KB.refl)) | (apply zW.at2; exact yX rfl (H.nk _).2.2 (by repeat' exact KB.refl)) | apply zW.some rfl | apply zW.skip
              · rw [run_bind, e1, Held.zB]
                exact congrArg (fun p => Pr.run H.st p s) (vI t (xA t k) m x1 (xL w)).symm
            · have hx : x = true := by simpa using h
              have e1 : (yB t (xA t k) (some (p1, x1))).run H.st s2 = .done (.inl (some (p1, x1))) s := by
                clear ho hns ho2
                simp only [yB, xA, run_bind, zN, zM, Held.zB, cond_true, cond_false, *]
              refine ⟨(m, (p1, x1), s), ?_, ⟨by dsimp only; omega, hk, hp1, hx1, ?_⟩, Nat.lt_succ_self m⟩
              · refine yM (is := [0, 1, 4]) (js := [1000, 1001, 1002, 1003, 1004, 1005, 1006, 1007]) ?_ ?_
                repeat' first | exact zX.nil | apply zX.p rfl | apply zX.ptr rfl | apply zX.own rfl | apply zX.clo rfl | apply zX.ifp rfl | apply zX.pt rfl | apply zX.tup rfl | apply zX.skip
                repeat' first | exact zW.nil | apply zW.boxP rfl rfl | apply zW.xG rfl | (apply zW.at0; exact yX rfl (H.nk _).1 (by repeat' exact KB.refl)) | (apply zW.at1; exact yX rfl (H.nk _).2.1 (by repeat' exact KB.refl)) | (apply zW.at2; exact yX rfl (H.nk _).2.2 (by repeat' exact KB.refl)) | apply zW.some rfl | apply zW.skip
              · rw [run_bind, e1, Held.zB]
                dsimp only
                rw [hz]
                rfl
theorem sweep_h (H : Hnd) (s0 : H.σ) {t k : Int} (ht : Small t) : FnH H 20 [H.doA, .p (.val (.int .i64 t)), .p (.val (.int .u64 k))] [] (fun r => .p (.val (.bool r))) (fun _ => []) yes s0 (sweepP t k) := by
  unfold Hnd.doA
  refine wJ Tryd.func20 rfl Tryd.ntmps20 (Nat.le_of_ble_eq_true rfl) (by decide) (fine_sweep t k) fun hok hns => ?_
  repeat' (first | (refine zY.is ?_; first | refine zY.nil ?_ | (refine zY.at_ 6 rfl ?_; refine zY.rc (.v yV .e) ?_) | (refine zY.at_ 7 rfl ?_; refine zY.rc (.m xY (.w yI .e)) ?_) | (refine zY.in_ [14] rfl ?_; refine zY.ofT rfl (zR.hd (i := [11, 7, 5, 3, 4]) (f := alongS_h H _ ht) (r := fun x s e g hk => ?_) (p := fun q s e => ?_) (t := ?_))) | refine zY.buildBx rfl rfl rfl rfl rfl rfl (by decide) (by decide) rfl rfl rfl rfl ?_) | (refine zZ.is ?_; first | refine zZ.seq ?_ | (refine zZ.isR (id := 0) ?_; refine zZ.rc [0, 1, 2] [3, 4, 5, 7, 11, 1000, 1001, 1002] (r := (.m m18_3 (.m m18_1 (.m m18_1 (.v yV .e))))) (h := ?_)) | (refine zZ.isR (id := 1) ?_; refine zZ.rc [3, 4, 5, 6] [3, 4, 5, 7, 11, 1000, 1001, 1002] (r := (.v v2_13 (.v yN .e))) (h := ?_)) | (refine zZ.isR (id := 2) ?_; refine zZ.rc [3, 4, 5, 6, 7] [3, 4, 5, 7, 11, 1000, 1001, 1002] (r := (.v v2_12 (.v v14_0 .e))) (h := ?_)) | refine zZ.ret ?_) | refine zS.n ?_ | refine zS.p ?_)
  all_goals (first | exact fun e => hns (by clear hns; simp only [sweepP, run_bind, zN, zM, Held.zB, Held.zI, Held.zD, cond_true, cond_false, *]) | exact .pan (q := q) rfl (by repeat' first | exact trivial | rfl | constructor) (by repeat' exact trivial) (by simp only [sweepP, run_bind, zN, zM, Held.zB, Held.zI, Held.zD, cond_true, cond_false, *]) | exact .ret (by exact .inl rfl) (by exact .one rfl rfl) (by repeat' first | exact trivial | rfl | constructor) (by simp only [sweepP, run_bind, zN, zM, Held.zB, Held.zI, Held.zD, cond_true, cond_false, *] <;> rfl))
end Go.Proofs.YteadaggehndacaaDoor
/- Functions with one deferred call; the deferred function, that may recover. Generic over the program. -/
namespace Go.Proofs.YteadaggehndacaaDoor
set_option maxRecDepth 100000
set_option maxHeartbeats 16000000
open Go Go.RowKit
section
variable {P : Program} {M : Nat → Nat → Prop} {n : Nat} {h : Home} {w : World} {S : AS} {ρ : Nat → Value} {a : Act}
theorem wD.defer (hb : wD h w) (D : List Deferred) : wD { h with d := D } w := ⟨hb.os, hb.tape, hb.output, hb.size, hb.block⟩
theorem wD.undefer {D : List Deferred} (hb : wD { h with d := D } w) : wD h w := ⟨hb.os, hb.tape, hb.output, hb.size, hb.block⟩
theorem Sat.frame {B : List Blk} (hs : Sat M 0 h (Proofs.YteadaggehndacaaDoor.asB B) ρ wT w) {T : List (Nat × AV)} (hn : a.tmps.size = n) (h1000 : n ≤ 1000) (ht : ∀ i x, look T i = some x → yE (Mut M (Proofs.YteadaggehndacaaDoor.asB B) ρ) ρ w x (a.tmps.getD i undef)) : Sat M n { h with d := a.defers } { t := T, s := numB 1000 B } ρ a w := by
  refine ⟨hs.below.defer _, hs.out, hs.tab, hn, rfl, fun i => ?_, hs.blks, hs.mine, hs.fix, fun k hk => h.lo k (by omega), hs.dist⟩
  show yE _ _ _ ((look T i).getD .any) _
  cases e : look T i with
  | none => exact .any _
  | some x => exact ht i x e
theorem Sat.unframe {B : List Blk} {D : List Deferred} (hs : Sat M n { h with d := D } S ρ a w) (hd : h.d = []) (hb : HasB S B) : Sat M 0 h (Proofs.YteadaggehndacaaDoor.asB B) ρ wT w ∧ ∀ k c, Mut M (Proofs.YteadaggehndacaaDoor.asB B) ρ k c → Mut M S ρ k c := by
  have hm : ∀ k c, Mut M (Proofs.YteadaggehndacaaDoor.asB B) ρ k c → Mut M S ρ k c := by
    rintro k c (hk | ⟨id, b, hb1, hk⟩)
    · exact .inl hk
    · obtain ⟨i, rfl, h1⟩ := y7 hb1
      exact .inr ⟨_, b, hb i b h1, hk⟩
  refine ⟨⟨hs.below.undefer, hs.out, hs.tab, rfl, hd.symm, fun i => .any _, fun id b hb1 => ?_, fun id b k hb1 hk => ?_, hs.fix, fun k hk => by omega, fun i j bi bj k hi hj h1 h2 => ?_⟩, hm⟩
  · obtain ⟨i, rfl, h1⟩ := y7 hb1
    exact (hs.blks _ b (hb i b h1)).mono hm
  · obtain ⟨i, rfl, h1⟩ := y7 hb1
    exact hs.mine _ b k (hb i b h1) hk
  · obtain ⟨i', rfl, h3⟩ := y7 hi
    obtain ⟨j', rfl, h4⟩ := y7 hj
    exact hs.dist _ _ bi bj k (hb i' bi h3) (hb j' bj h4) h1 h2
theorem gives_res {fn : Func} {x : AV} {B : List Blk} {D : List Deferred} (hs' : Sat M n { h with d := D } S ρ a w) (hd : h.d = []) (hg : GivesA P fn S x) (hB : HasB S B) :
    ∃ v, (results fn a.tmps).run P w = .ok v w ∧ ∃ ρ', Sat M 0 h (asB B) ρ' wT w ∧ EvOK (Mut M (asB B) ρ') ρ' w (.ret x) (.returned v) := by
  obtain ⟨h1, h2⟩ := hs'.unframe hd hB
  cases hg with
  | none hr => exact ⟨_, results_none hr _ _ _, ρ, h1, _, rfl, .any _⟩
  | one hr ht =>
    subst ht
    exact ⟨_, results_tmp hr _ _ _, ρ, h1, _, rfl, (hs'.tmps _).mono fun k c _ hk => h2 k c hk⟩
  | p hr hx =>
    obtain ⟨v, g1, g2⟩ := res_oneM hs' hx
    have g3 := wE (P := P) (w := w) fn a.tmps (rs := [_]) (vs := [v]) hr (by simp only [List.mapM_cons, List.mapM_nil, Sem.run_bind, Sem.run_pure, g1, Result.andThen_ok])
    exact ⟨v, g3, ρ, h1, _, rfl, .p (g2.mono fun k c _ hk => h2 k c hk)⟩
  | tup hr hl hx =>
    obtain ⟨us, g1, g2, g4, g3⟩ := res_allM hs' hx
    have g5 := wE (P := P) (w := w) fn a.tmps hr g1
    rw [dif_neg (by simp only [List.size_toArray]; omega)] at g5
    refine ⟨_, g5, ρ, h1, _, rfl, .tup _ us (by simpa using g2) fun i c v hc hv => ?_⟩
    rw [List.getElem?_map, Option.map_eq_some_iff] at hc
    obtain ⟨y, hy, rfl⟩ := hc
    exact .p ((g3 i y v hy hv).mono fun k c _ hk => h2 k c hk)
end
/-- what is pending at a deferred call: nothing, or a panic -/
def Pending (M : Nat → Nat → Prop) (w : World) : Option PV → FrameMode → Prop
  | none, u => u = .returning
  | some x, u => ∃ v, u = .panicking [{ v := v, recovered := false }] ∧ Rep M w x v
/-- Function f, called deferred, of its callers' variables B: behind it nothing is pending. -/
def FnD (P : Program) (f : FuncId) (B : List Blk) (px : Option PV) (B' : List Blk) : Prop :=
  ∀ (M : Nat → Nat → Prop) (h : Home) (ρ : Nat → Value) (vs : List Value) (u : FrameMode), Handed h B ρ → Sat M 0 h (asB B) ρ wT h.w → vs.length = B.length →
    (∀ (i : Nat) v, vs[i]? = some v → yE (Mut M (asB B) ρ) ρ h.w (.ptr (1000 + i) 0) v) → Pending (Mut M (asB B) ρ) h.w px u →
    CallsD P f vs.toArray u h.w fun e u' w' => settle u' = .returning ∧ (∃ v, e = .returned v) ∧ ∃ ρ', Sat M 0 h (asB B') ρ' wT w'
section
variable {P : Program} {n : Nat}
theorem wpS_recover {id : Nat} {o0 : Oper} {l : List Oper} {ts : Array TypeId} {Q : Exit → Act → List Frame → World → Prop} {a : Act} {cs cs' : List Frame} {w : World} {v : Value} (ho : o0.op = .call { callee := .builtin .recover, args := #[], argTypes := ts }) (hg : o0.guard = none)
    (hrec : recoverD cs = some (v, cs') ∨ (recoverD cs = none ∧ v = .nilIface ∧ cs' = cs)) (h : wpList P (o0 :: l).toArray (fun e a' w' => Q e a' cs' w') l (a.put o0.dst v) w) : (Code.region id (o0 :: l).toArray false).wpS P Q a cs w := by
  intro b k hb hro
  have hr : (execOp a.eval o0).run P w = .ok .recover w := by unfold execOp; rw [ho]; rfl
  have hw : Region.wanted o0 (yielded (o0 :: l).toArray a.tmps) = true := by simp [Region.wanted, hg]
  have h0 : (o0 :: l).toArray[0]? = some o0 := rfl
  have e : List.range (o0 :: l).toArray.size = 0 :: List.range' 1 l.length := by
    rw [List.size_toArray, List.length_cons, List.range_eq_range', List.range'_succ]
  have h1 : step P (lone (b.at a (.code (.region id (o0 :: l).toArray false) :: k)) cs w) = .next (lone (b.at a (.inRegion (o0 :: l).toArray (0 :: List.range' 1 l.length) :: k)) cs w) := by rw [← e]; exact step_region
  have h2 : step P (lone (b.at a (.inRegion (o0 :: l).toArray (0 :: List.range' 1 l.length) :: k)) cs w) = .next (lone (b.at (a.put o0.dst v) (.inRegion (o0 :: l).toArray (List.range' 1 l.length) :: k)) cs' w) := by
    have hs := stepG_op (P := P) (b := b) (k := k) (cs := cs) (w := w) (rest := List.range' 1 l.length) h0 hw
    have hfin : ∀ v, (b.at a (.inRegion (o0 :: l).toArray (0 :: List.range' 1 l.length) :: k)).finish v = b.at (a.put o0.dst v) (.inRegion (o0 :: l).toArray (List.range' 1 l.length) :: k) := by
      intro v; rw [Frame.finish_at, h0]; rfl
    have hk : (b.at a (.inRegion (o0 :: l).toArray (0 :: List.range' 1 l.length) :: k)).kind = .deferred := hb
    have htr := tryRecover_deferred hk cs
    refine step_lone_go ?_
    rw [hs, ← hfin]
    simp only [Frame.at] at htr ⊢
    rcases hrec with hrec | ⟨hrec, rfl, rfl⟩
    · simp [stepG.apply, hr, htr, hrec]
    · simp [stepG.apply, hr, htr, hrec]
  have h3 : wpOps P (o0 :: l).toArray (fun e a' w' => Q e a' cs' w') (List.range' 1 l.length) (a.put o0.dst v) w := by
    rw [wpOps_eq_wpList l 1 (fun j => by simp [Nat.add_comm 1 j])]
    exact h
  obtain ⟨ex, a', w', hq, harr⟩ := wp_ops _ _ _ h3 b k cs'
  exact ⟨ex, a', cs', w', hq, .of_steps (.head h1 (.one h2)) harr⟩
def ptrsA (m : Nat) : List AV := (List.range m).map fun i => .ptr (1000 + i) 0
def pendV : Option PV → PV
  | none => .val .nilIface
  | some x => x
def EndR (B' : List Blk) (e : Exit) (S : AS) : Prop := (e = .ret ∨ e = .normal) ∧ HasB S B'
theorem fn_ofDef {f : FuncId} {fn : Func} {id d0 : Nat} {o0 : Oper} {l : List Oper} {rest : Code} {ts : Array TypeId} {B B' : List Blk} {px : Option PV} (hf : P.funcs[f]? = some fn) (hb : fn.body = some (.seq (.region id (o0 :: l).toArray false) rest)) (hn : fn.ntmps = n) (hle : B.length ≤ n) (h1000 : n ≤ 1000)
    (ho : o0.op = .call { callee := .builtin .recover, args := #[], argTypes := ts }) (hg : o0.guard = none) (hd : o0.dst = some d0) (hdn : d0 < n) (hr : fn.results = #[])
    (h : zY P n (o0 :: l).toArray l { t := (d0, .p (pendV px)) :: zipA 0 (ptrsA B.length), s := numB 1000 B } (zS (fun S => zZ P n rest S (EndR B')) (EndR B'))) : FnD P f B px B' := by
  intro M hh ρ vs u hand hs0 hvl hvs hpend
  refine callsD_of_wpS hf hb fun c₀ cs hu => ?_
  have hm : ({ c₀ with mode := u } : Frame) = c₀ := by subst hu; rfl
  obtain ⟨v, u', hrec, hset, hv⟩ : ∃ v u', ((recoverD (c₀ :: cs) = some (v, { c₀ with mode := u' } :: cs)) ∨ (recoverD (c₀ :: cs) = none ∧ v = .nilIface ∧ { c₀ with mode := u' } :: cs = c₀ :: cs)) ∧ settle u' = .returning ∧ Rep (Mut M (asB B) ρ) hh.w (pendV px) v := by
    cases px with
    | none =>
      obtain rfl : u = .returning := hpend
      exact ⟨.nilIface, .returning, .inr ⟨by simp [recoverD, hu], rfl, by rw [hm]⟩, rfl, .val _⟩
    | some x =>
      obtain ⟨v, rfl, hv⟩ := hpend
      exact ⟨v, .panicking [{ v := v, recovered := true }], .inl (by simp [recoverD, hu]), by simp [settle], hv⟩
  have hsat : Sat M n hh { t := zipA 0 (ptrsA B.length), s := numB 1000 B } ρ { tmps := vs.toArray ++ Array.replicate (fn.ntmps - vs.toArray.size) undef, defers := [] } hh.w := by
    refine ⟨hs0.below, hs0.out, hs0.tab, by simp; omega, hs0.defers, fun i => ?_, hs0.blks, hs0.mine, hs0.fix, fun k hk => hh.lo k (by omega), hs0.dist⟩
    show yE _ _ _ ((look (zipA 0 (ptrsA B.length)) i).getD .any) _
    rw [look_zipA]
    simp only [Nat.zero_le, if_true, Nat.sub_zero]
    cases hx : (ptrsA B.length)[i]? with
    | none => exact .any _
    | some x =>
      have hi : i < vs.length := by
        have := (List.getElem?_eq_some_iff.1 hx).1
        simp [ptrsA] at this
        omega
      have e : ({ tmps := vs.toArray ++ Array.replicate (fn.ntmps - vs.toArray.size) undef, defers := [] } : Act).tmps.getD i undef = vs[i] := by
        simp [Array.getD_eq_getD_getElem?, Array.getElem?_append, hi]
      rw [e]
      have hx2 : x = .ptr (1000 + i) 0 := by
        unfold ptrsA at hx
        rw [List.getElem?_map, List.getElem?_range (by omega)] at hx
        exact (Option.some.inj hx).symm
      subst hx2
      exact hvs i vs[i] (List.getElem?_eq_getElem hi)
  have hsat2 := hsat.put hdn (.p hv)
  have fin : ∀ e S1 ρ1 a1 w1, EndR B' (bare e) S1 → Sat M n hh S1 ρ1 a1 w1 → bodyPostS P fn c₀ cs (fun e u' w' => settle u' = .returning ∧ (∃ v, e = .returned v) ∧ ∃ ρ', Sat M 0 hh (asB B') ρ' wT w') e a1 ({ c₀ with mode := u' } :: cs) w1 := by
    rintro e S1 ρ1 a1 w1 ⟨he, hB⟩ hs1
    have main : a1.defers = [] ∧ ∃ u'', ({ c₀ with mode := u' } :: cs : List Frame) = { c₀ with mode := u'' } :: cs ∧ ∃ v, (results fn a1.tmps).run P w1 = .ok v w1 ∧ (settle u'' = .returning ∧ (∃ v', Ending.returned v = .returned v') ∧ ∃ ρ', Sat M 0 hh (asB B') ρ' wT w1) :=
      ⟨hs1.defers.trans hs0.defers.symm, u', rfl, _, results_none hr _ _ _, hset, ⟨_, rfl⟩, ρ1, (hs1.asB hs0.defers.symm hB).1⟩
    cases e with
    | ret => exact main
    | normal => exact main
    | exit id => rcases he with h | h <;> cases h
    | goto l => rcases he with h | h <;> cases h
    | panic c => rcases he with h | h <;> cases h
    | outgrown => rcases he with h | h <;> cases h
  refine wpS_seq (wpS_recover ho hg hrec ?_)
  rw [hd]
  refine h M hh ρ _ hh.w _ hsat2 fun e S1 ρ1 a1 w1 hk hs1 _ => ?_
  cases e with
  | normal => exact wpS_of_wp (hk M hh ρ1 a1 w1 _ hs1 fun e S2 ρ2 a2 w2 hk2 hs2 _ => fin e S2 ρ2 a2 w2 hk2 hs2)
  | ret => exact fin .ret S1 ρ1 a1 w1 hk hs1
  | exit id => exact fin (.exit id) S1 ρ1 a1 w1 hk hs1
  | goto l => exact fin (.goto l) S1 ρ1 a1 w1 hk hs1
  | panic c => exact fin (.panic c) S1 ρ1 a1 w1 hk hs1
  | outgrown => exact fin .outgrown S1 ρ1 a1 w1 hk hs1
end
end Go.Proofs.YteadaggehndacaaDoor
/- Functions with one deferred call. Generic over the program. -/
namespace Go.Proofs.YteadaggehndacaaDoor
set_option maxRecDepth 100000
set_option maxHeartbeats 16000000
open Go Go.RowKit
/-- how the body ends that has deferred function fd over its variables dj -/
def EndD (P : Program) (fn : Func) (fd : FuncId) (dj : List Nat) (x : AV) (B' : List Blk) (e : Exit) (S : AS) : Prop :=
  ∃ (px : Option PV) (Bd Bd' : List Blk), FnD P fd Bd px Bd' ∧ ((px = none ∧ (e = .ret ∨ e = .normal)) ∨ (∃ y, px = some y ∧ e = .panic [] ∧ S.x = .p y)) ∧ Hands S dj Bd ∧ Bd'.length = Bd.length ∧ Bd'.all (Blk.okE Bd.length) = true ∧
    GivesA P fn (S.after dj Bd') x ∧ HasB (S.after dj Bd') B'
theorem look_mem2 {α : Type} : ∀ {l : List (Nat × α)} {i : Nat} {x : α}, look l i = some x → (i, x) ∈ l
  | [], _, _, h => by simp [look] at h
  | (k, y) :: r, i, x, h => by
    unfold look at h
    split at h
    · rename_i hk
      obtain rfl := Option.some.inj h
      subst hk
      simp
    · exact List.mem_cons_of_mem _ (look_mem2 h)
section
variable {P : Program} {n : Nat}
def PendA (M : Nat → Nat → Prop) (w : World) : Option PV → FrameMode → List Value → Prop
  | none, u, pv => u = .returning ∧ pv = []
  | some x, u, pv => ∃ v, pv = [v] ∧ u = .panicking [{ v := v, recovered := false }] ∧ Rep M w x v
/-- the deferred call, out of the frame -/
theorem def_call {fd : FuncId} {dj : List Nat} {px : Option PV} {Bd Bd' : List Blk} {M : Nat → Nat → Prop} {w0 : Home} {S : AS} {ρ : Nat → Value} {a : Act} {w : World} {cvs pv : List Value} {u : FrameMode} (hfd : FnD P fd Bd px Bd') (hh : Hands S dj Bd) (hl : Bd'.length = Bd.length) (hok : Bd'.all (Blk.okE Bd.length) = true)
    (hs : Sat M n w0 S ρ a w) (hcv : cvs.length = dj.length) (hcw : ∀ (i : Nat) k v, dj[i]? = some k → cvs[i]? = some v → ∃ g, yJ (ρ k) = some g ∧ v = .pointer (some ⟨g, 0, none⟩)) (hp : PendA (Mut M S ρ) w px u pv) :
    CallsD P fd cvs.toArray u w fun e u' w' => settle u' = .returning ∧ (∃ v, e = .returned v) ∧ Sat M n w0 (S.after dj Bd') ρ a w' := by
  have hdl : dj.length = Bd.length := hh.len
  have hptr : (ptrsA Bd.length).length = Bd.length := by simp [ptrsA]
  have hat : ∀ i, i < Bd.length → (ptrsA Bd.length)[i]? = some (.ptr (1000 + i) 0) := fun i hi => by
    unfold ptrsA
    rw [List.getElem?_map, List.getElem?_range hi]
    rfl
  have c := call_effC (C := fun R0 => CallsD P fd cvs.toArray u w fun e u' w' => settle u' = .returning ∧ (∃ v, e = .returned v) ∧ R0 e w') (fun R1 R2 h12 hc => hc.mono fun e u' w' ⟨q1, q2, q3⟩ => ⟨q1, q2, h12 e w' q3⟩)
    (xs := ptrsA Bd.length ++ px.toList.map AV.p) (ids := dj) (B := Bd) (B' := Bd') (ev := .ret .any) hh hl hok (by
      rw [List.all_append, Bool.and_eq_true]
      refine ⟨List.all_eq_true.2 fun y hy => ?_, List.all_eq_true.2 fun y hy => ?_⟩
      · obtain ⟨i, hi, rfl⟩ := List.mem_map.1 hy
        have := List.mem_range.1 hi
        simp [AV.okE, this]
      · obtain ⟨z, _, rfl⟩ := List.mem_map.1 hy
        rfl) hs (vs := cvs ++ pv) (fun i y v h1 h2 => ?_) (fun M' h' ρ' hw _ hand hsat hreps _ => ?_)
  · exact c.mono fun e u' w' ⟨q1, q2, q3, _⟩ => ⟨q1, q2, q3⟩
  · by_cases hi : i < Bd.length
    · rw [List.getElem?_append_left (by omega)] at h1 h2
      rw [hat i hi] at h1
      obtain rfl := Option.some.inj h1
      have hk : dj[i]? = some (dj[i]'(by omega)) := List.getElem?_eq_getElem _
      obtain ⟨g, hg1, rfl⟩ := hcw i _ v hk h2
      show yE _ ρ w (.ptr (sig dj (1000 + i)) 0) _
      rw [kP hk]
      exact .ptr _ 0 g hg1
    · rw [List.getElem?_append_right (by omega), hptr] at h1
      rw [List.getElem?_append_right (by omega), hcv, hdl] at h2
      cases px with
      | none => simp at h1
      | some x =>
        obtain ⟨v', rfl, _, hr⟩ := hp
        obtain ⟨j, hj⟩ : ∃ j, i - Bd.length = j := ⟨_, rfl⟩
        rw [hj] at h1 h2
        cases j with
        | zero =>
          simp at h1 h2
          subst h1
          subst h2
          exact .p hr
        | succ j => simp at h1
  · subst hw
    have hpend : Pending (Mut M' (asB Bd) ρ') h'.w px u := by
      cases px with
      | none => exact hp.1
      | some x =>
        obtain ⟨v', rfl, hu, _⟩ := hp
        refine ⟨v', hu, ?_⟩
        have h3 := hreps Bd.length (.p x) v' (by rw [List.getElem?_append_right (by omega), hptr]; simp) (by rw [List.getElem?_append_right (by omega), hcv, hdl]; simp)
        cases h3 with
        | p h4 => exact h4
    refine (hfd M' h' ρ' cvs u hand hsat (by omega) (fun i v hv => hreps i _ v ?_ ?_) hpend).mono fun e u' w' ⟨q1, ⟨v, q2⟩, ρ2, q3⟩ => ⟨q1, ⟨v, q2⟩, ρ2, q3, v, q2, .any _⟩
    · have hi := (List.getElem?_eq_some_iff.1 hv).1
      rw [List.getElem?_append_left (by omega)]
      exact hat i (by omega)
    · rw [List.getElem?_append_left (List.getElem?_eq_some_iff.1 hv).1]
      exact hv
/-- What is behind the body, once the deferred call has been made. -/
theorem leave_one {fn : Func} {fd : FuncId} {dj : List Nat} {x : AV} {B' : List Blk} {M : Nat → Nat → Prop} {h : Home} {D : List Deferred} {S : AS} {ρ : Nat → Value} {a : Act} {w : World} {e : Exit} {cvs : List Value} {R : Ending → World → Prop} [hcf : HasFn P fd]
    (hs : Sat M n { h with d := D } S ρ a w) (hd : h.d = []) (hD : D = [{ target := .fn (.func fd) cvs.toArray, args := #[] }]) (he : EndD P fn fd dj x B' (bare e) S) (hex : ExOK M S ρ w e) (hcv : cvs.length = dj.length)
    (hcw : ∀ (i : Nat) k v, dj[i]? = some k → cvs[i]? = some v → ∃ g, yJ (ρ k) = some g ∧ v = .pointer (some ⟨g, 0, none⟩))
    (hR : ∀ e w', (∃ ρ', Sat M 0 h (asB B') ρ' wT w' ∧ EvOK (Mut M (asB B') ρ') ρ' w' (.ret x) e) → R e w') : bodyPostD P fn R e a w := by
  obtain ⟨px, Bd, Bd', hfd, hpx, hh, hl, hok, hg, hB⟩ := he
  have hinv : (invoke (.fn (.func fd) cvs.toArray) #[]).run P w = .ok (.enter fd cvs.toArray) w := by simp [invoke, hcf.h]
  have hdf : a.defers = [{ target := .fn (.func fd) cvs.toArray, args := #[] }] := hs.defers.trans hD
  have fin : ∀ (u : FrameMode) (pv : List Value), u ≠ .run → PendA (Mut M S ρ) w px u pv → Leaves P fn a.tmps R a.defers u w := by
    intro u pv hu hp
    rw [hdf]
    refine leaves_cons hu hinv ((def_call hfd hh hl hok hs hcv hcw hp).mono fun e u' w' ⟨q1, ⟨v, q2⟩, q3⟩ => ?_)
    subst q2
    show Leaves P fn a.tmps R [] (settle u') w'
    rw [q1]
    obtain ⟨v', r1, r2⟩ := gives_res q3 hd hg hB
    exact ⟨v', r1, hR _ _ r2⟩
  rcases hpx with ⟨rfl, he⟩ | ⟨y, rfl, he, hy⟩
  · cases e with
    | ret => exact fin .returning [] (by simp) ⟨rfl, rfl⟩
    | normal => exact fin .returning [] (by simp) ⟨rfl, rfl⟩
    | exit id => rcases he with h | h <;> cases h
    | goto l => rcases he with h | h <;> cases h
    | panic c => rcases he with h | h <;> cases h
    | outgrown => rcases he with h | h <;> cases h
  · cases e with
    | panic c =>
      obtain ⟨v, rfl, hv⟩ := hex
      rw [hy] at hv
      cases hv with
      | p hv => exact fin (.panicking [{ v := v, recovered := false }]) [v] (by simp) ⟨v, rfl, rfl, hv⟩
    | ret => cases he
    | normal => cases he
    | exit id => cases he
    | goto l => cases he
    | outgrown => cases he
theorem fn_ofD {f : FuncId} {fn : Func} {c0 rest : Code} {id d fd : Nat} {o1 o2 : Oper} {caps : Array Operand} {ts : Array TypeId} {args : List AV} {B B' Bi Bi' : List Blk} {x : AV} {S1 : AS} {dids dj ids : List Nat} {T : List (Nat × AV)} [hcf : HasFn P fd]
    (hf : P.funcs[f]? = some fn) (hb : fn.body = some (.seq c0 (.seq (.region id [o1, o2].toArray false) rest))) (hn : fn.ntmps = n) (hle : args.length ≤ n) (h1000 : n ≤ 1000)
    (h0 : zZ P n c0 { t := zipA 0 args, s := numB 1000 B } (fun e S => e = .normal ∧ S = S1))
    (hg1 : o1.guard = none) (hd1 : o1.dst = some d) (hdn : d < n) (ho1 : o1.op = .makeFunc (.func fd) #[] caps) (hc : readIds (caps.toList.map S1.get) = some dids)
    (hg2 : o2.guard = none) (hd2 : o2.dst = none) (ho2 : o2.op = .defer { callee := .value (.tmp d), args := #[], argTypes := ts })
    (hdj : dids = dj.map (sig ids)) (hdr : dj.all (fun k => decide (1000 ≤ k ∧ k < 1000 + Bi.length)) = true)
    (hh : Hands S1 ids Bi) (hBi' : Bi'.length = Bi.length) (hok' : Bi'.all (Blk.okE Bi.length) = true)
    (hT : T.all (fun p => p.2.okE Bi.length) = true) (hT1 : ∀ p ∈ T, S1.tmp p.1 = p.2.ren (sig ids) ∧ d ≠ p.1)
    (h2 : zZ P n rest { t := T, s := numB 1000 Bi } (EndD P fn fd dj x Bi')) (hx : x.okE Bi.length = true) (hxr : x.ren (sig ids) = x) (hB' : HasB (S1.after ids Bi') B') : FnE P f args B (.ret x) B' := by
  intro M hh0 ρ vs hand hs0 hvl hvs
  refine calls_of_wp_defers hf hb ?_
  have hsat : Sat M n hh0 { t := zipA 0 args, s := numB 1000 B } ρ { tmps := vs.toArray ++ Array.replicate (fn.ntmps - vs.toArray.size) undef, defers := [] } hh0.w := by
    refine ⟨hs0.below, hs0.out, hs0.tab, by simp; omega, hs0.defers, fun i => ?_, hs0.blks, hs0.mine, hs0.fix, fun k hk => hh0.lo k (by omega), hs0.dist⟩
    show yE _ _ _ ((look (zipA 0 args) i).getD .any) _
    rw [look_zipA]
    simp only [Nat.zero_le, if_true, Nat.sub_zero]
    cases hx : args[i]? with
    | none => exact .any _
    | some x =>
      have hi : i < vs.length := by rw [hvl]; exact (List.getElem?_eq_some_iff.1 hx).1
      have e : ({ tmps := vs.toArray ++ Array.replicate (fn.ntmps - vs.toArray.size) undef, defers := [] } : Act).tmps.getD i undef = vs[i] := by
        simp [Array.getD_eq_getD_getElem?, Array.getElem?_append, hi]
      rw [e]
      exact hvs i x vs[i] hx (List.getElem?_eq_getElem hi)
  refine wp_seq (h0 M hh0 ρ _ hh0.w _ hsat ?_)
  rintro e S' ρ1 a1 w1 ⟨he, rfl⟩ hs1 _
  cases e with
  | ret => cases he
  | exit id => cases he
  | goto l => cases he
  | panic c => cases he
  | outgrown => cases he
  | normal =>
  refine wp_seq (wp_region_lit ?_)
  unfold wpList
  rw [if_pos (by simp [Region.wanted, hg1])]
  refine .inl ((w_mkFunc ho1 hc hd1 hdn).step M hh0 ρ1 a1 w1 _ _ hs1 fun ρ2 a2 w2 hs2 => ?_)
  rw [hd1] at hs2
  have hs2 : Sat M n hh0 (S'.put d (.clo fd dids)) ρ2 a2 w2 := hs2
  have hv := hs2.tmps d
  rw [AS.tmp_put, if_pos rfl] at hv
  obtain ⟨cvs, hva, hcl, hcw⟩ : ∃ cvs : List Value, a2.tmps.getD d undef = .func (.func fd) #[] cvs.toArray ∧ cvs.length = dids.length ∧ ∀ (i : Nat) k v, dids[i]? = some k → cvs[i]? = some v → ∃ g, yJ (ρ2 k) = some g ∧ v = .pointer (some ⟨g, 0, none⟩) := by
    generalize a2.tmps.getD d undef = u at hv
    cases hv with
    | clo _ _ vs hl h => exact ⟨vs, rfl, hl, h⟩
  unfold wpList
  rw [if_pos (by simp [Region.wanted, hg2])]
  refine .inl ?_
  have hrun : (execOp a2.eval o2).run P w2 = .ok (.defer { target := .fn (.func fd) cvs.toArray, args := #[] }) w2 := by
    unfold execOp
    rw [ho2]
    have hev : a2.eval (.tmp d) = .func (.func fd) #[] cvs.toArray := hva
    simp [resolve, Deferred.ofValue, hev]
  unfold Oper.wp
  rw [hrun, Oper.upon_defer, hd2]
  show rest.wp P _ { a2 with defers := { target := .fn (.func fd) cvs.toArray, args := #[] } :: a2.defers } w2
  rw [hs2.defers.trans hs0.defers.symm]
  -- the rest, in its own frame
  have key := call_effC (C := fun R => ∀ R' : Ending → World → Prop, (∀ e w', R e w' → R' e w') → rest.wp P (bodyPostD P fn R') { a2 with defers := [{ target := .fn (.func fd) cvs.toArray, args := #[] }] } w2) (fun R1 R2 h12 hc R' h' => hc R' fun e w' q => h' e w' (h12 e w' q))
    (xs := T.map Prod.snd) (ids := ids) (B := Bi) (B' := Bi') (ev := .ret x) (S := S'.put d (.clo fd dids)) ⟨hh.len, hh.nodup, hh.ok, hh.at_⟩ hBi' hok' (by rw [List.all_map]; exact hT) hs2 (vs := T.map fun p => a2.tmps.getD p.1 undef) (fun i y v h1 h3 => ?_) (fun M' h' ρ' hw hd' hand' hsat' hreps hfix R' hR' => ?_)
  · refine key _ fun e w' ⟨q1, q2⟩ => ?_
    obtain ⟨r1, r2⟩ := q1.asB hs0.defers.symm hB'
    obtain ⟨v, rfl, r3⟩ := q2 hx
    rw [hxr] at r3
    exact ⟨ρ2, r1, v, rfl, r3.mono fun k c _ hk => r2 k c hk⟩
  · rw [List.getElem?_map, Option.map_eq_some_iff] at h1 h3
    obtain ⟨p, hp, rfl⟩ := h1
    obtain ⟨p', hp', rfl⟩ := h3
    rw [hp] at hp'
    obtain rfl := Option.some.inj hp'
    obtain ⟨q1, q2⟩ := hT1 p (List.mem_of_getElem? hp)
    rw [← q1]
    have := hs2.tmps p.1
    rw [AS.tmp_put, if_neg q2] at this
    exact this
  · have hfr : Sat M' n { h' with d := [{ target := .fn (.func fd) cvs.toArray, args := #[] }] } { t := T, s := numB 1000 Bi } ρ' { a2 with defers := [{ target := .fn (.func fd) cvs.toArray, args := #[] }] } w2 := by
      refine Sat.frame (a := { a2 with defers := [{ target := .fn (.func fd) cvs.toArray, args := #[] }] }) hsat' hs2.size h1000 fun i y hy => ?_
      obtain ⟨j, hj⟩ := List.getElem?_of_mem (look_mem2 hy)
      exact hreps j y _ (by rw [List.getElem?_map, hj]; rfl) (by rw [List.getElem?_map, hj]; rfl)
    refine h2 M' _ ρ' _ w2 _ hfr fun e S2 ρ3 a4 w4 hend hs4 hx4 => ?_
    refine leave_one hs4 hd' rfl hend hx4 (by rw [hcl, hdj, List.length_map]) (fun i k v hk hv => ?_) hR'
    have hkr := List.all_eq_true.1 hdr k (List.mem_of_getElem? hk)
    simp only [decide_eq_true_eq] at hkr
    obtain ⟨g, g1, g2⟩ := hcw i (sig ids k) v (by rw [hdj, List.getElem?_map, hk]; rfl) hv
    refine ⟨g, ?_, g2⟩
    have e1 : ρ3 k = ρ' k := by
      have := hand'.r (k - 1000) (by omega)
      rw [show 1000 + (k - 1000) = k by omega] at this
      exact hs4.fix k _ this
    rw [e1, hfix k hkr.1 hkr.2]
    exact g1
end
end Go.Proofs.YteadaggehndacaaDoor
/- What recovers what a program over a log panics with: contracts. -/
namespace Go.Proofs.YteadaggehndacaaDoor
set_option maxRecDepth 100000
set_option maxHeartbeats 16000000
open Go Go.RowKit
set_option linter.unusedSimpArgs false
attribute [local irreducible] zY zZ Step zQ Sub zO zR Fn
section
variable {P : Program} {n : Nat} {o : Oper} {S : AS} {d : Nat} {x : Operand}
theorem w_assertY {s t : Nat} {y : PV} {pl : List (Nat × Nat)} [hb : BuildA P t pl] (ho : o.op = .typeAssert x s t true) (hx : S.get x = .p (.ifc t y)) (hd : o.dst = some d) (hn : d < n) : zQ P n o S [] (.tup [.p y, .p (.val (.bool true))]) none :=
  zQ.pure hd hn fun S2 hg _ M w0 ρ a w hs => by
    have h1 := xB hs ((hg x (by rw [ho]; simp [Op.operands])).trans hx)
    generalize hv : a.eval x = v at h1
    cases h1 with
    | ifc _ _ u h =>
      refine ⟨.tuple [u, .bool true].toArray, w, ?_, Below.refl _ _, .tup _ [u, .bool true] rfl fun i c v hc hv => ?_⟩
      · unfold execOp
        rw [ho]
        simp [Instr.typeAssert, run_underlying hb.st, hv]
      · match i with
        | 0 => cases hc; cases hv; exact .p h
        | 1 => cases hc; cases hv; exact .p (.val _)
        | i + 2 => simp at hc
theorem w_assertN {s t : Nat} {pl : List (Nat × Nat)} {z : Value} {cl : List Value} [hb : BuildA P t pl] [hz : ZeroA P t z] (ho : o.op = .typeAssert x s t true) (hx : S.get x = .p (.val .nilIface)) (hc0 : z = .agg cl.toArray) (h1 : cl.all (fun u => u.oneCell') = true) (hd : o.dst = some d) (hn : d < n) : zQ P n o S [] (.tup [.p (.agg (cl.map PV.val)), .p (.val (.bool false))]) none :=
  zQ.pure hd hn fun S2 hg _ M w0 ρ a w hs => by
    have h2 := xB hs ((hg x (by rw [ho]; simp [Op.operands])).trans hx)
    generalize hv : a.eval x = v at h2
    cases h2
    refine ⟨.tuple [z, .bool false].toArray, w, ?_, Below.refl _ _, .tup _ [z, .bool false] rfl fun i c v hc hv => ?_⟩
    · unfold execOp
      rw [ho]
      simp [Instr.typeAssert, run_underlying hb.st, hv, hz.h]
    · match i with
      | 0 =>
        cases hc; cases hv
        subst hc0
        refine .p (.agg _ cl (by simp) (fun i c v hc hv => ?_) fun u hu => List.all_eq_true.1 h1 u hu)
        rw [List.getElem?_map, hv] at hc
        cases hc
        exact .val _
      | 1 => cases hc; cases hv; exact .p (.val _)
      | i + 2 => simp at hc
end
def accB (kind cell a b : Int) (data : PV) : Blk := .box 73 [.p (.val (.int .i64 kind)), .p (.val (.int .i64 cell)), .p (.val (.int .u64 a)), .p (.val (.int .u64 b)), .p data, .p xJ]
def outB (e : Int) (is : Bool) (n w : Int) : Blk := .box 38 [.p (.val (.int .i64 e)), .p (.val (.bool is)), .p (.val (.int .i64 n)), .p (.val (.int .u64 w)), .p xJ]
theorem run1_none (e : Int) (is : Bool) (n w : Int) (b : Bool) : FnD Tryd.prog 59 [accB 0 0 0 0 xJ, outB e is n w, isB b] none [accB 0 0 0 0 xJ, outB e is n w, isB b] := by
  refine fn_ofDef Tryd.func59 rfl Tryd.ntmps59 (Nat.le_of_ble_eq_true rfl) (by decide) rfl rfl rfl (by decide) rfl ?_
  repeat' (first | (refine zY.is ?_; first | refine zY.nil ?_ | refine zY.v rfl rfl (by first | exact zV rfl rfl rfl (by decide) | exact yY rfl rfl rfl rfl (by decide) | exact xW rfl rfl rfl (by decide) | exact w_assertN rfl rfl rfl rfl rfl (by decide)) ?_ | refine zY.m rfl rfl (zG rfl (by decide) rfl (by decide)) ?_ | refine zY.w rfl (by exact zH rfl rfl rfl rfl rfl (by rfl) (by exact Nat.le_of_ble_eq_true rfl) rfl rfl) ?_) | (refine zZ.is ?_; first | refine zZ.seq ?_ | (refine zZ.iq 1 ?_; refine zZ.rqa _ K_s K_17 ?_; (refine zY.v rfl rfl (zJ rfl rfl rfl (by decide)) ?_); refine zY.nil ?_) | refine zZ.yU rfl (by with_reducible rfl) ?_ | refine zZ.skip ?_))
  all_goals exact ⟨by first | exact .inl rfl | exact .inr rfl, qV (by repeat' first | exact trivial | rfl | constructor)⟩
theorem run1_need (kind cell a b : Int) (data : PV) (e : Int) (is : Bool) (n w : Int) (c : Bool) : FnD Tryd.prog 59 [accB 0 0 0 0 xJ, outB e is n w, isB c] (some (.ifc 112 (accV kind cell a b data))) [accB kind cell a b data, outB 0 false 0 0, isB false] := by
  refine fn_ofDef Tryd.func59 rfl Tryd.ntmps59 (Nat.le_of_ble_eq_true rfl) (by decide) rfl rfl rfl (by decide) rfl ?_
  repeat' (first | (refine zY.is ?_; first | refine zY.nil ?_ | refine zY.v rfl rfl (by first | exact zV rfl rfl rfl (by decide) | exact yY rfl rfl rfl rfl (by decide) | exact xW rfl rfl rfl (by decide) | exact w_assertY rfl rfl rfl (by decide)) ?_ | refine zY.m rfl rfl (zG rfl (by decide) rfl (by decide)) ?_ | refine zY.w rfl (by exact zH rfl rfl rfl rfl rfl (by rfl) (by exact Nat.le_of_ble_eq_true rfl) rfl rfl) ?_) | (refine zZ.is ?_; first | refine zZ.seq ?_ | (refine zZ.iq 1 ?_; refine zZ.rqa _ K_s K_17 ?_; (refine zY.v rfl rfl (zJ rfl rfl rfl (by decide)) ?_); refine zY.nil ?_) | (refine zZ.iq 2 ?_; refine zZ.rqg _ K_i K_17 ?_; (refine zY.v rfl rfl (zK rfl rfl rfl (by decide)) ?_); (refine zY.v rfl rfl (zT rfl rfl rfl (by rfl) (by rfl) rfl (by decide)) ?_); (refine zY.v rfl rfl (y8 rfl (by rfl) (by rfl) (by rfl) (by rfl) rfl (by decide)) ?_); (refine zY.w rfl (by exact zH rfl rfl rfl rfl rfl (by rfl) (by exact Nat.le_of_ble_eq_true rfl) rfl rfl) ?_); (refine zY.w rfl (by exact zH rfl rfl rfl rfl rfl (by rfl) (by exact Nat.le_of_ble_eq_true rfl) rfl rfl) ?_); (refine zY.w rfl (by exact zH rfl rfl rfl rfl rfl (by rfl) (by exact Nat.le_of_ble_eq_true rfl) rfl rfl) ?_); refine zY.nil ?_) | refine zZ.yT rfl (by with_reducible rfl) ?_))
  all_goals exact ⟨by first | exact .inl rfl | exact .inr rfl, qV (by repeat' first | exact trivial | rfl | constructor)⟩
end Go.Proofs.YteadaggehndacaaDoor
/- What a list's operation asks next, of a log: the program's: contracts. -/
namespace Go.Proofs.YteadaggehndacaaDoor
set_option maxRecDepth 100000
set_option maxHeartbeats 16000000
open Go Go.RowKit
set_option linter.unusedSimpArgs false
set_option linter.unusedVariables false
attribute [local irreducible] zY zZ Step zQ Sub zO zR Fn
def outRN (o : OutN) : AV := .p (outV o.e o.is o.n o.w)
theorem decT {k n : Int} (h : decide (k = n) = true) : k = n := of_decide_eq_true h
theorem next1L_h (H : Hnd) (s0 : H.σ) {t k u v w : Int} (ht : Small t) (hO : OpL k u v w) : FnH H 47 [H.doA, .ptr 1003 0, .ptr 1004 0] [opB k u v w, qG t] outRN (fun _ => [opB k u v w, qG t]) yes s0 (opL t k u v w) := by
  have F1 := fun (x : wL) (g : FOK x) => (wrap_u64 x.p ⟨g.p.lo, by have := g.p.hi; omega⟩ : IntKind.u64.wrap x.p = x.p)
  have F2 := fun (h : decide (k = 24) = true) => (wrap_i64 w ⟨by have := (hO.v (decT h)).2.lo; omega, by have := (hO.v (decT h)).2.hi; omega⟩ : IntKind.i64.wrap w = w)
  unfold Hnd.doA
  refine wJ Tryd.func47 rfl Tryd.ntmps47 (Nat.le_of_ble_eq_true rfl) (by decide) (fine_opL hO) fun hok hns => ?_
  repeat' (first | (refine zY.is ?_; first | refine zY.nil ?_ | (refine zY.at_ 14 rfl ?_; refine zY.rc (.v v0_4 (.v x9 (.v x9 (.v x9 (.v x9 (.v yV (.v yV (.v yV (.v yV .e))))))))) ?_) | (refine zY.at_ 36 rfl ?_; refine zY.rc (.v v0_4 (.v x9 (.v x9 (.v yR (.w yI (.v yR (.w yI .e))))))) ?_) | (refine zY.at_ 60 rfl ?_; refine zY.rc (.v yR (.w yI .e)) ?_) | (refine zY.at_ 68 rfl ?_; refine zY.rc (.v yR (.w yI .e)) ?_) | (refine zY.at_ 76 rfl ?_; refine zY.rc (.v v52_8 .e) ?_) | (refine zY.in_ [19] rfl ?_; refine zY.ofT rfl (zR.hd (i := []) (f := search_h H _ ht) (r := fun x s e g hk => ?_) (p := fun q s e => ?_) (t := ?_))) | (refine zY.in_ [43] rfl ?_; refine zY.ofT rfl (zR.hd (i := []) (f := seek_h H _ ht (hO.u (.inr (.inr (decT (by assumption)))))) (r := fun x s e g hk => ?_) (p := fun q s e => ?_) (t := ?_))) | (refine zY.in_ [59] rfl ?_; refine zY.ofT rfl (zR.hd (i := []) (f := link_h H _ ht (hO.u (.inr (.inl (decT (by assumption))))) (hO.v (decT (by assumption))).1 (hO.v (decT (by assumption))).2) (r := fun x s e g hk => ?_) (p := fun q s e => ?_) (t := ?_))) | (refine zY.in_ [67] rfl ?_; refine zY.ofT rfl (zR.hd (i := []) (f := markOp_h H _ ht (hO.u (.inl (decT (by assumption))))) (r := fun x s e g hk => ?_) (p := fun q s e => ?_) (t := ?_))) | (refine zY.in_ [75] rfl ?_; refine zY.ofT rfl (zR.hd (i := []) (f := sweep_h H _ ht) (r := fun x s e g hk => ?_) (p := fun q s e => ?_) (t := ?_)))) | (refine zZ.is ?_; first | refine zZ.seq ?_ | (refine zZ.isR (id := 0) ?_; refine zZ.rc [0, 1, 2] [4, 1000, 1001, 1002, 1003, 1004] (r := (.m xY .e)) (h := ?_)) | (refine zZ.isR (id := 1) ?_; refine zZ.rc [0, 1, 2, 4] [4, 1000, 1001, 1002, 1003, 1004] (r := (.v yR (.v yN .e))) (h := ?_)) | (refine zZ.isR (id := 3) ?_; refine zZ.rc [0, 1, 2, 4, 10] [4, 1000, 1001, 1002, 1003, 1004] (r := (.v v41_8 (.v yV .e))) (h := ?_)) | (refine zZ.isR (id := 4) ?_; refine zZ.rc [0, 1, 2, 4, 10] [4, 1000, 1001, 1002, 1003, 1004] (r := (.v vM (.v yN (.v yR (.v yN .e))))) (h := ?_)) | (refine zZ.isR (id := 5) ?_; refine zZ.rc [0, 1, 2, 4, 5, 6, 7, 8, 10] [4, 1000, 1001, 1002, 1003, 1004] (r := (.v zC (.v v52_8 .e))) (h := ?_)) | (refine zZ.isR (id := 6) ?_; refine zZ.rc [0, 1, 2, 4, 5, 6, 7, 10] [4, 1000, 1001, 1002, 1003, 1004] (r := (.v kF (.w yI .e))) (h := ?_)) | (refine zZ.isR (id := 7) ?_; refine zZ.rc [0, 1, 2, 4, 5, 6, 7, 10] [4, 1000, 1001, 1002, 1003, 1004] (r := (.v zC (.v zC (.v v6_1 (.v zC (.v yR (.w yI (.v yR (.w yI (.v yR (.w yI .e))))))))))) (h := ?_)) | (refine zZ.isR (id := 8) ?_; refine zZ.rc [0, 1, 2, 4, 10] [4, 1000, 1001, 1002, 1003, 1004] (r := (.v v41_8 (.v yV .e))) (h := ?_)) | (refine zZ.isR (id := 9) ?_; refine zZ.rc [0, 1, 2, 4, 10] [4, 1000, 1001, 1002, 1003, 1004] (r := (.v vM (.v yN (.v yR (.v yN (.v yR (.v yN .e))))))) (h := ?_)) | (refine zZ.isR (id := 10) ?_; refine zZ.rc [0, 1, 2, 4, 10] [4, 1000, 1001, 1002, 1003, 1004] (r := (.v v41_8 (.v yV .e))) (h := ?_)) | (refine zZ.isR (id := 11) ?_; refine zZ.rc [0, 1, 2, 4, 10] [4, 1000, 1001, 1002, 1003, 1004] (r := (.v vM (.v yN (.v yR (.v yN (.v yR (.v yN (.v yR (.v yN (.v v6_2 .e)))))))))) (h := ?_)) | (refine zZ.isR (id := 12) ?_; refine zZ.rc [0, 1, 2, 4, 10] [4, 1000, 1001, 1002, 1003, 1004] (r := (.v v41_8 (.v yV .e))) (h := ?_)) | (refine zZ.isR (id := 13) ?_; refine zZ.rc [0, 1, 2, 4, 10] [4, 1000, 1001, 1002, 1003, 1004] (r := (.v vM (.v yN (.v yR (.v yN .e))))) (h := ?_)) | (refine zZ.isR (id := 14) ?_; refine zZ.rc [0, 1, 2, 4, 10] [4, 1000, 1001, 1002, 1003, 1004] (r := (.v v41_8 (.v yV .e))) (h := ?_)) | (refine zZ.isR (id := 15) ?_; refine zZ.rc [0, 1, 2, 4] [4, 1000, 1001, 1002, 1003, 1004] (r := (.v vM (.v yN (.v yR (.v yN .e))))) (h := ?_)) | (refine zZ.isR (id := 16) ?_; refine zZ.rc [4] [4, 1000, 1001, 1002, 1003, 1004] (r := (.v yR (.w yI .e))) (h := ?_)) | (refine zZ.isR (id := 2) ?_; refine zZ.rc [4] [4, 1000, 1001, 1002, 1003, 1004] (r := (.v yR (.w yI .e))) (h := ?_)) | (refine zZ.isR (id := 17) ?_; refine zZ.rc [4] [4, 1000, 1001, 1002, 1003, 1004] (r := (.v v2_6 (.w yI .e))) (h := ?_)) | refine zZ.cond rfl (fun h => ?_) (fun h => ?_) | refine zZ.skip ?_ | refine zZ.block ?_ | refine zZ.ret ?_) | refine zS.r ?_ | refine zS.p ?_ | refine yA.r ?_ | refine yA.p ?_)
  all_goals try simp only [Bool.not_eq_true', Bool.not_eq_false'] at *
  all_goals (first | exact fun e => hns (by clear hns; simp only [opL, run_bind, zN, zM, Held.zB, Held.zI, Held.zD, cond_true, cond_false, *]) | exact .pan (q := q) rfl (by repeat' first | exact trivial | rfl | constructor) (by repeat' first | exact trivial | exact ⟨_, rfl, rfl⟩ | constructor) (by simp only [opL, run_bind, zN, zM, Held.zB, Held.zI, Held.zD, cond_true, cond_false, *]) | exact .ret (x := ⟨_, _, _, _⟩) (by exact .inl rfl) (by exact .p rfl (.cellN rfl rfl (by rfl) (by rfl))) (by repeat' first | exact trivial | rfl | constructor) (by simp only [opL, run_bind, zN, zM, Held.zB, Held.zI, Held.zD, cond_true, cond_false, *] <;> rfl))
/-- the frame behind Run's results -/
def runS1 (k u v w t : Int) (L : List xO) : AS := { t := [(6, .ptr 6 0), (5, .ptr 5 0), (4, .ptr 4 0), (3, .ptr 3 0), (0, .clo 47 [1000, 1001]), (1, .p (logV L))], s := [(6, isB false), (5, outB 0 false 0 0), (4, accB 0 0 0 0 xJ), (3, logB L), (1000, opB k u v w), (1001, qG t)] }
def runT : List (Nat × AV) := [(0, .clo 47 [1004, 1005]), (3, .ptr 1000 0), (4, .ptr 1001 0), (5, .ptr 1002 0), (6, .ptr 1003 0)]
theorem run_done (L : List xO) (hL : LogOK L) {t k u v w : Int} (ht : Small t) (h : OpL k u v w) {o : OutN} {j : Nat} (hm : (opL t k u v w).run (xU L) 0 = .done o j) :
    FnE Tryd.prog 46 [.clo 47 [1000, 1001], .p (logV L)] [opB k u v w, qG t] (.ret (.tup ([accV 0 0 0 0 xJ, outV o.e o.is o.n o.w, .val (.bool true)].map .p))) [opB k u v w, qG t] := by
  have hn := (next1L_h (hLog L hL) (0 : Nat) ht h).done (Nat.zero_le _) hm
  have hn2 : FnE Tryd.prog 47 [.clo 60 [1000, 1001], .ptr 1003 0, .ptr 1004 0] [atB 0, logB L, isB false, opB k u v w, qG t] (.ret (outRN o)) [atB j, logB L, isB false, opB k u v w, qG t] := hn.2.2
  refine fn_ofD (S1 := runS1 k u v w t L) (ids := [3, 4, 5, 6, 1000, 1001]) (Bi := [logB L, accB 0 0 0 0 xJ, outB 0 false 0 0, isB false, opB k u v w, qG t]) (Bi' := [logB L, accB 0 0 0 0 xJ, outB o.e o.is o.n o.w, isB true, opB k u v w, qG t]) (T := runT) (dj := [1001, 1002, 1003])
    Tryd.func46 rfl Tryd.ntmps46 (Nat.le_of_ble_eq_true rfl) (by decide) ?_ rfl rfl (by decide) rfl (by rfl) rfl rfl rfl (by rfl) (by rfl) (wX (by decide) rfl (by repeat' first | exact trivial | rfl | constructor)) rfl rfl rfl (by
      intro p hp
      simp only [runT, List.mem_cons, List.not_mem_nil, or_false] at hp
      rcases hp with rfl | rfl | rfl | rfl | rfl <;> exact ⟨rfl, by decide⟩) ?_ rfl rfl (qV (by repeat' first | exact trivial | rfl | constructor))
  case refine_1 =>
    repeat' (first | (refine zY.nil ?_) | (refine zZ.is ?_; (refine zZ.isR (id := 0) ?_; refine zZ.rc [0, 1] [3, 4, 5, 6, 7, 1000, 1001] (r := (.m m18_2 (.m xY (.m xY (.m xY .e))))) (h := ?_))))
    exact ⟨rfl, rfl⟩
  case refine_2 =>
    unfold runT
    repeat' (first | (refine zY.is ?_; first | refine zY.nil ?_ | refine zY.rc (.w yI .e) ?_ | (refine zY.in_ [11] rfl ?_; refine zY.ofT rfl (zR.eR [7, 1000, 1003, 1004, 1005] (hn2) ?_))) | (refine zZ.is ?_; first | refine zZ.seq ?_ | (refine zZ.isR (id := 2) ?_; refine zZ.rc [0, 3, 4, 5, 6] [3, 4, 5, 6, 7, 1000, 1001, 1002, 1003, 1004, 1005] (r := (.m xY (.w yI .e))) (h := ?_)) | (refine zZ.isR (id := 3) ?_; refine zZ.rc [0, 3, 4, 5, 6, 7] [3, 4, 5, 6, 7, 1000, 1001, 1002, 1003, 1004, 1005] (r := (.v vM (.v v14_0 .e))) (h := ?_)) | (refine zZ.isR (id := 4) ?_; refine zZ.rk [4, 5, 6] [3, 4, 5, 6, 7, 1000, 1001, 1002, 1003, 1004, 1005] ?_; refine zZ.drawGo (by kernel_rfl) ?_) | refine zZ.ret ?_) | (refine DGo.at_ [] ?_; refine DGo.all [0, 1] (by kernel_rfl) ?_) | (refine DGo.at_ [1] ?_; refine DGo.all [0] (by kernel_rfl) ?_) | (refine DGo.at_ [0, 1] ?_; refine DGo.all [2] (by kernel_rfl) ?_) | (refine DGo.at_ [2, 0, 1] ?_; refine DGo.all [3] (by kernel_rfl) ?_) | (refine DGo.at_ [3, 2, 0, 1] ?_; refine DGo.all [4] (by kernel_rfl) ?_) | (refine DGo.at_ [4, 3, 2, 0, 1] ?_; refine DGo.fin (by kernel_rfl) ?_) | (refine DGo.at_ [0] ?_; refine DGo.all [1, 2] (by kernel_rfl) ?_) | (refine DGo.at_ [2, 0] ?_; refine DGo.all [1] (by kernel_rfl) ?_) | (refine DGo.at_ [1, 2, 0] ?_; refine DGo.all [3] (by kernel_rfl) ?_) | (refine DGo.at_ [3, 1, 2, 0] ?_; refine DGo.all [4] (by kernel_rfl) ?_) | (refine DGo.at_ [4, 3, 1, 2, 0] ?_; refine DGo.fin (by kernel_rfl) ?_) | (refine DGo.at_ [1, 0] ?_; refine DGo.all [2] (by kernel_rfl) ?_) | (refine DGo.at_ [2, 1, 0] ?_; refine DGo.all [3] (by kernel_rfl) ?_) | (refine DGo.at_ [3, 2, 1, 0] ?_; refine DGo.all [4] (by kernel_rfl) ?_) | (refine DGo.at_ [4, 3, 2, 1, 0] ?_; refine DGo.fin (by kernel_rfl) ?_) | refine zP.cons ?_ ?_ | exact zP.nil | (refine zU.at_ 0 ?_; refine zU.v rfl rfl rfl (y8 rfl (by rfl) (by rfl) (by rfl) (by rfl) rfl (by decide)) ?_) | (refine zU.at_ 1 ?_; refine zU.v rfl rfl rfl (zT rfl rfl rfl (by rfl) (by rfl) rfl (by decide)) ?_) | (refine zU.at_ 2 ?_; refine zU.w rfl rfl (by exact zH rfl rfl rfl rfl rfl (by rfl) (by exact Nat.le_of_ble_eq_true rfl) rfl rfl) ?_) | (refine zU.at_ 3 ?_; refine zU.w rfl rfl (by exact zH rfl rfl rfl rfl rfl (by rfl) (by exact Nat.le_of_ble_eq_true rfl) rfl rfl) ?_) | (refine zU.at_ 4 ?_; refine zU.w rfl rfl (by exact zH rfl rfl rfl rfl rfl (by rfl) (by exact Nat.le_of_ble_eq_true rfl) rfl rfl) ?_))
    all_goals exact ⟨_, _, _, run1_none o.e o.is o.n o.w true, .inl ⟨rfl, by first | exact .inl rfl | exact .inr rfl⟩, wX (by decide) rfl (by repeat' first | exact trivial | rfl | constructor), rfl, rfl, .tup rfl (by decide) (.cons (.cellN rfl rfl (by rfl) (by rfl)) (.cons (.cellN rfl rfl (by rfl) (by rfl)) (.cons (.cell1 rfl rfl rfl) .nil))), qV (by repeat' first | exact trivial | rfl | constructor)⟩
theorem run_need (L : List xO) (hL : LogOK L) {t k u v w : Int} (ht : Small t) (h : OpL k u v w) {q : Ned} {j : Nat} (hm : (opL t k u v w).run (xU L) 0 = .need q j) :
    FnE Tryd.prog 46 [.clo 47 [1000, 1001], .p (logV L)] [opB k u v w, qG t] (.ret (.tup ([accQ q, outV 0 false 0 0, .val (.bool false)].map .p))) [(opB k u v w).forget, (qG t).forget] := by
  have hn := (next1L_h (hLog L hL) (0 : Nat) ht h).need (Nat.zero_le _) hm
  have hn2 : FnE Tryd.prog 47 [.clo 60 [1000, 1001], .ptr 1003 0, .ptr 1004 0] [atB 0, logB L, isB false, opB k u v w, qG t] (.pan (needA (accQ q))) [atB j, logB L, isB false, (opB k u v w).forget, (qG t).forget] := hn.2
  unfold accQ at hn2 ⊢
  refine fn_ofD (S1 := runS1 k u v w t L) (ids := [3, 4, 5, 6, 1000, 1001]) (Bi := [logB L, accB 0 0 0 0 xJ, outB 0 false 0 0, isB false, opB k u v w, qG t]) (Bi' := [logB L, accB q.kind q.cell q.a q.b q.d, outB 0 false 0 0, isB false, (opB k u v w).forget, (qG t).forget]) (T := runT) (dj := [1001, 1002, 1003])
    Tryd.func46 rfl Tryd.ntmps46 (Nat.le_of_ble_eq_true rfl) (by decide) ?_ rfl rfl (by decide) rfl (by rfl) rfl rfl rfl (by rfl) (by rfl) (wX (by decide) rfl (by repeat' first | exact trivial | rfl | constructor)) rfl rfl rfl (by
      intro p hp
      simp only [runT, List.mem_cons, List.not_mem_nil, or_false] at hp
      rcases hp with rfl | rfl | rfl | rfl | rfl <;> exact ⟨rfl, by decide⟩) ?_ rfl rfl (qV (by repeat' first | exact trivial | rfl | constructor))
  case refine_1 =>
    repeat' (first | (refine zY.nil ?_) | (refine zZ.is ?_; (refine zZ.isR (id := 0) ?_; refine zZ.rc [0, 1] [3, 4, 5, 6, 7, 1000, 1001] (r := (.m m18_2 (.m xY (.m xY (.m xY .e))))) (h := ?_))))
    exact ⟨rfl, rfl⟩
  case refine_2 =>
    unfold runT
    repeat' (first | (refine zY.is ?_; first | refine zY.nil ?_ | (refine zY.in_ [11] rfl ?_; refine zY.ofT rfl (zR.eP [7, 1000, 1003, 1004, 1005] (hn2) ?_))) | (refine zZ.is ?_; first | refine zZ.seq ?_ | (refine zZ.isR (id := 2) ?_; refine zZ.rc [0, 3, 4, 5, 6] [3, 4, 5, 6, 7, 1000, 1001, 1002, 1003, 1004, 1005] (r := (.m xY (.w yI .e))) (h := ?_)) | (refine zZ.isR (id := 3) ?_; refine zZ.rc [0, 3, 4, 5, 6, 7] [3, 4, 5, 6, 7, 1000, 1001, 1002, 1003, 1004, 1005] (r := (.v vM (.v v14_0 .e))) (h := ?_))))
    all_goals exact ⟨_, _, _, run1_need q.kind q.cell q.a q.b q.d 0 false 0 0 false, .inr ⟨_, rfl, rfl, rfl⟩, wX (by decide) rfl (by repeat' first | exact trivial | rfl | constructor), rfl, rfl, .tup rfl (by decide) (.cons (.cellN rfl rfl (by rfl) (by rfl)) (.cons (.cellN rfl rfl (by rfl) (by rfl)) (.cons (.cell1 rfl rfl rfl) .nil))), qV (by repeat' first | exact trivial | rfl | constructor)⟩
theorem next_done (L : List xO) (hL : LogOK L) {t : Int} (c me : Int) {k u v w : Int} (ht : Small t) (h : OpL k u v w) {o : OutN} {j : Nat} (hm : (opL t k u v w).run (xU L) 0 = .done o j) :
    Fn Tryd.prog 25 [.val (.int .i64 t), .val (.int .i64 c), .val (.int .i64 me), opV k u v w, logV L] (.tup [accV 0 0 0 0 xJ, outV o.e o.is o.n o.w, .val (.bool true)]) := by
  have hr := run_done L hL ht h hm
  refine xV Tryd.func25 rfl Tryd.ntmps25 (Nat.le_of_ble_eq_true rfl) ?_
  repeat' (first | (refine zY.is ?_; first | refine zY.nil ?_ | (refine zY.at_ 16 rfl ?_; refine zY.rc (.v x9 (.v x9 (.v x9 (.w yI (.w yI (.v yV .e)))))) ?_) | (refine zY.in_ [15] rfl ?_; refine zY.ofT rfl (zR.eR [8, 5] (hr) ?_))) | (refine zZ.is ?_; first | refine zZ.seq ?_ | (refine zZ.isR (id := 0) ?_; refine zZ.rc [0, 3, 4] [5, 8, 10, 11] (r := (.m m18_1 (.m m18_0 (.m xY (.m xY (.v yV .e)))))) (h := ?_)) | (refine zZ.isR (id := 1) ?_; refine zZ.rc [4, 5, 8, 10, 11, 12] [5, 8, 10, 11] (r := (.v v14_0 (.v zC .e))) (h := ?_)) | refine zZ.ret ?_))
  all_goals exact ⟨by first | exact .inl rfl | exact .inr rfl, _, Sub.refl _, .tupE rfl (by decide) (.cons (.cellN rfl rfl (by rfl) (by rfl)) (.cons (.cellN rfl rfl (by rfl) (by rfl)) (.cons (.tmp rfl) .nil))) rfl⟩
theorem next_need (L : List xO) (hL : LogOK L) {t : Int} (c me : Int) {k u v w : Int} (ht : Small t) (h : OpL k u v w) {q : Ned} {j : Nat} (hm : (opL t k u v w).run (xU L) 0 = .need q j) :
    Fn Tryd.prog 25 [.val (.int .i64 t), .val (.int .i64 c), .val (.int .i64 me), opV k u v w, logV L] (.tup [accQ q, outV 0 false 0 0, .val (.bool false)]) := by
  have hr := run_need L hL ht h hm
  unfold accQ at hr ⊢
  refine xV Tryd.func25 rfl Tryd.ntmps25 (Nat.le_of_ble_eq_true rfl) ?_
  repeat' (first | (refine zY.is ?_; first | refine zY.nil ?_ | (refine zY.at_ 16 rfl ?_; refine zY.rc (.v x9 (.v x9 (.v x9 (.w yI (.w yI (.v yV .e)))))) ?_) | (refine zY.in_ [15] rfl ?_; refine zY.ofT rfl (zR.eR [8, 5] (hr) ?_))) | (refine zZ.is ?_; first | refine zZ.seq ?_ | (refine zZ.isR (id := 0) ?_; refine zZ.rc [0, 3, 4] [5, 8, 10, 11] (r := (.m m18_1 (.m m18_0 (.m xY (.m xY (.v yV .e)))))) (h := ?_)) | (refine zZ.isR (id := 1) ?_; refine zZ.rc [4, 5, 8, 10, 11, 12] [5, 8, 10, 11] (r := (.v v14_0 (.v zC .e))) (h := ?_)) | refine zZ.ret ?_))
  all_goals exact ⟨by first | exact .inl rfl | exact .inr rfl, _, Sub.refl _, .tupE rfl (by decide) (.cons (.cellN rfl rfl (by rfl) (by rfl)) (.cons (.cellN rfl rfl (by rfl) (by rfl)) (.cons (.tmp rfl) .nil))) rfl⟩
end Go.Proofs.YteadaggehndacaaDoor
/- A struct's literal of which parts are own rows, stored into a new variable; appending to nil. Generic over the program. -/
namespace Go.Proofs.YteadaggehndacaaDoor
set_option maxRecDepth 100000
set_option maxHeartbeats 16000000
open Go Go.RowKit
set_option linter.unusedSimpArgs false
theorem cells_own {M : Nat → Nat → Prop} {n : Nat} {w0 : Home} {w : World} {S : AS} {ρ : Nat → Value} {a : Act} (hs : Sat M n w0 S ρ a w) {id2 : Nat} {b2 : Blk} {v : Value} (hb2 : S.blk id2 = some b2) (hrow : b2.isRow = true) (h2 : yE (Mut M S ρ) ρ w (.own id2) v) :
    yH (Mut M S ρ) ρ w (AV.own id2).wK v.cells.toList := own_cells hs hb2 hrow h2
def partB (S : AS) (av : AV) : Bool := av.q8 || (match av with
  | .own id => (match S.blk id with | some b => b.isRow | none => false)
  | _ => false)
section
variable {P : Program} {n : Nat} {ops : Array Oper} {S : AS} {K : Exit → AS → Prop}
theorem w_makeV1 {o : Oper} {d t e sz by_ m : Nat} {k : IntKind} {z : Value} {xl xc : Operand} [ht : Und P t (.slice e)] [hi : InfoA P e z sz by_] (ho : o.op = .makeSlice t xl xc) (hl : S.get xl = .p (.val (.int k (m : Int)))) (hc : S.get xc = .p (.val (.int k (m : Int)))) (hlim : m * sz ≤ 16777216 ∧ by_ * m ≤ 281474976710656 ∧ m ≤ maxLen)
    (hzs : z.cells.size = sz) (hsz : 0 < sz) (hzp : [z] = z.cells.toList) (h1 : z.cells.toList.all (fun u => u.oneCell') = true) (hd : o.dst = some d) (hn : d < n) : zQ P n o S [] (.own d) (some (yG e sz (List.replicate m (.val z)))) :=
  w_makeV ho hl hc hlim hzs hsz (zp := .val z) (by rw [← hzp]; rfl) h1 hd hn
theorem w_makeVN {o : Oper} {d t e sz by_ m : Nat} {k : IntKind} {z : Value} {xl xc : Operand} [ht : Und P t (.slice e)] [hi : InfoA P e z sz by_] (ho : o.op = .makeSlice t xl xc) (hl : S.get xl = .p (.val (.int k (m : Int)))) (hc : S.get xc = .p (.val (.int k (m : Int)))) (hlim : m * sz ≤ 16777216 ∧ by_ * m ≤ 281474976710656 ∧ m ≤ maxLen)
    (hzs : z.cells.size = sz) (hsz : 0 < sz) (h1 : z.cells.toList.all (fun u => u.oneCell') = true) (hd : o.dst = some d) (hn : d < n) : zQ P n o S [] (.own d) (some (yG e sz (List.replicate m (.agg (z.cells.toList.map PV.val))))) :=
  w_makeV ho hl hc hlim hzs hsz (zp := .agg (z.cells.toList.map PV.val)) rfl h1 hd hn
end
theorem sub_frzE {S : AS} (id e sz : Nat) (es : List PV) (hb : S.blk id = some (yG e sz es)) : Sub S (S.frz id (.sl es)) := sub_frz hb
end Go.Proofs.YteadaggehndacaaDoor
/- An operation that steps alone (law 15), as a tree in a world: contract. -/
namespace Go.Proofs.YteadaggehndacaaDoor
set_option maxRecDepth 100000
set_option maxHeartbeats 16000000
open Go Go.RowKit
set_option linter.unusedSimpArgs false
set_option linter.unusedVariables false
attribute [local irreducible] zY zZ Step zQ Sub zO zR Fn zS yA
structure AlSt where
  n : Nat
  W : Wd
  L : List xO
  p : Pr OutN
def qH (_ : Nat) : Bool := false
def aloneS (me : Nat) (k u v w : Int) (most : Int) (s : AlSt) : AS :=
  { t := [(1, .p (.val (.int .i64 me))), (3, .p (.val (.int .i64 most))), (4, .ptr 4 0), (6, .ptr 6 0), (8, .ptr 8 0), (9, .ptr 9 0), (10, .p (.val (.bool false))), (11, .own 11), (12, .p (.val (.int .i64 (s.n : Nat))))],
    s := [(4, .box 33 (s.W.pv.cells.map AV.p)), (6, .box 42 ((opV k u v w).cells.map AV.p)), (8, .box 33 ([.val (.int .i64 0), .val (.int .i64 0), xJ, .val (.int .u64 0), xJ, xJ].map AV.p)),
      (9, .box 38 ((outV 0 false 0 0).cells.map AV.p)), (11, lentV 77 3 (s.L.map resV))] }
theorem next_needW (L : List xO) (hL : LogOK L) {t : Int} (c me : Int) {k u v w : Int} (ht : Small t) (h : OpL k u v w) {q : Ned} {j : Nat} (hm : (opL t k u v w).run (xU L) 0 = .need q j) (hq : qP q) :
    Fn Tryd.prog 25 [.val (.int .i64 t), .val (.int .i64 c), .val (.int .i64 me), opV k u v w, logV L] (.tup [accV q.kind q.cell q.a q.b (.sl (byts (w9 q.d))), outV 0 false 0 0, .val (.bool false)]) := by
  refine (next_need L hL c me ht h hm).weakT (.cons (.agg (.cons (.refl _) (.cons (.refl _) (.cons (.refl _) (.cons (.refl _) (.cons ?_ (.cons (.refl _) .nil))))))) (.cons (.refl _) (.cons (.refl _) .nil)))
  rcases hq.d with ⟨_, e⟩ | ⟨_, bs, _, _, e⟩
  · rw [e]; exact .nil
  · rw [e, bytsOf_byts]; exact .refl _
theorem alone_fn (B : Nat) (W W' : Wd) (me : Nat) (k u v w : Int) (most : Nat) (m : Nat) (o : OutN) (hW : WdOK B W) (ht0 : Small W.t) (hme : me < W.r0.length) (hop : OpL k u v w)
    (hr : (opL W.t k u v w).run (wSt me qH) (W, 0) = .done o (W', m)) (hmm : m ≤ most) (h1000 : most ≤ 1000) (hB : B ≤ 70000000) (hB2 : B + 1000 * most ≤ 90000000) :
    Fn Tryd.prog 9 [W.pv, .val (.int .i64 me), opV k u v w, .val (.int .i64 most)] (.tup [W'.pv, outV o.e o.is o.n o.w, .val (.bool true)]) := by
  have hfine := fine_opL (t := W.t) hop
  obtain ⟨t, c, ws, root, r0, r1⟩ := W
  have hme : me < r0.length := hme
  have ht0 : Small t := ht0
  refine xV Tryd.func9 rfl Tryd.ntmps9 (Nat.le_of_ble_eq_true rfl) ?_
  repeat' (first | (refine zY.nil ?_) | (refine zZ.is ?_; first | refine zZ.seq ?_ | (refine zZ.isR (id := 0) ?_; refine zZ.rc [0, 1, 2, 3] [4, 6, 8, 9, 11, 13, 14, 16, 17, 50] (r := (.m m18_0 (.m m18_0 (.m xY (.m xY (.v yV .e)))))) (h := ?_)) | (refine zZ.isR (id := 1) ?_; refine zZ.rc [1, 3, 4, 6, 8, 9, 10] [4, 6, 8, 9, 11, 13, 14, 16, 17, 50] (r := (.v yV .e)) (h := ?_)) | (refine zZ.isR (id := 2) ?_; refine zZ.rc [1, 3, 4, 6, 8, 9, 10, 11] [4, 6, 8, 9, 11, 13, 14, 16, 17, 50] (r := (.v yV .e)) (h := ?_)) | refine zZ.block ?_) | refine zS.n ?_)
  refine zZ.loop (fun s => aloneS me k u v w most s) (fun s => s.n ≤ m ∧ s.W.t = t ∧ s.W.r0.length = r0.length ∧ WdOK (B + 1000 * s.n) s.W ∧ s.L.length = s.n ∧ (∀ r ∈ s.L, U r.n) ∧ (opL t k u v w).after s.L = some s.p ∧ s.p.xS yes (many - s.n) ∧ s.p.run (wSt me qH) (s.W, s.n) = .done o (W', m)) (fun s => most + 1 - s.n) ⟨0, ⟨t, c, ws, root, r0, r1⟩, [], opL t k u v w⟩ ?h0
    ⟨Nat.zero_le _, rfl, rfl, hW, rfl, (fun r h => by simp at h), (by cases opL t k u v w <;> rfl), hfine, hr⟩ ?rd
  case h0 =>
    refine (sub_adopt (d := 11) (id := 11) (ty := 77) (sz := 3) (by decide) rfl).trans ?_
    refine (vH (id := 11) (b := .row 77 3 0 []) (b' := yG 77 3 []) (by rfl) (vO 77 3 [])).sub.trans ?_
    refine (sub_lend (id := 11) (e := 77) (sz := 3) (es := []) (by rfl)).trans ?_
    refine yM (is := [1, 3, 4, 6, 8, 9, 10, 11, 12]) (js := [4, 6, 8, 9, 11]) ?_ ?_
    repeat' first | exact zX.nil | apply zX.p rfl | apply zX.ptr rfl | apply zX.own rfl | apply zX.clo rfl | apply zX.ifp rfl | apply zX.pt rfl | apply zX.tup rfl | apply zX.skip
    repeat' first | exact zW.nil | apply zW.boxP rfl rfl | apply zW.xG rfl | (apply zW.at0; exact yX rfl (H.nk _).1 (by repeat' fail)) | (apply zW.at1; exact yX rfl (H.nk _).2.1 (by repeat' fail)) | (apply zW.at2; exact yX rfl (H.nk _).2.2 (by repeat' fail)) | apply zW.some rfl | apply zW.skip
  case rd =>
    rintro ⟨n, W, L, p⟩ ⟨hn, ht, hrl, hok, hl, hru, haf, hfi, hrun⟩
    dsimp only at hn ht hrl hok hl hru haf hfi hrun
    obtain ⟨t', c', ws', root', r0', r1'⟩ := W
    have ht : t' = t := ht
    subst ht
    change zZ _ _ _ (aloneS me k u v w most ⟨n, ⟨t', c', ws', root', r0', r1'⟩, L, p⟩) _
    unfold aloneS
    dsimp only
    have g1 : decide ((n : Int) ≤ most) = true := decide_eq_true (by omega)
    repeat' (first | (refine zY.nil ?_) | (refine zZ.is ?_; first | refine zZ.seq ?_ | (refine zZ.isR (id := 3) ?_; refine zZ.rc [1, 3, 4, 6, 8, 9, 10, 11, 12, 13, 14, 15, 16, 17, 20, 37] [4, 6, 8, 9, 11, 13, 14, 16, 17, 50] (r := (.v zC (.v zC (.v v44_0 .e)))) (h := ?_)) | (refine zZ.isR (id := 5) ?_; refine zZ.rc [1, 3, 4, 6, 8, 9, 10, 11, 12, 13, 14, 15, 16, 17, 20, 37] [4, 6, 8, 9, 11, 13, 14, 16, 17, 50] (r := (.v yR (.v yR (.v yN (.v yR (.v yR (.v yN (.v zC (.v v2_6 (.v v0_1 .e)))))))))) (h := ?_)) | refine zZ.yT rfl bA ?_ | refine zZ.skip ?_ | refine zZ.block ?_) | refine zS.n ?_)
    refine zY.sub (sub_view (d := 32) (id := 11) (e := 77) (sz := 3) (es := L.map resV) rfl rfl) ?_
    have hL : LogOK L := ⟨by omega, hru⟩
    cases p with
    | stuck => cases hrun
    | ret o' =>
      rw [zN] at hrun
      injection hrun with e1 e2
      injection e2 with e2 e3
      subst e1 e2
      have c1 := next_done L hL c' me ht0 hop (after_done haf)
      repeat' (first | (refine zY.is ?_; first | refine zY.nil ?_ | (refine zY.at_ 23 rfl ?_; refine zY.rc (.v v0_4 (.v x9 (.v x9 (.v x9 (.m xY (.m xY (.w yI (.w yI (.v yV .e))))))))) ?_) | (refine zY.in_ [33] rfl ?_; refine zY.v rfl rfl (xI (c1) rfl rfl rfl (by decide)) ?_)) | (refine zZ.is ?_; first | refine zZ.seq ?_ | (refine zZ.isR (id := 6) ?_; refine zZ.rc [1, 3, 4, 6, 8, 9, 10, 11, 12, 13, 14, 15, 16, 17, 20, 37] [4, 6, 8, 9, 11, 13, 14, 16, 17, 50] (r := (.v zC .e)) (h := ?_)) | (refine zZ.isR (id := 7) ?_; refine zZ.rk [1, 3, 4, 6, 8, 9, 10, 11, 12, 13, 14, 15, 16, 17, 20, 37] [4, 6, 8, 9, 11, 13, 14, 16, 17, 50] ?_; refine zZ.drawGo (by kernel_rfl) ?_) | refine zZ.yT rfl bA ?_ | refine zZ.ret ?_) | refine zS.n ?_ | refine zS.r ?_ | refine yA.r ?_ | (refine DGo.at_ [] ?_; refine DGo.all [0, 1] (by kernel_rfl) ?_) | (refine DGo.at_ [1] ?_; refine DGo.all [0] (by kernel_rfl) ?_) | (refine DGo.at_ [0, 1] ?_; refine DGo.all [2] (by kernel_rfl) ?_) | (refine DGo.at_ [2, 0, 1] ?_; refine DGo.all [3] (by kernel_rfl) ?_) | (refine DGo.at_ [3, 2, 0, 1] ?_; refine DGo.fr 4 ?_) | (refine DGo.at_ [4, 3, 2, 0, 1] ?_; refine DGo.fin (by kernel_rfl) ?_) | (refine DGo.at_ [0] ?_; refine DGo.all [1, 2] (by kernel_rfl) ?_) | (refine DGo.at_ [2, 0] ?_; refine DGo.all [1] (by kernel_rfl) ?_) | (refine DGo.at_ [1, 2, 0] ?_; refine DGo.all [3] (by kernel_rfl) ?_) | (refine DGo.at_ [3, 1, 2, 0] ?_; refine DGo.fr 4 ?_) | (refine DGo.at_ [4, 3, 1, 2, 0] ?_; refine DGo.fin (by kernel_rfl) ?_) | (refine DGo.at_ [1, 0] ?_; refine DGo.all [2] (by kernel_rfl) ?_) | (refine DGo.at_ [2, 1, 0] ?_; refine DGo.all [3] (by kernel_rfl) ?_) | (refine DGo.at_ [3, 2, 1, 0] ?_; refine DGo.fr 4 ?_) | (refine DGo.at_ [4, 3, 2, 1, 0] ?_; refine DGo.fin (by kernel_rfl) ?_) | refine zP.cons ?_ ?_ | exact zP.nil | (refine zU.at_ 0 ?_; refine zU.v rfl rfl rfl (zT rfl rfl rfl (by rfl) (by rfl) rfl (by decide)) ?_) | (refine zU.at_ 1 ?_; refine zU.v rfl rfl rfl (zT rfl rfl rfl (by rfl) (by rfl) rfl (by decide)) ?_) | (refine zU.at_ 2 ?_; refine zU.w rfl rfl (by exact zH rfl rfl rfl rfl rfl (by rfl) (by exact Nat.le_of_ble_eq_true rfl) rfl rfl) ?_) | (refine zU.at_ 3 ?_; refine zU.w rfl rfl (by exact zH rfl rfl rfl rfl rfl (by rfl) (by exact Nat.le_of_ble_eq_true rfl) rfl rfl) ?_))
      all_goals exact ⟨by first | exact .inl rfl | exact .inr rfl, _, Sub.refl _, .tup (rs := [.cell 8 33, .cell 9 38, .tmp 10]) (l := [Wd.pv ⟨t', c', ws', root', r0', r1'⟩, outV o'.e o'.is o'.n o'.w, .val (.bool true)]) rfl (by decide) (.cons (.cellN rfl rfl (by rfl) (by rfl)) (.cons (.cellN rfl rfl (by rfl) (by rfl)) (.cons (.tmp rfl) .nil)))⟩
    | ask q kq =>
      have hq : qP q := hfi.1
      rw [vG] at hrun
      have hrun2 : (kq (doX ⟨t', c', ws', root', r0', r1'⟩ me q false).2).run (wSt me qH) ((doX ⟨t', c', ws', root', r0', r1'⟩ me q false).1, n + 1) = .done o (W', m) := hrun
      have hle := wSt_le hrun2
      dsimp only at hle
      have c1 := next_needW L hL c' me ht0 hop (after_need haf) hq
      have hdo := doX_ok hok hq me false
      have hkeep := doX_keeps ⟨t', c', ws', root', r0', r1'⟩ me q false
      have hme' : me < r0'.length := by have : r0'.length = r0.length := hrl; omega
      have c2 := doX_fn hok (by omega) hq (me := me) hme' false
      have haf2 := after_snoc (doX ⟨t', c', ws', root', r0', r1'⟩ me q false).2 haf
      generalize hde : doX ⟨t', c', ws', root', r0', r1'⟩ me q false = dd at *
      obtain ⟨W2, r⟩ := dd
      dsimp only at hrun2 hle c2 hdo hkeep haf2
      have g3 : IntKind.i64.wrap ((n : Int) + 1) = ((n + 1 : Nat) : Int) := by rw [wrap_i64 _ (by omega)]; omega
      have g4 : ∀ e ∈ L.map resV, e.cells.length = 3 := resV_cells L
      have g5 : ∀ e ∈ [resV r], e.cells.length = 3 := fun e he => by simp at he; subst he; rfl
      have g10 : ((L.map resV).length + ([resV r] : List PV).length) * 40 ≤ 140737488355328 ∧ (L.map resV).length + ([resV r] : List PV).length ≤ maxLen := by
        simp only [List.length_map, List.length_cons, List.length_nil, maxLen]
        omega
      have hnext : n + 1 ≤ m ∧ W2.t = t' ∧ W2.r0.length = r0.length ∧ WdOK (B + 1000 * (n + 1)) W2 ∧ (L ++ [r]).length = n + 1 ∧ (∀ x ∈ L ++ [r], U x.n) ∧ (opL t' k u v w).after (L ++ [r]) = some (kq r) ∧ (kq r).xS yes (many - (n + 1)) ∧ (kq r).run (wSt me qH) (W2, n + 1) = .done o (W', m) :=
        ⟨hle, hkeep.1, hkeep.2.2.1.trans hrl, hdo.1.le (by omega), by simp [hl], (fun x hx => by
          rcases List.mem_append.1 hx with hx | hx
          · exact hru x hx
          · simp at hx; subst hx; exact hdo.2), haf2, Pr.xS.le (by omega) (hfi.2 r hdo.2), hrun2⟩
      have ps_ := trivial
      repeat' (first | (refine zY.is ?_; first | refine zY.nil ?_ | (refine zY.at_ 23 rfl ?_; refine zY.rc (.v v0_4 (.v x9 (.v x9 (.v x9 (.m xY (.m xY (.w yI (.w yI (.v yV .e))))))))) ?_) | (refine zY.at_ 40 rfl ?_; refine zY.rc (.v v0_4 (.v x9 (.v x9 (.m xY (.m xY (.w yI (.w yI .e))))))) ?_) | (refine zY.in_ [33] rfl ?_; refine zY.v rfl rfl (xI (c1) rfl rfl rfl (by decide)) ?_) | (refine zY.in_ [44] rfl ?_; refine zY.v rfl rfl (xI (c2) rfl rfl rfl (by decide)) ?_)) | (refine zZ.is ?_; first | refine zZ.seq ?_ | (refine zZ.isR (id := 6) ?_; refine zZ.rc [1, 3, 4, 6, 8, 9, 10, 11, 12, 13, 14, 15, 16, 17, 20, 37] [4, 6, 8, 9, 11, 13, 14, 16, 17, 50] (r := (.v zC .e)) (h := ?_)) | (refine zZ.isR (id := 8) ?_; refine zZ.rc [1, 3, 4, 6, 8, 9, 10, 11, 12, 13, 14, 15, 16, 17, 20, 37] [4, 6, 8, 9, 11, 13, 14, 16, 17, 50] (r := (.v v2_6 (.v zC (.v v2_6 .e)))) (h := ?_)) | (refine zZ.isR (id := 9) ?_; refine zZ.rc [1, 3, 4, 6, 8, 9, 10, 11, 12, 13, 14, 15, 16, 17, 20, 37] [4, 6, 8, 9, 11, 13, 14, 16, 17, 50] (r := (.v v2_6 (.w yI .e))) (h := ?_)) | (refine zZ.isR (id := 10) ?_; refine zZ.rc [1, 3, 4, 6, 8, 9, 10, 11, 12, 13, 14, 15, 16, 17, 20, 37] [4, 6, 8, 9, 11, 13, 14, 16, 17, 50] (r := (.v v0_1 (.v v2_6 (.v v20_0 (.w w55_3 (.v v1_1 .e)))))) (h := ?_)) | (refine zZ.isR (id := 4) ?_; refine zZ.rc [1, 3, 4, 6, 8, 9, 10, 11, 12, 13, 14, 15, 16, 17, 20, 37] [4, 6, 8, 9, 11, 13, 14, 16, 17, 50] (r := (.v zC (.v v30_0 (.v yV .e)))) (h := ?_)) | refine zZ.yU rfl bA ?_ | refine zZ.skip ?_) | refine zS.n ?_ | refine yA.n ?_)
      all_goals
        refine ⟨⟨n + 1, W2, L ++ [r], kq r⟩, ?_, hnext, by dsimp only; omega⟩
        show Sub _ (aloneS me k u v w most ⟨n + 1, W2, L ++ [r], kq r⟩)
        unfold aloneS
        dsimp only
        rw [List.map_append]
        refine yM (is := [1, 3, 4, 6, 8, 9, 10, 11, 12]) (js := [4, 6, 8, 9, 11]) ?_ ?_
        repeat' first | exact zX.nil | apply zX.p rfl | apply zX.ptr rfl | apply zX.own rfl | apply zX.clo rfl | apply zX.ifp rfl | apply zX.pt rfl | apply zX.tup rfl | apply zX.skip
        repeat' first | exact zW.nil | apply zW.boxP rfl rfl | apply zW.xG rfl | (apply zW.at0; exact yX rfl (H.nk _).1 (by repeat' fail)) | (apply zW.at1; exact yX rfl (H.nk _).2.1 (by repeat' fail)) | (apply zW.at2; exact yX rfl (H.nk _).2.2 (by repeat' fail)) | apply zW.some rfl | apply zW.skip
end Go.Proofs.YteadaggehndacaaDoor
