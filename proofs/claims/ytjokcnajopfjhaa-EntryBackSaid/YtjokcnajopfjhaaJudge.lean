/- What an operation, a region, a code, a call does to a frame of abstract values. Generic over the program. -/
import Derived.Test.YtjokcnajopfjhaaAbs
namespace Go.Proofs.Ytjokcnajopfjhaa
open Go Go.RowKit

def AS.out (S : AS) : Option Nat → AV → Option Blk → AS
  | some d, x, none => S.put d x
  | some d, x, some b => (S.create d b).put d x
  | none, _, _ => S

/-- The operation leads from S to S'. -/
def Step (P : Program) (n : Nat) (o : Oper) (S S' : AS) : Prop :=
  ∀ (M : Nat → Prop) (w0 : World) (ρ : Nat → Value) (a : Act) (w : World) (K : Act → World → Prop) (Q : Exit → Act → World → Prop),
    Sat M n w0 S ρ a w → (∀ ρ' a' w', Sat M n w0 S' ρ' a' w' → K a' w') → o.wp P a w K Q

/-- The operation's value is av (and a new block nb), wherever its operands and the blocks bs are as in S. -/
def AStep (P : Program) (n : Nat) (o : Oper) (S : AS) (bs : List Nat) (av : AV) (nb : Option Blk) : Prop :=
  ∀ S2 : AS, (∀ x ∈ o.op.operands.toList, S2.get x = S.get x) → (∀ id ∈ bs, S2.blk id = S.blk id) → Step P n o S2 (S2.out o.dst av nb)

theorem AStep.step {P : Program} {n : Nat} {o : Oper} {S : AS} {bs : List Nat} {av : AV} {nb : Option Blk} (h : AStep P n o S bs av nb) : Step P n o S (S.out o.dst av nb) :=
  h S (fun _ _ => rfl) (fun _ _ => rfl)

/-- A region's operations in the text's order. -/
def AOps (P : Program) (n : Nat) (ops : Array Oper) (l : List Oper) (S : AS) (K : AS → Prop) : Prop :=
  ∀ (M : Nat → Prop) (w0 : World) (ρ : Nat → Value) (a : Act) (w : World) (Q : Exit → Act → World → Prop),
    Sat M n w0 S ρ a w → (∀ S' ρ' a' w', K S' → Sat M n w0 S' ρ' a' w' → Q .normal a' w') → wpList P ops Q l a w

def ACode (P : Program) (n : Nat) (c : Code) (S : AS) (K : Exit → AS → Prop) : Prop :=
  ∀ (M : Nat → Prop) (w0 : World) (ρ : Nat → Value) (a : Act) (w : World) (Q : Exit → Act → World → Prop),
    Sat M n w0 S ρ a w → (∀ e S' ρ' a' w', K e S' → Sat M n w0 S' ρ' a' w' → Q e a' w') → c.wp P Q a w

/-- S' says no more than S. -/
def Sub (S S' : AS) : Prop := ∀ (M : Nat → Prop) (n : Nat) (w0 : World) (ρ : Nat → Value) (a : Act) (w : World), Sat M n w0 S ρ a w → ∃ ρ', Sat M n w0 S' ρ' a w

section
variable {P : Program} {n : Nat} {ops : Array Oper} {S S' S1 : AS}

theorem Sub.refl (S : AS) : Sub S S := fun _ _ _ ρ _ _ h => ⟨ρ, h⟩
theorem Sub.trans (h : Sub S S') (h' : Sub S' S1) : Sub S S1 := fun M n w0 ρ a w hs => by
  obtain ⟨ρ', h1⟩ := h M n w0 ρ a w hs
  exact h' M n w0 ρ' a w h1

theorem AOps.nil {K : AS → Prop} (h : K S) : AOps P n ops [] S K := fun _ _ ρ a w _ hs hK => hK S ρ a w h hs

theorem AOps.cons {o : Oper} {rest : List Oper} {K : AS → Prop} (hg : o.guard = none) (h : Step P n o S S1) (hr : AOps P n ops rest S1 K) : AOps P n ops (o :: rest) S K := by
  intro M w0 ρ a w Q hs hK
  unfold wpList
  rw [if_pos (by simp [Region.wanted, hg])]
  exact .inl (h M w0 ρ a w _ Q hs fun ρ' a' w' hs' => hr M w0 ρ' a' w' Q hs' hK)

def undefA : AV := .p (.val undef)
theorem Sat.put_undef {M : Nat → Prop} {w0 w : World} {ρ : Nat → Value} {a : Act} (hs : Sat M n w0 S ρ a w) {d : Nat} (hd : d < n) : Sat M n w0 (S.put d undefA) ρ (a.put (some d) undef) w :=
  hs.put hd (.p (.val _))

/-- What a slot reads as, known to be a bool. -/
theorem Sat.bool {M : Nat → Prop} {w0 w : World} {ρ : Nat → Value} {a : Act} (hs : Sat M n w0 S ρ a w) {t : Nat} {v : Value} (h : S.tmp t = .p (.val v)) : a.tmps.getD t undef = v := by
  have h1 := hs.tmps t
  rw [h] at h1
  cases h1 with
  | p h2 => cases h2; rfl

theorem Sat.val {M : Nat → Prop} {w0 w : World} {ρ : Nat → Value} {a : Act} (hs : Sat M n w0 S ρ a w) {x : Operand} {v : Value} (h : S.get x = .p (.val v)) : a.eval x = v := by
  cases x with
  | tmp t => exact hs.bool h
  | const u => simp only [AS.get, AV.p.injEq, PV.val.injEq] at h; exact h
  | global g => cases h
  | func f => simp only [AS.get, AV.p.injEq, PV.val.injEq] at h; exact h

theorem Sat.rep {M : Nat → Prop} {w0 w : World} {ρ : Nat → Value} {a : Act} (hs : Sat M n w0 S ρ a w) (x : Operand) : RepA (Mut M S ρ) ρ w (S.get x) (a.eval x) := by
  cases x with
  | tmp t => exact hs.tmps t
  | const v => exact .p (.val v)
  | global g => exact .any _
  | func f => exact .p (.val _)

/-- what a guard's value says -/
def wantB (v : Value) (want : Bool) : Bool := match v with
  | .bool b => b == want
  | _ => false
theorem Sat.wanted {M : Nat → Prop} {w0 w : World} {ρ : Nat → Value} {a : Act} (hs : Sat M n w0 S ρ a w) {o : Oper} {j t : Nat} {want : Bool} {v : Value} (hg : o.guard = some (j, want)) (ht : (ops[j]?).bind (·.dst) = some t)
    (htn : t < n) (hb : S.tmp t = .p (.val v)) : Region.wanted o (yielded ops a.tmps) = wantB v want := by
  have hv := hs.bool hb
  have hlt : t < a.tmps.size := by rw [hs.size]; exact htn
  have hv2 : a.tmps[t] = v := by
    simpa [Array.getD_eq_getD_getElem?, hlt] using hv
  unfold Region.wanted yielded
  simp only [hg, ht, Option.bind_some, Array.getElem?_eq_getElem hlt, hv2]
  cases v <;> first | (rename_i b; cases b <;> cases want <;> rfl) | rfl

theorem AOps.guardedV {o : Oper} {rest : List Oper} {K : AS → Prop} {j t d : Nat} {want : Bool} {v : Value} (hg : o.guard = some (j, want)) (ht : (ops[j]?).bind (·.dst) = some t) (htn : t < n)
    (hb : S.tmp t = .p (.val v)) (hd : o.dst = some d) (hdn : d < n)
    (hyes : wantB v want = true → ∃ S1, Step P n o S S1 ∧ AOps P n ops rest S1 K) (hno : wantB v want = false → AOps P n ops rest (S.put d undefA) K) : AOps P n ops (o :: rest) S K := by
  intro M w0 ρ a w Q hs hK
  unfold wpList
  rw [hs.wanted hg ht htn hb]
  by_cases h : wantB v want = true
  · obtain ⟨S1, h1, h2⟩ := hyes h
    rw [if_pos h]
    exact .inl (h1 M w0 ρ a w _ Q hs fun ρ' a' w' hs' => h2 M w0 ρ' a' w' Q hs' hK)
  · rw [if_neg h, hd]
    exact hno (by simpa using h) M w0 ρ _ w Q (hs.put_undef hdn) hK
theorem AOps.guarded {o : Oper} {rest : List Oper} {K : AS → Prop} {j t d : Nat} {want b : Bool} (hg : o.guard = some (j, want)) (ht : (ops[j]?).bind (·.dst) = some t) (htn : t < n)
    (hb : S.tmp t = .p (.val (.bool b))) (hd : o.dst = some d) (hdn : d < n)
    (hyes : b = want → ∃ S1, Step P n o S S1 ∧ AOps P n ops rest S1 K) (hno : b = !want → AOps P n ops rest (S.put d undefA) K) : AOps P n ops (o :: rest) S K :=
  AOps.guardedV hg ht htn hb hd hdn (fun h => hyes (by simpa [wantB] using h)) (fun h => hno (by cases b <;> cases want <;> simp_all [wantB]))

theorem AOps.mono {l : List Oper} {K K' : AS → Prop} (h : AOps P n ops l S K) (hk : ∀ S, K S → K' S) : AOps P n ops l S K' :=
  fun M w0 ρ a w Q hs hK => h M w0 ρ a w Q hs fun S' ρ' a' w' h1 => hK S' ρ' a' w' (hk S' h1)
theorem AOps.sub {l : List Oper} {K : AS → Prop} (hs : Sub S S') (h : AOps P n ops l S' K) : AOps P n ops l S K :=
  fun M w0 ρ a w Q h1 hK => by
    obtain ⟨ρ', h2⟩ := hs M n w0 ρ a w h1
    exact h M w0 ρ' a w Q h2 hK

theorem ACode.mono {c : Code} {K K' : Exit → AS → Prop} (h : ACode P n c S K) (hk : ∀ e S, K e S → K' e S) : ACode P n c S K' :=
  fun M w0 ρ a w Q hs hK => h M w0 ρ a w Q hs fun e S' ρ' a' w' h1 => hK e S' ρ' a' w' (hk e S' h1)
theorem ACode.sub {c : Code} {K : Exit → AS → Prop} (hs : Sub S S') (h : ACode P n c S' K) : ACode P n c S K :=
  fun M w0 ρ a w Q h1 hK => by
    obtain ⟨ρ', h2⟩ := hs M n w0 ρ a w h1
    exact h M w0 ρ' a w Q h2 hK

theorem ACode.region {id : Nat} {l : List Oper} {K : Exit → AS → Prop} (h : AOps P n l.toArray l S (K .normal)) : ACode P n (.region id l.toArray false) S K :=
  fun M w0 ρ a w Q hs hK => wp_region_lit (h M w0 ρ a w Q hs fun S' ρ' a' w' hk hs' => hK .normal S' ρ' a' w' hk hs')

theorem ACode.skip {K : Exit → AS → Prop} (h : K .normal S) : ACode P n .skip S K := fun _ _ ρ a w _ hs hK => wp_skip (hK _ _ ρ a w h hs)
theorem ACode.ret {K : Exit → AS → Prop} (h : K .ret S) : ACode P n .ret S K := fun _ _ ρ a w _ hs hK => wp_ret (hK _ _ ρ a w h hs)
theorem ACode.exit {id : Nat} {K : Exit → AS → Prop} (h : K (.exit id) S) : ACode P n (.exit id) S K := fun _ _ ρ a w _ hs hK => wp_exit (hK _ _ ρ a w h hs)
theorem ACode.goto {l : Nat} {K : Exit → AS → Prop} (h : K (.goto l) S) : ACode P n (.goto l) S K := fun _ _ ρ a w _ hs hK => wp_goto (hK _ _ ρ a w h hs)
theorem ACode.label {l : Nat} {K : Exit → AS → Prop} (h : K .normal S) : ACode P n (.label l) S K := fun _ _ ρ a w _ hs hK => wp_label (hK _ _ ρ a w h hs)

def thenK (next : AS → Prop) (K : Exit → AS → Prop) : Exit → AS → Prop
  | .normal, S => next S
  | e, S => K e S

theorem ACode.seq {x y : Code} {K : Exit → AS → Prop} (h : ACode P n x S (thenK (fun S' => ACode P n y S' K) K)) : ACode P n (.seq x y) S K :=
  fun M w0 ρ a w Q hs hK => wp_seq (h M w0 ρ a w _ hs fun e S' ρ' a' w' hk hs' => by
    cases e with
    | normal => exact hk M w0 ρ' a' w' Q hs' hK
    | exit id => exact hK (.exit id) S' ρ' a' w' hk hs'
    | goto l => exact hK (.goto l) S' ρ' a' w' hk hs'
    | ret => exact hK .ret S' ρ' a' w' hk hs'
    | panic c => exact hK (.panic c) S' ρ' a' w' hk hs'
    | outgrown => exact hK .outgrown S' ρ' a' w' hk hs')

theorem ACode.cond {c : Operand} {x y : Code} {K : Exit → AS → Prop} {b : Bool} (hc : S.get c = .p (.val (.bool b))) (ht : b = true → ACode P n x S K) (hf : b = false → ACode P n y S K) : ACode P n (.cond c x y) S K :=
  fun M w0 ρ a w Q hs hK => wp_cond_split (hs.val hc) (fun h => ht h M w0 ρ a w Q hs hK) (fun h => hf h M w0 ρ a w Q hs hK)

def blockK (id : Nat) (K : Exit → AS → Prop) : Exit → AS → Prop
  | .exit id', S => if id' = id then K .normal S else K (.exit id') S
  | e, S => K e S

theorem ACode.block {id : Nat} {c : Code} {K : Exit → AS → Prop} (h : ACode P n c S (blockK id K)) : ACode P n (.block id c) S K :=
  fun M w0 ρ a w Q hs hK => wp_block (h M w0 ρ a w _ hs fun e S' ρ' a' w' hk hs' => by
    cases e with
    | exit id' =>
      show if id' = id then Q .normal a' w' else Q (.exit id') a' w'
      have hk' : if id' = id then K .normal S' else K (.exit id') S' := hk
      by_cases h1 : id' = id
      · rw [if_pos h1] at hk' ⊢; exact hK _ _ ρ' a' w' hk' hs'
      · rw [if_neg h1] at hk' ⊢; exact hK _ _ ρ' a' w' hk' hs'
    | normal => exact hK .normal S' ρ' a' w' hk hs'
    | goto l => exact hK (.goto l) S' ρ' a' w' hk hs'
    | ret => exact hK .ret S' ρ' a' w' hk hs'
    | panic c => exact hK (.panic c) S' ρ' a' w' hk hs'
    | outgrown => exact hK .outgrown S' ρ' a' w' hk hs')

theorem ACode.loop {c : Code} {K : Exit → AS → Prop} {ι : Type} (inv : ι → AS) (ok : ι → Prop) (μ : ι → Nat) (i0 : ι) (h0 : Sub S (inv i0)) (hi0 : ok i0)
    (round : ∀ i, ok i → ACode P n c (inv i) (thenK (fun S' => ∃ j, Sub S' (inv j) ∧ ok j ∧ μ j < μ i) K)) : ACode P n (.loop c) S K := by
  intro M w0 ρ a w Q hs hK
  obtain ⟨ρ0, hs0⟩ := h0 M n w0 ρ a w hs
  intro b k cs
  have key : ∀ (m : Nat) (i : ι) (ρ : Nat → Value) (a : Act) (w : World), μ i = m → ok i → Sat M n w0 (inv i) ρ a w →
      ∃ e a' w', Q e a' w' ∧ Arrives P (lone (b.at a (.code c :: .inLoop c :: k)) cs w) b k cs e a' w' := by
    intro m
    induction m using Nat.strongRecOn with
    | _ m ih =>
      intro i ρ a w hm hi hsi
      have hr := round i hi M w0 ρ a w (Exit.then (fun a' w' => ∃ j ρ', ok j ∧ μ j < μ i ∧ Sat M n w0 (inv j) ρ' a' w') Q) hsi (fun e S' ρ' a' w' hk hs' => by
        cases e with
        | normal =>
          obtain ⟨j, hsub, hj, hlt⟩ := hk
          obtain ⟨ρ'', hs''⟩ := hsub M n w0 ρ' a' w' hs'
          exact ⟨j, ρ'', hj, hlt, hs''⟩
        | exit id => exact hK (.exit id) S' ρ' a' w' hk hs'
        | goto l => exact hK (.goto l) S' ρ' a' w' hk hs'
        | ret => exact hK .ret S' ρ' a' w' hk hs'
        | panic c => exact hK (.panic c) S' ρ' a' w' hk hs'
        | outgrown => exact hK .outgrown S' ρ' a' w' hk hs')
      obtain ⟨e, a₁, w₁, hq, harr⟩ := hr b (.inLoop c :: k) cs
      cases e with
      | normal =>
        obtain ⟨j, ρ', hj, hlt, hs'⟩ := hq
        obtain ⟨e₂, a₂, w₂, hq₂, harr₂⟩ := ih (μ j) (by omega) j ρ' a₁ w₁ rfl hj hs'
        exact ⟨e₂, a₂, w₂, hq₂, .of_steps (Steps.trans harr (.one step_inLoop)) harr₂⟩
      | exit id => exact ⟨_, a₁, w₁, hq, .pass (x := .inLoop c) rfl (fun _ _ => .inl (by simp)) harr⟩
      | goto l => exact ⟨_, a₁, w₁, hq, .pass (x := .inLoop c) rfl (fun _ _ => .inl (by simp)) harr⟩
      | ret => exact ⟨_, a₁, w₁, hq, .pass (x := .inLoop c) rfl (fun _ _ => .inl (by simp)) harr⟩
      | panic ch => exact ⟨_, a₁, w₁, hq, .pass (x := .inLoop c) rfl (fun _ _ => .inl (by simp)) harr⟩
      | outgrown => exact ⟨_, a₁, w₁, hq, .pass (x := .inLoop c) rfl (fun _ _ => .inl (by simp)) harr⟩
  obtain ⟨e, a', w', hq, harr⟩ := key _ i0 ρ0 a w rfl hi0 hs0
  exact ⟨e, a', w', hq, .of_steps (.one step_loop) harr⟩

end

end Go.Proofs.Ytjokcnajopfjhaa
