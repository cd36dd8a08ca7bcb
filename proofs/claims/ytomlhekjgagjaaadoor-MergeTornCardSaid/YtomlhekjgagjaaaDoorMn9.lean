/- For every input MergeTorn returns true, and leaves its argument as it was. Conditions: none beyond the given statement. (Part 9 of 9.) -/
import Derived.Test.YtomlhekjgagjaaaDoorMn8
import Derived.ProofKit
import Derived.OpenShut
import Derived.Below
import Derived.LaidMore
import Derived.Deep.Fields
import Derived.Deep.Slices
import Derived.Test.YtomlhekjgagjaaaDoorRows
import Derived.LaidLaws
import Derived.ChangeSame
import Derived.ChangeVars
import Derived.JoinedOf
import Derived.Stop.Joined
import Derived.RowKitTokens
import Derived.Test.YtomlhekjgagjaaaDoorCards
import Derived.Test.YtomlhekjgagjaaaDoorTie
import Derived.SevenTiedAt
namespace Go.Proofs.YtomlhekjgagjaaaDoor
set_option maxRecDepth 100000
set_option maxHeartbeats 16000000
open Go Go.RowKit
structure TI where
  bs : List Nat
  av : AV
  nb : Option (Nat × Blk)
def effT (S : AS) (d : Nat) (x : TI) : AS := match x.nb with
  | none => S.put d x.av
  | some p => (S.create p.1 p.2).put d x.av
def RStep (P : Program) (n : Nat) (o : Oper) (F : AS) (x : TI) : Prop :=
  ∀ S2 : AS, (∀ y ∈ o.op.operands.toList, S2.get y = F.get y) → (∀ id ∈ x.bs, S2.blk id = F.blk id) → ∀ d, o.dst = some d → Step P n o S2 (effT S2 d x)
theorem RStep.of {P : Program} {n : Nat} {o : Oper} {F : AS} {bs : List Nat} {av : AV} (h : zA P n o F bs av none) : RStep P n o F ⟨bs, av, none⟩ := fun S2 h1 h2 d hd => by
  have := h S2 h1 h2
  rw [hd] at this
  exact this
theorem RStep.made {P : Program} {n : Nat} {o : Oper} {F : AS} {bs : List Nat} {av : AV} {b : Blk} {d : Nat} (hd : o.dst = some d) (h : zA P n o F bs av (some b)) : RStep P n o F ⟨bs, av, some (d, b)⟩ := fun S2 h1 h2 d' hd' => by
  have := h S2 h1 h2
  rw [hd] at this hd'
  obtain rfl := Option.some.inj hd'
  exact this
def TCh (P : Program) (n : Nat) : AS → List Oper → List TI → Prop
  | F, o :: os, x :: xs => o.guard = none ∧ RStep P n o F x ∧ TCh P n (effT F (o.dst.getD 0) x) os xs
  | _, [], [] => True
  | _, _, _ => False
def runT : AS → List Oper → List TI → AS
  | F, o :: os, x :: xs => runT (effT F (o.dst.getD 0) x) os xs
  | F, _, _ => F
def tailB (l : List Oper) (xs : List AI) (ys : List TI) (S0 : AS) : Bool :=
  decide (xs.length + ys.length = l.length) && xs.all (fun x => x.nb.isNone) &&
  ((List.range l.length).all fun t => decide (t < xs.length) || (((List.range t).all fun j => decide (j < xs.length) || ord l j t) && (match yO l t with
    | some d => (List.range xs.length).all fun i => yO l i != some d && !(readsOf l i).contains d
    | none => false) && ((List.range xs.length).all fun j => match yO l j with
      | some e => !(readsOf l t).contains e || ord l j t
      | none => true))) &&
  ys.all fun y => match y.nb with
    | some p => noRef p.1 S0 && xs.all fun x => freeOf p.1 x.av && !x.bs.contains p.1
    | none => true
structure TailOK (l : List Oper) (xs : List AI) (ys : List TI) (S0 : AS) : Prop where
  len : xs.length + ys.length = l.length
  plain : ∀ x ∈ xs, x.nb = none
  order : ∀ t j, xs.length ≤ t → t < l.length → xs.length ≤ j → j < t → ord l j t = true
  dst : ∀ t, xs.length ≤ t → t < l.length → ∃ d, yO l t = some d ∧ ∀ i, i < xs.length → yO l i ≠ some d ∧ d ∉ readsOf l i
  rds : ∀ t j e, xs.length ≤ t → t < l.length → j < xs.length → yO l j = some e → e ∈ readsOf l t → ord l j t = true
  ids : ∀ y ∈ ys, ∀ p, y.nb = some p → noRef p.1 S0 = true ∧ ∀ x ∈ xs, freeOf p.1 x.av = true ∧ p.1 ∉ x.bs
theorem TailOK.of {l : List Oper} {xs : List AI} {ys : List TI} {S0 : AS} (h : tailB l xs ys S0 = true) : TailOK l xs ys S0 := by
  unfold tailB at h
  simp only [Bool.and_eq_true, List.all_eq_true, List.mem_range, decide_eq_true_eq, Bool.or_eq_true] at h
  obtain ⟨⟨⟨h1, h2⟩, h3⟩, h4⟩ := h
  have hx : ∀ t, xs.length ≤ t → t < l.length → _ := fun t h5 h6 => (h3 t h6).resolve_left (by omega)
  refine ⟨h1, fun x hx => by simpa using h2 x hx, fun t j h5 h6 h7 h8 => ((hx t h5 h6).1.1 j h8).resolve_left (by omega), fun t h5 h6 => ?_, fun t j e h5 h6 h7 h8 h9 => ?_, fun y hy p hp => ?_⟩
  · have := (hx t h5 h6).1.2
    cases hd : yO l t with
    | none => rw [hd] at this; cases this
    | some d =>
      rw [hd] at this
      refine ⟨d, rfl, fun i hi => ?_⟩
      have h7 := List.all_eq_true.1 this i (List.mem_range.2 hi)
      rw [Bool.and_eq_true] at h7
      exact ⟨by simpa using h7.1, by simpa using h7.2⟩
  · have := (hx t h5 h6).2 j h7
    rw [h8] at this
    simp only [Bool.or_eq_true, Bool.not_eq_true', List.contains_iff_mem] at this
    rcases this with h10 | h10
    · simp [h9] at h10
    · exact h10
  · have := h4 y hy
    rw [hp] at this
    simp only [Bool.and_eq_true, List.all_eq_true, Bool.not_eq_true'] at this
    exact ⟨this.1, fun x hx => ⟨(this.2 x hx).1, by simpa using (this.2 x hx).2⟩⟩
structure Base (l : List Oper) (xs : List AI) (S0 B : AS) : Prop where
  t : ∀ i, i < xs.length → ∀ t ∈ readsOf l i, B.tmp t = S0.tmp t
  b : ∀ x ∈ xs, ∀ id ∈ x.bs, B.blk id = S0.blk id
  f : ∀ d, noRef d S0 = true → True
theorem Agr.eff {l : List Oper} {xs : List AI} {B S2 : AS} {D : Nat → Prop} {d : Nat} {y : TI} (h : Agr l xs B D S2) (hp : ∀ x ∈ xs, x.nb = none) (hd : ∀ i, i < xs.length → yO l i ≠ some d) (hf : ∀ p, y.nb = some p → ∀ x ∈ xs, freeOf p.1 x.av = true) : Agr l xs (effT B d y) D (effT S2 d y) := by
  have hne : ∀ (i : Nat) (o : Oper) (x : AI) (e : Nat), l[i]? = some o → xs[i]? = some x → o.dst = some e → e ≠ d := fun i o x e h1 h2 h3 h4 => by
    have := hd i (List.getElem?_eq_some_iff.1 h2).1
    unfold yO at this
    rw [h1] at this
    exact this (by rw [h4] at h3; exact h3)
  have hb : ∀ t, S2.blk t = B.blk t := fun t => h.b2 t fun i o x _ h2 _ h4 => absurd (hp x (List.mem_of_getElem? h2)) h4
  unfold effT
  cases hy : y.nb with
  | none =>
    refine ⟨fun i o x e h1 h2 h3 h4 => ?_, fun t ht => ?_, fun i o x e b h1 h2 h3 h4 h5 => ?_, fun t _ => hb t⟩
    · show (S2.put d y.av).tmp e = x.av
      rw [AS.vY, if_neg (Ne.symm (hne i o x e h1 h2 h4))]
      exact h.t1 i o x e h1 h2 h3 h4
    · show (S2.put d y.av).tmp t = (B.put d y.av).tmp t
      rw [AS.vY, AS.vY]
      split
      · rfl
      · exact h.t2 t ht
    · rw [hp x (List.mem_of_getElem? h2)] at h5; cases h5
  | some p =>
    have hf := hf p hy
    refine ⟨fun i o x e h1 h2 h3 h4 => ?_, fun t ht => ?_, fun i o x e b h1 h2 h3 h4 h5 => ?_, fun t _ => ?_⟩
    · show ((S2.create p.1 p.2).put d y.av).tmp e = x.av
      rw [AS.vY, if_neg (Ne.symm (hne i o x e h1 h2 h4)), AS.qZ, h.t1 i o x e h1 h2 h3 h4]
      exact kill_of_free (hf x (List.mem_of_getElem? h2))
    · show ((S2.create p.1 p.2).put d y.av).tmp t = ((B.create p.1 p.2).put d y.av).tmp t
      rw [AS.vY, AS.vY, AS.qZ, AS.qZ, h.t2 t ht]
    · rw [hp x (List.mem_of_getElem? h2)] at h5; cases h5
    · show ((S2.create p.1 p.2).put d y.av).blk t = ((B.create p.1 p.2).put d y.av).blk t
      rw [AS.blk_put, AS.blk_put, AS.xK, AS.xK, hb t]
section
variable {P : Program} {n : Nat} {S : AS}
structure Off (T I : List Nat) (S0 B : AS) : Prop where
  t : ∀ t, t ∉ T → B.tmp t = S0.tmp t
  b : ∀ i, i ∉ I → B.blk i = S0.blk i
theorem Off.eff {T I : List Nat} {S0 B : AS} (h : Off T I S0 B) {d : Nat} {y : TI} (hd : d ∈ T) (hI : ∀ p, y.nb = some p → p.1 ∈ I ∧ noRef p.1 S0 = true) : Off T I S0 (effT B d y) := by
  unfold effT
  cases hy : y.nb with
  | none =>
    refine ⟨fun t ht => ?_, h.b⟩
    show (B.put d y.av).tmp t = _
    rw [AS.vY, if_neg (fun e : d = t => ht (by rw [← e]; exact hd))]
    exact h.t t ht
  | some p =>
    obtain ⟨h1, h2⟩ := hI p hy
    refine ⟨fun t ht => ?_, fun i hi => ?_⟩
    · show ((B.create p.1 p.2).put d y.av).tmp t = _
      rw [AS.vY, if_neg (fun e : d = t => ht (by rw [← e]; exact hd)), AS.qZ, h.t t ht]
      exact noRef_tmp h2 t
    · show ((B.create p.1 p.2).put d y.av).blk i = _
      rw [AS.blk_put, AS.xK, if_neg (fun e : p.1 = i => hi (by rw [← e]; exact h1)), h.b i hi]
      cases hb : S0.blk i with
      | none => rfl
      | some b => rw [Option.map_some, noRef_blk h2 hb]
theorem AnyC.tail {l : List Oper} {K : Exit → AS → Prop} (xs : List AI) (ys : List TI) (hsch : schedL l xs.length (xs.map (·.bs)) (List.range xs.length) = true) (hmade : madeB l xs S = true) (htail : tailB l xs ys S = true)
    (hch : AChain P n l S l xs) (htc : TCh P n (runA S l xs) (l.drop xs.length) ys) (hfin : K .normal (runT (runA S l xs) (l.drop xs.length) ys)) : AnyC P n l S K := by
  have hS := SchedL.of hsch
  have hT := TailOK.of htail
  have hA := Apart.ofL hS hmade
  have hAB : ∀ B, Apart l xs B := fun B => ⟨hA.c1, hA.c4, fun i o x d h1 h2 h3 h4 => absurd (hT.plain x (List.mem_of_getElem? h2)) h4, hA.dsts⟩
  intro M w0 ρ a w Q hs hK
  have start : Agr l xs S (fun k => k < 0) S := ⟨fun i o x d _ _ h => by omega, fun _ _ => rfl, fun i o x d b _ _ h => by omega, fun _ _ => rfl⟩
  obtain ⟨hgs, hall⟩ := runA_agrL hS hA 0 S (by omega) start hch
  let T := (List.range l.length).filterMap fun t => if t < xs.length then none else yO l t
  let I := ys.filterMap fun y => y.nb.map (·.1)
  have hTm : ∀ t d, xs.length ≤ t → t < l.length → yO l t = some d → d ∈ T := fun t d h1 h2 h3 => List.mem_filterMap.2 ⟨t, List.mem_range.2 h2, by rw [if_neg (by omega)]; exact h3⟩
  have hTr : ∀ d ∈ T, ∀ i, i < xs.length → d ∉ readsOf l i := fun d hd i hi => by
    obtain ⟨t, h1, h2⟩ := List.mem_filterMap.1 hd
    by_cases hlt : t < xs.length
    · rw [if_pos hlt] at h2; cases h2
    · rw [if_neg hlt] at h2
      obtain ⟨e, h3, h4⟩ := hT.dst t (by omega) (List.mem_range.1 h1)
      rw [h2] at h3
      obtain rfl := Option.some.inj h3
      exact (h4 i hi).2
  have hIb : ∀ id ∈ I, ∀ x ∈ xs, id ∉ x.bs := fun id hid x hx => by
    obtain ⟨y, hy, h2⟩ := List.mem_filterMap.1 hid
    obtain ⟨p, hp, rfl⟩ := Option.map_eq_some_iff.1 h2
    exact ((hT.ids y hy p hp).2 x hx).2
  have main : ∀ (fuel j : Nat) (listed : Array Bool) (B F S2 : AS) (ρ : Nat → Value) (a : Act) (w : World), Closed l listed → (∀ i, i < l.length → xs.length ≤ i → (Done listed i ↔ i < xs.length + j)) → j ≤ ys.length → Off T I S B → Agr l xs B (fun k => k < xs.length) F → Agr l xs B (Done listed) S2 →
      TCh P n F (l.drop (xs.length + j)) (ys.drop j) → K .normal (runT F (l.drop (xs.length + j)) (ys.drop j)) → left listed = fuel → Sat M n w0 S2 ρ a w → wpAny P .any l.toArray Q fuel listed a w := by
    intro fuel
    induction fuel with
    | zero =>
      intro j listed B F S2 ρ a w hc hd hj hoff hF hagr htc hfin hl hsat
      have hall : ∀ i, i < l.length → Done listed i := by
        intro i hi
        apply Classical.byContradiction
        intro hn
        have := vL (listed := listed) (by rw [hc.size]; exact hi) hn
        omega
      have hjl : l.length ≤ xs.length + j := by
        apply Classical.byContradiction
        intro hn
        have := (hd (xs.length + j) (by omega) (by omega)).1 (hall _ (by omega))
        omega
      have hjy : j = ys.length := by have := hT.len; omega
      rw [List.drop_eq_nil_of_le hjl, List.drop_eq_nil_of_le (by omega : ys.length ≤ j)] at hfin
      have hsame : Same S2 F := by
        refine Agr.same (l := l) (xs := xs) (S0 := B) (D := fun k => k < xs.length) ⟨fun i o x d h1 h2 h3 => hagr.t1 i o x d h1 h2 (hall i (List.getElem?_eq_some_iff.1 h1).1), fun t h => hagr.t2 t fun i o x h1 h2 _ => h i o x h1 h2 (List.getElem?_eq_some_iff.1 h2).1, fun i o x d b h1 h2 h3 => hagr.b1 i o x d b h1 h2 (hall i (List.getElem?_eq_some_iff.1 h1).1), fun t h => hagr.b2 t fun i o x h1 h2 _ => h i o x h1 h2 (List.getElem?_eq_some_iff.1 h2).1⟩ hF
      refine ⟨?_, hK .normal F ρ a w hfin (hsat.same hsame) trivial⟩
      apply List.eq_nil_iff_forall_not_mem.2
      intro i hi
      exact (yQ hi).2.1 (hall i (yQ hi).1)
    | succ fuel ih =>
      intro j listed B F S2 ρ a w hc hd hj hoff hF hagr htc hfin hl hsat
      refine ⟨fun hnil => ?_, fun i hi => ?_⟩
      · rcases ready_or_allL hS hc with h | h
        · exact (h hnil).elim
        · exfalso
          unfold left at hl
          have : (List.range listed.size).countP (fun i => !(listed.getD i false)) = 0 := by
            rw [List.countP_eq_zero]
            intro k hk
            have := h k (by rw [← hc.size]; exact List.mem_range.1 hk)
            unfold Done at this
            simp [this]
          omega
      · obtain ⟨hil, hnd, o, hoi, _⟩ := yQ hi
        have hleft := vL (listed := listed) (by rw [hc.size]; exact hil) hnd
        have hsz : i < listed.size := by rw [hc.size]; exact hil
        by_cases hix : i < xs.length
        case pos =>
          have hx : xs[i]? = some xs[i] := List.getElem?_eq_getElem hix
          obtain ⟨Si, hagi, hgst⟩ := hgs i o xs[i] (by omega) hoi hx
          have hd' : ∀ {k : Nat} {ok : Oper}, l[k]? = some ok → yO l k = ok.dst := fun {k ok} hk => by simp [yO, hk]
          have hrt : ∀ t ∈ readsOf l i, S2.tmp t = Si.tmp t := fun t ht => by
            have iff : ∀ (k : Nat) (ok : Oper) (xk : AI), l[k]? = some ok → xs[k]? = some xk → ok.dst = some t → (Done listed k ↔ k < i) := by
              intro k ok xk h1 h2 h3
              have hkx : k < xs.length := (List.getElem?_eq_some_iff.1 h2).1
              rcases hS.reads i k t hix hkx (by rw [hd' h1, h3]) ht with h4 | ⟨h4, h5⟩ | ⟨h4, h5⟩
              · subst h4; exact ⟨fun h => (hnd h).elim, fun h => by omega⟩
              · exact ⟨fun _ => h4, fun _ => hc.wM hi h5⟩
              · refine ⟨fun h => (hnd ?_).elim, fun h => by omega⟩
                exact hc.ord (k + 1) k i (by omega) (Nat.lt_of_lt_of_le hkx hS.len) h h5
            by_cases hex : ∃ (k : Nat) (ok : Oper) (xk : AI), l[k]? = some ok ∧ xs[k]? = some xk ∧ Done listed k ∧ ok.dst = some t
            · obtain ⟨k, ok, xk, h1, h2, h3, h4⟩ := hex
              rw [hagr.t1 k ok xk t h1 h2 h3 h4, hagi.t1 k ok xk t h1 h2 ((iff k ok xk h1 h2 h4).1 h3) h4]
            · rw [hagr.t2 t fun k ok xk h1 h2 h3 h4 => hex ⟨k, ok, xk, h1, h2, h3, h4⟩, hagi.t2 t fun k ok xk h1 h2 h3 h4 => hex ⟨k, ok, xk, h1, h2, (iff k ok xk h1 h2 h4).2 h3, h4⟩]
              exact hoff.t t fun hm => hTr t hm i hix ht
          have hrb : ∀ id ∈ xs[i].bs, S2.blk id = Si.blk id := fun id hid => by
            rw [hagr.b2 id fun k ok xk _ h2 _ h4 => absurd (hT.plain xk (List.mem_of_getElem? h2)) h4, hagi.b2 id fun k ok xk _ h2 _ h4 => absurd (hT.plain xk (List.mem_of_getElem? h2)) h4]
            exact hoff.b id fun hm => hIb id hm _ (List.getElem_mem hix) hid
          have hget : ∀ y ∈ o.op.operands.toList, S2.get y = Si.get y := by
            intro y hy
            cases y with
            | tmp t => exact hrt t (vM hoi hy)
            | _ => rfl
          have hnext := hagr.step (hAB B) hoi hx hnd (fun k hk hok => hnd (hc.ord (k + 1) k i (by omega) (by
            apply Classical.byContradiction
            intro h
            unfold Done at hk
            simp [Array.getD_eq_getD_getElem?, Array.getElem?_eq_none (by rw [hc.size]; omega : listed.size ≤ k)] at hk) hk hok))
          have cont : ∀ ρ' a' w', Sat M n w0 (S2.out o.dst xs[i].av xs[i].nb) ρ' a' w' → wpAny P .any l.toArray Q fuel (listed.setIfInBounds i true) a' w' := by
            intro ρ' a' w' hs'
            refine ih j _ B F _ ρ' a' w' (hc.set hi) (fun k hk hkx => ?_) hj hoff hF ?_ htc hfin (by omega) hs'
            · rw [wW hsz, ← hd k hk hkx]
              exact ⟨fun h => h.resolve_left (by omega), .inr⟩
            · have e : (fun k => k = i ∨ Done listed k) = Done (listed.setIfInBounds i true) := by
                funext k
                apply propext
                rw [wW hsz]
                exact ⟨fun h => h.imp Eq.symm id, fun h => h.imp Eq.symm id⟩
              rw [← e]
              exact hnext
          unfold wpOp
          simp only [List.getElem?_toArray, hoi]
          rcases hgst with ⟨hg, hast⟩ | ⟨j2, want, t, b, hg, hdj, htn, hb, hcase⟩
          · rw [if_pos (by simp [Region.wanted, hg])]
            exact .inl (hast S2 hget hrb M w0 ρ a w _ Q hsat cont)
          · have hb2 : S2.tmp t = .p (.val b) := by rw [hrt t (readsOf_guard hoi hg hdj)]; exact hb
            have hw := hsat.wanted (ops := l.toArray) hg (by simpa [yO] using hdj) htn hb2
            rcases hcase with ⟨hbw, hast⟩ | ⟨hbw, hav, hnb, d, hd, hdn⟩
            · rw [if_pos (by rw [hw, hbw])]
              exact .inl (hast S2 hget hrb M w0 ρ a w _ Q hsat cont)
            · rw [if_neg (by rw [hw, hbw]; simp)]
              rw [hd]
              refine cont ρ _ w ?_
              rw [hd, hav, hnb]
              exact hsat.put_undef hdn
        case neg =>
          have hij : i = xs.length + j := by
            have h1 : ¬ i < xs.length + j := fun h => hnd ((hd i hil (by omega)).2 h)
            apply Classical.byContradiction
            intro h
            have := hc.wM hi (hT.order i (xs.length + j) (by omega) hil (by omega) (by omega))
            have := (hd (xs.length + j) (by omega) (by omega)).1 this
            omega
          subst hij
          have hjy : j < ys.length := by have := hT.len; omega
          rw [List.drop_eq_getElem_cons hil, List.drop_eq_getElem_cons hjy] at htc hfin
          obtain ⟨hg, hst, htc⟩ := htc
          have ho : o = l[xs.length + j] := by rw [List.getElem?_eq_getElem hil] at hoi; exact (Option.some.inj hoi).symm
          subst ho
          obtain ⟨d, hdd, hdn⟩ := hT.dst (xs.length + j) (by omega) hil
          have hdst : l[xs.length + j].dst = some d := by
            unfold yO at hdd
            rw [hoi] at hdd
            exact hdd
          have hget : ∀ y ∈ l[xs.length + j].op.operands.toList, S2.get y = F.get y := by
            intro y hy
            cases y with
            | tmp t =>
              have ht := vM hoi hy
              show S2.tmp t = F.tmp t
              by_cases hex : ∃ (k : Nat) (ok : Oper) (xk : AI), l[k]? = some ok ∧ xs[k]? = some xk ∧ ok.dst = some t
              · obtain ⟨k, ok, xk, h1, h2, h4⟩ := hex
                have hkx := (List.getElem?_eq_some_iff.1 h2).1
                have h5 := hc.wM hi (hT.rds (xs.length + j) k t (by omega) hil hkx (by unfold yO; rw [h1]; exact h4) ht)
                rw [hagr.t1 k ok xk t h1 h2 h5 h4, hF.t1 k ok xk t h1 h2 hkx h4]
              · rw [hagr.t2 t fun k ok xk h1 h2 h3 h4 => hex ⟨k, ok, xk, h1, h2, h4⟩, hF.t2 t fun k ok xk h1 h2 h3 h4 => hex ⟨k, ok, xk, h1, h2, h4⟩]
            | _ => rfl
          have hrb : ∀ id ∈ ys[j].bs, S2.blk id = F.blk id := fun id _ => by
            rw [hagr.b2 id fun k ok xk _ h2 _ h4 => absurd (hT.plain xk (List.mem_of_getElem? h2)) h4, hF.b2 id fun k ok xk _ h2 _ h4 => absurd (hT.plain xk (List.mem_of_getElem? h2)) h4]
          have hstep := hst S2 hget hrb d hdst
          have e1 : l[xs.length + j].dst.getD 0 = d := by rw [hdst]; rfl
          have hfin : K .normal (runT (effT F (l[xs.length + j].dst.getD 0) ys[j]) (l.drop (xs.length + j + 1)) (ys.drop (j + 1))) := hfin
          rw [e1] at htc hfin
          have hids := hT.ids ys[j] (List.getElem_mem hjy)
          unfold wpOp
          simp only [List.getElem?_toArray, hoi]
          rw [if_pos (by simp [Region.wanted, hg])]
          refine .inl (hstep M w0 ρ a w _ Q hsat fun ρ' a' w' hs' => ?_)
          refine ih (j + 1) _ (effT B d ys[j]) (effT F d ys[j]) (effT S2 d ys[j]) ρ' a' w' (hc.set hi) (fun k hk hkx => ?_) hjy (hoff.eff (hTm _ d (by omega) hil hdd) fun p hp => ⟨List.mem_filterMap.2 ⟨_, List.getElem_mem hjy, by rw [hp]; rfl⟩, (hids p hp).1⟩)
            (hF.eff hT.plain (fun i hi => (hdn i hi).1) fun p hp x hx => ((hids p hp).2 x hx).1) ?_ htc hfin (by omega) hs'
          · rw [wW hsz, hd k hk hkx]
            omega
          · have h1 := hagr.eff hT.plain (fun i hi => (hdn i hi).1) (y := ys[j]) fun p hp x hx => ((hids p hp).2 x hx).1
            refine ⟨fun i o x e h2 h3 h4 h5 => h1.t1 i o x e h2 h3 ?_ h5, fun t ht => h1.t2 t fun i o x h2 h3 h4 => ht i o x h2 h3 ?_, fun i o x e b h2 h3 h4 h5 h6 => h1.b1 i o x e b h2 h3 ?_ h5 h6, fun t ht => h1.b2 t fun i o x h2 h3 h4 => ht i o x h2 h3 ?_⟩
            · rw [wW hsz] at h4
              exact h4.resolve_left (by have := (List.getElem?_eq_some_iff.1 h3).1; omega)
            · rw [wW hsz]; exact .inr h4
            · rw [wW hsz] at h4
              exact h4.resolve_left (by have := (List.getElem?_eq_some_iff.1 h3).1; omega)
            · rw [wW hsz]; exact .inr h4
  refine main _ 0 _ S (runA S l xs) S ρ a _ ⟨by simp, fun i o hi hd => ?_⟩ (fun i hi hx => ⟨fun hd => ?_, fun h => by omega⟩) (Nat.zero_le _) ⟨fun _ _ => rfl, fun _ _ => rfl⟩ hall ⟨fun i o x d _ _ h => ?_, fun _ _ => rfl, fun i o x d b _ _ h => ?_, fun _ _ => rfl⟩ htc hfin ?_ (hs.ext ((Below.refl _ _).drew))
  · unfold Done at hd; rw [getD_replicate_false] at hd; cases hd
  · unfold Done at hd; rw [getD_replicate_false] at hd; cases hd
  · unfold Done at h; rw [getD_replicate_false] at h; cases h
  · unfold Done at h; rw [getD_replicate_false] at h; cases h
  · unfold left
    simp only [Array.size_replicate, List.size_toArray]
    have : ∀ k ∈ List.range l.length, (!((Array.replicate l.length false).getD k false)) = true := fun k _ => by rw [getD_replicate_false]; rfl
    rw [List.countP_eq_length.2 this, List.length_range]
end
def TW (P : Program) (n : Nat) (l : List Oper) (xs : List AI) (S0 : AS) (K : Exit → AS → Prop) : AS → List Oper → List TI → Prop
  | F, [], rev => tailB l xs rev.reverse S0 = true ∧ K .normal F
  | F, o :: os, rev => ∃ x, o.guard = none ∧ RStep P n o F x ∧ TW P n l xs S0 K (effT F (o.dst.getD 0) x) os (x :: rev)
section
variable {P : Program} {n : Nat} {l os : List Oper} {xs : List AI} {S0 F S : AS} {K : Exit → AS → Prop} {rev : List TI} {o : Oper} {d : Nat}
theorem TW.ch : ∀ {os : List Oper} {F : AS} {rev : List TI}, TW P n l xs S0 K F os rev → ∃ ys, TCh P n F os ys ∧ K .normal (runT F os ys) ∧ tailB l xs (rev.reverse ++ ys) S0 = true
  | [], F, rev, h => ⟨[], trivial, h.2, by rw [List.append_nil]; exact h.1⟩
  | o :: os, F, rev, ⟨x, h1, h2, h3⟩ => by
    obtain ⟨ys, g1, g2, g3⟩ := TW.ch h3
    exact ⟨x :: ys, ⟨h1, h2, g1⟩, g2, by simpa using g3⟩
theorem TW.nil (h : tailB l xs rev.reverse S0 = true) (hK : K .normal F) : TW P n l xs S0 K F [] rev := ⟨h, hK⟩
theorem TW.v {bs : List Nat} {av : AV} (hg : o.guard = none) (hd : o.dst = some d) (h : zA P n o F bs av none) (hr : TW P n l xs S0 K (F.put d av) os (⟨bs, av, none⟩ :: rev)) : TW P n l xs S0 K F (o :: os) rev :=
  ⟨_, hg, RStep.of h, by rw [hd]; exact hr⟩
theorem TW.m {bs : List Nat} {av : AV} {b : Blk} (hg : o.guard = none) (hd : o.dst = some d) (h : zA P n o F bs av (some b)) (hr : TW P n l xs S0 K ((F.create d b).put d av) os (⟨bs, av, some (d, b)⟩ :: rev)) : TW P n l xs S0 K F (o :: os) rev :=
  ⟨_, hg, RStep.made hd h, by rw [hd]; exact hr⟩
theorem TW.r {bs : List Nat} {av : AV} {id : Nat} {b : Blk} (hg : o.guard = none) (hd : o.dst = some d) (h : RStep P n o F ⟨bs, av, some (id, b)⟩) (hr : TW P n l xs S0 K ((F.create id b).put d av) os (⟨bs, av, some (id, b)⟩ :: rev)) : TW P n l xs S0 K F (o :: os) rev :=
  ⟨_, hg, h, by rw [hd]; exact hr⟩
theorem r_appB {t : TypeId} {x y : Operand} {id e : Nat} {z : Value} {cs bs : List Int} [ht : Und P t (.slice e)] [hi : InfoA P e z 1 1] (ho : o.op = .call { callee := .builtin .append, args := #[x, y], argTypes := #[t, t] }) (hx : F.get x = .own id) (hb : F.blk id = some (wP e cs))
    (hy : F.get y = .p (.sl (byts bs))) (hlim : cs.length + bs.length ≤ 140737488355328) (hzs : z.cells.size = 1) (hd : o.dst = some d) (hn : d < n) : RStep P n o F ⟨[id], .own id, some (id, wP e (cs ++ bs))⟩ := fun S2 h1 h2 d' hd' => by
  rw [hd] at hd'
  obtain rfl := Option.some.inj hd'
  exact kZ ho ((h1 x (by rw [ho]; simp [Op.operands, Call.operands])).trans hx) ((h2 id (by simp)).trans hb) ((h1 y (by rw [ho]; simp [Op.operands, Call.operands])).trans hy) hlim hzs hd hn
theorem yP.tail {rev : List AI} (hsch : schedL l rev.reverse.length (rev.reverse.map (·.bs)) (List.range rev.reverse.length) = true) (hmade : madeB l rev.reverse S0 = true) (h : TW P n l rev.reverse S0 K S os []) : yP P n l S0 K rev S os := by
  unfold yP
  intro hc
  obtain ⟨h1, h2, h3⟩ := hc.chain
  obtain ⟨ys, g1, g2, g3⟩ := TW.ch h
  exact AnyC.tail _ ys hsch hmade g3 h1 (by rw [h2, h3]; exact g1) (by rw [h2, h3]; exact g2)
end
attribute [irreducible] TW RStep
end Go.Proofs.YtomlhekjgagjaaaDoor
namespace Go.Proofs.YtomlhekjgagjaaaDoor
set_option maxRecDepth 100000
set_option maxHeartbeats 16000000
open Go Go.RowKit
attribute [local irreducible] zZ zY Step zA Sub zL z8 Fn zH zS
def wG (ss : List (List Int)) : List PV := ss.map fun s => .sl (byts s)
theorem rowsT_len (ss : List (List Int)) : (wG ss).length = ss.length := List.length_map _
theorem rowsT_ones (ss : List (List Int)) : ∀ e ∈ wG ss, e.cells = [e] := fun e he => by
  obtain ⟨s, _, rfl⟩ := List.mem_map.1 he
  rfl
theorem rowsT_one (ss : List (List Int)) : ∀ e ∈ wG ss, e.cells.length = 1 := fun e he => by rw [rowsT_ones ss e he]; rfl
theorem rowsT_set (ss : List (List Int)) (k : Nat) (s : List Int) : wG (ss.set k s) = (wG ss).set k (.sl (byts s)) := by
  unfold wG
  rw [List.map_set]
theorem rowsT_app (ss : List (List Int)) : [] ++ wG ss = wG ss := rfl
def mnS (L O : List zV) (z : Int) (p : Nat × Nat) : AS := { t := [(7, .p (.val (.bool true))), (9, .p (.sl (L.map zV.V))), (19, .p (.sl (O.map zV.V))), (21, .p (.val (.int .u64 z))), (22, .p (.val (.int .i64 (p.1 : Nat)))), (23, .p (.val (.int .i64 (p.2 : Nat))))], s := [] }
theorem off_at {L : List zV} {z : Int} {j : Nat} {e : zV} (he : L[j]? = some e) :
    (vP z e = true → (L.filter (vP z))[((L.take j).filter (vP z)).length]? = some e ∧ ((L.take (j + 1)).filter (vP z)).length = ((L.take j).filter (vP z)).length + 1) ∧
    (vP z e = false → ((L.take (j + 1)).filter (vP z)).length = ((L.take j).filter (vP z)).length) := by
  have hlt := (List.getElem?_eq_some_iff.1 he).1
  have hd : L.drop j = e :: L.drop (j + 1) := by
    rw [List.drop_eq_getElem_cons hlt]
    rw [List.getElem?_eq_getElem hlt] at he
    rw [Option.some.inj he]
  have ht : L.take (j + 1) = L.take j ++ [e] := by rw [List.take_add_one, he]; rfl
  have hs : L = L.take j ++ (e :: L.drop (j + 1)) := by rw [← hd, List.take_append_drop]
  refine ⟨fun h => ⟨?_, ?_⟩, fun h => ?_⟩
  · have e1 : L.filter (vP z) = (L.take j).filter (vP z) ++ (e :: (L.drop (j + 1)).filter (vP z)) := by
      conv => lhs; rw [hs]
      rw [List.filter_append, List.filter_cons, if_pos h]
    rw [e1, List.getElem?_append_right (Nat.le_refl _), Nat.sub_self]
    rfl
  · rw [ht, List.filter_append, List.length_append, List.filter_cons, if_pos h]
    rfl
  · rw [ht, List.filter_append, List.length_append, List.filter_cons, h]
    rfl
theorem le_sumL : ∀ {l : List Nat} {a : Nat}, a ∈ l → a ≤ l.sum
  | x :: r, a, h => by
    rw [List.sum_cons]
    rcases List.mem_cons.1 h with rfl | h
    · omega
    · have := le_sumL h
      omega
theorem mtorn_fn (ss : List (List Int)) (at_ st cut : Int) (hb : ∀ s ∈ ss, yI s ∧ s.length ≤ 140737488351232) (hn : ss.length * 24 ≤ 140737488351232) (hat : 0 ≤ at_ ∧ at_ < 256) (hst : U st) (hcut : 0 ≤ cut ∧ cut < 256) :
    Fn Tryd.prog 6 [.agg [.sl (wG ss), .val (.int .u8 at_), .val (.int .u64 st), .val (.int .u8 cut)]] (.p (.val (.bool true))) := by
  have sh := shown22_fn
  have fw := few_any2 ss hb hn
  have fw : Fn Tryd.prog 11 [.sl (wG ss)] (.p (.val (.bool (fewL ss)))) := fw
  have hlr := rowsT_len ss
  cases hf : fewL ss
  case false =>
    rw [hf] at fw
    refine wU Tryd.func6 rfl Tryd.ntmps6 (Nat.le_of_ble_eq_true rfl) ?_
    repeat' (first | (refine zY.is ?_; first | refine zY.seq ?_ | (refine zY.iq 0 ?_; refine zY.rqa _ K_5 K_1 ?_; refine zZ.m rfl rfl (vQ rfl rfl rfl (by decide)) ?_; refine zZ.va rfl rfl rfl rfl (by decide) ?_; refine zZ.nil ?_) | (refine zY.iq 1 ?_; refine zY.rqh _ K_9 K_1 ?_; refine zZ.v rfl rfl (zJ rfl rfl rfl (by decide)) ?_; refine zZ.v rfl rfl (zB rfl rfl rfl rfl rfl (by decide)) ?_; refine zZ.va rfl rfl rfl rfl (by decide) ?_; refine zZ.nil ?_) | (refine zY.iq 2 ?_; refine zY.rqh _ K_11 K_1 ?_; refine zZ.v rfl rfl (zJ rfl rfl rfl (by decide)) ?_; refine zZ.v rfl rfl (zB rfl rfl rfl rfl rfl (by decide)) ?_; refine zZ.va rfl rfl rfl rfl (by decide) ?_; refine zZ.nil ?_) | (refine zY.iq 3 ?_; refine zY.rqh _ K_1k K_1 ?_; refine zZ.v rfl rfl (zJ rfl rfl rfl (by decide)) ?_; refine zZ.v rfl rfl (zB rfl rfl rfl rfl rfl (by decide)) ?_; refine zZ.va rfl rfl rfl rfl (by decide) ?_; refine zZ.nil ?_) | (refine zY.iq 4 ?_; refine zY.rqh _ K_29 K_1 ?_; refine zZ.v rfl rfl (zJ rfl rfl rfl (by decide)) ?_; refine zZ.v rfl rfl (zB rfl rfl rfl rfl rfl (by decide)) ?_; refine zZ.va rfl rfl rfl rfl (by decide) ?_; refine zZ.nil ?_) | (refine zY.iq 5 ?_; refine zY.rqf _ K_2a K_1 ?_; refine zZ.v rfl rfl (by exact yE (sh) rfl rfl rfl (by decide)) ?_; refine zZ.va rfl rfl rfl rfl (by decide) ?_; refine zZ.nil ?_) | (refine zY.iq 6 ?_; refine zY.rqf _ K_1e K_1 ?_; all_goals (refine zZ.vm rfl rfl rfl rfl (by decide) ?_); all_goals (refine zZ.v rfl rfl (by exact yE (fw) rfl rfl rfl (by decide)) ?_); all_goals (refine zZ.v rfl rfl (by exact xR rfl rfl (by exact bT (by decide)) rfl (by decide)) ?_); all_goals (refine zZ.vm rfl rfl rfl rfl (by decide) ?_); all_goals (refine zZ.gnF rfl rfl (by decide) rfl (by rfl) rfl (by decide) ?_); all_goals (refine zZ.gnF rfl rfl (by decide) rfl (by rfl) rfl (by decide) ?_); all_goals (refine zZ.gnF rfl rfl (by decide) rfl (by rfl) rfl (by decide) ?_); all_goals (refine zZ.v rfl rfl (zR rfl rfl (by rfl) rfl rfl (by decide)) ?_); all_goals (refine zZ.nil ?_)) | (refine zY.iq 7 ?_; refine zY.rqf _ K_1e K_1 ?_; refine zZ.vm rfl rfl rfl rfl (by decide) ?_; refine zZ.va rfl rfl rfl rfl (by decide) ?_; refine zZ.nil ?_) | refine zY.yC rfl (by rfl) ?_ | refine zY.ret ?_) | refine zH.n ?_ | refine zH.r ?_)
    all_goals exact ⟨.inl rfl, _, Sub.refl _, xG.p rfl (.tmp rfl)⟩
  case true =>
    rw [hf] at fw
    unfold fewL at hf
    rw [Bool.and_eq_true, decide_eq_true_eq, decide_eq_true_eq] at hf
    refine wU Tryd.func6 rfl Tryd.ntmps6 (Nat.le_of_ble_eq_true rfl) ?_
    by_cases h2 : ss.length < 2
    case pos =>
      have c1 : decide (((wG ss).length : Int) < 2) = true := decide_eq_true (by rw [hlr]; omega)
      repeat' (first | (refine zY.is ?_; first | refine zY.seq ?_ | (refine zY.iq 0 ?_; refine zY.rqa _ K_5 K_1 ?_; refine zZ.m rfl rfl (vQ rfl rfl rfl (by decide)) ?_; refine zZ.va rfl rfl rfl rfl (by decide) ?_; refine zZ.nil ?_) | (refine zY.iq 1 ?_; refine zY.rqh _ K_9 K_1 ?_; refine zZ.v rfl rfl (zJ rfl rfl rfl (by decide)) ?_; refine zZ.v rfl rfl (zB rfl rfl rfl (by rfl) rfl (by decide)) ?_; refine zZ.va rfl rfl rfl rfl (by decide) ?_; refine zZ.nil ?_) | (refine zY.iq 2 ?_; refine zY.rqh _ K_11 K_1 ?_; refine zZ.v rfl rfl (zJ rfl rfl rfl (by decide)) ?_; refine zZ.v rfl rfl (zB rfl rfl rfl (by rfl) rfl (by decide)) ?_; refine zZ.va rfl rfl rfl rfl (by decide) ?_; refine zZ.nil ?_) | (refine zY.iq 3 ?_; refine zY.rqh _ K_1k K_1 ?_; refine zZ.v rfl rfl (zJ rfl rfl rfl (by decide)) ?_; refine zZ.v rfl rfl (zB rfl rfl rfl (by rfl) rfl (by decide)) ?_; refine zZ.va rfl rfl rfl rfl (by decide) ?_; refine zZ.nil ?_) | (refine zY.iq 4 ?_; refine zY.rqh _ K_29 K_1 ?_; refine zZ.v rfl rfl (zJ rfl rfl rfl (by decide)) ?_; refine zZ.v rfl rfl (zB rfl rfl rfl (by rfl) rfl (by decide)) ?_; refine zZ.va rfl rfl rfl rfl (by decide) ?_; refine zZ.nil ?_) | (refine zY.iq 5 ?_; refine zY.rqf _ K_2a K_1 ?_; refine zZ.v rfl rfl (by exact yE (sh) rfl rfl rfl (by decide)) ?_; refine zZ.va rfl rfl rfl rfl (by decide) ?_; refine zZ.nil ?_) | (refine zY.iq 6 ?_; refine zY.rqf _ K_1e K_1 ?_; all_goals (refine zZ.vm rfl rfl rfl rfl (by decide) ?_); all_goals (refine zZ.v rfl rfl (by exact yE (fw) rfl rfl rfl (by decide)) ?_); all_goals (refine zZ.v rfl rfl (by exact xR rfl rfl (by exact bF (by decide)) rfl (by decide)) ?_); all_goals (refine zZ.vm rfl rfl rfl rfl (by decide) ?_); all_goals (refine zZ.gY rfl rfl (by decide) rfl (by rfl) rfl (by decide) (zQ rfl rfl rfl (by decide)) ?_); all_goals (refine zZ.gY rfl rfl (by decide) rfl (by rfl) rfl (by decide) (yL rfl rfl rfl (by decide)) ?_); all_goals (refine zZ.gY rfl rfl (by decide) rfl (by rfl) rfl (by decide) (yZ rfl rfl rfl c1 rfl (by decide)) ?_); all_goals (refine zZ.v rfl rfl (zM rfl rfl (by rfl) rfl rfl (by decide)) ?_); all_goals (refine zZ.nil ?_)) | (refine zY.iq 7 ?_; refine zY.rqf _ K_1e K_1 ?_; refine zZ.vm rfl rfl rfl rfl (by decide) ?_; refine zZ.va rfl rfl rfl rfl (by decide) ?_; refine zZ.nil ?_) | refine zY.yC rfl (by first | assumption | with_reducible rfl) ?_ | refine zY.ret ?_) | refine zH.n ?_ | refine zH.r ?_)
      all_goals exact ⟨.inl rfl, _, Sub.refl _, xG.p rfl (.tmp rfl)⟩
    case neg =>
      have c1 : decide (((wG ss).length : Int) < 2) = false := decide_eq_false (by rw [hlr]; omega)
      have hb1 : ∀ s ∈ ss, yI s := fun s hs => (hb s hs).1
      obtain ⟨m, hm⟩ : ∃ m : Nat, m = at_.toNat % (ss.length - 1) := ⟨_, rfl⟩
      have hml : m < ss.length - 1 := by rw [hm]; exact Nat.mod_lt _ (by omega)
      obtain ⟨k, hk⟩ : ∃ k : Nat, k = 1 + m := ⟨_, rfl⟩
      have w1 : IntKind.i64.wrap at_ = at_ := wrap_i64 _ (by omega)
      have w2 : IntKind.i64.wrap ((((wG ss).length : Nat) : Int) - 1) = ((ss.length - 1 : Nat) : Int) := by rw [hlr, wrap_i64 _ (by omega)]; omega
      have w3 : at_.tmod ((ss.length - 1 : Nat) : Int) = ((m : Nat) : Int) := by
        rw [Int.tmod_eq_emod_of_nonneg hat.1, hm]
        obtain ⟨a, ha⟩ : ∃ a : Nat, at_ = a := ⟨at_.toNat, by omega⟩
        subst ha
        rfl
      have hnz : ((ss.length - 1 : Nat) : Int) ≠ 0 := by omega
      have w4 : IntKind.i64.wrap (1 + ((m : Nat) : Int)) = ((k : Nat) : Int) := by rw [wrap_i64 _ (by omega)]; omega
      obtain ⟨s, hs⟩ : ∃ s, ss[k]? = some s := ⟨_, List.getElem?_eq_getElem (by omega)⟩
      have hsb := hb1 s (List.mem_of_getElem? hs)
      have hsl : s.length ≤ 3000 := by
        have : s.length ≤ total ss := by
          unfold total
          exact le_sumL (List.mem_map.2 ⟨s, List.mem_of_getElem? hs, rfl⟩)
        omega
      obtain ⟨hu1, hu2, hu3⟩ := used_all hsb
      obtain ⟨z, hz⟩ : ∃ z, z = 1 + st / 8 := ⟨_, rfl⟩
      have z0 : U 0 := ⟨by decide, by decide⟩
      have hst1 := hst.1
      have hst2 := hst.2
      have zU : U z := ⟨by omega, by omega⟩
      have x1 : IntKind.u64.wrap (1 + st / 8) = z := by rw [hz]; exact wrap_u64 _ (by omega)
      have x2 : st / 2 ^ (3 : Int).toNat = st / 8 := rfl
      have zmay : (yS z).may = true := by
        show qP 2 z 0 0 0 0 = true
        unfold qP stampB
        rw [if_neg (by decide), if_pos rfl, decide_eq_true ⟨by omega, by omega⟩]
        rfl
      have zok : (yS z).ok := ⟨zU, z0, z0, z0, z0⟩
      have zdec := decE_enc zok zmay
      have zput := enc_put (yS z)
      have zF : (yS z).F = xD (yS z).enc := by rw [entF_may, if_pos zmay]
      have zlen : (yS z).F.length = 15 := by rw [zF, vE, enc_len]; rfl
      have bd := bytesRef_fn 2 z 0 0 0 0 zU z0 z0 z0 z0
      have bd : Fn Tryd.prog 24 [entV 2 z 0 0 0 0] (.p (.sl (byts (yS z).F))) := bd
      have sp := splitA_fn s hsb (by omega)
      obtain ⟨c, hc⟩ : ∃ c : Nat, c = cut.toNat % 15 := ⟨_, rfl⟩
      have y1 : IntKind.i64.wrap cut = cut := wrap_i64 _ (by omega)
      have y2 : cut.tmod (((yS z).F.length : Nat) : Int) = ((c : Nat) : Int) := by
        rw [zlen, Int.tmod_eq_emod_of_nonneg hcut.1, hc]
        obtain ⟨a, ha⟩ : ∃ a : Nat, cut = a := ⟨cut.toNat, by omega⟩
        subst ha
        rfl
      have ynz : (((yS z).F.length : Nat) : Int) ≠ 0 := by rw [zlen]; decide
      have hc15 : c < 15 := by rw [hc]; exact Nat.mod_lt _ (by decide)
      have i1 : (0 : Int) ≤ ((xS s : Nat) : Int) ∧ ((xS s : Nat) : Int) ≤ ((s.length : Nat) : Int) := by omega
      have i2 : (0 : Int) ≤ ((c : Nat) : Int) ∧ ((c : Nat) : Int) ≤ (((yS z).F.length : Nat) : Int) := by rw [zlen]; omega
      have hT := rows_torn hu1 zput (k := c) (by rw [← zF, zlen]; exact hc15)
      have hW := rows_whole hu1 zput
      rw [← hu2, ← zF] at hT hW
      have hbT : yI (s.take (xS s) ++ (yS z).F.take c) := fun x hx => by
        rcases List.mem_append.1 hx with hx | hx
        · exact hsb x (List.mem_of_mem_take hx)
        · have := List.mem_of_mem_take hx
          rw [zF] at this
          exact putF_range (enc_bytes zok) x this
      have hbW : yI (s.take (xS s) ++ (yS z).F) := fun x hx => by
        rcases List.mem_append.1 hx with hx | hx
        · exact hsb x (List.mem_of_mem_take hx)
        · rw [zF] at hx
          exact putF_range (enc_bytes zok) x hx
      have lT : (s.take (xS s)).length ≤ 3000 := by rw [List.length_take]; omega
      have q1 : ([] : List Int).length + (s.take ((xS s : Nat) : Int).toNat).length ≤ 140737488355328 := by rw [List.length_nil, Int.toNat_natCast]; omega
      have q2 : ([] ++ s.take ((xS s : Nat) : Int).toNat).length + ((yS z).F.take ((c : Nat) : Int).toNat).length ≤ 140737488355328 := by
        rw [List.nil_append, Int.toNat_natCast, Int.toNat_natCast, List.length_take (l := (yS z).F)]
        omega
      have q3 : ([] ++ s.take ((xS s : Nat) : Int).toNat).length + (yS z).F.length ≤ 140737488355328 := by
        rw [List.nil_append, Int.toNat_natCast]
        omega
      have tot : ∀ t : List Int, t.length ≤ 3015 → total (ss.set k t) ≤ 100000 := fun t ht => by
        have h8 := total_of2 (ss.set k t) 6015 (fun x hx => by
          rcases List.mem_or_eq_of_mem_set hx with hx | rfl
          · have : x.length ≤ total ss := by
              unfold total
              exact le_sumL (List.mem_map.2 ⟨x, hx, rfl⟩)
            omega
          · omega)
        rw [List.length_set] at h8
        have : ss.length * 6015 ≤ 8 * 6015 := Nat.mul_le_mul_right _ (by omega)
        omega
      have bset : ∀ t : List Int, yI t → ∀ x ∈ ss.set k t, yI x := fun t ht x hx => by
        rcases List.mem_or_eq_of_mem_set hx with hx | rfl
        · exact hb1 x hx
        · exact ht
      have lv := mLive_fn ss 100 hb1 (by omega) (by omega)
      have lT2 : (s.take (xS s) ++ (yS z).F.take c).length ≤ 3015 := by rw [List.length_append, List.length_take (l := (yS z).F)]; omega
      have lW2 : (s.take (xS s) ++ (yS z).F).length ≤ 3015 := by rw [List.length_append]; omega
      have lm := mLive_fn (ss.set k (s.take (xS s) ++ (yS z).F.take c)) 100 (bset _ hbT) (by rw [List.length_set]; omega) (tot _ lT2)
      have lo := mLive_fn (ss.set k (s.take (xS s) ++ (yS z).F)) 100 (bset _ hbW) (by rw [List.length_set]; omega) (tot _ lW2)
      rw [torn_same hT hs] at lm
      have hmore : ∀ L, wV ss 100 = (L, 0) → wV (ss.set k (s.take (xS s) ++ (yS z).F)) 100 = (L.filter (vP z), 0) := fun L hL => torn_more hb1 (by omega) hs hbW (by omega) hW zdec hL
      have hres : (∃ L, wV ss 100 = (L, 0)) ∨ wV ss 100 = ([], 8) := by
        unfold wV
        split
        · exact .inr rfl
        · unfold kG
          split
          · exact .inl ⟨_, rfl⟩
          · exact .inr rfl
      have hLl : (wV ss 100).1.length ≤ 1000000 := by
        have hk := (born_ok ss hb1).1
        have hf2 : (xB ss).lives.length ≤ (xB ss).born.length := List.length_filter_le _ _
        have hcase : (wV ss 100).1.length ≤ (xB ss).lives.length := by
          unfold wV
          split
          · exact Nat.zero_le _
          · unfold kG
            split
            · rw [(qJ _).length_eq]; exact Nat.le_refl _
            · exact Nat.zero_le _
        omega
      have e0 : ss.length ≤ 8 := hf.1
      have lv : Fn Tryd.prog 12 [.sl (wG ss), .val (.int .i64 100)] (.tup [.sl ((wV ss 100).1.map zV.V), .val (.int .i64 (wV ss 100).2)]) := lv
      have lm : Fn Tryd.prog 12 [.sl (([] ++ wG ss).set ((k : Nat) : Int).toNat (.sl (byts ([] ++ s.take ((xS s : Nat) : Int).toNat ++ (yS z).F.take ((c : Nat) : Int).toNat)))), .val (.int .i64 100)] (.tup [.sl ((wV ss 100).1.map zV.V), .val (.int .i64 (wV ss 100).2)]) := by
        rw [show vS (ss.set k (s.take (xS s) ++ (yS z).F.take c)) = .sl (wG (ss.set k (s.take (xS s) ++ (yS z).F.take c))) from rfl, rowsT_set] at lm
        exact lm
      have lo : Fn Tryd.prog 12 [.sl (([] ++ wG ss).set ((k : Nat) : Int).toNat (.sl (byts ([] ++ s.take ((xS s : Nat) : Int).toNat ++ (yS z).F)))), .val (.int .i64 100)] (.tup [.sl ((wV (ss.set k (s.take (xS s) ++ (yS z).F)) 100).1.map zV.V), .val (.int .i64 (wV (ss.set k (s.take (xS s) ++ (yS z).F)) 100).2)]) := by
        rw [show vS (ss.set k (s.take (xS s) ++ (yS z).F)) = .sl (wG (ss.set k (s.take (xS s) ++ (yS z).F))) from rfl, rowsT_set] at lo
        exact lo
      have g2 : (wG ss)[k]? = some (.sl (byts s)) := by unfold wG; rw [List.getElem?_map, hs]; rfl
      have o1 := rowsT_ones ss
      have o2 := rowsT_one ss
      have o3 : ∀ e ∈ [] ++ wG ss, e.cells.length = 1 := rowsT_one ss
      have d1 : (0 : Int) ≤ ((k : Nat) : Int) ∧ ((k : Nat) : Int) < ((([] ++ wG ss).length : Nat) : Int) := by rw [rowsT_app, hlr]; omega
      have v1 : k < ([] ++ wG ss).length := by rw [rowsT_app, hlr]; omega
      have u1 : (([] : List PV).length + (wG ss).length) * 24 ≤ 140737488355328 ∧ ([] : List PV).length + (wG ss).length ≤ maxLen := by
        rw [List.length_nil, hlr]
        exact ⟨by omega, Nat.le_trans (show 0 + ss.length ≤ 8 by omega) (by decide)⟩
      have s1 := same_fn (wV ss 100).1 (wV ss 100).1 hLl hLl true (by simp)
      have r1 : (!decide ((wV ss 100).2 = (wV ss 100).2)) = false := by rw [decide_eq_true rfl]; rfl
      have hzp : 0 < z := by omega
      have hzv : z = 1 + st / 8 := hz
      clear hT hW hbT hbW lT lT2 lW2 tot bset hb hb1 hn zmay zok zdec zput zF zlen hu1 hu2 hu3 hs hsb hf hc15 hc hm hml hk hz hsl h2 zU
      generalize hF : (yS z).F = D at *
      generalize xS s = u at *
      generalize hRW : wV (ss.set k (s.take u ++ D)) 100 = RW at *
      rcases hres with ⟨L, hL⟩ | hL
      case inr =>
        rw [hL] at lv lm s1 r1
        have lv : Fn Tryd.prog 12 [.sl (wG ss), .val (.int .i64 100)] (.tup [.sl [], .val (.int .i64 8)]) := lv
        have lm : Fn Tryd.prog 12 [.sl (([] ++ wG ss).set ((k : Nat) : Int).toNat (.sl (byts ([] ++ s.take ((u : Nat) : Int).toNat ++ D.take ((c : Nat) : Int).toNat)))), .val (.int .i64 100)] (.tup [.sl [], .val (.int .i64 8)]) := lm
        have s1 : Fn Tryd.prog 14 [.sl [], .sl []] (.p (.val (.bool true))) := s1
        clear hmore hLl hF
        repeat' (first | refine zZ.sub (wR (d := 118) rfl rfl) ?_ | (refine zZ.is ?_; first | refine zZ.nil ?_ | refine zZ.v rfl rfl (by first | exact yY rfl rfl rfl o2 g2 rfl (by decide) | exact qO rfl rfl rfl rfl d1 rfl (by decide) | exact zP rfl rfl rfl rfl (by decide) | exact zQ rfl rfl rfl (by decide) | exact yJ rfl rfl rfl (by decide) | exact w_sliceHB rfl rfl rfl i1 rfl (by decide)) ?_ | refine zZ.m rfl rfl (wC rfl rfl (by decide)) ?_ | refine zZ.w rfl (by first | exact kZ rfl rfl rfl rfl (by first | exact q1 | exact q3) rfl rfl (by decide) | exact w_storeV rfl rfl rfl rfl rfl o2 (by rfl) rfl v1 rfl) ?_) | (refine zY.is ?_; first | refine zY.seq ?_ | (refine zY.iq 0 ?_; refine zY.rqa _ K_5 K_1 ?_; refine zZ.m rfl rfl (vQ rfl rfl rfl (by decide)) ?_; refine zZ.va rfl rfl rfl rfl (by decide) ?_; refine zZ.nil ?_) | (refine zY.iq 1 ?_; refine zY.rqh _ K_9 K_1 ?_; refine zZ.v rfl rfl (zJ rfl rfl rfl (by decide)) ?_; refine zZ.v rfl rfl (zB rfl rfl rfl (by rfl) rfl (by decide)) ?_; refine zZ.va rfl rfl rfl rfl (by decide) ?_; refine zZ.nil ?_) | (refine zY.iq 2 ?_; refine zY.rqh _ K_11 K_1 ?_; refine zZ.v rfl rfl (zJ rfl rfl rfl (by decide)) ?_; refine zZ.v rfl rfl (zB rfl rfl rfl (by rfl) rfl (by decide)) ?_; refine zZ.va rfl rfl rfl rfl (by decide) ?_; refine zZ.nil ?_) | (refine zY.iq 3 ?_; refine zY.rqh _ K_1k K_1 ?_; refine zZ.v rfl rfl (zJ rfl rfl rfl (by decide)) ?_; refine zZ.v rfl rfl (zB rfl rfl rfl (by rfl) rfl (by decide)) ?_; refine zZ.va rfl rfl rfl rfl (by decide) ?_; refine zZ.nil ?_) | (refine zY.iq 4 ?_; refine zY.rqh _ K_29 K_1 ?_; refine zZ.v rfl rfl (zJ rfl rfl rfl (by decide)) ?_; refine zZ.v rfl rfl (zB rfl rfl rfl (by rfl) rfl (by decide)) ?_; refine zZ.va rfl rfl rfl rfl (by decide) ?_; refine zZ.nil ?_) | (refine zY.iq 5 ?_; refine zY.rqf _ K_2a K_1 ?_; refine zZ.v rfl rfl (by exact yE (sh) rfl rfl rfl (by decide)) ?_; refine zZ.va rfl rfl rfl rfl (by decide) ?_; refine zZ.nil ?_) | (refine zY.iq 6 ?_; refine zY.rqf _ K_1e K_1 ?_; all_goals (refine zZ.vm rfl rfl rfl rfl (by decide) ?_); all_goals (refine zZ.v rfl rfl (by exact yE (fw) rfl rfl rfl (by decide)) ?_); all_goals (refine zZ.v rfl rfl (xR rfl rfl r1 rfl (by decide)) ?_); all_goals (refine zZ.vm rfl rfl rfl rfl (by decide) ?_); all_goals (refine zZ.gY rfl rfl (by decide) rfl (by assumption) rfl (by decide) (zQ rfl rfl rfl (by decide)) ?_); all_goals (refine zZ.gY rfl rfl (by decide) rfl (by assumption) rfl (by decide) (yL rfl rfl rfl (by decide)) ?_); all_goals (refine zZ.gY rfl rfl (by decide) rfl (by assumption) rfl (by decide) (yZ rfl rfl rfl c1 rfl (by decide)) ?_); all_goals (refine zZ.v rfl rfl (by exact zM rfl rfl (by assumption) rfl rfl (by decide)) ?_); all_goals (refine zZ.nil ?_)) | (refine zY.iq 8 ?_; refine zY.rqf _ K_1e K_1 ?_; refine zZ.vm rfl rfl rfl rfl (by decide) ?_; refine zZ.v rfl rfl (xZ rfl rfl w1 rfl (by decide)) ?_; refine zZ.vm rfl rfl rfl rfl (by decide) ?_; refine zZ.v rfl rfl (yL rfl rfl rfl (by decide)) ?_; refine zZ.v rfl rfl (w9 rfl rfl rfl w2 rfl (by decide)) ?_; refine zZ.v rfl rfl (by exact a_rem rfl rfl rfl (by omega) w3 rfl (by decide)) ?_; refine zZ.v rfl rfl (yX rfl rfl rfl w4 rfl (by decide)) ?_; refine zZ.va rfl rfl rfl rfl (by decide) ?_; refine zZ.nil ?_) | (refine zY.iq 9 ?_; refine zY.rqf _ K_38 K_1 ?_; refine zZ.vm rfl rfl rfl rfl (by decide) ?_; refine zZ.v rfl rfl (by exact y9 (lv) rfl rfl rfl (by decide)) ?_; refine zZ.v rfl rfl (yG rfl rfl rfl (by decide)) ?_; refine zZ.v rfl rfl (zC rfl rfl rfl rfl (by decide)) ?_; refine zZ.v rfl rfl (zC rfl rfl rfl rfl (by decide)) ?_; refine zZ.va rfl rfl rfl rfl (by decide) ?_; refine zZ.va rfl rfl rfl rfl (by decide) ?_; refine zZ.nil ?_) | (refine zY.iq 10 ?_; refine zY.rqf _ K_39 K_1 ?_; refine zZ.vm rfl rfl rfl rfl (by decide) ?_; refine zZ.v rfl rfl (a_shr rfl rfl rfl (by decide) (by decide) x2 rfl (by decide)) ?_; refine zZ.v rfl rfl (yX rfl rfl rfl x1 rfl (by decide)) ?_; refine zZ.v rfl rfl (vV rfl (by rfl) (by rfl) (by rfl) (by rfl) rfl (by decide)) ?_; refine zZ.v rfl rfl (by exact yE (bd) rfl rfl rfl (by decide)) ?_; refine zZ.va rfl rfl rfl rfl (by decide) ?_; refine zZ.nil ?_) | (refine zY.iq 11 ?_; refine zY.rqf _ K_3a K_1 ?_; refine zZ.vm rfl rfl rfl rfl (by decide) ?_; refine zZ.vm rfl rfl rfl rfl (by decide) ?_; refine zZ.v rfl rfl (yY rfl rfl rfl o2 g2 rfl (by decide)) ?_; refine zZ.v rfl rfl (zP rfl rfl rfl rfl (by decide)) ?_; refine zZ.v rfl rfl (by exact y9 (sp) rfl rfl rfl (by decide)) ?_; refine zZ.v rfl rfl (yG rfl rfl rfl (by decide)) ?_; refine zZ.v rfl rfl (zC rfl rfl rfl rfl (by decide)) ?_; refine zZ.v rfl rfl (zC rfl rfl rfl rfl (by decide)) ?_; refine zZ.va rfl rfl rfl rfl (by decide) ?_; refine zZ.va rfl rfl rfl rfl (by decide) ?_; refine zZ.nil ?_) | (refine zY.isR (id := 12) ?_; refine zY.xE [2, 3, 5, 6, 7, 8, 9, 10, 11, 13] [1, 67, 83, 104, 109] (by repeat' first | exact zX.nil | apply zX.p rfl) (by repeat' first | exact zW.nil | apply zW.boxP rfl rfl | apply zW.skip) (zY.drawsP [1, 2, 3, 4, 5, 6, 8, 9, 10, 11, 12, 13, 14, 0, 7, 15, 16] (by kernel_rfl) (by kernel_rfl) ?_); refine yP.v rfl rfl (zQ rfl rfl rfl (by decide)) ?_; refine yP.v rfl rfl (zQ rfl rfl rfl (by decide)) ?_; refine yP.v rfl rfl (yY rfl rfl rfl o2 g2 rfl (by decide)) ?_; refine yP.v rfl rfl (zP rfl rfl rfl rfl (by decide)) ?_; refine yP.v rfl rfl (zQ rfl rfl rfl (by decide)) ?_; refine yP.v rfl rfl (w_sliceHB rfl rfl rfl i1 rfl (by decide)) ?_; refine yP.v rfl rfl (zQ rfl rfl rfl (by decide)) ?_; refine yP.v rfl rfl (zQ rfl rfl rfl (by decide)) ?_; refine yP.v rfl rfl (xZ rfl rfl y1 rfl (by decide)) ?_; refine yP.v rfl rfl (zQ rfl rfl rfl (by decide)) ?_; refine yP.v rfl rfl (xH rfl rfl rfl (by decide)) ?_; refine yP.v rfl rfl (by exact a_rem rfl rfl rfl (by omega) y2 rfl (by decide)) ?_; refine yP.v rfl rfl (w_sliceHB rfl rfl rfl i2 rfl (by decide)) ?_; refine yP.tail (by kernel_rfl) (by kernel_rfl) ?_; repeat' (first | refine TW.m rfl rfl (wC rfl rfl (by decide)) ?_ | refine TW.r rfl rfl (by exact r_appB rfl rfl rfl rfl (by first | exact q1 | exact q2) rfl rfl (by decide)) ?_ | refine TW.v rfl rfl (zN rfl rfl rfl (by decide)) ?_ | refine TW.nil (by kernel_rfl) ?_)) | (refine zY.isR (id := 13) ?_; refine zY.zK [2, 3, 5, 7, 8, 9, 10, 11, 13, 14] [1, 67, 83, 104, 109] (by repeat' first | exact zX.nil | apply zX.p rfl | apply zX.own rfl) (by repeat' first | exact zW.nil | apply zW.boxP rfl rfl | apply zW.wP rfl | apply zW.skip) ?_; refine zZ.m rfl rfl (wC rfl rfl (by decide)) ?_; refine zZ.vm rfl rfl rfl rfl (by decide) ?_; refine zZ.w rfl (qF rfl rfl rfl rfl o2 u1 rfl (by decide) rfl (by decide)) ?_; refine zZ.v rfl rfl (zN rfl rfl rfl (by decide)) ?_; refine zZ.nil ?_) | (refine zY.isR (id := 14) ?_; refine zY.sub ((sub_frzB 67 rfl)) ?_; refine zY.zK [2, 3, 5, 7, 8, 9, 10, 11, 13, 14, 15] [1, 67, 83, 104, 109] (by repeat' first | exact zX.nil | apply zX.p rfl | apply zX.own rfl) (by repeat' first | exact zW.nil | apply zW.boxP rfl rfl | apply zW.some rfl | apply zW.skip) ?_; refine zZ.v rfl rfl (yJ rfl rfl rfl (by decide)) ?_; refine zZ.vm rfl rfl rfl rfl (by decide) ?_; refine zZ.vm rfl rfl rfl rfl (by decide) ?_; refine zZ.v rfl rfl (qO rfl rfl rfl rfl d1 rfl (by decide)) ?_; refine zZ.w rfl (w_storeV rfl rfl rfl rfl rfl o2 (by rfl) rfl v1 rfl) ?_; refine zZ.nil ?_) | (refine zY.isR (id := 15) ?_; refine zY.sub ((wS 83 35 1 _ rfl)) ?_; refine zY.rqf _ K_3b K_1 ?_; refine zZ.vm rfl rfl rfl rfl (by decide) ?_; refine zZ.v rfl rfl (by exact y9 (lm) rfl rfl rfl (by decide)) ?_; refine zZ.v rfl rfl (yG rfl rfl rfl (by decide)) ?_; refine zZ.v rfl rfl (zC rfl rfl rfl rfl (by decide)) ?_; refine zZ.v rfl rfl (zC rfl rfl rfl rfl (by decide)) ?_; refine zZ.va rfl rfl rfl rfl (by decide) ?_; refine zZ.va rfl rfl rfl rfl (by decide) ?_; refine zZ.nil ?_) | (refine zY.iq 16 ?_; refine zY.rqf _ K_3c K_1 ?_; all_goals (refine zZ.vm rfl rfl rfl rfl (by decide) ?_); all_goals (refine zZ.vm rfl rfl rfl rfl (by decide) ?_); all_goals (refine zZ.v rfl rfl (vJ rfl rfl rfl r1 rfl (by decide)) ?_); all_goals (refine zZ.vm rfl rfl rfl rfl (by decide) ?_); all_goals (refine zZ.gY rfl rfl (by decide) rfl (by assumption) rfl (by decide) (zQ rfl rfl rfl (by decide)) ?_); all_goals (refine zZ.gY rfl rfl (by decide) rfl (by assumption) rfl (by decide) (zQ rfl rfl rfl (by decide)) ?_); all_goals (refine zZ.gY rfl rfl (by decide) rfl (by assumption) rfl (by decide) (by exact yE (s1) rfl rfl rfl (by decide)) ?_); all_goals (refine zZ.gY rfl rfl (by decide) rfl (by assumption) rfl (by decide) (xR rfl rfl r1 rfl (by decide)) ?_); all_goals (refine zZ.v rfl rfl (by exact zM rfl rfl (by assumption) rfl rfl (by decide)) ?_); all_goals (refine zZ.nil ?_)) | (refine zY.iq 18 ?_; refine zY.rqf _ K_3d K_1 ?_; refine zZ.m rfl rfl (wC rfl rfl (by decide)) ?_; refine zZ.vm rfl rfl rfl rfl (by decide) ?_; refine zZ.w rfl (qF rfl rfl rfl rfl o2 u1 rfl (by decide) rfl (by decide)) ?_; refine zZ.v rfl rfl (zN rfl rfl rfl (by decide)) ?_; refine zZ.nil ?_) | (refine zY.isR (id := 19) ?_; refine zY.zK [2, 3, 5, 7, 8, 9, 10, 11, 13, 18] [1, 67, 83, 104, 109] (by repeat' first | exact zX.nil | apply zX.p rfl | apply zX.own rfl) (by repeat' first | exact zW.nil | apply zW.boxP rfl rfl | apply zW.some rfl | apply zW.skip) ?_) | (refine zY.isR (id := 20) ?_; refine zY.sub ((wS 104 35 1 _ rfl)) ?_; refine zY.rqf _ K_3e K_1 ?_; refine zZ.vm rfl rfl rfl rfl (by decide) ?_; refine zZ.v rfl rfl (by exact y9 (lo) rfl rfl rfl (by decide)) ?_; refine zZ.v rfl rfl (yG rfl rfl rfl (by decide)) ?_; refine zZ.v rfl rfl (zC rfl rfl rfl rfl (by decide)) ?_; refine zZ.v rfl rfl (zC rfl rfl rfl rfl (by decide)) ?_; refine zZ.va rfl rfl rfl rfl (by decide) ?_; refine zZ.va rfl rfl rfl rfl (by decide) ?_; refine zZ.nil ?_) | (refine zY.iq 21 ?_; refine zY.rqf _ K_3f K_1 ?_; all_goals (refine zZ.vm rfl rfl rfl rfl (by decide) ?_); all_goals (refine zZ.v rfl rfl (by exact vJ rfl rfl rfl (by exact bT (by decide)) rfl (by decide)) ?_); all_goals (refine zZ.vm rfl rfl rfl rfl (by decide) ?_); all_goals (refine zZ.gnF rfl rfl (by decide) rfl (by rfl) rfl (by decide) ?_); all_goals (refine zZ.gnF rfl rfl (by decide) rfl (by rfl) rfl (by decide) ?_); all_goals (refine zZ.v rfl rfl (zR rfl rfl (by rfl) rfl rfl (by decide)) ?_); all_goals (refine zZ.nil ?_)) | (refine zY.iq 22 ?_; refine zY.rqf _ K_3g K_1 ?_; refine zZ.vm rfl rfl rfl rfl (by decide) ?_; refine zZ.va rfl rfl rfl rfl (by decide) ?_; refine zZ.nil ?_) | refine zY.yC rfl (by rfl) ?_ | refine zY.yF rfl (by assumption) ?_ | refine zY.skip ?_ | refine zY.ret ?_) | refine zH.n ?_ | refine zH.r ?_)
        all_goals exact ⟨.inl rfl, _, Sub.refl _, xG.p rfl (.tmp rfl)⟩
      case inl =>
        have hO := hmore L hL
        subst hO
        rw [hL] at lv lm s1 r1 hLl
        clear hmore hL hF
        have lv : Fn Tryd.prog 12 [.sl (wG ss), .val (.int .i64 100)] (.tup [.sl (L.map zV.V), .val (.int .i64 0)]) := lv
        have lm : Fn Tryd.prog 12 [.sl (([] ++ wG ss).set ((k : Nat) : Int).toNat (.sl (byts ([] ++ s.take ((u : Nat) : Int).toNat ++ D.take ((c : Nat) : Int).toNat)))), .val (.int .i64 100)] (.tup [.sl (L.map zV.V), .val (.int .i64 0)]) := lm
        have lo : Fn Tryd.prog 12 [.sl (([] ++ wG ss).set ((k : Nat) : Int).toNat (.sl (byts ([] ++ s.take ((u : Nat) : Int).toNat ++ D)))), .val (.int .i64 100)] (.tup [.sl ((L.filter (vP z)).map zV.V), .val (.int .i64 0)]) := lo
        have s1 : Fn Tryd.prog 14 [.sl (L.map zV.V), .sl (L.map zV.V)] (.p (.val (.bool true))) := s1
        have hLl : L.length ≤ 1000000 := hLl
        have hcL := yU L
        have hcO := yU (L.filter (vP z))
        have hlL : (L.map zV.V).length = L.length := by rw [List.length_map]
        have hlO : ((L.filter (vP z)).map zV.V).length = (L.filter (vP z)).length := by rw [List.length_map]
        have hOL : (L.filter (vP z)).length ≤ L.length := List.length_filter_le _ _
        repeat' (first | refine zZ.sub (wR (d := 118) rfl rfl) ?_ | (refine zZ.is ?_; first | refine zZ.nil ?_ | refine zZ.v rfl rfl (by first | exact yY rfl rfl rfl o2 g2 rfl (by decide) | exact qO rfl rfl rfl rfl d1 rfl (by decide) | exact zP rfl rfl rfl rfl (by decide) | exact zQ rfl rfl rfl (by decide) | exact yJ rfl rfl rfl (by decide) | exact w_sliceHB rfl rfl rfl i1 rfl (by decide)) ?_ | refine zZ.m rfl rfl (wC rfl rfl (by decide)) ?_ | refine zZ.w rfl (by first | exact kZ rfl rfl rfl rfl (by first | exact q1 | exact q3) rfl rfl (by decide) | exact w_storeV rfl rfl rfl rfl rfl o2 (by rfl) rfl v1 rfl) ?_) | (refine zY.is ?_; first | refine zY.seq ?_ | (refine zY.iq 0 ?_; refine zY.rqa _ K_5 K_1 ?_; refine zZ.m rfl rfl (vQ rfl rfl rfl (by decide)) ?_; refine zZ.va rfl rfl rfl rfl (by decide) ?_; refine zZ.nil ?_) | (refine zY.iq 1 ?_; refine zY.rqh _ K_9 K_1 ?_; refine zZ.v rfl rfl (zJ rfl rfl rfl (by decide)) ?_; refine zZ.v rfl rfl (zB rfl rfl rfl (by rfl) rfl (by decide)) ?_; refine zZ.va rfl rfl rfl rfl (by decide) ?_; refine zZ.nil ?_) | (refine zY.iq 2 ?_; refine zY.rqh _ K_11 K_1 ?_; refine zZ.v rfl rfl (zJ rfl rfl rfl (by decide)) ?_; refine zZ.v rfl rfl (zB rfl rfl rfl (by rfl) rfl (by decide)) ?_; refine zZ.va rfl rfl rfl rfl (by decide) ?_; refine zZ.nil ?_) | (refine zY.iq 3 ?_; refine zY.rqh _ K_1k K_1 ?_; refine zZ.v rfl rfl (zJ rfl rfl rfl (by decide)) ?_; refine zZ.v rfl rfl (zB rfl rfl rfl (by rfl) rfl (by decide)) ?_; refine zZ.va rfl rfl rfl rfl (by decide) ?_; refine zZ.nil ?_) | (refine zY.iq 4 ?_; refine zY.rqh _ K_29 K_1 ?_; refine zZ.v rfl rfl (zJ rfl rfl rfl (by decide)) ?_; refine zZ.v rfl rfl (zB rfl rfl rfl (by rfl) rfl (by decide)) ?_; refine zZ.va rfl rfl rfl rfl (by decide) ?_; refine zZ.nil ?_) | (refine zY.iq 5 ?_; refine zY.rqf _ K_2a K_1 ?_; refine zZ.v rfl rfl (by exact yE (sh) rfl rfl rfl (by decide)) ?_; refine zZ.va rfl rfl rfl rfl (by decide) ?_; refine zZ.nil ?_) | (refine zY.iq 6 ?_; refine zY.rqf _ K_1e K_1 ?_; all_goals (refine zZ.vm rfl rfl rfl rfl (by decide) ?_); all_goals (refine zZ.v rfl rfl (by exact yE (fw) rfl rfl rfl (by decide)) ?_); all_goals (refine zZ.v rfl rfl (xR rfl rfl r1 rfl (by decide)) ?_); all_goals (refine zZ.vm rfl rfl rfl rfl (by decide) ?_); all_goals (refine zZ.gY rfl rfl (by decide) rfl (by assumption) rfl (by decide) (zQ rfl rfl rfl (by decide)) ?_); all_goals (refine zZ.gY rfl rfl (by decide) rfl (by assumption) rfl (by decide) (yL rfl rfl rfl (by decide)) ?_); all_goals (refine zZ.gY rfl rfl (by decide) rfl (by assumption) rfl (by decide) (yZ rfl rfl rfl c1 rfl (by decide)) ?_); all_goals (refine zZ.v rfl rfl (by exact zM rfl rfl (by assumption) rfl rfl (by decide)) ?_); all_goals (refine zZ.nil ?_)) | (refine zY.iq 8 ?_; refine zY.rqf _ K_1e K_1 ?_; refine zZ.vm rfl rfl rfl rfl (by decide) ?_; refine zZ.v rfl rfl (xZ rfl rfl w1 rfl (by decide)) ?_; refine zZ.vm rfl rfl rfl rfl (by decide) ?_; refine zZ.v rfl rfl (yL rfl rfl rfl (by decide)) ?_; refine zZ.v rfl rfl (w9 rfl rfl rfl w2 rfl (by decide)) ?_; refine zZ.v rfl rfl (by exact a_rem rfl rfl rfl (by omega) w3 rfl (by decide)) ?_; refine zZ.v rfl rfl (yX rfl rfl rfl w4 rfl (by decide)) ?_; refine zZ.va rfl rfl rfl rfl (by decide) ?_; refine zZ.nil ?_) | (refine zY.iq 9 ?_; refine zY.rqf _ K_38 K_1 ?_; refine zZ.vm rfl rfl rfl rfl (by decide) ?_; refine zZ.v rfl rfl (by exact y9 (lv) rfl rfl rfl (by decide)) ?_; refine zZ.v rfl rfl (yG rfl rfl rfl (by decide)) ?_; refine zZ.v rfl rfl (zC rfl rfl rfl rfl (by decide)) ?_; refine zZ.v rfl rfl (zC rfl rfl rfl rfl (by decide)) ?_; refine zZ.va rfl rfl rfl rfl (by decide) ?_; refine zZ.va rfl rfl rfl rfl (by decide) ?_; refine zZ.nil ?_) | (refine zY.iq 10 ?_; refine zY.rqf _ K_39 K_1 ?_; refine zZ.vm rfl rfl rfl rfl (by decide) ?_; refine zZ.v rfl rfl (a_shr rfl rfl rfl (by decide) (by decide) x2 rfl (by decide)) ?_; refine zZ.v rfl rfl (yX rfl rfl rfl x1 rfl (by decide)) ?_; refine zZ.v rfl rfl (vV rfl (by rfl) (by rfl) (by rfl) (by rfl) rfl (by decide)) ?_; refine zZ.v rfl rfl (by exact yE (bd) rfl rfl rfl (by decide)) ?_; refine zZ.va rfl rfl rfl rfl (by decide) ?_; refine zZ.nil ?_) | (refine zY.iq 11 ?_; refine zY.rqf _ K_3a K_1 ?_; refine zZ.vm rfl rfl rfl rfl (by decide) ?_; refine zZ.vm rfl rfl rfl rfl (by decide) ?_; refine zZ.v rfl rfl (yY rfl rfl rfl o2 g2 rfl (by decide)) ?_; refine zZ.v rfl rfl (zP rfl rfl rfl rfl (by decide)) ?_; refine zZ.v rfl rfl (by exact y9 (sp) rfl rfl rfl (by decide)) ?_; refine zZ.v rfl rfl (yG rfl rfl rfl (by decide)) ?_; refine zZ.v rfl rfl (zC rfl rfl rfl rfl (by decide)) ?_; refine zZ.v rfl rfl (zC rfl rfl rfl rfl (by decide)) ?_; refine zZ.va rfl rfl rfl rfl (by decide) ?_; refine zZ.va rfl rfl rfl rfl (by decide) ?_; refine zZ.nil ?_) | (refine zY.isR (id := 12) ?_; refine zY.xE [2, 3, 5, 6, 7, 8, 9, 10, 11, 13] [1, 67, 83, 104, 109] (by repeat' first | exact zX.nil | apply zX.p rfl) (by repeat' first | exact zW.nil | apply zW.boxP rfl rfl | apply zW.skip) (zY.drawsP [1, 2, 3, 4, 5, 6, 8, 9, 10, 11, 12, 13, 14, 0, 7, 15, 16] (by kernel_rfl) (by kernel_rfl) ?_); refine yP.v rfl rfl (zQ rfl rfl rfl (by decide)) ?_; refine yP.v rfl rfl (zQ rfl rfl rfl (by decide)) ?_; refine yP.v rfl rfl (yY rfl rfl rfl o2 g2 rfl (by decide)) ?_; refine yP.v rfl rfl (zP rfl rfl rfl rfl (by decide)) ?_; refine yP.v rfl rfl (zQ rfl rfl rfl (by decide)) ?_; refine yP.v rfl rfl (w_sliceHB rfl rfl rfl i1 rfl (by decide)) ?_; refine yP.v rfl rfl (zQ rfl rfl rfl (by decide)) ?_; refine yP.v rfl rfl (zQ rfl rfl rfl (by decide)) ?_; refine yP.v rfl rfl (xZ rfl rfl y1 rfl (by decide)) ?_; refine yP.v rfl rfl (zQ rfl rfl rfl (by decide)) ?_; refine yP.v rfl rfl (xH rfl rfl rfl (by decide)) ?_; refine yP.v rfl rfl (by exact a_rem rfl rfl rfl (by omega) y2 rfl (by decide)) ?_; refine yP.v rfl rfl (w_sliceHB rfl rfl rfl i2 rfl (by decide)) ?_; refine yP.tail (by kernel_rfl) (by kernel_rfl) ?_; repeat' (first | refine TW.m rfl rfl (wC rfl rfl (by decide)) ?_ | refine TW.r rfl rfl (by exact r_appB rfl rfl rfl rfl (by first | exact q1 | exact q2) rfl rfl (by decide)) ?_ | refine TW.v rfl rfl (zN rfl rfl rfl (by decide)) ?_ | refine TW.nil (by kernel_rfl) ?_)) | (refine zY.isR (id := 13) ?_; refine zY.zK [2, 3, 5, 7, 8, 9, 10, 11, 13, 14] [1, 67, 83, 104, 109] (by repeat' first | exact zX.nil | apply zX.p rfl | apply zX.own rfl) (by repeat' first | exact zW.nil | apply zW.boxP rfl rfl | apply zW.wP rfl | apply zW.skip) ?_; refine zZ.m rfl rfl (wC rfl rfl (by decide)) ?_; refine zZ.vm rfl rfl rfl rfl (by decide) ?_; refine zZ.w rfl (qF rfl rfl rfl rfl o2 u1 rfl (by decide) rfl (by decide)) ?_; refine zZ.v rfl rfl (zN rfl rfl rfl (by decide)) ?_; refine zZ.nil ?_) | (refine zY.isR (id := 14) ?_; refine zY.sub ((sub_frzB 67 rfl)) ?_; refine zY.zK [2, 3, 5, 7, 8, 9, 10, 11, 13, 14, 15] [1, 67, 83, 104, 109] (by repeat' first | exact zX.nil | apply zX.p rfl | apply zX.own rfl) (by repeat' first | exact zW.nil | apply zW.boxP rfl rfl | apply zW.some rfl | apply zW.skip) ?_; refine zZ.v rfl rfl (yJ rfl rfl rfl (by decide)) ?_; refine zZ.vm rfl rfl rfl rfl (by decide) ?_; refine zZ.vm rfl rfl rfl rfl (by decide) ?_; refine zZ.v rfl rfl (qO rfl rfl rfl rfl d1 rfl (by decide)) ?_; refine zZ.w rfl (w_storeV rfl rfl rfl rfl rfl o2 (by rfl) rfl v1 rfl) ?_; refine zZ.nil ?_) | (refine zY.isR (id := 15) ?_; refine zY.sub ((wS 83 35 1 _ rfl)) ?_; refine zY.rqf _ K_3b K_1 ?_; refine zZ.vm rfl rfl rfl rfl (by decide) ?_; refine zZ.v rfl rfl (by exact y9 (lm) rfl rfl rfl (by decide)) ?_; refine zZ.v rfl rfl (yG rfl rfl rfl (by decide)) ?_; refine zZ.v rfl rfl (zC rfl rfl rfl rfl (by decide)) ?_; refine zZ.v rfl rfl (zC rfl rfl rfl rfl (by decide)) ?_; refine zZ.va rfl rfl rfl rfl (by decide) ?_; refine zZ.va rfl rfl rfl rfl (by decide) ?_; refine zZ.nil ?_) | (refine zY.iq 16 ?_; refine zY.rqf _ K_3c K_1 ?_; all_goals (refine zZ.vm rfl rfl rfl rfl (by decide) ?_); all_goals (refine zZ.vm rfl rfl rfl rfl (by decide) ?_); all_goals (refine zZ.v rfl rfl (vJ rfl rfl rfl r1 rfl (by decide)) ?_); all_goals (refine zZ.vm rfl rfl rfl rfl (by decide) ?_); all_goals (refine zZ.gY rfl rfl (by decide) rfl (by assumption) rfl (by decide) (zQ rfl rfl rfl (by decide)) ?_); all_goals (refine zZ.gY rfl rfl (by decide) rfl (by assumption) rfl (by decide) (zQ rfl rfl rfl (by decide)) ?_); all_goals (refine zZ.gY rfl rfl (by decide) rfl (by assumption) rfl (by decide) (by exact yE (s1) rfl rfl rfl (by decide)) ?_); all_goals (refine zZ.gY rfl rfl (by decide) rfl (by assumption) rfl (by decide) (xR rfl rfl r1 rfl (by decide)) ?_); all_goals (refine zZ.v rfl rfl (by exact zM rfl rfl (by assumption) rfl rfl (by decide)) ?_); all_goals (refine zZ.nil ?_)) | (refine zY.iq 18 ?_; refine zY.rqf _ K_3d K_1 ?_; refine zZ.m rfl rfl (wC rfl rfl (by decide)) ?_; refine zZ.vm rfl rfl rfl rfl (by decide) ?_; refine zZ.w rfl (qF rfl rfl rfl rfl o2 u1 rfl (by decide) rfl (by decide)) ?_; refine zZ.v rfl rfl (zN rfl rfl rfl (by decide)) ?_; refine zZ.nil ?_) | (refine zY.isR (id := 19) ?_; refine zY.zK [2, 3, 5, 7, 8, 9, 10, 11, 13, 18] [1, 67, 83, 104, 109] (by repeat' first | exact zX.nil | apply zX.p rfl | apply zX.own rfl) (by repeat' first | exact zW.nil | apply zW.boxP rfl rfl | apply zW.some rfl | apply zW.skip) ?_) | (refine zY.isR (id := 20) ?_; refine zY.sub ((wS 104 35 1 _ rfl)) ?_; refine zY.rqf _ K_3e K_1 ?_; refine zZ.vm rfl rfl rfl rfl (by decide) ?_; refine zZ.v rfl rfl (by exact y9 (lo) rfl rfl rfl (by decide)) ?_; refine zZ.v rfl rfl (yG rfl rfl rfl (by decide)) ?_; refine zZ.v rfl rfl (zC rfl rfl rfl rfl (by decide)) ?_; refine zZ.v rfl rfl (zC rfl rfl rfl rfl (by decide)) ?_; refine zZ.va rfl rfl rfl rfl (by decide) ?_; refine zZ.va rfl rfl rfl rfl (by decide) ?_; refine zZ.nil ?_) | (refine zY.iq 21 ?_; refine zY.rqf _ K_3f K_1 ?_; all_goals (refine zZ.vm rfl rfl rfl rfl (by decide) ?_); all_goals (refine zZ.v rfl rfl (vJ rfl rfl rfl r1 rfl (by decide)) ?_); all_goals (refine zZ.vm rfl rfl rfl rfl (by decide) ?_); all_goals (refine zZ.gY rfl rfl (by decide) rfl (by assumption) rfl (by decide) (zQ rfl rfl rfl (by decide)) ?_); all_goals (refine zZ.gY rfl rfl (by decide) rfl (by assumption) rfl (by decide) (vJ rfl rfl rfl r1 rfl (by decide)) ?_); all_goals (refine zZ.v rfl rfl (by exact zM rfl rfl (by assumption) rfl rfl (by decide)) ?_); all_goals (refine zZ.nil ?_)) | (refine zY.iq 23 ?_; refine zY.rqf _ K_3g K_1 ?_; refine zZ.vm rfl rfl rfl rfl (by decide) ?_; refine zZ.v rfl rfl (a_shr rfl rfl rfl (by decide) (by decide) x2 rfl (by decide)) ?_; refine zZ.v rfl rfl (yX rfl rfl rfl x1 rfl (by decide)) ?_; refine zZ.va rfl rfl rfl rfl (by decide) ?_; refine zZ.nil ?_) | (refine zY.iq 24 ?_; refine zY.rqf _ K_41 K_1 ?_; refine zZ.va rfl rfl rfl rfl (by decide) ?_; refine zZ.nil ?_) | (refine zY.iq 25 ?_; refine zY.rqf _ K_42 K_1 ?_; refine zZ.va rfl rfl rfl rfl (by decide) ?_; refine zZ.nil ?_) | refine zY.yF rfl (by assumption) ?_ | refine zY.skip ?_ | refine zY.block ?_) | refine zH.n ?_)
        clear lv lm lo s1 bd sp fw sh c1 w1 w2 w3 hnz w4 g2 o1 o2 o3 d1 v1 u1 i1 i2 y1 y2 ynz q1 q2 q3 r1
        refine zY.loop (mnS L (L.filter (vP z)) z) (fun p => p.2 ≤ L.length ∧ p.1 = ((L.take p.2).filter (vP z)).length) (fun p => L.length - p.2) (0, 0) ?h0 ⟨Nat.zero_le _, by simp⟩ ?rd
        case h0 =>
          unfold mnS
          exact zD K_2n []
        case rd =>
          rintro ⟨i, j⟩ ⟨hj, hi⟩
          simp only at hj hi
          unfold mnS
          dsimp only
          have g3 : IntKind.i64.wrap (((j : Nat) : Int) + 1) = ((j + 1 : Nat) : Int) := by rw [wrap_i64 _ (by omega)]; omega
          by_cases hlt : j < L.length
          case pos =>
            have g1 : decide (((j : Nat) : Int) < (((L.map zV.V).length : Nat) : Int)) = true := decide_eq_true (by rw [hlL]; omega)
            obtain ⟨e, he⟩ : ∃ e, L[j]? = some e := ⟨_, List.getElem?_eq_getElem hlt⟩
            have g2 : (L.map zV.V)[j]? = some e.V := by rw [List.getElem?_map, he]; rfl
            obtain ⟨f1, f2⟩ := off_at (z := z) he
            rw [← hi] at f1 f2
            unfold vP at f1 f2
            obtain ⟨ek, es, ey, eu, ev, ex⟩ := e
            dsimp only at f1 f2
            cases b1 : decide (es = z) <;> cases b2 : decide (eu = z) <;> cases b3 : decide (ev = z)
            all_goals rw [b1, b2, b3] at f1 f2
            case false.false.false =>
              obtain ⟨f1, f3⟩ := f1 rfl
              clear f2
              have hiO := (List.getElem?_eq_some_iff.1 f1).1
              have g4 : ((L.filter (vP z)).map zV.V)[i]? = some (zV.V ⟨ek, es, ey, eu, ev, ex⟩) := by
                rw [List.getElem?_map]
                show ((L.filter fun e => vP z e)[i]?).map zV.V = _
                exact congrArg (Option.map zV.V) f1
              have g5 : decide (((i : Nat) : Int) ≥ ((((L.filter (vP z)).map zV.V).length : Nat) : Int)) = false := decide_eq_false (by rw [hlO]; exact fun h => by have : i < (L.filter (vP z)).length := hiO; omega)
              have g6 : IntKind.i64.wrap (((i : Nat) : Int) + 1) = ((i + 1 : Nat) : Int) := by rw [wrap_i64 _ (by have : i < (L.filter (vP z)).length := hiO; omega)]; omega
              have c7 : (!decide ([(IntKind.i64, ek), (IntKind.u64, es), (IntKind.u64, ey), (IntKind.u64, eu), (IntKind.u64, ev), (IntKind.u64, ex)] = [(IntKind.i64, ek), (IntKind.u64, es), (IntKind.u64, ey), (IntKind.u64, eu), (IntKind.u64, ev), (IntKind.u64, ex)])) = false := by rw [decide_eq_true rfl]; rfl
              have f3 : i + 1 = ((L.take (j + 1)).filter (vP z)).length := f3.symm
              clear f1 he hi hiO
              repeat' (first | (refine zY.is ?_; first | refine zY.seq ?_ | (refine zY.iq 26 ?_; refine zY.rqg _ K_1f K_1 ?_; refine zZ.vm rfl rfl rfl rfl (by decide) ?_; refine zZ.vm rfl rfl rfl rfl (by decide) ?_; refine zZ.v rfl rfl (yL rfl rfl rfl (by decide)) ?_; refine zZ.v rfl rfl (yZ rfl rfl rfl g1 rfl (by decide)) ?_; refine zZ.nil ?_) | (refine zY.iq 28 ?_; refine zY.rqg _ K_1f K_1 ?_; all_goals (refine zZ.vm rfl rfl rfl rfl (by decide) ?_); all_goals (refine zZ.vm rfl rfl rfl rfl (by decide) ?_); all_goals (refine zZ.v rfl rfl (yY rfl rfl rfl hcL g2 rfl (by decide)) ?_); all_goals (refine zZ.v rfl rfl (wY rfl rfl rfl (by decide)) ?_); all_goals (refine zZ.v rfl rfl (zP rfl rfl rfl rfl (by decide)) ?_); all_goals (refine zZ.vm rfl rfl rfl rfl (by decide) ?_); all_goals (refine zZ.v rfl rfl (yM rfl rfl rfl b1 rfl (by decide)) ?_); all_goals (refine zZ.vm rfl rfl rfl rfl (by decide) ?_); all_goals (refine zZ.gY rfl rfl (by decide) rfl (by rfl) rfl (by decide) (zQ rfl rfl rfl (by decide)) ?_); all_goals (refine zZ.gY rfl rfl (by decide) rfl (by rfl) rfl (by decide) (zQ rfl rfl rfl (by decide)) ?_); all_goals (refine zZ.gY rfl rfl (by decide) rfl (by rfl) rfl (by decide) (yY rfl rfl rfl hcL g2 rfl (by decide)) ?_); all_goals (refine zZ.gY rfl rfl (by decide) rfl (by rfl) rfl (by decide) (wY rfl rfl rfl (by decide)) ?_); all_goals (refine zZ.gY rfl rfl (by decide) rfl (by rfl) rfl (by decide) (zP rfl rfl rfl rfl (by decide)) ?_); all_goals (refine zZ.gY rfl rfl (by decide) rfl (by rfl) rfl (by decide) (zQ rfl rfl rfl (by decide)) ?_); all_goals (refine zZ.gY rfl rfl (by decide) rfl (by rfl) rfl (by decide) (yM rfl rfl rfl b2 rfl (by decide)) ?_); all_goals (refine zZ.v rfl rfl (zM rfl rfl (by rfl) rfl rfl (by decide)) ?_); all_goals (refine zZ.vm rfl rfl rfl rfl (by decide) ?_); all_goals (refine zZ.gY rfl rfl (by decide) rfl (by rfl) rfl (by decide) (zQ rfl rfl rfl (by decide)) ?_); all_goals (refine zZ.gY rfl rfl (by decide) rfl (by rfl) rfl (by decide) (zQ rfl rfl rfl (by decide)) ?_); all_goals (refine zZ.gY rfl rfl (by decide) rfl (by rfl) rfl (by decide) (yY rfl rfl rfl hcL g2 rfl (by decide)) ?_); all_goals (refine zZ.gY rfl rfl (by decide) rfl (by rfl) rfl (by decide) (wY rfl rfl rfl (by decide)) ?_); all_goals (refine zZ.gY rfl rfl (by decide) rfl (by rfl) rfl (by decide) (zP rfl rfl rfl rfl (by decide)) ?_); all_goals (refine zZ.gY rfl rfl (by decide) rfl (by rfl) rfl (by decide) (zQ rfl rfl rfl (by decide)) ?_); all_goals (refine zZ.gY rfl rfl (by decide) rfl (by rfl) rfl (by decide) (yM rfl rfl rfl b3 rfl (by decide)) ?_); all_goals (refine zZ.v rfl rfl (zM rfl rfl (by rfl) rfl rfl (by decide)) ?_); all_goals (refine zZ.nil ?_)) | (refine zY.isR (id := 29) ?_; refine zY.xE [2, 7, 9, 19, 21, 22, 23, 138, 165, 180] [1, 67, 83, 104, 109] (by repeat' first | exact zX.nil | apply zX.p rfl | apply zX.skip) (by repeat' first | exact zW.nil | apply zW.skip) (zY.draws ?_); all_goals (refine Draws.v rfl rfl (zQ rfl rfl rfl (by decide)) ?_); all_goals (refine Draws.v rfl rfl (zQ rfl rfl rfl (by decide)) ?_); all_goals (refine Draws.v rfl rfl (yL rfl rfl rfl (by decide)) ?_); all_goals (refine Draws.v rfl rfl (qM rfl rfl rfl g5 rfl (by decide)) ?_); all_goals (refine Draws.v rfl rfl (zQ rfl rfl rfl (by decide)) ?_); all_goals (refine Draws.gY rfl rfl (by decide) rfl (by rfl) rfl (zQ rfl rfl rfl (by decide)) ?_); all_goals (refine Draws.gY rfl rfl (by decide) rfl (by rfl) rfl (zQ rfl rfl rfl (by decide)) ?_); all_goals (refine Draws.gY rfl rfl (by decide) rfl (by rfl) rfl (yY rfl rfl rfl hcO g4 rfl (by decide)) ?_); all_goals (refine Draws.gY rfl rfl (by decide) rfl (by rfl) rfl (by exact vW rfl rfl (by exact Nat.le_of_ble_eq_true rfl) rfl (by decide)) ?_); all_goals (refine Draws.gY rfl rfl (by decide) rfl (by rfl) rfl (zQ rfl rfl rfl (by decide)) ?_); all_goals (refine Draws.gY rfl rfl (by decide) rfl (by rfl) rfl (zQ rfl rfl rfl (by decide)) ?_); all_goals (refine Draws.gY rfl rfl (by decide) rfl (by rfl) rfl (yY rfl rfl rfl hcL g2 rfl (by decide)) ?_); all_goals (refine Draws.gY rfl rfl (by decide) rfl (by rfl) rfl (by exact vW rfl rfl (by exact Nat.le_of_ble_eq_true rfl) rfl (by decide)) ?_); all_goals (refine Draws.gY rfl rfl (by decide) rfl (by rfl) rfl (r_neqT rfl rfl rfl rfl rfl rfl (by rfl) c7 rfl (by decide)) ?_); all_goals (refine Draws.v rfl rfl (zM rfl rfl (by rfl) rfl rfl (by decide)) ?_); all_goals ((refine Draws.done (by kernel_rfl) (by kernel_rfl) (by kernel_rfl) ?_; refine zL.nil ?_))) | (refine zY.iq 31 ?_; refine zY.rqg _ K_1f K_1 ?_; refine zZ.vm rfl rfl rfl rfl (by decide) ?_; refine zZ.v rfl rfl (yX rfl rfl rfl g6 rfl (by decide)) ?_; refine zZ.va rfl rfl rfl rfl (by decide) ?_; refine zZ.nil ?_) | (refine zY.iq 27 ?_; refine zY.rqg _ K_1f K_1 ?_; refine zZ.vm rfl rfl rfl rfl (by decide) ?_; refine zZ.v rfl rfl (yX rfl rfl rfl g3 rfl (by decide)) ?_; refine zZ.va rfl rfl rfl rfl (by decide) ?_; refine zZ.nil ?_) | refine zY.yC rfl (by first | assumption | with_reducible rfl) ?_ | refine zY.yF rfl (by first | assumption | with_reducible rfl) ?_ | refine zY.skip ?_ | refine zY.block ?_) | refine zH.n ?_ | refine zS.n ?_)
              all_goals
                refine ⟨(i + 1, j + 1), ?_, ⟨hlt, f3⟩, by show L.length - (j + 1) < L.length - j; omega⟩
                exact zD K_2n []
            all_goals
              have f3 : i = ((L.take (j + 1)).filter (vP z)).length := (f2 rfl).symm
              clear f1 f2 he hi
            all_goals
              repeat' (first | (refine zY.is ?_; first | refine zY.seq ?_ | (refine zY.iq 26 ?_; refine zY.rqg _ K_1f K_1 ?_; refine zZ.vm rfl rfl rfl rfl (by decide) ?_; refine zZ.vm rfl rfl rfl rfl (by decide) ?_; refine zZ.v rfl rfl (yL rfl rfl rfl (by decide)) ?_; refine zZ.v rfl rfl (yZ rfl rfl rfl g1 rfl (by decide)) ?_; refine zZ.nil ?_) | (refine zY.iq 28 ?_; refine zY.rqg _ K_1f K_1 ?_; all_goals (refine zZ.vm rfl rfl rfl rfl (by decide) ?_); all_goals (refine zZ.vm rfl rfl rfl rfl (by decide) ?_); all_goals (refine zZ.v rfl rfl (yY rfl rfl rfl hcL g2 rfl (by decide)) ?_); all_goals (refine zZ.v rfl rfl (wY rfl rfl rfl (by decide)) ?_); all_goals (refine zZ.v rfl rfl (zP rfl rfl rfl rfl (by decide)) ?_); all_goals (refine zZ.vm rfl rfl rfl rfl (by decide) ?_); all_goals (refine zZ.v rfl rfl (yM rfl rfl rfl b1 rfl (by decide)) ?_); all_goals (refine zZ.vm rfl rfl rfl rfl (by decide) ?_); all_goals (first | refine zZ.gY rfl rfl (by decide) rfl (by rfl) rfl (by decide) (zQ rfl rfl rfl (by decide)) ?_ | refine zZ.gnF rfl rfl (by decide) rfl (by rfl) rfl (by decide) ?_); all_goals (first | refine zZ.gY rfl rfl (by decide) rfl (by rfl) rfl (by decide) (zQ rfl rfl rfl (by decide)) ?_ | refine zZ.gnF rfl rfl (by decide) rfl (by rfl) rfl (by decide) ?_); all_goals (first | refine zZ.gY rfl rfl (by decide) rfl (by rfl) rfl (by decide) (yY rfl rfl rfl hcL g2 rfl (by decide)) ?_ | refine zZ.gnF rfl rfl (by decide) rfl (by rfl) rfl (by decide) ?_); all_goals (first | refine zZ.gY rfl rfl (by decide) rfl (by rfl) rfl (by decide) (wY rfl rfl rfl (by decide)) ?_ | refine zZ.gnF rfl rfl (by decide) rfl (by rfl) rfl (by decide) ?_); all_goals (first | refine zZ.gY rfl rfl (by decide) rfl (by rfl) rfl (by decide) (zP rfl rfl rfl rfl (by decide)) ?_ | refine zZ.gnF rfl rfl (by decide) rfl (by rfl) rfl (by decide) ?_); all_goals (first | refine zZ.gY rfl rfl (by decide) rfl (by rfl) rfl (by decide) (zQ rfl rfl rfl (by decide)) ?_ | refine zZ.gnF rfl rfl (by decide) rfl (by rfl) rfl (by decide) ?_); all_goals (first | refine zZ.gY rfl rfl (by decide) rfl (by rfl) rfl (by decide) (yM rfl rfl rfl b2 rfl (by decide)) ?_ | refine zZ.gnF rfl rfl (by decide) rfl (by rfl) rfl (by decide) ?_); all_goals (refine zZ.v rfl rfl (by first | exact zR rfl rfl (by rfl) rfl rfl (by decide) | exact zM rfl rfl (by rfl) rfl rfl (by decide)) ?_); all_goals (refine zZ.vm rfl rfl rfl rfl (by decide) ?_); all_goals (first | refine zZ.gY rfl rfl (by decide) rfl (by rfl) rfl (by decide) (zQ rfl rfl rfl (by decide)) ?_ | refine zZ.gnF rfl rfl (by decide) rfl (by rfl) rfl (by decide) ?_); all_goals (first | refine zZ.gY rfl rfl (by decide) rfl (by rfl) rfl (by decide) (zQ rfl rfl rfl (by decide)) ?_ | refine zZ.gnF rfl rfl (by decide) rfl (by rfl) rfl (by decide) ?_); all_goals (first | refine zZ.gY rfl rfl (by decide) rfl (by rfl) rfl (by decide) (yY rfl rfl rfl hcL g2 rfl (by decide)) ?_ | refine zZ.gnF rfl rfl (by decide) rfl (by rfl) rfl (by decide) ?_); all_goals (first | refine zZ.gY rfl rfl (by decide) rfl (by rfl) rfl (by decide) (wY rfl rfl rfl (by decide)) ?_ | refine zZ.gnF rfl rfl (by decide) rfl (by rfl) rfl (by decide) ?_); all_goals (first | refine zZ.gY rfl rfl (by decide) rfl (by rfl) rfl (by decide) (zP rfl rfl rfl rfl (by decide)) ?_ | refine zZ.gnF rfl rfl (by decide) rfl (by rfl) rfl (by decide) ?_); all_goals (first | refine zZ.gY rfl rfl (by decide) rfl (by rfl) rfl (by decide) (zQ rfl rfl rfl (by decide)) ?_ | refine zZ.gnF rfl rfl (by decide) rfl (by rfl) rfl (by decide) ?_); all_goals (first | refine zZ.gY rfl rfl (by decide) rfl (by rfl) rfl (by decide) (yM rfl rfl rfl b3 rfl (by decide)) ?_ | refine zZ.gnF rfl rfl (by decide) rfl (by rfl) rfl (by decide) ?_); all_goals (refine zZ.v rfl rfl (by first | exact zR rfl rfl (by rfl) rfl rfl (by decide) | exact zM rfl rfl (by rfl) rfl rfl (by decide)) ?_); all_goals (refine zZ.nil ?_)) | (refine zY.iq 27 ?_; refine zY.rqg _ K_1f K_1 ?_; refine zZ.vm rfl rfl rfl rfl (by decide) ?_; refine zZ.v rfl rfl (yX rfl rfl rfl g3 rfl (by decide)) ?_; refine zZ.va rfl rfl rfl rfl (by decide) ?_; refine zZ.nil ?_) | refine zY.yC rfl (by first | assumption | with_reducible rfl) ?_ | refine zY.skip ?_ | refine zY.block ?_ | refine zY.exit ?_) | refine zH.n ?_ | refine zS.eY ?_ | refine zH.e ?_)
            all_goals
              refine ⟨(i, j + 1), ?_, ⟨hlt, f3⟩, by show L.length - (j + 1) < L.length - j; omega⟩
              exact zD K_2n []
          case neg =>
            have hje : j = L.length := by omega
            subst hje
            rw [List.take_length] at hi
            subst hi
            have g1 : decide (((L.length : Nat) : Int) < (((L.map zV.V).length : Nat) : Int)) = false := decide_eq_false (by rw [hlL]; omega)
            have g4 : decide ((((L.filter (vP z)).length : Nat) : Int) = ((((L.filter (vP z)).map zV.V).length : Nat) : Int)) = true := decide_eq_true (by rw [hlO])
            repeat' (first | (refine zY.is ?_; first | refine zY.seq ?_ | (refine zY.iq 26 ?_; refine zY.rqg _ K_1f K_1 ?_; refine zZ.vm rfl rfl rfl rfl (by decide) ?_; refine zZ.vm rfl rfl rfl rfl (by decide) ?_; refine zZ.v rfl rfl (yL rfl rfl rfl (by decide)) ?_; refine zZ.v rfl rfl (yZ rfl rfl rfl g1 rfl (by decide)) ?_; refine zZ.nil ?_) | (refine zY.iq 32 ?_; refine zY.rqg _ K_43 K_1 ?_; all_goals (refine zZ.vm rfl rfl rfl rfl (by decide) ?_); all_goals (refine zZ.vm rfl rfl rfl rfl (by decide) ?_); all_goals (refine zZ.gY rfl rfl (by decide) rfl (by rfl) rfl (by decide) (zQ rfl rfl rfl (by decide)) ?_); all_goals (refine zZ.gY rfl rfl (by decide) rfl (by rfl) rfl (by decide) (zQ rfl rfl rfl (by decide)) ?_); all_goals (refine zZ.gY rfl rfl (by decide) rfl (by rfl) rfl (by decide) (yL rfl rfl rfl (by decide)) ?_); all_goals (refine zZ.gY rfl rfl (by decide) rfl (by rfl) rfl (by decide) (yM rfl rfl rfl g4 rfl (by decide)) ?_); all_goals (refine zZ.v rfl rfl (zR rfl rfl (by rfl) rfl rfl (by decide)) ?_); all_goals (refine zZ.va rfl rfl rfl rfl (by decide) ?_); all_goals (refine zZ.nil ?_)) | refine zY.yF rfl (by first | assumption | with_reducible rfl) ?_ | refine zY.exit ?_ | refine zY.ret ?_) | refine zH.n ?_ | refine zS.eY ?_ | refine zH.e ?_)
            all_goals exact ⟨.inl rfl, _, Sub.refl _, xG.p rfl (.tmp rfl)⟩
end Go.Proofs.YtomlhekjgagjaaaDoor
namespace Go.Proofs.YtomlhekjgagjaaaDoor
set_option maxRecDepth 100000
set_option maxHeartbeats 16000000
open Go Go.RowKit
inductive PLe0 : PV → PV → Prop
  | refl (x : PV) : PLe0 x x
  | nil : PLe0 (.val (.slice none 0 0)) (.sl [])
inductive PL0s : List PV → List PV → Prop
  | nil : PL0s [] []
  | cons {x y : PV} {xs ys : List PV} (h : PLe0 x y) (hs : PL0s xs ys) : PL0s (x :: xs) (y :: ys)
inductive PLe1 : PV → PV → Prop
  | refl (x : PV) : PLe1 x x
  | nil : PLe1 (.val (.slice none 0 0)) (.sl [])
  | sl {xs ys : List PV} (hl : xs.length = ys.length) (h : PL0s (flat xs) (flat ys)) : PLe1 (.sl xs) (.sl ys)
inductive PLes : List PV → List PV → Prop
  | nil : PLes [] []
  | cons {x y : PV} {xs ys : List PV} (h : PLe1 x y) (hs : PLes xs ys) : PLes (x :: xs) (y :: ys)
inductive PLe : PV → PV → Prop
  | one {x y : PV} (h : PLe1 x y) : PLe x y
  | agg {xs ys : List PV} (h : PLes xs ys) : PLe (.agg xs) (.agg ys)
inductive PLet : List PV → List PV → Prop
  | nil : PLet [] []
  | cons {x y : PV} {xs ys : List PV} (h : PLe x y) (hs : PLet xs ys) : PLet (x :: xs) (y :: ys)
theorem PLe0.rep {x y : PV} (h : PLe0 x y) {M : Nat → Nat → Prop} {w : World} {v : Value} (hr : Rep M w x v) : Rep M w y v := by
  cases h with
  | refl => exact hr
  | nil => cases hr; exact .nil
theorem PL0s.at_ {xs ys : List PV} (h : PL0s xs ys) : xs.length = ys.length ∧ ∀ (i : Nat) y, ys[i]? = some y → ∃ x, xs[i]? = some x ∧ PLe0 x y := by
  induction h with
  | nil => exact ⟨rfl, fun i y h => by simp at h⟩
  | cons h hs ih =>
    refine ⟨by simp [ih.1], fun i y hy => ?_⟩
    cases i with
    | zero => simp at hy; subst hy; exact ⟨_, rfl, h⟩
    | succ i => exact ih.2 i y hy
theorem PL0s.append {xs ys xs' ys' : List PV} (h : PL0s xs ys) (h' : PL0s xs' ys') : PL0s (xs ++ xs') (ys ++ ys') := by
  induction h with
  | nil => exact h'
  | cons h _ ih => exact .cons h ih
theorem PLe1.rep {x y : PV} (h : PLe1 x y) {M : Nat → Nat → Prop} {w : World} {v : Value} (hr : Rep M w x v) : Rep M w y v := by
  cases h with
  | refl => exact hr
  | nil => cases hr; exact .nil
  | sl hl h =>
    obtain ⟨hfl, hat⟩ := h.at_
    rcases rep_sl hr with ⟨⟨b, rfl⟩, h0⟩ | ⟨g, off, cap, us, rfl, hl2, hcell, hM, hg, hcap, hm⟩
    · subst h0
      have : _ = [] := List.eq_nil_of_length_eq_zero hl.symm
      subst this
      exact .nil
    · rw [hl] at hcap ⊢
      exact .sl _ g off _ cap us rfl (hl2.len.trans hfl) hcell (fun j c y hc hy => by
        obtain ⟨x, hx, hle⟩ := hat j c hc
        exact hle.rep (hl2.each j x y hx hy)) hl2.one hM hg hcap hm
theorem PLes.refl : ∀ xs : List PV, PLes xs xs
  | [] => .nil
  | x :: xs => .cons (.refl x) (PLes.refl xs)
theorem PLes.at_ {xs ys : List PV} (h : PLes xs ys) : xs.length = ys.length ∧ ∀ (i : Nat) y, ys[i]? = some y → ∃ x, xs[i]? = some x ∧ PLe1 x y := by
  induction h with
  | nil => exact ⟨rfl, fun i y h => by simp at h⟩
  | cons h hs ih =>
    refine ⟨by simp [ih.1], fun i y hy => ?_⟩
    cases i with
    | zero => simp at hy; subst hy; exact ⟨_, rfl, h⟩
    | succ i => exact ih.2 i y hy
theorem PLe.rep {x y : PV} (h : PLe x y) {M : Nat → Nat → Prop} {w : World} {v : Value} (hr : Rep M w x v) : Rep M w y v := by
  cases h with
  | one h => exact h.rep hr
  | agg h =>
    obtain ⟨hl, hat⟩ := h.at_
    cases hr with
    | agg cs vs hl2 h2 h1 => exact .agg _ vs (hl2.trans hl) (fun i c u hc hu => by
        obtain ⟨x, hx, hxy⟩ := hat i c hc
        exact hxy.rep (h2 i x u hx hu)) h1
theorem PLet.at_ {xs ys : List PV} (h : PLet xs ys) : xs.length = ys.length ∧ ∀ (i : Nat) y, ys[i]? = some y → ∃ x, xs[i]? = some x ∧ PLe x y := by
  induction h with
  | nil => exact ⟨rfl, fun i y h => by simp at h⟩
  | cons h hs ih =>
    refine ⟨by simp [ih.1], fun i y hy => ?_⟩
    cases i with
    | zero => simp at hy; subst hy; exact ⟨_, rfl, h⟩
    | succ i => exact ih.2 i y hy
theorem PLe.refl (x : PV) : PLe x x := .one (.refl x)
section
variable {P : Program} {f : FuncId}
end
end Go.Proofs.YtomlhekjgagjaaaDoor
namespace Go.Proofs.YtomlhekjgagjaaaDoor
set_option maxRecDepth 100000
set_option maxHeartbeats 16000000
open Go Go.RowKit Go.ChangeShapes Go.WideShapes Go.ChangeAt
def NoM : Nat → Nat → Prop := fun _ _ => False
inductive Leaf where
  | int (k : IntKind)
  | bool
  | any
deriving DecidableEq
def leafOK : Leaf → Value → Prop
  | .int k, v => ∃ n, v = .int k n ∧ (Lit.int k n).wf = true
  | .bool, v => ∃ b, v = .bool b
  | .any, v => v.oneCell' = true
def flatB (P : Program) : Nat → TypeId → List Leaf → Bool
  | 0, _, _ => false
  | d + 1, t, ls => match P.underlying t with
    | some (.int k) => decide (ls = [.int k])
    | some .bool => decide (ls = [.bool])
    | some (.slice _) => decide (ls = [.any])
    | some (.struct fs) => (ls.length == P.cellsOf t) && (fs.toList.all fun f => flatB P d f.type ((ls.drop f.offset).take (P.cellsOf f.type)) && (((ls.drop f.offset).take (P.cellsOf f.type)).length == P.cellsOf f.type)) &&
      (List.range ls.length).all fun c => fs.toList.any fun f => decide (f.offset ≤ c) && decide (c < f.offset + P.cellsOf f.type)
    | _ => false
section
variable {H : Type} {enc : TypeId × Value → H} {P : Program} {W : World} {base : Nat} {spare : Nat → Bool} {held : Bool}
theorem flat_trod : ∀ (d : Nat) {t : TypeId} {ls : List Leaf}, flatB P d t ls = true → ∀ {fuel : Nat} {cs : List Value} {x : DataW H × List MemPlace}, DataW.trod enc P W base spare held fuel t cs = some x →
    cs.length = ls.length ∧ ∀ (i : Nat) l v, ls[i]? = some l → cs[i]? = some v → leafOK l v
  | 0, _, _, h, _, _, _, _ => by cases h
  | d + 1, t, ls, h, fuel, cs, x, hx => by
    unfold flatB at h
    cases hu : P.underlying t with
    | none => rw [hu] at h; cases h
    | some ds =>
      rw [hu] at h
      cases ds with
      | int k =>
        obtain rfl : ls = [.int k] := of_decide_eq_true h
        obtain ⟨n, rfl, _, hw⟩ := DataW.trod_int hu hx
        refine ⟨rfl, fun i l v hl hv => ?_⟩
        match i with
        | 0 => simp at hl hv; subst hl hv; exact ⟨n, rfl, hw⟩
        | i + 1 => simp at hl
      | bool =>
        obtain rfl : ls = [.bool] := of_decide_eq_true h
        obtain ⟨b, rfl, _⟩ := DataW.trod_bool hu hx
        refine ⟨rfl, fun i l v hl hv => ?_⟩
        match i with
        | 0 => simp at hl hv; subst hl hv; exact ⟨b, rfl⟩
        | i + 1 => simp at hl
      | slice e =>
        obtain rfl : ls = [.any] := of_decide_eq_true h
        have key : ∀ w : Value, w.oneCell' = true → cs = [w] → cs.length = [Leaf.any].length ∧ ∀ (i : Nat) l v, [Leaf.any][i]? = some l → cs[i]? = some v → leafOK l v := fun w hw e => by
          subst e
          refine ⟨rfl, fun i l v hl hv => ?_⟩
          match i with
          | 0 => simp at hl hv; subst hl hv; exact hw
          | i + 1 => simp at hl
        rcases DataW.trod_slice hu hx with ⟨e, _⟩ | ⟨a, len, cap, _, _, _, _, e, _⟩
        · exact key _ rfl e
        · exact key _ rfl e
      | struct fs =>
        simp only [Bool.and_eq_true, beq_iff_eq, List.all_eq_true, List.mem_range, List.any_eq_true, decide_eq_true_eq] at h
        obtain ⟨⟨hlen, hfs⟩, hcov⟩ := h
        obtain ⟨xs, n, _, _, hcl, hxl, hg⟩ := DataW.trod_struct hu hx
        refine ⟨by omega, fun i l v hl hv => ?_⟩
        have hil : i < ls.length := (List.getElem?_eq_some_iff.1 hl).1
        obtain ⟨f, hf, hf1, hf2⟩ := hcov i hil
        obtain ⟨hfl, hfn⟩ := hfs f hf
        obtain ⟨j, hj, hfj⟩ := List.getElem_of_mem hf
        have hfj2 : fs[j]? = some f := by
          rw [← hfj, Array.getElem_toList]
          exact Array.getElem?_eq_getElem _
        have h2 := hg j f hfj2
        have hjx : j < xs.length := by rw [hxl]; simpa using hj
        rw [List.getElem?_eq_getElem hjx] at h2
        obtain ⟨_, h3⟩ := flat_trod d hfl h2
        refine h3 (i - f.offset) l v ?_ ?_
        · rw [List.getElem?_take_of_lt (by omega), List.getElem?_drop, show f.offset + (i - f.offset) = i by omega]
          exact hl
        · rw [List.getElem?_take_of_lt (by omega), List.getElem?_drop, show f.offset + (i - f.offset) = i by omega]
          exact hv
      | _ => cases h
theorem has_block {r : Reach} {a : Addr} {e : TypeId} {n : Nat} (h : W.has P r base a e n) : a.spot = none ∧ a.block < W.heap.size := by
  obtain ⟨_, h1, row, cells, h2, _⟩ := h
  refine ⟨h1, ?_⟩
  unfold World.shape? at h2
  cases hb : W.heap[a.block]? with
  | none => rw [hb] at h2; cases h2
  | some o => exact (Array.getElem?_eq_some_iff.1 hb).1
theorem cell_slice {t e : TypeId} {a : Addr} {len cap : Nat} (ht : P.underlying t = some (.slice e)) (h : Cell.okWide P W .any base t (.slice (some a) len cap)) : a.spot = none ∧ a.block < W.heap.size ∧ len ≤ cap := by
  simp only [Cell.okWide, ht, Cell.ok] at h
  exact ⟨(has_block h.2.2).1, (has_block h.2.2).2, h.1⟩
theorem wide_cell {t u : TypeId} {fs : Array Field} {cs : Array Value} {ts : List TypeId} {i : Nat} {v : Value} (ht : P.underlying t = some (.struct fs)) (h : Value.okWide P W .any base t (.agg cs)) (hts : P.cellTypes P.depth t = some ts) (hi : ts[i]? = some u) (hv : cs[i]? = some v) : Cell.okWide P W .any base u v := by
  simp only [Value.okWide, ht] at h
  obtain ⟨cs', e, _, ts', h1, _, h2⟩ := h
  injection e with e
  subst e
  obtain rfl : ts = ts' := Option.some.inj (hts.symm.trans h1)
  obtain ⟨u', hu', hc⟩ := h2 i v hv
  have hlt : i < ts.length := (List.getElem?_eq_some_iff.1 hi).1
  rw [Nat.mod_eq_of_lt hlt, hi] at hu'
  obtain rfl := Option.some.inj hu'
  exact hc
theorem leaf_one {l : Leaf} {v : Value} (h : leafOK l v) : v.oneCell' = true := by
  cases l with
  | int k => obtain ⟨n, rfl, _⟩ := h; rfl
  | bool => obtain ⟨b, rfl⟩ := h; rfl
  | any => exact h
theorem flatten_len {n : Nat} : ∀ {rs : List (List Value)}, (∀ r ∈ rs, r.length = n) → rs.flatten.length = rs.length * n
  | [], _ => by simp
  | r :: rs, h => by
    rw [List.flatten_cons, List.length_append, h r (by simp), flatten_len fun x hx => h x (by simp [hx]), List.length_cons, Nat.add_mul]
    omega
theorem flatten_get {n : Nat} : ∀ {rs : List (List Value)}, (∀ r ∈ rs, r.length = n) → ∀ (i c : Nat), c < n → rs.flatten[i * n + c]? = (rs[i]?).bind (·[c]?)
  | [], _, i, c, _ => by simp
  | r :: rs, h, 0, c, hc => by
    rw [List.flatten_cons, Nat.zero_mul, Nat.zero_add, List.getElem?_append_left (by rw [h r (by simp)]; exact hc)]
    rfl
  | r :: rs, h, i + 1, c, hc => by
    have hr := h r (by simp)
    rw [List.flatten_cons, List.getElem?_append_right (by rw [hr, Nat.add_mul]; omega), hr]
    have e : (i + 1) * n + c - n = i * n + c := by rw [Nat.add_mul]; omega
    rw [e, flatten_get (fun x hx => h x (by simp [hx])) i c hc]
    rfl
theorem arg_rows {t e : TypeId} {ls : List Leaf} {dep : Nat} {v : Value} {fuel : Nat} {x : DataW H × List MemPlace} (ht : P.underlying t = some (.slice e)) (hfl : flatB P dep e ls = true) (hn : P.cellsOf e = ls.length)
    (hok : ∀ a len cap, v = .slice (some a) len cap → a.spot = none ∧ a.block < W.heap.size) (h : DataW.trod enc P W base (fun _ => true) held fuel t [v] = some x) :
    ∃ rows : List (List Value), (∀ r ∈ rows, r.length = ls.length ∧ ∀ (i : Nat) l u, ls[i]? = some l → r[i]? = some u → leafOK l u) ∧ rows.length ≤ maxLen ∧
      ∀ es : List PV, es.map PV.cells = rows.map (fun r => r.map PV.val) → Rep NoM W (.sl es) v := by
  rcases DataW.trod_slice ht h with ⟨hv, _⟩ | ⟨a, len, cap, elems, rest, n, _, hv, _, hb, hlc, hm, hlen, hel, _⟩
  · simp only [List.cons.injEq, and_true] at hv
    subst hv
    refine ⟨[], fun r hr => by simp at hr, Nat.zero_le _, fun es he => ?_⟩
    have : es = [] := by simpa using he
    subst this
    exact .nil
  · simp only [List.cons.injEq, and_true] at hv
    subst hv
    obtain ⟨hs, hbk⟩ := hok a len cap rfl
    obtain ⟨g, off, spot⟩ := a
    simp only at hs hbk
    subst hs
    have row : ∀ i, i < len → ∃ r : List Value, W.cells? base (Addr.add ⟨g, off, none⟩ (i * P.cellsOf e)) (P.cellsOf e) = some r ∧ r.length = ls.length ∧ ∀ (j : Nat) l u, ls[j]? = some l → r[j]? = some u → leafOK l u := by
      intro i hi
      have h1 := hel i hi
      rw [List.getElem?_eq_getElem (by omega : i < elems.length)] at h1
      obtain ⟨r, hr, h2⟩ := Option.bind_eq_some_iff.1 h1
      obtain ⟨h3, h4⟩ := flat_trod dep hfl h2
      exact ⟨r, hr, h3, h4⟩
    have rows : ∀ m, m ≤ len → ∃ rs : List (List Value), rs.length = m ∧ ∀ (i : Nat) r, rs[i]? = some r → W.cells? base (Addr.add ⟨g, off, none⟩ (i * P.cellsOf e)) (P.cellsOf e) = some r ∧ r.length = ls.length ∧ ∀ (j : Nat) l u, ls[j]? = some l → r[j]? = some u → leafOK l u := by
      intro m
      induction m with
      | zero => exact fun _ => ⟨[], rfl, fun i r h => by simp at h⟩
      | succ m ih =>
        intro hm2
        obtain ⟨rs, h1, h2⟩ := ih (by omega)
        obtain ⟨r, hr⟩ := row m (by omega)
        refine ⟨rs ++ [r], by simp [h1], fun i r' hi => ?_⟩
        rcases Nat.lt_or_ge i rs.length with h3 | h3
        · rw [List.getElem?_append_left h3] at hi
          exact h2 i r' hi
        · rw [List.getElem?_append_right h3] at hi
          have e0 : i - rs.length = 0 := by
            rcases Nat.eq_zero_or_pos (i - rs.length) with h | h
            · exact h
            · rw [List.getElem?_eq_none (by simp; omega)] at hi; cases hi
          rw [e0] at hi
          simp at hi
          subst hi
          rw [show i = m by omega]
          exact hr
    obtain ⟨rs, hrl, hrs⟩ := rows len (Nat.le_refl _)
    refine ⟨rs, fun r hr => ?_, by omega, fun es he => ?_⟩
    · obtain ⟨i, hi, rfl⟩ := List.getElem_of_mem hr
      exact (hrs i _ (List.getElem?_eq_getElem hi)).2
    · have hn0 : P.cellsOf e = ls.length := hn
      have hesl : es.length = rs.length := by simpa using congrArg List.length he
      have hflat : flat es = rs.flatten.map PV.val := by
        show es.flatMap PV.cells = _
        rw [List.flatMap_def, he, List.map_flatten]
      have hrn : ∀ r ∈ rs, r.length = ls.length := fun r hr => by
        obtain ⟨i, hi, rfl⟩ := List.getElem_of_mem hr
        exact (hrs i _ (List.getElem?_eq_getElem hi)).2.1
      have hyl : rs.flatten.length = rs.length * ls.length := flatten_len hrn
      have at_ : ∀ (j : Nat) y, rs.flatten[j]? = some y → ∃ i c r, j = i * ls.length + c ∧ rs[i]? = some r ∧ r[c]? = some y := fun j y hy => by
        have hj : j < rs.length * ls.length := by rw [← hyl]; exact (List.getElem?_eq_some_iff.1 hy).1
        have hpos : 0 < ls.length := by
          rcases Nat.eq_zero_or_pos ls.length with h | h
          · rw [h] at hj; omega
          · exact h
        have e1 : j = (j / ls.length) * ls.length + j % ls.length := by
          have := Nat.div_add_mod j ls.length
          rw [Nat.mul_comm] at this
          omega
        have hi : j / ls.length < rs.length := (Nat.div_lt_iff_lt_mul hpos).2 hj
        have hc : j % ls.length < ls.length := Nat.mod_lt _ hpos
        have h1 := flatten_get hrn (j / ls.length) (j % ls.length) hc
        rw [← e1, hy, List.getElem?_eq_getElem hi] at h1
        exact ⟨_, _, _, e1, List.getElem?_eq_getElem hi, h1.symm⟩
      refine .sl es g off len cap rs.flatten (by omega) (by rw [hflat, List.length_map]) (fun j y hy => ?_) (fun j c y hc hy => ?_) (fun y hy => ?_) (fun _ _ h => h) hbk hlc hm
      · obtain ⟨i, c, r, rfl, hr, hc⟩ := at_ j y hy
        have h1 := World.cells?_some (hrs i r hr).1
        have hcl : c < P.cellsOf e := by
          rw [hn0, ← (hrs i r hr).2.1]
          exact (List.getElem?_eq_some_iff.1 hc).1
        have h2 := h1.2.2 c hcl
        rw [hc, add_lit, add_lit, hn0, Nat.add_assoc] at h2
        exact h2
      · rw [hflat, List.getElem?_map, hy] at hc
        simp only [Option.map_some, Option.some.injEq] at hc
        subst hc
        exact .val _
      · obtain ⟨j, hj, rfl⟩ := List.getElem_of_mem hy
        obtain ⟨i, c, r, _, hr, hc⟩ := at_ j _ (List.getElem?_eq_getElem hj)
        have hcl : c < ls.length := by
          rw [← (hrs i r hr).2.1]
          exact (List.getElem?_eq_some_iff.1 hc).1
        exact leaf_one ((hrs i r hr).2.2 c _ _ (List.getElem?_eq_getElem hcl) hc)
end
end Go.Proofs.YtomlhekjgagjaaaDoor
namespace Go.Proofs.YtomlhekjgagjaaaDoor
set_option maxRecDepth 100000
set_option maxHeartbeats 16000000
open Go Go.RowKit Go.ChangeShapes Go.WideShapes Go.ChangeAt
theorem ownT : ownKnob Tryd.prog.godebug = none := by kernel_rfl
theorem laidOutT : laidOutB Tryd.prog = true := by kernel_rfl
section
variable {P : Program} {W : World}
theorem wf_u64 {n : Int} (h : (Lit.int .u64 n).wf = true) : 0 ≤ n ∧ n < 18446744073709551616 := by
  have := bounds_u64 h
  omega
theorem Fn.law {f : FuncId} {args : List PV} (h : Fn P f args (.p (.val (.bool true)))) (hlay : Lays W) {vs : List Value} (hl : vs.length = args.length) (hr : ∀ (i : Nat) x v, args[i]? = some x → vs[i]? = some v → Rep NoM W x v) :
    Calls P f vs.toArray W fun e W' => e = .returned (.bool true) ∧ Below W.heap.size W W' :=
  (h NoM W vs ⟨hlay, fun _ _ _ h => h⟩ (fun _ _ h => h.elim) hl hr).mono fun e W' ⟨v, he, hv, hb⟩ => by
    cases hv
    exact ⟨he, hb⟩
theorem reps1 {M : Nat → Nat → Prop} {x0 : PV} {v0 : Value} (h0 : Rep M W x0 v0) : ∀ (i : Nat) x v, [x0][i]? = some x → [v0][i]? = some v → Rep M W x v := by
  intro i x v hx hv
  match i with
  | 0 => simp at hx hv; subst hx; subst hv; exact h0
  | i + 1 => simp at hx
end
theorem gTbl : Tryd.prog.globalNamed "weald/crc.halves" = some 0 := by kernel_rfl
theorem tTbl : (Tryd.prog.globals[0]?).map (·.type) = some 132 := by kernel_rfl
def laidL : List (String × DataW Unit) := [("weald/crc.halves", Rows.laid_weald_crc_halves)]
theorem lays_of_laid {W : World} (h : laidMetH Tryd.prog laidL W) : Lays W := by
  rw [MakeChecks.laidMetH_plain _ _ _ (by kernel_rfl)] at h
  obtain ⟨ps, ⟨g0, t0, cs0, f0, p0, q0, hg0, ht0, hv0, hd0, _, _⟩, _⟩ := h
  obtain rfl := Option.some.inj (gTbl.symm.trans hg0)
  obtain rfl := Option.some.inj (tTbl.symm.trans ht0)
  have hcell := World.var?_cell hg0 hv0
  obtain ⟨xs, m1, _, hx1, hlen, hn, hel⟩ := DataW.trod_array Tryd.underlying132 hd0
  have c1 : Tryd.prog.cellsOf 109 = 1 := by kernel_rfl
  have c16 : Tryd.prog.cellsOf 132 = 16 := by kernel_rfl
  rw [c16] at hlen
  have hdat : Rows.laid_weald_crc_halves (H := Unit) = .agg (tbl0.map fun p => .lit (.int p.1 p.2)) := by kernel_rfl
  simp only [Prod.mk.injEq] at hx1
  have hxs : xs.map (·.1) = tbl0.map fun p => .lit (.int p.1 p.2) := by
    have := hx1.1
    rw [hdat] at this
    simpa using this.symm
  have hk : ∀ p ∈ tbl0, p.1 = .u32 := by decide +kernel
  intro g ys hg
  have hgy : g = 0 ∧ ys = tbl0 := by
    unfold seatTbl at hg
    split at hg
    · next h => exact ⟨h, (Option.some.inj hg).symm⟩
    · cases hg
  obtain ⟨rfl, rfl⟩ := hgy
  have at_ : ∀ (j : Nat) p, tbl0[j]? = some p → W.cell? ⟨0, j, none⟩ = some (.int p.1 p.2) := by
    intro j p hp
    have hj : j < 16 := (List.getElem?_eq_some_iff.1 hp).1
    have h1 := hel j hj
    have hxj : xs[j]? = some xs[j] := List.getElem?_eq_getElem (by omega)
    rw [hxj, c1, Nat.mul_one] at h1
    obtain ⟨k, e1, e2, _⟩ := DataW.trod_int Tryd.underlying109 h1
    have h3 : (xs.map (·.1))[j]? = some (.lit (.int .u32 k)) := by rw [List.getElem?_map, hxj, e2]; rfl
    rw [hxs, List.getElem?_map, hp] at h3
    simp only [Option.map_some, Option.some.injEq, DataW.lit.injEq, Lit.int.injEq] at h3
    obtain ⟨h4, h5⟩ := h3
    have h6 : cs0[j]? = some (.int .u32 k) := by
      have : (cs0.toList.drop j).take 1 = [cs0.toList[j]'(by rw [hlen]; exact hj)] := by
        rw [List.drop_eq_getElem_cons (by rw [hlen]; exact hj)]
        rfl
      rw [this] at e1
      simp only [List.cons.injEq, and_true] at e1
      rw [← e1]
      simp [Array.getElem?_eq_getElem (show j < cs0.size by simpa using (by rw [hlen]; exact hj : j < cs0.toList.length))]
    rw [hcell j, h6, h4, h5]
  refine ⟨?_, at_⟩
  have h0 := at_ 0 _ rfl
  unfold World.cell? at h0
  cases hh : W.heap[0]? with
  | none => rw [hh] at h0; cases h0
  | some o => exact (Array.getElem?_eq_some_iff.1 hh).1
theorem door_met (os : Os) (args : Array Value) : laidMetH Tryd.prog laidL ((World.doorLaid Tryd.prog 400 os).forCall (fun _ _ => 0) ⟨#[], args, []⟩).memory :=
  laidMetH_of_parts3 (fuel := 8) (laidMet_of_run' 8 (by kernel_rfl) (by kernel_rfl)) (by kernel_rfl) (by kernel_rfl)
end Go.Proofs.YtomlhekjgagjaaaDoor
namespace Go.Proofs.YtomlhekjgagjaaaDoor
set_option maxRecDepth 100000
set_option maxHeartbeats 16000000
open Go Go.RowKit Go.ChangeShapes Go.WideShapes Go.ChangeAt
section
variable {P : Program} {W : World} {H : Type} {enc : TypeId × Value → H}
end
end Go.Proofs.YtomlhekjgagjaaaDoor
namespace Go.Proofs.YtomlhekjgagjaaaDoor
set_option maxRecDepth 100000
set_option maxHeartbeats 16000000
open Go Go.RowKit Go.ChangeShapes Go.WideShapes Go.ChangeAt
section
variable {P : Program} {W : World} {H : Type} {enc : TypeId × Value → H} {base : Nat} {held : Bool}
theorem cell_block {a : Addr} {v : Value} (h : W.cell? a = some v) : a.spot = none ∧ a.block < W.heap.size := by
  refine ⟨World.cell?_spot h, ?_⟩
  unfold World.cell? at h
  cases hb : W.heap[a.block]? with
  | none => rw [hb] at h; cases h
  | some o => exact (Array.getElem?_eq_some_iff.1 hb).1
theorem rep_len {M : Nat → Nat → Prop} {es : List PV} {a : Addr} {len cap : Nat} (h : Rep M W (.sl es) (.slice (some a) len cap)) : es.length = len := by
  generalize hv : Value.slice (some a) len cap = v at h
  rcases rep_sl h with ⟨⟨b, rfl⟩, rfl⟩ | ⟨g, o, c, ys, rfl, _⟩
  · injection hv with h1 h2 h3
    exact h2.symm
  · injection hv with h1 h2 h3
    exact h2.symm
theorem arg_bytes_in {t e : TypeId} {v : Value} {fuel : Nat} {x : DataW H × List MemPlace} {R : Nat} (ht : P.underlying t = some (.slice e)) (hfl : flatB P 3 e [.int .u8] = true) (hn : P.cellsOf e = 1) (hby : P.bytesOf e = 1)
    (h : DataW.trod enc P W base (fun _ => true) held fuel t [v] = some x) (hw : ∀ y ∈ x.1.weights P t, y ≤ R) : ∃ s : List Int, Rep NoM W (.sl (byts s)) v ∧ yI s ∧ s.length ≤ R ∧ v.oneCell' = true := by
  rcases DataW.trod_slice ht h with ⟨hv, _⟩ | ⟨a, len, cap, elems, rest, n, _, hv, hx, hb, hlc, hm, hlen, hel, hsp, _⟩
  · simp only [List.cons.injEq, and_true] at hv
    subst hv
    exact ⟨[], .nil, (fun y hy => by cases hy), Nat.zero_le _, rfl⟩
  · simp only [List.cons.injEq, and_true] at hv
    subst hv
    have hlR : len ≤ R := by
      have h1 := hw ((elems.length + rest.length) * P.bytesOf e) (by
        rw [hx]
        simp [DataW.weights, ht])
      rw [hby, hlen] at h1
      omega
    rcases Nat.eq_zero_or_pos cap with h0 | h0
    · have : len = 0 := by omega
      subst this
      subst h0
      exact ⟨[], .nil, (fun y hy => by cases hy), Nat.zero_le _, rfl⟩
    · have hok : a.spot = none ∧ a.block < W.heap.size := by
        have hc : ∃ cs, W.cells? base (a.add 0) 1 = some cs := by
          rcases Nat.eq_zero_or_pos len with hl | hl
          · subst hl
            have h1 := hsp rfl
            have h2 := h1.2 0 (by omega)
            rw [List.getElem?_eq_getElem (by omega : 0 < rest.length)] at h2
            obtain ⟨cs, h3, _⟩ := Option.bind_eq_some_iff.1 h2
            rw [hn] at h3
            simp only [Nat.zero_add, Nat.zero_mul] at h3
            exact ⟨cs, h3⟩
          · have h2 := hel 0 hl
            rw [List.getElem?_eq_getElem (by omega : 0 < elems.length)] at h2
            obtain ⟨cs, h3, _⟩ := Option.bind_eq_some_iff.1 h2
            rw [hn] at h3
            simp only [Nat.zero_mul] at h3
            exact ⟨cs, h3⟩
        obtain ⟨cs, hc⟩ := hc
        have h3 := World.cells?_some hc
        have h4 := h3.2.2 0 (by omega)
        have h5 : cs[0]? = some (cs[0]'(by omega)) := List.getElem?_eq_getElem _
        rw [h5] at h4
        have h6 : (a.add 0).add 0 = a := by simp [Addr.add]
        rw [h6] at h4
        exact cell_block h4
      obtain ⟨rows, h1, h2, h3⟩ := arg_rows (ls := [.int .u8]) ht hfl hn (fun a' len' cap' e' => by
        injection e' with e1 e2 e3
        injection e1 with e1
        subst e1
        exact hok) h
      have hr : ∀ r ∈ rows, ∃ b, r = [Value.int .u8 b] ∧ 0 ≤ b ∧ b < 256 := fun r hr => by
        obtain ⟨hl, hx⟩ := h1 r hr
        match r, hl with
        | [x], _ =>
          obtain ⟨b, rfl, hb⟩ := hx 0 _ x rfl rfl
          have := bounds_u8 hb
          exact ⟨b, rfl, by omega, by omega⟩
      have hs : ∃ s : List Int, rows = s.map (fun b => [Value.int .u8 b]) ∧ yI s := by
        clear h3 h2 h1 h hel hsp hlen hx hw
        induction rows with
        | nil => exact ⟨[], rfl, fun y hy => by cases hy⟩
        | cons r rs ih =>
          obtain ⟨b, rfl, hb⟩ := hr r (by simp)
          obtain ⟨s, rfl, hs⟩ := ih fun r h => hr r (by simp [h])
          refine ⟨b :: s, rfl, fun y hy => ?_⟩
          rcases List.mem_cons.1 hy with rfl | hy
          · exact hb
          · exact hs y hy
      obtain ⟨s, rfl, hs⟩ := hs
      have hrep := h3 (byts s) (by simp [byts, PV.cells])
      have hle := rep_len hrep
      rw [qW] at hle
      exact ⟨s, hrep, hs, by omega, rfl⟩
theorem arg_streams {t e f : TypeId} {v : Value} {fuel : Nat} {x : DataW H × List MemPlace} {R : Nat} (ht : P.underlying t = some (.slice e)) (he : P.underlying e = some (.slice f)) (hfl : flatB P 3 f [.int .u8] = true) (hn : P.cellsOf f = 1) (hn2 : P.cellsOf e = 1) (hby : P.bytesOf f = 1) (hby2 : P.bytesOf e = 24)
    (hok : ∀ a len cap, v = .slice (some a) len cap → a.spot = none ∧ a.block < W.heap.size)
    (h : DataW.trod enc P W base (fun _ => true) held fuel t [v] = some x) (hw : ∀ y ∈ x.1.weights P t, y ≤ R) : ∃ ss : List (List Int), Rep NoM W (.sl (ss.map fun s => .sl (byts s))) v ∧ (∀ s ∈ ss, yI s ∧ s.length ≤ R) ∧ ss.length * 24 ≤ R := by
  rcases DataW.trod_slice ht h with ⟨hv, _⟩ | ⟨a, len, cap, elems, rest, n, _, hv, hx, hb, hlc, hm, hlen, hel, _, _⟩
  · simp only [List.cons.injEq, and_true] at hv
    subst hv
    exact ⟨[], .nil, (fun y hy => by cases hy), Nat.zero_le _⟩
  · simp only [List.cons.injEq, and_true] at hv
    subst hv
    obtain ⟨hs, hbk⟩ := hok a len cap rfl
    obtain ⟨g, off, spot⟩ := a
    simp only at hs hbk
    subst hs
    have hwt : x.1.weights P t = (elems.length + rest.length) * P.bytesOf e :: (DataW.weightsAll P e (elems.map (·.1)) ++ DataW.weightsAll P e (rest.map (·.1))) := by
      rw [hx]
      simp [DataW.weights, ht]
    have hall : ∀ (l : List (DataW H × List MemPlace)) (y : DataW H × List MemPlace), y ∈ l → ∀ z ∈ y.1.weights P e, z ∈ DataW.weightsAll P e (l.map (·.1)) := by
      intro l
      induction l with
      | nil => intro y hy; cases hy
      | cons c r ih =>
        intro y hy z hz
        rw [List.map_cons, DataW.weightsAll]
        rcases List.mem_cons.1 hy with rfl | hy
        · exact List.mem_append_left _ hz
        · exact List.mem_append_right _ (ih y hy z hz)
    have row : ∀ i, i < len → ∃ (s : List Int) (y : Value), W.cell? ⟨g, off + i, none⟩ = some y ∧ Rep NoM W (.sl (byts s)) y ∧ yI s ∧ s.length ≤ R ∧ y.oneCell' = true := by
      intro i hi
      have h1 := hel i hi
      have hil : i < elems.length := by omega
      rw [List.getElem?_eq_getElem hil] at h1
      obtain ⟨r, hr, h2⟩ := Option.bind_eq_some_iff.1 h1
      rw [hn2, Nat.mul_one] at hr
      have h3 := World.cells?_some hr
      obtain ⟨y, rfl⟩ : ∃ y, r = [y] := by
        match r, h3.2.1 with
        | [y], _ => exact ⟨y, rfl⟩
      have h4 := h3.2.2 0 (by omega)
      obtain ⟨s, p1, p2, p3, p4⟩ := arg_bytes_in he hfl hn hby h2 (R := R) (fun z hz => hw z (by
        rw [hwt]
        exact List.mem_cons_of_mem _ (List.mem_append_left _ (hall elems _ (List.getElem_mem hil) z hz))))
      refine ⟨s, y, ?_, p1, p2, p3, p4⟩
      have e1 : (Addr.add (Addr.add ⟨g, off, none⟩ i) 0) = ⟨g, off + i, none⟩ := by rw [add_lit, add_lit, Nat.add_zero]
      rw [e1] at h4
      exact h4
    have rows : ∀ m, m ≤ len → ∃ (ss : List (List Int)) (ys : List Value), ss.length = m ∧ ys.length = m ∧ ∀ (i : Nat) s y, ss[i]? = some s → ys[i]? = some y → W.cell? ⟨g, off + i, none⟩ = some y ∧ Rep NoM W (.sl (byts s)) y ∧ yI s ∧ s.length ≤ R ∧ y.oneCell' = true := by
      intro m
      induction m with
      | zero => exact fun _ => ⟨[], [], rfl, rfl, fun i s y h => by simp at h⟩
      | succ m ih =>
        intro hm2
        obtain ⟨ss, ys, h1, h2, h3⟩ := ih (by omega)
        obtain ⟨s, y, hsy⟩ := row m (by omega)
        refine ⟨ss ++ [s], ys ++ [y], by simp [h1], by simp [h2], fun i s' y' hi hj => ?_⟩
        rcases Nat.lt_or_ge i m with h4 | h4
        · rw [List.getElem?_append_left (by omega)] at hi hj
          exact h3 i s' y' hi hj
        · have hil : i < m + 1 := by
            have := (List.getElem?_eq_some_iff.1 hi).1
            simp [h1] at this
            omega
          have hie : i = m := by omega
          subst hie
          rw [List.getElem?_append_right (by omega), h1, Nat.sub_self] at hi
          rw [List.getElem?_append_right (by omega), h2, Nat.sub_self] at hj
          simp at hi hj
          subst hi hj
          exact hsy
    obtain ⟨ss, ys, hsl, hyl, hsy⟩ := rows len (Nat.le_refl _)
    have hflat : flat (ss.map fun s => PV.sl (byts s)) = ss.map fun s => PV.sl (byts s) := by
      clear hsy hsl
      induction ss with
      | nil => rfl
      | cons s r ih =>
        show PV.sl (byts s) :: flat (r.map fun s => PV.sl (byts s)) = _
        rw [ih]
        rfl
    refine ⟨ss, .sl _ g off len cap ys (by simp [hsl]) (by rw [hflat, List.length_map, hsl, hyl]) (fun j y hy => ?_) (fun j c y hc hy => ?_) (fun y hy => ?_) (fun _ _ h => h) hbk hlc hm, fun s hs => ?_, ?_⟩
    · have hj : j < ss.length := by rw [hsl, ← hyl]; exact (List.getElem?_eq_some_iff.1 hy).1
      exact (hsy j _ y (List.getElem?_eq_getElem hj) hy).1
    · rw [hflat, List.getElem?_map] at hc
      cases hs : ss[j]? with
      | none => rw [hs] at hc; cases hc
      | some s =>
        rw [hs] at hc
        cases hc
        exact (hsy j s y hs hy).2.1
    · obtain ⟨j, hj, rfl⟩ := List.getElem_of_mem hy
      exact (hsy j _ _ (List.getElem?_eq_getElem (by omega)) (List.getElem?_eq_getElem hj)).2.2.2.2
    · obtain ⟨j, hj, rfl⟩ := List.getElem_of_mem hs
      have := hsy j _ _ (List.getElem?_eq_getElem hj) (List.getElem?_eq_getElem (by omega))
      exact ⟨this.2.2.1, this.2.2.2.1⟩
    · have h1 := hw ((elems.length + rest.length) * P.bytesOf e) (by rw [hwt]; exact List.mem_cons_self)
      rw [hby2, hlen] at h1
      rw [hsl]
      omega
end
end Go.Proofs.YtomlhekjgagjaaaDoor
namespace Go.Proofs.YtomlhekjgagjaaaDoor
set_option maxRecDepth 100000
set_option maxHeartbeats 16000000
open Go Go.RowKit Go.ChangeShapes Go.WideShapes Go.ChangeAt
theorem arg_tornIn {H : Type} {enc : TypeId × Value → H} {W : World} {base : Nat} {v : Value} {d : DataW H} {p : List MemPlace} (hv : Value.okWide Tryd.prog W .any base 50 v) (h : DataW.Trod enc Tryd.prog W 0 (fun _ => true) true 50 v d p)
    (hw : ∀ y ∈ d.weights Tryd.prog 50, y ≤ 140737488351232) :
    ∃ (ss : List (List Int)) (a st c : Int), Rep NoM W (.agg [.sl (wG ss), .val (.int .u8 a), .val (.int .u64 st), .val (.int .u8 c)]) v ∧ (∀ s ∈ ss, yI s ∧ s.length ≤ 140737488351232) ∧ ss.length * 24 ≤ 140737488351232 ∧ (0 ≤ a ∧ a < 256) ∧ U st ∧ (0 ≤ c ∧ c < 256) := by
  obtain ⟨cs, rfl, hsz⟩ := okWide_struct Tryd.underlying50 hv
  obtain ⟨cl⟩ := cs
  obtain ⟨fuel, hf⟩ := h
  have hf : DataW.trod enc Tryd.prog W 0 (fun _ => true) true fuel 50 cl = some (d, p) := hf
  obtain ⟨hlen, hlf⟩ := flat_trod (ls := [.any, .int .u8, .int .u64, .int .u8]) 8 (by kernel_rfl) hf
  obtain ⟨xs, n, _, hdx, _, hxl, hg⟩ := DataW.trod_struct Tryd.underlying50 hf
  obtain ⟨x0, r, rfl⟩ : ∃ x0 r, xs = x0 :: r := by
    cases xs with
    | nil => simp at hxl
    | cons a b => exact ⟨a, b, rfl⟩
  match cl, hlen with
  | [a0, a1, a2, a3], _ =>
    have h0 := hlf 0 _ a0 rfl rfl
    obtain ⟨n1, rfl, h1⟩ := hlf 1 _ a1 rfl rfl
    obtain ⟨n2, rfl, h2⟩ := hlf 2 _ a2 rfl rfl
    obtain ⟨n3, rfl, h3⟩ := hlf 3 _ a3 rfl rfl
    have f0 := hg 0 _ rfl
    rw [List.getElem?_cons_zero] at f0
    have k0 := wide_cell (i := 0) (ts := [22, 5, 44, 5]) (u := 22) (v := a0) Tryd.underlying50 hv (by kernel_rfl) (by kernel_rfl) rfl
    obtain ⟨ss, r0, g0, g1⟩ : ∃ ss : List (List Int), Rep NoM W (.sl (ss.map fun s => .sl (byts s))) a0 ∧ (∀ s ∈ ss, yI s ∧ s.length ≤ 140737488351232) ∧ ss.length * 24 ≤ 140737488351232 :=
      arg_streams (t := 22) Tryd.underlying22 Tryd.underlying35 (by kernel_rfl) (by kernel_rfl) (by kernel_rfl) (by kernel_rfl) (by kernel_rfl) (fun a len cap e => by
        subst e
        have := cell_slice Tryd.underlying22 k0
        exact ⟨this.1, this.2.1⟩) f0 (fun y hy => hw y (by
        have e1 : d = .agg ((x0 :: r).map (·.1)) := (Prod.mk.inj hdx).1
        rw [e1]
        simp only [DataW.weights, Tryd.underlying50, List.map_cons, DataW.weightsEach]
        exact List.mem_append_left _ hy))
    refine ⟨ss, n1, n2, n3, .agg _ [a0, .int .u8 n1, .int .u64 n2, .int .u8 n3] rfl (fun i c u hc hu => ?_) (fun u hu => ?_), g0, g1, by have := bounds_u8 h1; omega, wf_u64 h2, by have := bounds_u8 h3; omega⟩
    · match i with
      | 0 => simp at hc hu; subst hc hu; exact r0
      | 1 => simp at hc hu; subst hc hu; exact .val _
      | 2 => simp at hc hu; subst hc hu; exact .val _
      | 3 => simp at hc hu; subst hc hu; exact .val _
      | i + 4 => simp at hc
    · simp only [List.mem_cons, List.not_mem_nil, or_false] at hu
      rcases hu with rfl | rfl | rfl | rfl
      · exact h0
      · rfl
      · rfl
      · rfl
theorem mergeTorn_lifted (os : Os) (started : os.Started) (H : Type) (enc : TypeId × Value → H) :
    ReturnsInHanded {} Tryd.checked os 6 .any (fun w args => (Rows.mergeTornSpec.pre enc Tryd.prog Tryd.f6 [] false w args ∧ laidMetH Tryd.prog laidL w) ∧ sizedMet enc Tryd.prog Tryd.f6 (OpenSpec.ofChange Rows.mergeTornSpec) false w args)
      (Rows.mergeTornSpec.post enc Tryd.prog Tryd.f6 false true false false) := by
  refine returnsInHanded_of_change_and (C := Tryd.checked) (X := fun w _ => laidMetH Tryd.prog laidL w) (fun _ _ _ hh h => h.of_heap hh) ownT started (by kernel_rfl) Tryd.func6
    (ChangeSpec.witness_shaped (enc := enc) (C := Tryd.checked) (os := os) (X := fun w _ => laidMetH Tryd.prog laidL w) false (World.doorLaid Tryd.prog 400 os) #[.agg #[.slice none 0 0, .int .u8 0, .int .u64 0, .int .u8 0]] 8 rfl (World.shaped_of_RefB (by kernel_rfl) (by kernel_rfl)) (by kernel_rfl) (by kernel_rfl) (by kernel_rfl) (door_met os _)) ?_
  intro W base args ds gs before hval0 hW hcnd hwt hL _
  have hval : ∀ (j : Nat) t v, Tryd.f6.params[j]? = some t → args[j]? = some v → Value.okWide Tryd.prog W .any base t v := hval0
  have hW' := hW
  obtain ⟨p, q, hA0, hV, rfl, hfz, hnd⟩ := hW
  have hA : DataW.TrodAll enc Tryd.prog W 0 (fun _ => true) true Tryd.f6.params.toList args.toList ds p := hA0
  rw [Tryd.params6] at hA hval
  obtain ⟨v0, vs0, d0, ds0, p0, q0, hargs, rfl, rfl, h0, r0⟩ := trodAll_cons hA
  obtain ⟨rfl, rfl, rfl⟩ := trodAll_nil r0
  obtain rfl : args = #[v0] := by cases args; simp_all
  obtain ⟨rfl, rfl⟩ := trodVars_none hV
  have lt0 : ∀ x ∈ p0, x.block < W.heap.size := by obtain ⟨m, hm⟩ := h0; exact DataW.trod_lt m _ _ _ hm
  obtain ⟨ss, x1, x2, x3, e0, g0, g1, g2, g3, g4⟩ := arg_tornIn (hval 0 50 v0 rfl rfl) h0 (fun y hy => by
    have hm := List.all_eq_true.1 hwt y (by
      rw [Tryd.params6]
      exact List.mem_append_left _ hy)
    exact of_decide_eq_true hm)
  clear hA0 hval0
  refine ((mtorn_fn ss x1 x2 x3 g0 g1 g2 g3 g4).law (lays_of_laid hL) (vs := [v0]) rfl (reps1 e0)).mono fun e W' ⟨he, bel⟩ => ?_
  subst he
  exact ⟨_, rfl, _, _, _, [], _, [], hW', trodAll_mk1 (shut_bool Tryd.underlying4 _), (trodAll_cons_mk (Below.trod laidOutT (by kernel_rfl) (of_decide_eq_true (by kernel_rfl)) h0 bel lt0) trodAll_mk0), rfl, bel.frame _, fun h => by cases h⟩
theorem mergeTorn_holds : Rows.MergeTornSaid :=
  OpenClaim.holds_of_wide 6 Tryd.f6 rfl rfl rfl rfl rfl rfl rfl ⟨rfl, rfl, rfl, rfl, rfl⟩ rfl rfl rfl rfl rfl (by kernel_rfl) Tryd.func6 (by kernel_rfl)
    (of_decide_eq_true (by kernel_rfl)) (by unfold Func.isWrapper; first | (rw [if_pos (by decide +kernel)]; kernel_rfl) | (rw [if_neg (by decide +kernel)]; exact ⟨rfl, rfl⟩))
    (fun os started H enc _ => mergeTorn_lifted os started H enc)
theorem mergeTornCard_holds : Rows.MergeTornCardSaid :=
  Claim7.holds_tied_plain_at .later [] [.data] true _ true
    mergeTorn_holds (fun _ h => by cases h) (by kernel_rfl) (fun _ h => by cases h) mergeTorn_row_tie rfl ⟨rfl, rfl⟩ (by kernel_rfl) rfl
    (fun f fn hf hfn => by
      obtain rfl : f = 6 := Option.some.inj ((show Tryd.prog.funcNamed "weald/wealdlaw22.MergeTorn" = some 6 by kernel_rfl).symm.trans hf) |>.symm
      obtain rfl : fn = Tryd.f6 := (Option.some.inj (Tryd.func6.symm.trans hfn)).symm
      exact ⟨by kernel_rfl, fun j t ht => by
        rw [Tryd.params6] at ht
        have hm : t ∈ [50] := by simpa using Array.mem_of_getElem? ht
        have hall : ([50].all fun u => !Tryd.prog.wantsStandIn u) = true := by kernel_rfl
        exact (show Tryd.prog.wantsStandIn t = false by simpa using List.all_eq_true.1 hall t hm)⟩)
    (by kernel_rfl)
#print axioms mergeTornCard_holds
end Go.Proofs.YtomlhekjgagjaaaDoor
