/- For every input SaveHelped returns true, and leaves its arguments as they were; tied: Rows.SaveHelpedCardSaid. Conditions: none beyond the given statement's own. (Part 6 of 7.) -/
import Derived.Test.YthnmfmdkdngggaaDoorHl5
/- A region that draws its order, of which some operations may come late. Generic over the program. -/
namespace Go.Proofs.YthnmfmdkdngggaaDoor
set_option maxRecDepth 100000
set_option maxHeartbeats 16000000
open Go Go.RowKit
attribute [local semireducible] yU xM Draws
/-- as schedB; some of the first m may come behind others -/
def schedL (l : List Oper) (m : Nat) (bss : List (List Nat)) (late : List Nat) : Bool :=
  decide (m ≤ l.length) && ((List.range l.length).all fun i => match l[i]? with
    | some o => o.after.toList.all fun e => !Region.binds .any e || decide (e.on < i)
    | none => true) &&
  ((List.range m).all fun i => (List.range m).all fun j =>
    (i == j || y9 l i != y9 l j) && (y9 l i).isSome && (decide (i < j) || !(ord l i j)) &&
    (match y9 l j with
     | some t => (!(readsOf l i).contains t || i == j || (decide (j < i) && ord l j i) || (decide (i < j) && ord l i j)) && (!(bss.getD i []).contains t || (decide (j < i) && ord l j i))
     | none => true)) &&
  ((List.range l.length).all fun t => decide (t < m) || (List.range m).all fun j => ord l j t || late.contains j)
structure SchedL (l : List Oper) (xs : List AI) (late : List Nat) : Prop where
  len : xs.length ≤ l.length
  back : ∀ (i : Nat) (o : Oper), l[i]? = some o → ∀ e ∈ o.after.toList, Region.binds .any e = true → e.on < i
  one : ∀ i j, i < xs.length → j < xs.length → y9 l i = y9 l j → i = j
  has : ∀ i, i < xs.length → (y9 l i).isSome = true
  fwd : ∀ i j, i < xs.length → j < xs.length → ord l i j = true → i < j
  reads : ∀ i j t, i < xs.length → j < xs.length → y9 l j = some t → t ∈ readsOf l i → i = j ∨ (j < i ∧ ord l j i = true) ∨ (i < j ∧ ord l i j = true)
  blks : ∀ i j t x, i < xs.length → j < xs.length → y9 l j = some t → xs[i]? = some x → t ∈ x.bs → j < i ∧ ord l j i = true
  tail : ∀ t, xs.length ≤ t → t < l.length → ∀ j, j < xs.length → ord l j t = true ∨ late.contains j = true
theorem SchedL.of {l : List Oper} {xs : List AI} {late : List Nat} (h : schedL l xs.length (xs.map (·.bs)) late = true) : SchedL l xs late := by
  unfold schedL at h
  simp only [Bool.and_eq_true, List.all_eq_true, List.mem_range, decide_eq_true_eq, Bool.or_eq_true] at h
  obtain ⟨⟨⟨h1, h2⟩, h3⟩, h4⟩ := h
  refine ⟨h1, fun i o ho e he hb => ?_, fun i j hi hj he => ?_, fun i hi => ?_, fun i j hi hj ho => ?_, fun i j t hi hj hd ht => ?_, fun i j t x hi hj hd hx ht => ?_, fun t ht htl j hj => ?_⟩
  · have hi : i < l.length := (List.getElem?_eq_some_iff.1 ho).1
    have := h2 i hi
    rw [ho] at this
    simp only [List.all_eq_true, Bool.or_eq_true, decide_eq_true_eq, Bool.not_eq_true'] at this
    rcases this e he with h5 | h5
    · rw [hb] at h5; cases h5
    · exact h5
  · have := (h3 i hi j hj).1.1.1
    rcases this with h5 | h5
    · simpa using h5
    · simp [he] at h5
  · exact (h3 i hi i hi).1.1.2
  · rcases (h3 i hi j hj).1.2 with h5 | h5
    · exact h5
    · simp [ho] at h5
  · have := (h3 i hi j hj).2
    rw [hd] at this
    simp only [Bool.and_eq_true, Bool.or_eq_true, decide_eq_true_eq, beq_iff_eq] at this
    rcases this.1 with ((h5 | h5) | h5) | h5
    · simp [ht] at h5
    · exact .inl h5
    · exact .inr (.inl h5)
    · exact .inr (.inr h5)
  · have := (h3 i hi j hj).2
    rw [hd] at this
    simp only [Bool.and_eq_true, Bool.or_eq_true, decide_eq_true_eq, beq_iff_eq] at this
    rcases this.2 with h5 | h5
    · exfalso
      have e : (List.map (fun x : AI => x.bs) xs).getD i [] = x.bs := by simp [List.getD_eq_getElem?_getD, hx]
      rw [e] at h5
      simp [ht] at h5
    · exact h5
  · rcases h4 t htl with h5 | h5
    · omega
    · exact h5 j hj
theorem Apart.ofL {l : List Oper} {xs : List AI} {late : List Nat} {S0 : AS} (hs : SchedL l xs late) (h : madeB l xs S0 = true) : Apart l xs S0 := by
  have hd' : ∀ {i : Nat} {o : Oper}, l[i]? = some o → y9 l i = o.dst := fun {i o} ho => by simp [y9, ho]
  have hlt : ∀ {i : Nat} {x : AI}, xs[i]? = some x → i < xs.length := fun {i x} hx => (List.getElem?_eq_some_iff.1 hx).1
  have main : ∀ (i : Nat) (o : Oper) (x : AI) (d : Nat), l[i]? = some o → xs[i]? = some x → o.dst = some d → x.nb ≠ none → noRef d S0 = true ∧ ∀ (k : Nat) (x' : AI), xs[k]? = some x' →
      (ord l i k = true ∧ i ≠ k) ∨ ((i = k ∨ freeOf d x'.av = true) ∧ ∀ b, x'.nb = some b → freeOfB d b = true) := by
    intro i o x d ho hx hd hnb
    unfold madeB at h
    rw [List.all_eq_true] at h
    have h1 := h i (List.mem_range.2 (hlt hx))
    rw [hx, hd' ho, hd] at h1
    obtain ⟨b, hb⟩ := Option.ne_none_iff_exists'.1 hnb
    obtain ⟨bs, av, nb⟩ := x
    simp only at hb
    subst hb
    simp only [Bool.and_eq_true, List.all_eq_true, List.mem_range, Bool.or_eq_true] at h1
    refine ⟨h1.1, fun k x' hx' => ?_⟩
    have h2 := h1.2 k (hlt hx')
    rw [hx'] at h2
    rcases h2 with h2 | h2
    · exact .inl ⟨h2.1, by simpa using h2.2⟩
    · right
      simp only [Bool.and_eq_true, Bool.or_eq_true, beq_iff_eq] at h2
      refine ⟨h2.1, fun b' hb' => ?_⟩
      have h3 := h2.2
      rw [hb'] at h3
      exact h3
  refine ⟨fun i j o o' x x' d ho ho' hx hx' hd hd2 => hs.one i j (hlt hx) (hlt hx') (by rw [hd' ho, hd' ho', hd, hd2]), fun i k o x x' d ho hx hx' hd hnb => (main i o x d ho hx hd hnb).2 k x' hx', fun i o x d ho hx hd hnb => (main i o x d ho hx hd hnb).1, fun i o x ho hx => ?_⟩
  have := hs.has i (hlt hx)
  rw [hd' ho] at this
  exact Option.isSome_iff_exists.1 this
/-- What an operation that may come up reads is as it is where the text comes to it. -/
theorem Agr.readsL {l : List Oper} {xs : List AI} {late : List Nat} {S0 S2 Si : AS} {listed : Array Bool} (hs : SchedL l xs late) (hc : Closed l listed) {i : Nat} {x : AI} (hr : i ∈ Region.ready .any l.toArray listed)
    (hx : xs[i]? = some x) (h : Agr l xs S0 (Done listed) S2) (h' : Agr l xs S0 (fun k => k < i) Si) :
    (∀ t ∈ readsOf l i, S2.tmp t = Si.tmp t) ∧ ∀ id ∈ x.bs, S2.blk id = Si.blk id := by
  have hix : i < xs.length := (List.getElem?_eq_some_iff.1 hx).1
  have hnd := (yH hr).2.1
  have hil := (yH hr).1
  have hd' : ∀ {k : Nat} {ok : Oper}, l[k]? = some ok → y9 l k = ok.dst := fun {k ok} hk => by simp [y9, hk]
  refine ⟨fun t ht => ?_, fun id hid => ?_⟩
  · have iff : ∀ (k : Nat) (ok : Oper) (xk : AI), l[k]? = some ok → xs[k]? = some xk → ok.dst = some t → (Done listed k ↔ k < i) := by
      intro k ok xk h1 h2 h3
      have hkx : k < xs.length := (List.getElem?_eq_some_iff.1 h2).1
      rcases hs.reads i k t hix hkx (by rw [hd' h1, h3]) ht with h4 | ⟨h4, h5⟩ | ⟨h4, h5⟩
      · subst h4; exact ⟨fun h => (hnd h).elim, fun h => by omega⟩
      · exact ⟨fun _ => h4, fun _ => hc.ready_ord hr h5⟩
      · refine ⟨fun h => (hnd ?_).elim, fun h => by omega⟩
        exact hc.ord (k + 1) k i (by omega) (Nat.lt_of_lt_of_le hkx hs.len) h h5
    by_cases hex : ∃ (k : Nat) (ok : Oper) (xk : AI), l[k]? = some ok ∧ xs[k]? = some xk ∧ Done listed k ∧ ok.dst = some t
    · obtain ⟨k, ok, xk, h1, h2, h3, h4⟩ := hex
      rw [h.t1 k ok xk t h1 h2 h3 h4, h'.t1 k ok xk t h1 h2 ((iff k ok xk h1 h2 h4).1 h3) h4]
    · rw [h.t2 t fun k ok xk h1 h2 h3 h4 => hex ⟨k, ok, xk, h1, h2, h3, h4⟩, h'.t2 t fun k ok xk h1 h2 h3 h4 => hex ⟨k, ok, xk, h1, h2, (iff k ok xk h1 h2 h4).2 h3, h4⟩]
  · have iff : ∀ (k : Nat) (ok : Oper) (xk : AI), l[k]? = some ok → xs[k]? = some xk → ok.dst = some id → (Done listed k ∧ k < i) := by
      intro k ok xk h1 h2 h3
      have hkx : k < xs.length := (List.getElem?_eq_some_iff.1 h2).1
      obtain ⟨h4, h5⟩ := hs.blks i k id x hix hkx (by rw [hd' h1, h3]) hx hid
      exact ⟨hc.ready_ord hr h5, h4⟩
    by_cases hex : ∃ (k : Nat) (ok : Oper) (xk : AI), l[k]? = some ok ∧ xs[k]? = some xk ∧ xk.nb ≠ none ∧ ok.dst = some id
    · obtain ⟨k, ok, xk, h1, h2, h4, h5⟩ := hex
      obtain ⟨b, hb⟩ := Option.ne_none_iff_exists'.1 h4
      obtain ⟨h6, h7⟩ := iff k ok xk h1 h2 h5
      rw [h.b1 k ok xk id b h1 h2 h6 h5 hb, h'.b1 k ok xk id b h1 h2 h7 h5 hb]
    · rw [h.b2 id fun k ok xk h1 h2 _ h4 h5 => hex ⟨k, ok, xk, h1, h2, h4, h5⟩, h'.b2 id fun k ok xk h1 h2 _ h4 h5 => hex ⟨k, ok, xk, h1, h2, h4, h5⟩]
theorem ready_or_allL {l : List Oper} {xs : List AI} {late : List Nat} {listed : Array Bool} (hs : SchedL l xs late) (hc : Closed l listed) : Region.ready .any l.toArray listed ≠ [] ∨ ∀ i, i < l.length → Done listed i := by
  by_cases hall : ∀ i, i < l.length → Done listed i
  · exact .inr hall
  · left
    have hex : ∃ i, i < l.length ∧ ¬ Done listed i := by
      apply Classical.byContradiction
      intro h
      exact hall fun i hi => Classical.byContradiction fun hn => h ⟨i, hi, hn⟩
    -- the least that is not done may come up
    have least : ∃ i, i < l.length ∧ ¬ Done listed i ∧ ∀ j, j < i → Done listed j := by
      obtain ⟨i, hi, hn⟩ := hex
      induction i using Nat.strongRecOn with
      | _ i ih =>
        by_cases h : ∀ j, j < i → Done listed j
        · exact ⟨i, hi, hn, h⟩
        · obtain ⟨j, hj, hnj⟩ : ∃ j, j < i ∧ ¬ Done listed j := by
            apply Classical.byContradiction
            intro h2
            exact h fun j hj => Classical.byContradiction fun hn => h2 ⟨j, hj, hn⟩
          exact ih j hj (by omega) hnj
    obtain ⟨i, hi, hn, hlow⟩ := least
    intro hnil
    have : i ∈ Region.ready .any l.toArray listed := by
      unfold Region.ready
      simp only [List.size_toArray, List.mem_filter, List.mem_range, Bool.and_eq_true, Bool.not_eq_true']
      refine ⟨hi, ?_, ?_⟩
      · unfold Done at hn
        have hil : i < listed.size := by rw [hc.size]; exact hi
        simp [hil] at hn ⊢
        exact hn
      · simp only [List.getElem?_toArray, List.getElem?_eq_getElem hi, Option.map_some, Option.getD_some]
        rw [Array.all_eq_true']
        intro e he
        by_cases hb : Region.binds .any e = true
        · have := hlow e.on (hs.back i l[i] (List.getElem?_eq_getElem hi) e (by simpa using he) hb)
          unfold Done at this
          simp [hb, this]
        · simp [Bool.not_eq_true] at hb; simp [hb]
    rw [hnil] at this
    cases this
theorem runA_agrL {P : Program} {n : Nat} {l : List Oper} {xs : List AI} {late : List Nat} {S0 : AS} (hs : SchedL l xs late) (hA : Apart l xs S0) :
    ∀ (m : Nat) (S : AS), m ≤ xs.length → Agr l xs S0 (fun k => k < m) S → AChain P n l S (l.drop m) (xs.drop m) →
      (∀ (i : Nat) (o : Oper) (x : AI), m ≤ i → l[i]? = some o → xs[i]? = some x → ∃ Si, Agr l xs S0 (fun k => k < i) Si ∧ GStep P n l Si o x) ∧ Agr l xs S0 (fun k => k < xs.length) (runA S (l.drop m) (xs.drop m)) := by
  intro m
  generalize hd : xs.length - m = d
  induction d generalizing m with
  | zero =>
    intro S hm hagr _
    have e : xs.length = m := by omega
    refine ⟨fun i o x hi ho hx => ?_, ?_⟩
    · have := (List.getElem?_eq_some_iff.1 hx).1; omega
    · rw [List.drop_eq_nil_of_le (by omega : xs.length ≤ m)]
      have : runA S (l.drop m) [] = S := by cases l.drop m <;> rfl
      rw [this, e]
      exact hagr
  | succ d ih =>
    intro S hm hagr hc
    have hmx : m < xs.length := by omega
    have hml : m < l.length := Nat.lt_of_lt_of_le hmx hs.len
    rw [List.drop_eq_getElem_cons hmx, List.drop_eq_getElem_cons hml] at hc
    obtain ⟨hg, hc⟩ := hc
    have ho : l[m]? = some l[m] := List.getElem?_eq_getElem hml
    have hx : xs[m]? = some xs[m] := List.getElem?_eq_getElem hmx
    have hst := hagr.step hA ho hx (by omega) (fun k hk hok => by
      have := hs.fwd m k hmx (by omega) hok
      omega)
    have e : (fun k => k = m ∨ k < m) = (fun k => k < m + 1) := by funext k; apply propext; omega
    rw [e] at hst
    obtain ⟨r1, r2⟩ := ih (m + 1) (by omega) (S.out l[m].dst xs[m].av xs[m].nb) (by omega) hst hc
    refine ⟨fun i o x hi ho' hx' => ?_, ?_⟩
    · by_cases him : i = m
      · subst him
        rw [ho] at ho'; rw [hx] at hx'
        obtain rfl := Option.some.inj ho'
        obtain rfl := Option.some.inj hx'
        exact ⟨S, hagr, hg⟩
      · exact r1 i o x (by omega) ho' hx'
    · rw [List.drop_eq_getElem_cons hmx, List.drop_eq_getElem_cons hml]
      exact r2
section
variable {P : Program} {n : Nat} {S : AS}
theorem yU.any {l : List Oper} {K : Exit → AS → Prop} {M : Nat → Nat → Prop} {w0 : Home} {Q : Exit → Act → World → Prop} (hK : ∀ e S' ρ' a' w', K (bare e) S' → Sat M n w0 S' ρ' a' w' → ExOK M S' ρ' w' e → Q e a' w') :
    ∀ (m : Nat) (listed : Array Bool) (done : List Nat) (S : AS) (ρ : Nat → Value) (a : Act) (w : World), listed.size = l.length → (∀ i, listed.getD i false = done.contains i) → yU P n l K m done S → Sat M n w0 S ρ a w → wpAny P .any l.toArray Q m listed a w := by
  intro m
  induction m with
  | zero =>
    intro listed done S ρ a w hz hl hd hs
    refine ⟨List.eq_nil_iff_forall_not_mem.2 fun i hi => ?_, hK .normal S ρ a w hd.2 hs trivial⟩
    have := (readyD_iff hz hl i).1 hi
    rw [hd.1] at this
    simp at this
  | succ m ih =>
    intro listed done S ρ a w hz hl hd hs
    refine ⟨fun hnil => ?_, fun i hi => ?_⟩
    · obtain ⟨j, hj⟩ := List.exists_mem_of_ne_nil _ hd.1
      have := (readyD_iff hz hl j).2 hj
      rw [hnil] at this
      simp at this
    · obtain ⟨hil, _, _⟩ := yH hi
      obtain ⟨o, ho, hg, ht⟩ := hd.2 i ((readyD_iff hz hl i).1 hi)
      unfold wpOp
      simp only [List.getElem?_toArray, ho]
      rw [if_pos (by simp [Region.wanted, hg])]
      refine .inl (ht M w0 ρ a w _ Q hs (fun S1 ρ' a' w' hd1 hs' => ?_) hK)
      refine ih _ _ S1 ρ' a' w' (by simp [hz]) (fun k => ?_) hd1 hs'
      simp only [Array.getD_eq_getD_getElem?, Array.getElem?_setIfInBounds, List.contains_cons]
      by_cases hik : i = k
      · subst hik
        simp [hz, hil]
      · have : (k == i) = false := by simpa using fun e => hik e.symm
        rw [if_neg hik, this, Bool.false_or, ← hl k, Array.getD_eq_getD_getElem?]
def subs1 : List Nat → List (List Nat)
  | [] => []
  | a :: r => subs1 r ++ ([a] :: (subs1 r).map (a :: ·))
theorem filter_subs1 (p : Nat → Bool) : ∀ l : List Nat, l.filter p = [] ∨ l.filter p ∈ subs1 l
  | [] => .inl rfl
  | a :: r => by
    rw [List.filter_cons]
    by_cases h : p a = true
    · rw [if_pos h]
      right
      unfold subs1
      rcases filter_subs1 p r with h1 | h1
      · rw [h1]; exact List.mem_append.2 (.inr (List.mem_cons_self ..))
      · exact List.mem_append.2 (.inr (List.mem_cons_of_mem _ (List.mem_map.2 ⟨_, h1, rfl⟩)))
    · rw [if_neg h]
      rcases filter_subs1 p r with h1 | h1
      · exact .inl h1
      · right
        unfold subs1
        exact List.mem_append.2 (.inl h1)
/-- the frame behind the first operations, without some -/
def runX : Nat → List Nat → AS → List Oper → List AI → AS
  | i, X, S, o :: os, x :: xs => runX (i + 1) X (bif X.contains i then S else S.out o.dst x.av x.nb) os xs
  | _, _, S, _, _ => S
def w9 (m : Nat) (X : List Nat) : List Nat := (List.range m).filter fun i => !X.contains i
def restX (l : List Oper) (done : List Nat) : List Nat := (List.range l.length).filter fun i => !done.contains i
theorem doneX_iff {m : Nat} {X : List Nat} {i : Nat} : i ∈ w9 m X ↔ i < m ∧ X.contains i = false := by
  unfold w9
  rw [List.mem_filter, List.mem_range, Bool.not_eq_true']
theorem left_done {l : List Oper} {listed : Array Bool} {done : List Nat} (hz : listed.size = l.length) (h : ∀ i, listed.getD i false = done.contains i) : left listed = (restX l done).length := by
  unfold left restX
  rw [List.countP_eq_length_filter, hz]
  congr 1
  exact List.filter_congr fun i _ => by rw [h i]
theorem runX_agr {l : List Oper} {xs : List AI} {late : List Nat} {S0 : AS} (hs : SchedL l xs late) (hA : Apart l xs S0) (X : List Nat) :
    ∀ (m : Nat) (S : AS), m ≤ xs.length → Agr l xs S0 (fun k => k < m ∧ X.contains k = false) S → Agr l xs S0 (fun k => k < xs.length ∧ X.contains k = false) (runX m X S (l.drop m) (xs.drop m)) := by
  intro m
  generalize hd : xs.length - m = d
  induction d generalizing m with
  | zero =>
    intro S hm hagr
    have e : xs.length = m := by omega
    rw [List.drop_eq_nil_of_le (by omega : xs.length ≤ m)]
    have : runX m X S (l.drop m) [] = S := by cases l.drop m <;> rfl
    rw [this, e]
    exact hagr
  | succ d ih =>
    intro S hm hagr
    have hmx : m < xs.length := by omega
    have hml : m < l.length := Nat.lt_of_lt_of_le hmx hs.len
    rw [List.drop_eq_getElem_cons hmx, List.drop_eq_getElem_cons hml]
    have ho : l[m]? = some l[m] := List.getElem?_eq_getElem hml
    have hx : xs[m]? = some xs[m] := List.getElem?_eq_getElem hmx
    unfold runX
    refine ih (m + 1) (by omega) _ (by omega) ?_
    cases hX : X.contains m with
    | true =>
      have e : (fun k => k < m ∧ X.contains k = false) = (fun k => k < m + 1 ∧ X.contains k = false) := by
        funext k; apply propext
        constructor
        · rintro ⟨h1, h2⟩; exact ⟨by omega, h2⟩
        · rintro ⟨h1, h2⟩
          refine ⟨?_, h2⟩
          rcases Nat.lt_or_ge k m with h | h
          · exact h
          · have : k = m := by omega
            subst this
            rw [hX] at h2; cases h2
      rw [← e]
      exact hagr
    | false =>
      have hst := hagr.step hA ho hx (by omega) (fun k hk hok => by
        have := hs.fwd m k hmx (by omega) hok
        omega)
      have e : (fun k => k = m ∨ (k < m ∧ X.contains k = false)) = (fun k => k < m + 1 ∧ X.contains k = false) := by
        funext k; apply propext
        constructor
        · rintro (h | ⟨h1, h2⟩)
          · subst h; exact ⟨by omega, hX⟩
          · exact ⟨by omega, h2⟩
        · rintro ⟨h1, h2⟩
          rcases Nat.lt_or_ge k m with h | h
          · exact .inr ⟨h, h2⟩
          · exact .inl (by omega)
      rw [e] at hst
      exact hst
/-- A region that draws its order, of which some operations may come late. -/
theorem zY.drawL {id : Nat} {l : List Oper} {K : Exit → AS → Prop} (xs : List AI) (late : List Nat) (hm : P.follows .mixedOrders = true) (hsch : schedL l xs.length (xs.map (·.bs)) late = true) (hmade : madeB l xs S = true)
    (hch : AChain P n l S l xs) (h0 : yU P n l K (restX l (w9 xs.length [])).length (w9 xs.length []) (runA S l xs))
    (h1 : ∀ X ∈ subs1 late, yU P n l K (restX l (w9 xs.length X)).length (w9 xs.length X) (runX 0 X S l xs)) : zY P n (.region id l.toArray true) S K := by
  have hS := SchedL.of hsch
  have hA := Apart.ofL hS hmade
  intro M w0 ρ a w Q hs hK
  have start : Agr l xs S (fun k => k < 0) S := ⟨fun i o x d _ _ h => by omega, fun _ _ => rfl, fun i o x d b _ _ h => by omega, fun _ _ => rfl⟩
  have startX : ∀ X : List Nat, Agr l xs S (fun k => k < 0 ∧ X.contains k = false) S := fun X => ⟨fun i o x d _ _ h => by omega, fun _ _ => rfl, fun i o x d b _ _ h => by omega, fun _ _ => rfl⟩
  obtain ⟨hgs, hfin⟩ := runA_agrL hS hA 0 S (by omega) start hch
  have tailD : ∀ (fuel : Nat) (listed : Array Bool) (S2 : AS) (ρ : Nat → Value) (a : Act) (w : World), Closed l listed → (∀ i, xs.length ≤ i → i < l.length → ¬ Done listed i) → (∀ i, i < xs.length → Done listed i ∨ late.contains i = true) → Agr l xs S (Done listed) S2 → left listed = fuel →
      Sat M n w0 S2 ρ a w → wpAny P .any l.toArray Q fuel listed a w := by
    intro fuel listed S2 ρ a w hc htl hnl hagr hl hsat
    let X := late.filter fun i => !(listed.getD i false)
    have hX : ∀ i, i < xs.length → (Done listed i ↔ X.contains i = false) := by
      intro i hi
      have e : X.contains i = true ↔ late.contains i = true ∧ ¬ Done listed i := by
        simp only [X, List.contains_iff_mem, List.mem_filter, Bool.not_eq_true', Done]
        simp
      constructor
      · intro h
        apply Bool.eq_false_iff.2
        intro h2
        exact (e.1 h2).2 h
      · intro h
        rcases hnl i hi with h2 | h2
        · exact h2
        · apply Classical.byContradiction
          intro h3
          rw [e.2 ⟨h2, h3⟩] at h
          cases h
    have hlt : ∀ k, Done listed k → k < xs.length := by
      intro k hk
      apply Classical.byContradiction
      intro h
      rcases Nat.lt_or_ge k l.length with h2 | h2
      · exact htl k (by omega) h2 hk
      · unfold Done at hk
        simp [Array.getD_eq_getD_getElem?, Array.getElem?_eq_none (by rw [hc.size]; omega : listed.size ≤ k)] at hk
    have hdone : ∀ i, listed.getD i false = (w9 xs.length X).contains i := by
      intro i
      have h2 : Done listed i ↔ i ∈ w9 xs.length X := by
        rw [doneX_iff]
        exact ⟨fun h => ⟨hlt i h, (hX i (hlt i h)).1 h⟩, fun h => (hX i h.1).2 h.2⟩
      unfold Done at h2
      rw [Bool.eq_iff_iff, h2, List.contains_iff_mem]
    have eD : Done listed = fun k => k < xs.length ∧ X.contains k = false := by
      funext k; apply propext
      exact ⟨fun h => ⟨hlt k h, (hX k (hlt k h)).1 h⟩, fun h => (hX k h.1).2 h.2⟩
    have hfuel := left_done hc.size hdone
    rw [hl] at hfuel
    rw [hfuel]
    rcases filter_subs1 (fun i => !(listed.getD i false)) late with h | h
    · have eX : X = [] := h
      rw [eX] at eD hdone ⊢
      refine yU.any hK _ listed _ (runA S l xs) ρ a w hc.size hdone h0 (hsat.same (hagr.same ?_))
      rw [eD]
      have e : (fun k => k < xs.length) = (fun k => k < xs.length ∧ ([] : List Nat).contains k = false) := by
        funext k; apply propext; simp
      rw [← e]
      exact hfin
    · refine yU.any hK _ listed _ (runX 0 X S l xs) ρ a w hc.size hdone (h1 X h) (hsat.same (hagr.same ?_))
      rw [eD]
      exact runX_agr hS hA X 0 S (by omega) (startX X)
  have main1 : ∀ (fuel : Nat) (listed : Array Bool) (S2 : AS) (ρ : Nat → Value) (a : Act) (w : World), Closed l listed → (∀ i, xs.length ≤ i → i < l.length → ¬ Done listed i) → Agr l xs S (Done listed) S2 → left listed = fuel →
      Sat M n w0 S2 ρ a w → wpAny P .any l.toArray Q fuel listed a w := by
    intro fuel
    induction fuel with
    | zero =>
      intro listed S2 ρ a w hc htl hagr hl hsat
      refine tailD 0 listed S2 ρ a w hc htl (fun i hi => .inl ?_) hagr hl hsat
      apply Classical.byContradiction
      intro hn
      have := left_set (listed := listed) (by rw [hc.size]; exact Nat.lt_of_lt_of_le hi hS.len) hn
      omega
    | succ fuel ih =>
      intro listed S2 ρ a w hc htl hagr hl hsat
      by_cases hallA : ∀ i, i < xs.length → Done listed i ∨ late.contains i = true
      · exact tailD (fuel + 1) listed S2 ρ a w hc htl hallA hagr hl hsat
      · refine ⟨fun hnil => ?_, fun i hi => ?_⟩
        · rcases ready_or_allL hS hc with h | h
          · exact (h hnil).elim
          · exact (hallA fun i hi => .inl (h i (Nat.lt_of_lt_of_le hi hS.len))).elim
        · obtain ⟨hil, hnd, o, hoi, _⟩ := yH hi
          have hix : i < xs.length := by
            apply Classical.byContradiction
            intro h
            exact hallA fun j hj => (hS.tail i (by omega) hil j hj).imp (fun h2 => hc.ready_ord hi h2) (fun h2 => h2)
          have hx : xs[i]? = some xs[i] := List.getElem?_eq_getElem hix
          obtain ⟨Si, hagi, hgst⟩ := hgs i o xs[i] (by omega) hoi hx
          obtain ⟨hrt, hrb⟩ := Agr.readsL hS hc hi hx hagr hagi
          have hget : ∀ y ∈ o.op.operands.toList, S2.get y = Si.get y := by
            intro y hy
            cases y with
            | tmp t => exact hrt t (readsOf_operand hoi hy)
            | _ => rfl
          have hnext := hagr.step hA hoi hx hnd (fun k hk hok => hnd (hc.ord (k + 1) k i (by omega) (by
            apply Classical.byContradiction
            intro h
            unfold Done at hk
            simp [Array.getD_eq_getD_getElem?, Array.getElem?_eq_none (by rw [hc.size]; omega : listed.size ≤ k)] at hk) hk hok))
          have cont : ∀ ρ' a' w', Sat M n w0 (S2.out o.dst xs[i].av xs[i].nb) ρ' a' w' → wpAny P .any l.toArray Q fuel (listed.setIfInBounds i true) a' w' := by
            intro ρ' a' w' hs'
            refine ih _ _ ρ' a' w' (hc.set hi) (fun k hk hkl hdk => ?_) ?_ ?_ hs'
            · rw [done_set (by rw [hc.size]; exact hil)] at hdk
              rcases hdk with h | h
              · omega
              · exact htl k hk hkl h
            · have e : (fun k => k = i ∨ Done listed k) = Done (listed.setIfInBounds i true) := by
                funext k
                apply propext
                rw [done_set (by rw [hc.size]; exact hil)]
                constructor
                · rintro (h | h)
                  · exact .inl h.symm
                  · exact .inr h
                · rintro (h | h)
                  · exact .inl h.symm
                  · exact .inr h
              rw [← e]
              exact hnext
            · have := left_set (listed := listed) (by rw [hc.size]; exact hil) hnd
              omega
          unfold wpOp
          simp only [List.getElem?_toArray, hoi]
          rcases hgst with ⟨hg, hast⟩ | ⟨j, want, t, b, hg, hdj, htn, hb, hcase⟩
          · rw [if_pos (by simp [Region.wanted, hg])]
            exact .inl (hast S2 hget hrb M w0 ρ a w _ Q hsat cont)
          · have hb2 : S2.tmp t = .p (.val b) := by rw [hrt t (readsOf_guard hoi hg hdj)]; exact hb
            have hw := hsat.wanted (ops := l.toArray) hg (by simpa [y9] using hdj) htn hb2
            rcases hcase with ⟨hbw, hast⟩ | ⟨hbw, hav, hnb, d, hd, hdn⟩
            · rw [if_pos (by rw [hw, hbw])]
              exact .inl (hast S2 hget hrb M w0 ρ a w _ Q hsat cont)
            · rw [if_neg (by rw [hw, hbw]; simp)]
              rw [hd]
              refine cont ρ _ w ?_
              rw [hd, hav, hnb]
              exact hsat.put_undef hdn
  refine wp_region_any hm ?_
  refine main1 _ _ S ρ a _ ⟨by simp, fun i o hi hd => ?_⟩ (fun i _ _ hd => ?_) ⟨fun i o x d _ _ h => ?_, fun _ _ => rfl, fun i o x d b _ _ h => ?_, fun _ _ => rfl⟩ ?_ (hs.ext ((Below.refl _ _).drew))
  · unfold Done at hd; rw [getD_replicate_false] at hd; cases hd
  · unfold Done at hd; rw [getD_replicate_false] at hd; cases hd
  · unfold Done at h; rw [getD_replicate_false] at h; cases h
  · unfold Done at h; rw [getD_replicate_false] at h; cases h
  · unfold left
    simp only [Array.size_replicate, List.size_toArray]
    have : ∀ k ∈ List.range l.length, (!((Array.replicate l.length false).getD k false)) = true := fun k _ => by rw [getD_replicate_false]; rfl
    rw [List.countP_eq_length.2 this, List.length_range]
def xX (p : List Nat → Prop) : List (List Nat) → Prop
  | [] => True
  | X :: r => p X ∧ xX p r
theorem xX.all {p : List Nat → Prop} : ∀ {rs : List (List Nat)}, xX p rs → ∀ X ∈ rs, p X
  | [], _, i, hi => by simp at hi
  | j :: r, h, i, hi => by
    rcases List.mem_cons.1 hi with rfl | hi
    · exact h.1
    · exact xX.all h.2 i hi
theorem xX.nil {p : List Nat → Prop} : xX p [] := trivial
theorem xX.cons {p : List Nat → Prop} {X : List Nat} {r : List (List Nat)} (h : p X) (hr : xX p r) : xX p (X :: r) := ⟨h, hr⟩
theorem Draws.late {id : Nat} {l os : List Oper} {S0 S : AS} {K : Exit → AS → Prop} {rev : List AI} (late : List Nat) (hm : P.follows .mixedOrders = true) (hsch : schedL l rev.reverse.length (rev.reverse.map (·.bs)) late = true) (hmade : madeB l rev.reverse S0 = true)
    (h0 : yU P n l K (restX l (w9 rev.reverse.length [])).length (w9 rev.reverse.length []) S) (h1 : xX (fun X => yU P n l K (restX l (w9 rev.reverse.length X)).length (w9 rev.reverse.length X) (runX 0 X S0 l rev.reverse)) (subs1 late)) : Draws P n id l S0 K rev S os := by
  unfold Draws
  intro hc
  obtain ⟨c1, c2, c3⟩ := hc.chain
  exact zY.drawL _ late hm hsch hmade c1 (by rw [c2]; exact h0) h1.all
theorem Draws.late2 {id : Nat} {l os : List Oper} {S0 S : AS} {K : Exit → AS → Prop} {rev : List AI} (late : List Nat) (fu : Nat) (done : List Nat) (hm : P.follows .mixedOrders = true) (hsch : schedL l rev.reverse.length (rev.reverse.map (·.bs)) late = true) (hmade : madeB l rev.reverse S0 = true)
    (e1 : (restX l (w9 rev.reverse.length [])).length = fu) (e2 : w9 rev.reverse.length [] = done)
    (h0 : yU P n l K fu done S) (h1 : xX (fun X => yU P n l K (restX l (w9 rev.reverse.length X)).length (w9 rev.reverse.length X) (runX 0 X S0 l rev.reverse)) (subs1 late)) : Draws P n id l S0 K rev S os :=
  Draws.late late hm hsch hmade (by rw [e1, e2]; exact h0) h1
theorem xX.vN {l : List Oper} {S0 : AS} {K : Exit → AS → Prop} {xs : List AI} {X : List Nat} {r : List (List Nat)} {m : Nat} (fu : Nat) (done : List Nat) (e1 : (restX l (w9 m X)).length = fu) (e2 : w9 m X = done) (h : yU P n l K fu done (runX 0 X S0 l xs))
    (hr : xX (fun X => yU P n l K (restX l (w9 m X)).length (w9 m X) (runX 0 X S0 l xs)) r) : xX (fun X => yU P n l K (restX l (w9 m X)).length (w9 m X) (runX 0 X S0 l xs)) (X :: r) :=
  .cons (by rw [e1, e2]; exact h) hr
theorem yU.as {l : List Oper} {K : Exit → AS → Prop} {fu : Nat} {done : List Nat} {S : AS} (fu' : Nat) (done' : List Nat) (h1 : fu = fu') (h2 : done = done') (h : yU P n l K fu' done' S) : yU P n l K fu done S := by
  subst h1 h2
  exact h
end
end Go.Proofs.YthnmfmdkdngggaaDoor
/- A struct's literal of which parts are own rows, stored into a new variable; appending to nil. Generic over the program. -/
namespace Go.Proofs.YthnmfmdkdngggaaDoor
set_option maxRecDepth 100000
set_option maxHeartbeats 16000000
open Go Go.RowKit
set_option linter.unusedSimpArgs false
theorem cells_own {M : Nat → Nat → Prop} {n : Nat} {w0 : Home} {w : World} {S : AS} {ρ : Nat → Value} {a : Act} (hs : Sat M n w0 S ρ a w) {id2 : Nat} {b2 : Blk} {v : Value} (hb2 : S.blk id2 = some b2) (hrow : b2.isRow = true) (h2 : yD (Mut M S ρ) ρ w (.own id2) v) :
    yA (Mut M S ρ) ρ w (AV.own id2).xA v.cells.toList := by
  have hown : ∃ e sz m2 ys, w.ownsRow 0 e sz (ρ id2) m2 ys := by
    have h := hs.blks id2 _ hb2
    cases b2 with
    | box _ _ => cases hrow
    | _ => exact let ⟨ys, h, _⟩ := h; ⟨_, _, _, ys, h⟩
  obtain ⟨_, _, _, _, hown⟩ := hown
  have e1 : v = ρ id2 := by
    cases h2
    rfl
  rw [e1]
  rcases hown.2 with ⟨e, _⟩ | ⟨g', cap, cur, e, _⟩
  · rw [e]
    exact ⟨rfl, fun i c u h1 h3 => by
      cases i with
      | zero => simp [Value.cells, AV.xA] at h1 h3; subst h1; subst h3; rw [← e]; exact .own id2
      | succ i => simp [AV.xA] at h1, fun u hu => by simp [Value.cells] at hu; subst hu; rfl⟩
  · rw [e]
    exact ⟨rfl, fun i c u h1 h3 => by
      cases i with
      | zero => simp [Value.cells, AV.xA] at h1 h3; subst h1; subst h3; rw [← e]; exact .own id2
      | succ i => simp [AV.xA] at h1, fun u hu => by simp [Value.cells] at hu; subst hu; rfl⟩
def partB (S : AS) (av : AV) : Bool := av.vS || (match av with
  | .own id => (match S.blk id with | some b => b.isRow | none => false)
  | _ => false)
section
variable {P : Program} {n : Nat} {ops : Array Oper} {S : AS} {K : Exit → AS → Prop}
theorem zX.buildStore {o1 o2 o3 : Oper} {rest : List Oper} {d1 d2 t m : Nat} {ps : Array (Nat × Operand)} {pl : List (Nat × Nat)} {z : Value} {zs : List AV} {agg : Bool} [hb : BuildA P t pl] [hz : ZeroA P t z] [ht : TyA P t agg m]
    (h1 : o1.op = .build t ps) (g1 : o1.guard = none) (e1 : o1.dst = some d1)
    (h2 : o2.op = .alloc t) (g2 : o2.guard = none) (e2 : o2.dst = some d2)
    (h3 : o3.op = .store t (.tmp d2) (.tmp d1)) (g3 : o3.guard = none) (e3 : o3.dst = none)
    (hn1 : d1 < n) (hn2 : d2 < n) (hne : d2 ≠ d1) (hz1 : z.cells.toList.all (fun u => u.oneCell') = true)
    (hk : ps.toList.all (fun p => partB S (S.get p.2)) = true)
    (hf : fillA (fun i => pl[i]?) (z.cells.toList.map fun u => .p (.val u)) (ps.toList.map fun p => (p.1, S.get p.2)) = some zs) (hl : zs.length = z.cells.toList.length) (hm : z.cells.size = m)
    (hr : zX P n ops rest (((S.put d1 .any).create d2 (.box t zs)).put d2 (.ptr d2 0)) K) : zX P n ops (o1 :: o2 :: o3 :: rest) S K := by
  intro M w0 ρ a w Q hs hK
  have parts : ∀ p ∈ ps.toList, yA (Mut M S ρ) ρ w (S.get p.2).xA (a.eval p.2).cells.toList := fun p hp => by
    have h := List.all_eq_true.1 hk p hp
    have hrep := hs.rep p.2
    generalize hav : S.get p.2 = av at h hrep ⊢
    cases hpo : av.vS with
    | true => exact repA_cells hrep hpo
    | false =>
      unfold partB at h
      rw [hpo, Bool.false_or] at h
      cases av with
      | own id =>
        cases hbk : S.blk id with
        | none => simp only [hbk] at h; cases h
        | some b =>
          simp only [hbk] at h
          exact cells_own hs hbk h hrep
      | _ => cases h
  obtain ⟨us, hu1, hu2⟩ := fill_rep (fun i => pl[i]?) S.get a.eval ps.toList _ zs z.cells.toList parts hf (zerosA fun u hu => List.all_eq_true.1 hz1 u hu)
  have hul : us.length = z.cells.toList.length := by rw [hu2.len, hl]
  have hr1 : (execOp a.eval o1).run P w = .ok (.value (.agg us.toArray)) w := by
    unfold execOp
    rw [h1]
    have e : (ps.map fun (i, x) => (i, a.eval x)) = (ps.toList.map fun p => (p.1, a.eval p.2)).toArray := by apply Array.ext'; simp
    simp only [e, Sem.run_bind, run_build (P := P) (t := t) (pl := pl) (z := z) _ w _ hu1]
    rfl
  unfold wpList
  rw [if_pos (by simp [Region.wanted, g1])]
  refine .inl ?_
  unfold Oper.wp
  rw [hr1]
  show wpList P ops Q (o2 :: o3 :: rest) (a.put o1.dst (.agg us.toArray)) w
  rw [e1]
  have hs1 : Sat M n w0 (S.put d1 .any) ρ (a.put (some d1) (.agg us.toArray)) w := hs.put hn1 (.any _)
  generalize hsS1 : S.put d1 .any = S1 at hs1 hr
  generalize ha1 : a.put (some d1) (.agg us.toArray) = a1 at hs1
  have hMut : Mut M S1 ρ = Mut M S ρ := by subst hsS1; rfl
  have hr2 : (execOp a1.eval o2).run P w = .ok (.value (.pointer (some ⟨w.heap.size, 0, none⟩))) (w.alloc (.cells z.cells t)) := by
    unfold execOp
    rw [h2]
    simp [Instr.alloc, newVar, newRow, newObj, Sem.run, Result.andThen, hz.h w]
  unfold wpList
  rw [if_pos (by simp [Region.wanted, g2])]
  refine .inl ?_
  unfold Oper.wp
  rw [hr2]
  show wpList P ops Q (o3 :: rest) (a1.put o2.dst (.pointer (some ⟨w.heap.size, 0, none⟩))) (w.alloc (.cells z.cells t))
  rw [e2]
  generalize hw1 : w.alloc (.cells z.cells t) = w1
  have hh1 : w1.heap[w.heap.size]? = some (.cells z.cells t (0, 0)) := by rw [← hw1]; exact heap_alloc_new w _
  have hg1 : w.grownBy w1 none := by rw [← hw1]; exact World.grownBy_alloc w _ none
  have t1 : (a1.put (some d2) (.pointer (some ⟨w.heap.size, 0, none⟩))).eval (.tmp d1) = .agg us.toArray := by
    have : d1 < a.tmps.size := by rw [hs.size]; exact hn1
    subst ha1
    simp [Act.eval, Act.put, Array.getD_eq_getD_getElem?, Array.getElem?_setIfInBounds, hne, this]
  have t2 : (a1.put (some d2) (.pointer (some ⟨w.heap.size, 0, none⟩))).eval (.tmp d2) = .pointer (some ⟨w.heap.size, 0, none⟩) := by
    have : d2 < a1.tmps.size := by rw [hs1.size]; exact hn2
    simp [Act.eval, Act.put, Array.getD_eq_getD_getElem?, Array.getElem?_setIfInBounds, this]
  have hst := run_storeCells_at P w.heap.size 0 t us 0 z.cells w1 hh1 (by simp; simpa using Nat.le_of_eq hul) hu2.one
  have hspl : (z.cells.toList.take (0 + 0) ++ us ++ z.cells.toList.drop (0 + 0 + us.length)).toArray = us.toArray := by
    rw [hul]; simp
  rw [hspl] at hst
  have hr3 : (execOp (a1.put (some d2) (.pointer (some ⟨w.heap.size, 0, none⟩))).eval o3).run P w1 = .ok .skip (w1.setRow w.heap.size us.toArray) := by
    unfold execOp
    rw [h3]
    have hsz : us.length = m := by rw [hul, ← hm]; simp
    simp only [t1, t2, Instr.storeAt, Instr.sureAddr, storeVar, Sem.run_bind, Sem.run_pure, Result.andThen_ok, ht.sz, Value.cells, List.size_toArray, hsz, ne_eq, not_true_eq_false, if_false]
    rw [hst]
    rfl
  unfold wpList
  rw [if_pos (by simp [Region.wanted, g3])]
  refine .inl ?_
  unfold Oper.wp
  rw [hr3]
  show wpList P ops Q rest ((a1.put (some d2) (.pointer (some ⟨w.heap.size, 0, none⟩))).put o3.dst undef) _
  rw [e3]
  show wpList P ops Q rest (a1.put (some d2) (.pointer (some ⟨w.heap.size, 0, none⟩))) _
  generalize hw2 : w1.setRow w.heap.size us.toArray = w2
  have hg2 : w.grownBy w2 none := by
    rw [← hw2]
    refine ⟨hg1.os, hg1.tape, hg1.output, by simpa [World.setRow] using hg1.size, fun k hk _ => ?_⟩
    rw [setRow_other w1 _ k _ (by omega)]
    exact hg1.block k hk (fun h => by cases h)
  have hh2 : w2.heap[w.heap.size]? = some (.cells us.toArray t (0, 0)) := by rw [← hw2]; exact setRow_heap w1 _ _ _ t _ hh1
  have hs2 := hs1.change d2 (.box t zs) (.pointer (some ⟨w.heap.size, 0, none⟩)) none (hs1.free d2 hn2) hg2 (fun k hk => by cases hk) (fun k hk => .inl (by simp only [zS, Option.some.injEq] at hk; omega)) (by
    rw [hMut]
    refine ⟨w.heap.size, us, rfl, Nat.zero_le _, hh2, (hu2.mono fun k c hk h => ?_).keep ⟨hg2.size, fun k c hk _ => World.cell?_of_block (w := w) (hg2.block k hk (fun h => by cases h))⟩⟩
    rcases h with h | ⟨h, _⟩
    · exact h
    · simp only [zS, Option.some.injEq] at h
      omega)
  have hs3 := hs2.put (d := d2) (x := .ptr d2 0) (v := .pointer (some ⟨w.heap.size, 0, none⟩)) hn2 (.ptr d2 0 w.heap.size (by simp [upd, zS]))
  exact hr M w0 _ _ w2 Q hs3 hK
theorem w_makeV1 {o : Oper} {d t e sz by_ m : Nat} {k : IntKind} {z : Value} {xl xc : Operand} [ht : Und P t (.slice e)] [hi : InfoA P e z sz by_] (ho : o.op = .makeSlice t xl xc) (hl : S.get xl = .p (.val (.int k (m : Int)))) (hc : S.get xc = .p (.val (.int k (m : Int)))) (hlim : m * sz ≤ 16777216 ∧ by_ * m ≤ 281474976710656 ∧ m ≤ maxLen)
    (hzs : z.cells.size = sz) (hsz : 0 < sz) (hzp : [z] = z.cells.toList) (h1 : z.cells.toList.all (fun u => u.oneCell') = true) (hd : o.dst = some d) (hn : d < n) : zD P n o S [] (.own d) (some (vO e sz (List.replicate m (.val z)))) :=
  w_makeV ho hl hc hlim hzs hsz (zp := .val z) (by rw [← hzp]; rfl) h1 hd hn
theorem w_makeVN {o : Oper} {d t e sz by_ m : Nat} {k : IntKind} {z : Value} {xl xc : Operand} [ht : Und P t (.slice e)] [hi : InfoA P e z sz by_] (ho : o.op = .makeSlice t xl xc) (hl : S.get xl = .p (.val (.int k (m : Int)))) (hc : S.get xc = .p (.val (.int k (m : Int)))) (hlim : m * sz ≤ 16777216 ∧ by_ * m ≤ 281474976710656 ∧ m ≤ maxLen)
    (hzs : z.cells.size = sz) (hsz : 0 < sz) (h1 : z.cells.toList.all (fun u => u.oneCell') = true) (hd : o.dst = some d) (hn : d < n) : zD P n o S [] (.own d) (some (vO e sz (List.replicate m (.agg (z.cells.toList.map PV.val))))) :=
  w_makeV ho hl hc hlim hzs hsz (zp := .agg (z.cells.toList.map PV.val)) rfl h1 hd hn
/-- append(nil, es...): a new row, that nobody turns. -/
theorem w_appNil {o : Oper} {d t e sz by_ : Nat} {x y : Operand} {z : Value} {es : List PV} [ht : Und P t (.slice e)] [hi : InfoA P e z sz by_] (ho : o.op = .call { callee := .builtin .append, args := #[x, y], argTypes := #[t, t] })
    (hx : S.get x = .p (.val (.slice none 0 0))) (hy : S.get y = .p (.sl es)) (hes : ∀ e ∈ es, e.cells.length = sz) (hlim : es.length * by_ ≤ 140737488355328 ∧ es.length ≤ maxLen) (hzs : z.cells.size = sz) (hsz : 0 < sz) (hd : o.dst = some d) (hn : d < n) : zD P n o S [] (.p (.sl es)) none :=
  zD.pure hd hn fun S2 hg _ M w0 ρ a w hs => by
    obtain ⟨i, hi1, hi2⟩ := Option.map_eq_some_iff.1 hi.h
    simp only [Prod.mk.injEq] at hi2
    obtain ⟨hz, hisz, hiby⟩ := hi2
    have hv := hs.val ((hg x (by rw [ho]; simp [Op.operands, Call.operands])).trans hx)
    have ry := yN hs ((hg y (by rw [ho]; simp [Op.operands, Call.operands])).trans hy)
    obtain ⟨us, hus, hnews⟩ := news_p (ρ := ρ) ry hes
    have hown : ∀ B, w.ownsRow B e sz (.slice none 0 0) 0 [] := fun B => ⟨by simp, .inl ⟨rfl, rfl⟩⟩
    rcases hnews with ⟨hyv, hk0, hu0⟩ | ⟨ad, c, hyv, hul, hcell2⟩
    · have hb0 : es = [] := List.eq_nil_of_length_eq_zero hk0
      subst hb0
      refine ⟨.slice none 0 0, w, ?_, Below.refl _ _, .p .nil⟩
      unfold execOp
      simp only [ho, resolve, invoke, builtin, Sem.run_bind, Sem.run_pure, Result.andThen_ok, List.map_toArray, List.map_cons, List.map_nil, hv, hyv, run_append_owned_none (P := P) w 0 t o.type e i sz ht.h hi1 (.slice none 0 0) 0 [] (hown 0)]
    · obtain ⟨v', w', hr, hown', hgr, _, _⟩ := run_append_own_at (P := P) w w.heap.size t o.type e i z sz by_ ht.h hi1 hz hisz hiby hzs hsz (.slice none 0 0) 0 [] (hown _) ad es.length c us hul hcell2 hus.one (by simpa using hlim.2) (by simpa using hlim.1) (Nat.le_refl _)
      rw [← hyv] at hr
      have hk : Keeps (Mut M S2 ρ) w w' := ⟨hgr.size, fun k c hk _ => World.cell?_of_block (w := w) (hgr.block k hk (fun h => by cases h))⟩
      refine ⟨v', w', ?_, ⟨hgr.os, hgr.tape, hgr.output, hgr.size, fun k hk => hgr.block k hk (fun h => by cases h)⟩, .p (rep_ownsRow (fun k c hk => Mut.lt hs hk) (by simpa using hown') rfl ((cellsA_pure hus).keep hk))⟩
      unfold execOp
      simp only [ho, resolve, invoke, builtin, Sem.run_bind, Sem.run_pure, Result.andThen_ok, List.map_toArray, List.map_cons, List.map_nil, hv, hr]
end
theorem rowB_V (e : Nat) (bs : List Int) : yK e bs = vO e 1 (byts bs) := by
  unfold yK vO
  rw [byts_flat, vX]
theorem sub_frzE {S : AS} (id e sz : Nat) (es : List PV) (hb : S.blk id = some (vO e sz es)) : Sub S (S.frz id (.sl es)) := sub_frz hb
theorem sub_frzB {S : AS} (id : Nat) {e : Nat} {bs : List Int} (hb : S.blk id = some (yK e bs)) : Sub S (S.frz id (.sl (byts bs))) := sub_frz (hb.trans (congrArg some (rowB_V e bs)))
end Go.Proofs.YthnmfmdkdngggaaDoor
/- An operation that steps alone, as a tree in a world: contract. -/
namespace Go.Proofs.YthnmfmdkdngggaaDoor
set_option maxRecDepth 100000
set_option maxHeartbeats 16000000
open Go Go.RowKit
set_option linter.unusedSimpArgs false
set_option linter.unusedVariables false
attribute [local irreducible] zX zY Step zD Sub zH zP Fn
def bools (l : List Bool) : List PV := l.map fun b => .val (.bool b)
def xD (l : List Bool) (i : Nat) : Bool := l.getD i false
structure AlSt where
  n : Nat
  W : Wd
  L : List xQ
  p : Pr OutI
def aloneS (me : Nat) (k u v w : Int) (most : Int) (fail : List Bool) (s : AlSt) : AS :=
  { t := [(1, .p (.val (.int .i64 me))), (3, .p (.val (.int .i64 most))), (4, .p (.sl (bools fail))), (5, .ptr 5 0), (7, .ptr 7 0), (10, .ptr 10 0), (11, .ptr 11 0), (12, .p (.val (.bool false))), (13, .own 13), (14, .p (.val (.int .i64 (s.n : Nat))))],
    s := [(5, .box 33 (s.W.pv.cells.map AV.p)), (7, .box 42 ((opV k u v w).cells.map AV.p)), (10, .box 33 ([.val (.int .i64 0), .val (.int .i64 0), yS, .val (.int .u64 0), yS, yS].map AV.p)),
      (11, .box 38 ((outV 0 false 0 0).cells.map AV.p)), (13, vM 60 3 (s.L.map wI))] }
theorem next_needW (L : List xQ) (hL : LogOK L) {t : Int} (c me : Int) {k u v w : Int} (h : OpOK t k u v w) {q : Ned} {j : Nat} (hm : (opP t k u v w).run (wK L) 0 = .need q j) (hq : vV q) :
    Fn Tryd.prog 14 [.val (.int .i64 t), .val (.int .i64 c), .val (.int .i64 me), opV k u v w, logV L] (.tup [accV q.kind q.cell q.a q.b (.sl (byts (wE q.d))), outV 0 false 0 0, .val (.bool false)]) := by
  refine (next_need L hL c me h hm).weakT (.cons (.agg (.cons (.refl _) (.cons (.refl _) (.cons (.refl _) (.cons (.refl _) (.cons ?_ (.cons (.refl _) .nil))))))) (.cons (.refl _) (.cons (.refl _) .nil)))
  rcases hq.d with ⟨_, e⟩ | ⟨_, bs, _, _, e⟩
  · rw [e]; exact .nil
  · rw [e, bytsOf_byts]; exact .refl _
theorem alone_fn (B : Nat) (W W' : Wd) (me : Nat) (k u v w : Int) (most : Nat) (fail : List Bool) (m : Nat) (o : OutI) (hW : WdOK B W) (hme : me < W.r0.length) (hop : OpOK W.t k u v w)
    (hr : (opP W.t k u v w).run (wSt me (xD fail)) (W, 0) = .done o (W', m)) (hmm : m ≤ most) (h1000 : most ≤ 100) (hB : B ≤ 700000) :
    Fn Tryd.prog 9 [W.pv, .val (.int .i64 me), opV k u v w, .val (.int .i64 most), .sl (bools fail)] (.tup [W'.pv, outV o.e o.is 0 o.w, .val (.bool true)]) := by
  have hfine := fine_op hop
  obtain ⟨t, c, ws, root, r0, r1⟩ := W
  have hme : me < r0.length := hme
  refine yM Tryd.func9 rfl Tryd.ntmps9 (Nat.le_of_ble_eq_true rfl) ?_
  repeat' ((refine zY.is ?_; first | refine zY.seq ?_ | (refine zY.isR (id := 0) ?_; refine zY.zV [0, 1, 2, 3, 4] [5, 7, 10, 11, 13, 15, 16, 18, 19, 62] (by repeat' first | exact zZ.nil | apply zZ.p rfl) (by repeat' first | exact zW.nil | apply zW.skip) ?_; (refine zX.m rfl rfl (yC rfl rfl rfl (by decide)) ?_); (refine zX.m rfl rfl (yC rfl rfl rfl (by decide)) ?_); (refine zX.m rfl rfl (zF rfl (by decide) rfl (by decide)) ?_); (refine zX.m rfl rfl (zF rfl (by decide) rfl (by decide)) ?_); (refine zX.v rfl rfl (zK rfl rfl rfl (by decide)) ?_); refine zX.nil ?_) | (refine zY.isR (id := 1) ?_; refine zY.zV [1, 3, 4, 5, 7, 10, 11, 12] [5, 7, 10, 11, 13, 15, 16, 18, 19, 62] (by repeat' first | exact zZ.nil | apply zZ.p rfl | apply zZ.ptr rfl) (by repeat' first | exact zW.nil | apply zW.boxP rfl rfl | apply zW.skip) ?_; (refine zX.v rfl rfl (zK rfl rfl rfl (by decide)) ?_); refine zX.nil ?_) | (refine zY.isR (id := 2) ?_; refine zY.zV [1, 3, 4, 5, 7, 10, 11, 12, 13] [5, 7, 10, 11, 13, 15, 16, 18, 19, 62] (by repeat' first | exact zZ.nil | apply zZ.p rfl | apply zZ.ptr rfl) (by repeat' first | exact zW.nil | apply zW.boxP rfl rfl | apply zW.skip) ?_; (refine zX.v rfl rfl (zK rfl rfl rfl (by decide)) ?_); refine zX.nil ?_) | refine zY.block ?_))
  refine zY.loop (fun s => aloneS me k u v w most fail s) (fun s => s.n ≤ m ∧ s.W.t = t ∧ s.W.r0.length = r0.length ∧ WdOK (B + 1000 * s.n) s.W ∧ s.L.length = s.n ∧ (∀ r ∈ s.L, U r.n) ∧ (opP t k u v w).after s.L = some s.p ∧ s.p.xJ yes (many - s.n) ∧ s.p.run (wSt me (xD fail)) (s.W, s.n) = .done o (W', m)) (fun s => most + 1 - s.n) ⟨0, ⟨t, c, ws, root, r0, r1⟩, [], opP t k u v w⟩ ?h0
    ⟨Nat.zero_le _, rfl, rfl, hW, rfl, (fun r h => by simp at h), (by cases opP t k u v w <;> rfl), hfine, hr⟩ ?rd
  case h0 =>
    refine (sub_adopt (d := 13) (id := 13) (ty := 60) (sz := 3) (by decide) rfl).trans ?_
    refine (wQ (id := 13) (b := .row 60 3 0 []) (b' := vO 60 3 []) (by rfl) (wS 60 3 [])).sub.trans ?_
    refine (sub_lend (id := 13) (e := 60) (sz := 3) (es := []) (by rfl)).trans ?_
    refine zI (is := [1, 3, 4, 5, 7, 10, 11, 12, 13, 14]) (js := [5, 7, 10, 11, 13]) ?_ ?_
    repeat' first | exact zZ.nil | apply zZ.p rfl | apply zZ.ptr rfl | apply zZ.own rfl | apply zZ.clo rfl | apply zZ.pt rfl | apply zZ.tup rfl | apply zZ.skip
    repeat' first | exact zW.nil | apply zW.boxP rfl rfl | apply zW.yK rfl | apply zW.some rfl | apply zW.skip
  case rd =>
    rintro ⟨n, W, L, p⟩ ⟨hn, ht, hrl, hok, hl, hru, haf, hfi, hrun⟩
    dsimp only at hn ht hrl hok hl hru haf hfi hrun
    obtain ⟨t', c', ws', root', r0', r1'⟩ := W
    have ht : t' = t := ht
    subst ht
    change zY _ _ _ (aloneS me k u v w most fail ⟨n, ⟨t', c', ws', root', r0', r1'⟩, L, p⟩) _
    unfold aloneS
    dsimp only
    have g1 : decide ((n : Int) ≤ most) = true := decide_eq_true (by omega)
    repeat' ((refine zY.is ?_; first | refine zY.seq ?_ | (refine zY.isR (id := 3) ?_; refine zY.zV [1, 3, 4, 5, 7, 10, 11, 12, 13, 14, 15, 16, 17, 18, 19, 22, 39] [5, 7, 10, 11, 13, 15, 16, 18, 19, 62] (by repeat' first | exact zZ.nil | apply zZ.p rfl | apply zZ.ptr rfl | apply zZ.own rfl | apply zZ.skip) (by repeat' first | exact zW.nil | apply zW.boxP rfl rfl | apply zW.some rfl | apply zW.skip) ?_; (refine zX.v rfl rfl (zQ rfl rfl rfl (by decide)) ?_); (refine zX.v rfl rfl (zQ rfl rfl rfl (by decide)) ?_); (refine zX.v rfl rfl (by exact r_leq rfl rfl rfl (by exact g1) rfl (by decide)) ?_); refine zX.nil ?_) | (refine zY.isR (id := 5) ?_; refine zY.zV [1, 3, 4, 5, 7, 10, 11, 12, 13, 14, 15, 16, 17, 18, 19, 22, 39] [5, 7, 10, 11, 13, 15, 16, 18, 19, 62] (by repeat' first | exact zZ.nil | apply zZ.p rfl | apply zZ.ptr rfl | apply zZ.own rfl | apply zZ.skip) (by repeat' first | exact zW.nil | apply zW.boxP rfl rfl | apply zW.some rfl | apply zW.skip) ?_; all_goals (refine zX.v rfl rfl (zJ rfl rfl rfl (by decide)) ?_); all_goals (refine zX.v rfl rfl (zJ rfl rfl rfl (by decide)) ?_); all_goals (refine zX.v rfl rfl (zA rfl rfl rfl (by rfl) rfl (by decide)) ?_); all_goals (refine zX.v rfl rfl (zJ rfl rfl rfl (by decide)) ?_); all_goals (refine zX.v rfl rfl (zJ rfl rfl rfl (by decide)) ?_); all_goals (refine zX.v rfl rfl (zA rfl rfl rfl (by rfl) rfl (by decide)) ?_); all_goals (refine zX.v rfl rfl (zQ rfl rfl rfl (by decide)) ?_); all_goals (refine zX.v rfl rfl (zG rfl rfl rfl (by rfl) (by rfl) rfl (by decide)) ?_); all_goals (refine zX.v rfl rfl (yE rfl rfl rfl (by decide)) ?_); all_goals (skip)) | refine zY.yO rfl (by first | assumption | with_reducible rfl) ?_ | refine zY.skip ?_ | refine zY.block ?_))
    refine zX.sub (sub_view (d := 34) (id := 13) (e := 60) (sz := 3) (es := L.map wI) rfl rfl) ?_
    have hL : LogOK L := ⟨by omega, hru⟩
    cases p with
    | stuck => cases hrun
    | ret o' =>
      rw [yZ] at hrun
      injection hrun with e1 e2
      injection e2 with e2 e3
      subst e1 e2
      have c1 := next_done L hL c' me hop (after_done haf)
      repeat' (first | (refine zX.is ?_; first | refine zX.nil ?_ | refine zX.v rfl rfl (by first | exact zK rfl rfl rfl (by decide) | exact zB rfl rfl rfl rfl (by decide) | exact yJ rfl rfl rfl (by decide) | exact yL (c1) rfl rfl rfl (by decide)) ?_ | refine zX.m rfl rfl (zF rfl (by decide) rfl (by decide)) ?_ | refine zX.w rfl (by exact zC rfl rfl rfl rfl rfl (by rfl) (by exact Nat.le_of_ble_eq_true rfl) rfl rfl) ?_) | (refine zY.is ?_; first | refine zY.seq ?_ | (refine zY.isR (id := 6) ?_; refine zY.zV [1, 3, 4, 5, 7, 10, 11, 12, 13, 14, 15, 16, 17, 18, 19, 22, 39] [5, 7, 10, 11, 13, 15, 16, 18, 19, 62] (by repeat' first | exact zZ.nil | apply zZ.p rfl | apply zZ.ptr rfl | apply zZ.own rfl | apply zZ.skip) (by repeat' first | exact zW.nil | apply zW.boxP rfl rfl | apply zW.some rfl | apply zW.skip) ?_; (refine zX.v rfl rfl (zQ rfl rfl rfl (by decide)) ?_); refine zX.nil ?_) | (refine zY.isR (id := 7) ?_; refine zY.z8 [1, 3, 4, 5, 7, 10, 11, 12, 13, 14, 15, 16, 17, 18, 19, 22, 39] [5, 7, 10, 11, 13, 15, 16, 18, 19, 62] (by repeat' first | exact zZ.nil | apply zZ.p rfl | apply zZ.ptr rfl | apply zZ.own rfl | apply zZ.skip) (by repeat' first | exact zW.nil | apply zW.boxP rfl rfl | apply zW.some rfl | apply zW.skip) (zY.drawAll (by kernel_rfl) ?_); repeat' (first | refine yU.many (by rfl) ?_ | refine yT.cons ?_ ?_ | exact yT.nil | refine xM.v rfl rfl rfl (by first | exact zK rfl rfl rfl (by decide) | exact zG rfl rfl rfl (by rfl) (by rfl) rfl (by decide)) ?_ | refine xM.w rfl rfl (by exact zC rfl rfl rfl rfl rfl (by rfl) (by exact Nat.le_of_ble_eq_true rfl) rfl rfl) ?_ | refine yU.fin (by rfl) ?_)) | refine zY.yO rfl (by first | assumption | with_reducible rfl) ?_ | refine zY.ret ?_) | refine yQ.r ?_ | refine wD.r ?_)
      all_goals exact ⟨by first | exact .inl rfl | exact .inr rfl, _, Sub.refl _, .tup (rs := [.cell 10 33, .cell 11 38, .tmp 12]) (l := [Wd.pv ⟨t', c', ws', root', r0', r1'⟩, outV o'.e o'.is 0 o'.w, .val (.bool true)]) rfl (by decide) (.cons (.cellN rfl rfl (by rfl) (by rfl)) (.cons (.cellN rfl rfl (by rfl) (by rfl)) (.cons (.tmp rfl) .nil)))⟩
    | ask q kq =>
      have hq : vV q := hfi.1
      rw [run_ask] at hrun
      have hrun2 : (kq (doX ⟨t', c', ws', root', r0', r1'⟩ me q (xD fail n)).2).run (wSt me (xD fail)) ((doX ⟨t', c', ws', root', r0', r1'⟩ me q (xD fail n)).1, n + 1) = .done o (W', m) := hrun
      have hle := wSt_le hrun2
      dsimp only at hle
      have c1 := next_needW L hL c' me hop (after_need haf) hq
      have hdo := doX_ok hok hq me (xD fail n)
      have hkeep := doX_keeps ⟨t', c', ws', root', r0', r1'⟩ me q (xD fail n)
      have hme' : me < r0'.length := by have : r0'.length = r0.length := hrl; omega
      have c2 := doX_fn hok (by omega) hq (me := me) hme' (xD fail n)
      have haf2 := after_snoc (doX ⟨t', c', ws', root', r0', r1'⟩ me q (xD fail n)).2 haf
      generalize hde : doX ⟨t', c', ws', root', r0', r1'⟩ me q (xD fail n) = dd at *
      obtain ⟨W2, r⟩ := dd
      dsimp only at hrun2 hle c2 hdo hkeep haf2
      have g3 : IntKind.i64.wrap ((n : Int) + 1) = ((n + 1 : Nat) : Int) := by rw [wrap_i64 _ (by omega)]; omega
      have g4 : ∀ e ∈ L.map wI, e.cells.length = 3 := resV_cells L
      have g5 : ∀ e ∈ [wI r], e.cells.length = 3 := fun e he => by simp at he; subst he; rfl
      have g10 : ((L.map wI).length + ([wI r] : List PV).length) * 40 ≤ 140737488355328 ∧ (L.map wI).length + ([wI r] : List PV).length ≤ maxLen := by
        simp only [List.length_map, List.length_cons, List.length_nil, maxLen]
        omega
      have hnext : n + 1 ≤ m ∧ W2.t = t' ∧ W2.r0.length = r0.length ∧ WdOK (B + 1000 * (n + 1)) W2 ∧ (L ++ [r]).length = n + 1 ∧ (∀ x ∈ L ++ [r], U x.n) ∧ (opP t' k u v w).after (L ++ [r]) = some (kq r) ∧ (kq r).xJ yes (many - (n + 1)) ∧ (kq r).run (wSt me (xD fail)) (W2, n + 1) = .done o (W', m) :=
        ⟨hle, hkeep.1, hkeep.2.2.1.trans hrl, hdo.1.le (by omega), by simp [hl], (fun x hx => by
          rcases List.mem_append.1 hx with hx | hx
          · exact hru x hx
          · simp at hx; subst hx; exact hdo.2), haf2, Pr.xJ.le (by omega) (hfi.2 r hdo.2), hrun2⟩
      rcases Nat.lt_or_ge n fail.length with hnf | hnf
      · have g6 : decide ((n : Int) < (bools fail).length) = true := decide_eq_true (by simp [bools]; omega)
        have g7 : (bools fail)[n]? = some (.val (.bool (xD fail n))) := by simp [bools, xD, List.getD_eq_getElem?_getD, List.getElem?_eq_getElem hnf]
        have g8 : (0 : Int) ≤ (n : Int) ∧ (n : Int) < (bools fail).length := by simp [bools]; omega
        have g9 : ∀ e ∈ bools fail, e.cells.length = 1 := fun e he => by
          obtain ⟨x, _, rfl⟩ := List.mem_map.1 he
          rfl
        repeat' (first | (refine zX.is ?_; first | refine zX.nil ?_ | refine zX.v rfl rfl (by first | exact zK rfl rfl rfl (by decide) | exact zB rfl rfl rfl rfl (by decide) | exact yJ rfl rfl rfl (by decide) | exact yL (c1) rfl rfl rfl (by decide)) ?_ | refine zX.m rfl rfl (zF rfl (by decide) rfl (by decide)) ?_ | refine zX.w rfl (by exact zC rfl rfl rfl rfl rfl (by rfl) (by exact Nat.le_of_ble_eq_true rfl) rfl rfl) ?_) | (refine zY.is ?_; first | refine zY.seq ?_ | (refine zY.isR (id := 6) ?_; refine zY.zV [1, 3, 4, 5, 7, 10, 11, 12, 13, 14, 15, 16, 17, 18, 19, 22, 39] [5, 7, 10, 11, 13, 15, 16, 18, 19, 62] (by repeat' first | exact zZ.nil | apply zZ.p rfl | apply zZ.ptr rfl | apply zZ.own rfl | apply zZ.skip) (by repeat' first | exact zW.nil | apply zW.boxP rfl rfl | apply zW.some rfl | apply zW.skip) ?_; (refine zX.v rfl rfl (zQ rfl rfl rfl (by decide)) ?_); refine zX.nil ?_) | (refine zY.isR (id := 8) ?_; refine zY.z8 [1, 3, 4, 5, 7, 10, 11, 12, 13, 14, 15, 16, 17, 18, 19, 22, 39] [5, 7, 10, 11, 13, 15, 16, 18, 19, 62] (by repeat' first | exact zZ.nil | apply zZ.p rfl | apply zZ.ptr rfl | apply zZ.own rfl | apply zZ.skip) (by repeat' first | exact zW.nil | apply zW.boxP rfl rfl | apply zW.some rfl | apply zW.skip) (zY.draws ?_); all_goals (refine Draws.v rfl rfl (zG rfl rfl rfl (by rfl) (by rfl) rfl (by decide)) ?_); all_goals (refine Draws.v rfl rfl (zQ rfl rfl rfl (by decide)) ?_); all_goals (refine Draws.v rfl rfl (zG rfl rfl rfl (by rfl) (by rfl) rfl (by decide)) ?_); all_goals (refine Draws.v rfl rfl (zQ rfl rfl rfl (by decide)) ?_); all_goals (refine Draws.v rfl rfl (zQ rfl rfl rfl (by decide)) ?_); all_goals (refine Draws.v rfl rfl (w_lenS rfl rfl rfl (by decide)) ?_); all_goals (refine Draws.v rfl rfl (by exact yG rfl rfl rfl (by exact g6) rfl (by decide)) ?_); all_goals (refine Draws.v rfl rfl (zQ rfl rfl rfl (by decide)) ?_); all_goals (refine Draws.gY rfl rfl (by decide) rfl (by with_reducible rfl) rfl (zQ rfl rfl rfl (by decide)) ?_); all_goals (refine Draws.gY rfl rfl (by decide) rfl (by with_reducible rfl) rfl (zQ rfl rfl rfl (by decide)) ?_); all_goals (refine Draws.gY rfl rfl (by decide) rfl (by with_reducible rfl) rfl (by exact xZ rfl rfl rfl (by exact g9) (by exact g7) rfl (by decide)) ?_); all_goals (refine Draws.gY rfl rfl (by decide) rfl (by with_reducible rfl) rfl (y8 rfl rfl rfl rfl (by decide)) ?_); all_goals (refine Draws.v rfl rfl (by exact zO rfl rfl (by with_reducible rfl) rfl rfl (by decide)) ?_); all_goals (refine Draws.v rfl rfl (by exact yL (c2) rfl rfl rfl (by decide)) ?_); all_goals (refine Draws.v rfl rfl (yJ rfl rfl rfl (by decide)) ?_); all_goals (refine Draws.v rfl rfl (zB rfl rfl rfl rfl (by decide)) ?_); all_goals (refine Draws.v rfl rfl (zB rfl rfl rfl rfl (by decide)) ?_); all_goals (refine Draws.m rfl rfl (zF rfl (by decide) rfl (by decide)) ?_); all_goals (refine Draws.m rfl rfl (zF rfl (by decide) rfl (by decide)) ?_); all_goals (((refine Draws.late2 [16] 2 [0, 1, 2, 3, 4, 5, 6, 7, 8, 9, 10, 11, 12, 13, 14, 15, 16, 17, 18] (by kernel_rfl) (by kernel_rfl) (by kernel_rfl) (by kernel_rfl) (by kernel_rfl) ?_ (xX.vN 3 [0, 1, 2, 3, 4, 5, 6, 7, 8, 9, 10, 11, 12, 13, 14, 15, 17, 18] (by kernel_rfl) (by kernel_rfl) ?_ xX.nil)) <;> (repeat' (first | refine yU.many (by rfl) ?_ | refine yT.cons ?_ ?_ | exact yT.nil | refine xM.v rfl rfl rfl (zB rfl rfl rfl rfl (by decide)) ?_ | refine xM.w rfl rfl (by exact zC rfl rfl rfl rfl rfl (by rfl) (by exact Nat.le_of_ble_eq_true rfl) rfl rfl) ?_ | refine yU.fin (by rfl) ?_))))) | (refine zY.isR (id := 9) ?_; refine zY.zV [1, 3, 4, 5, 7, 10, 11, 12, 13, 14, 15, 16, 17, 18, 19, 22, 39] [5, 7, 10, 11, 13, 15, 16, 18, 19, 62] (by repeat' first | exact zZ.nil | apply zZ.p rfl | apply zZ.ptr rfl | apply zZ.own rfl) (by repeat' first | exact zW.nil | apply zW.boxP rfl rfl | apply zW.some rfl | apply zW.skip) ?_; (refine zX.v rfl rfl (zG rfl rfl rfl (by rfl) (by rfl) rfl (by decide)) ?_); (refine zX.w rfl (by exact zC rfl rfl rfl rfl rfl (by rfl) (by exact Nat.le_of_ble_eq_true rfl) rfl rfl) ?_); refine zX.nil ?_) | (refine zY.isR (id := 10) ?_; refine zY.zV [1, 3, 4, 5, 7, 10, 11, 12, 13, 14, 15, 16, 17, 18, 19, 22, 39] [5, 7, 10, 11, 13, 15, 16, 18, 19, 62] (by repeat' first | exact zZ.nil | apply zZ.p rfl | apply zZ.ptr rfl | apply zZ.own rfl) (by repeat' first | exact zW.nil | apply zW.boxP rfl rfl | apply zW.some rfl | apply zW.skip) ?_; (refine zX.v rfl rfl (yE rfl rfl rfl (by decide)) ?_); (refine zX.v rfl rfl (zG rfl rfl rfl (by rfl) (by rfl) rfl (by decide)) ?_); (refine zX.v rfl rfl (w_buildSl rfl (by decide) (by decide) (by decide) (by decide) (by rfl) (by rfl) (by rfl) (by rfl) (by rfl) (by rfl) (by rfl) rfl (by decide)) ?_); (refine zX.w rfl (by exact s_appL rfl rfl rfl rfl (by exact g5) (by exact g10) rfl (by decide) rfl (by decide)) ?_); (refine zX.v rfl rfl (xV rfl rfl rfl (by decide)) ?_); refine zX.nil ?_) | (refine zY.isR (id := 4) ?_; refine zY.zV [1, 3, 4, 5, 7, 10, 11, 12, 13, 14, 15, 16, 17, 18, 19, 22, 39] [5, 7, 10, 11, 13, 15, 16, 18, 19, 62] (by repeat' first | exact zZ.nil | apply zZ.p rfl | apply zZ.ptr rfl | apply zZ.own rfl) (by repeat' first | exact zW.nil | apply zW.boxP rfl rfl | apply zW.some rfl | apply zW.skip) ?_; (refine zX.v rfl rfl (zQ rfl rfl rfl (by decide)) ?_); (refine zX.v rfl rfl (by exact yP rfl rfl rfl (by exact g3) rfl (by decide)) ?_); (refine zX.v rfl rfl (zK rfl rfl rfl (by decide)) ?_); refine zX.nil ?_) | refine zY.yI rfl (by with_reducible rfl) ?_ | refine zY.skip ?_) | refine yQ.n ?_)
        all_goals
          refine ⟨⟨n + 1, W2, L ++ [r], kq r⟩, ?_, hnext, by dsimp only; omega⟩
          show Sub _ (aloneS me k u v w most fail ⟨n + 1, W2, L ++ [r], kq r⟩)
          unfold aloneS
          dsimp only
          rw [List.map_append]
          refine zI (is := [1, 3, 4, 5, 7, 10, 11, 12, 13, 14]) (js := [5, 7, 10, 11, 13]) ?_ ?_
          repeat' first | exact zZ.nil | apply zZ.p rfl | apply zZ.ptr rfl | apply zZ.own rfl | apply zZ.clo rfl | apply zZ.pt rfl | apply zZ.tup rfl | apply zZ.skip
          repeat' first | exact zW.nil | apply zW.boxP rfl rfl | apply zW.yK rfl | apply zW.some rfl | apply zW.skip
      · have g6 : decide ((n : Int) < (bools fail).length) = false := decide_eq_false (by simp [bools]; omega)
        have g7 : xD fail n = false := by simp [xD, List.getD_eq_getElem?_getD, List.getElem?_eq_none hnf]
        rw [g7] at c2
        repeat' (first | (refine zX.is ?_; first | refine zX.nil ?_ | refine zX.v rfl rfl (by first | exact zK rfl rfl rfl (by decide) | exact zB rfl rfl rfl rfl (by decide) | exact yJ rfl rfl rfl (by decide) | exact yL (c1) rfl rfl rfl (by decide)) ?_ | refine zX.m rfl rfl (zF rfl (by decide) rfl (by decide)) ?_ | refine zX.w rfl (by exact zC rfl rfl rfl rfl rfl (by rfl) (by exact Nat.le_of_ble_eq_true rfl) rfl rfl) ?_) | (refine zY.is ?_; first | refine zY.seq ?_ | (refine zY.isR (id := 6) ?_; refine zY.zV [1, 3, 4, 5, 7, 10, 11, 12, 13, 14, 15, 16, 17, 18, 19, 22, 39] [5, 7, 10, 11, 13, 15, 16, 18, 19, 62] (by repeat' first | exact zZ.nil | apply zZ.p rfl | apply zZ.ptr rfl | apply zZ.own rfl | apply zZ.skip) (by repeat' first | exact zW.nil | apply zW.boxP rfl rfl | apply zW.some rfl | apply zW.skip) ?_; (refine zX.v rfl rfl (zQ rfl rfl rfl (by decide)) ?_); refine zX.nil ?_) | (refine zY.isR (id := 8) ?_; refine zY.z8 [1, 3, 4, 5, 7, 10, 11, 12, 13, 14, 15, 16, 17, 18, 19, 22, 39] [5, 7, 10, 11, 13, 15, 16, 18, 19, 62] (by repeat' first | exact zZ.nil | apply zZ.p rfl | apply zZ.ptr rfl | apply zZ.own rfl | apply zZ.skip) (by repeat' first | exact zW.nil | apply zW.boxP rfl rfl | apply zW.some rfl | apply zW.skip) (zY.draws ?_); all_goals (refine Draws.v rfl rfl (zG rfl rfl rfl (by rfl) (by rfl) rfl (by decide)) ?_); all_goals (refine Draws.v rfl rfl (zQ rfl rfl rfl (by decide)) ?_); all_goals (refine Draws.v rfl rfl (zG rfl rfl rfl (by rfl) (by rfl) rfl (by decide)) ?_); all_goals (refine Draws.v rfl rfl (zQ rfl rfl rfl (by decide)) ?_); all_goals (refine Draws.v rfl rfl (zQ rfl rfl rfl (by decide)) ?_); all_goals (refine Draws.v rfl rfl (w_lenS rfl rfl rfl (by decide)) ?_); all_goals (refine Draws.v rfl rfl (by exact yG rfl rfl rfl (by exact g6) rfl (by decide)) ?_); all_goals (refine Draws.v rfl rfl (zQ rfl rfl rfl (by decide)) ?_); all_goals (refine Draws.gNT rfl rfl (by decide) rfl (by with_reducible rfl) rfl (by decide) ?_); all_goals (refine Draws.gNT rfl rfl (by decide) rfl (by with_reducible rfl) rfl (by decide) ?_); all_goals (refine Draws.gNT rfl rfl (by decide) rfl (by with_reducible rfl) rfl (by decide) ?_); all_goals (refine Draws.gNT rfl rfl (by decide) rfl (by with_reducible rfl) rfl (by decide) ?_); all_goals (refine Draws.v rfl rfl (by exact yF rfl rfl (by with_reducible rfl) rfl rfl (by decide)) ?_); all_goals (refine Draws.v rfl rfl (by exact yL (c2) rfl rfl rfl (by decide)) ?_); all_goals (refine Draws.v rfl rfl (yJ rfl rfl rfl (by decide)) ?_); all_goals (refine Draws.v rfl rfl (zB rfl rfl rfl rfl (by decide)) ?_); all_goals (refine Draws.v rfl rfl (zB rfl rfl rfl rfl (by decide)) ?_); all_goals (refine Draws.m rfl rfl (zF rfl (by decide) rfl (by decide)) ?_); all_goals (refine Draws.m rfl rfl (zF rfl (by decide) rfl (by decide)) ?_); all_goals (((refine Draws.late2 [16] 2 [0, 1, 2, 3, 4, 5, 6, 7, 8, 9, 10, 11, 12, 13, 14, 15, 16, 17, 18] (by kernel_rfl) (by kernel_rfl) (by kernel_rfl) (by kernel_rfl) (by kernel_rfl) ?_ (xX.vN 3 [0, 1, 2, 3, 4, 5, 6, 7, 8, 9, 10, 11, 12, 13, 14, 15, 17, 18] (by kernel_rfl) (by kernel_rfl) ?_ xX.nil)) <;> (repeat' (first | refine yU.many (by rfl) ?_ | refine yT.cons ?_ ?_ | exact yT.nil | refine xM.v rfl rfl rfl (zB rfl rfl rfl rfl (by decide)) ?_ | refine xM.w rfl rfl (by exact zC rfl rfl rfl rfl rfl (by rfl) (by exact Nat.le_of_ble_eq_true rfl) rfl rfl) ?_ | refine yU.fin (by rfl) ?_))))) | (refine zY.isR (id := 9) ?_; refine zY.zV [1, 3, 4, 5, 7, 10, 11, 12, 13, 14, 15, 16, 17, 18, 19, 22, 39] [5, 7, 10, 11, 13, 15, 16, 18, 19, 62] (by repeat' first | exact zZ.nil | apply zZ.p rfl | apply zZ.ptr rfl | apply zZ.own rfl) (by repeat' first | exact zW.nil | apply zW.boxP rfl rfl | apply zW.some rfl | apply zW.skip) ?_; (refine zX.v rfl rfl (zG rfl rfl rfl (by rfl) (by rfl) rfl (by decide)) ?_); (refine zX.w rfl (by exact zC rfl rfl rfl rfl rfl (by rfl) (by exact Nat.le_of_ble_eq_true rfl) rfl rfl) ?_); refine zX.nil ?_) | (refine zY.isR (id := 10) ?_; refine zY.zV [1, 3, 4, 5, 7, 10, 11, 12, 13, 14, 15, 16, 17, 18, 19, 22, 39] [5, 7, 10, 11, 13, 15, 16, 18, 19, 62] (by repeat' first | exact zZ.nil | apply zZ.p rfl | apply zZ.ptr rfl | apply zZ.own rfl) (by repeat' first | exact zW.nil | apply zW.boxP rfl rfl | apply zW.some rfl | apply zW.skip) ?_; (refine zX.v rfl rfl (yE rfl rfl rfl (by decide)) ?_); (refine zX.v rfl rfl (zG rfl rfl rfl (by rfl) (by rfl) rfl (by decide)) ?_); (refine zX.v rfl rfl (w_buildSl rfl (by decide) (by decide) (by decide) (by decide) (by rfl) (by rfl) (by rfl) (by rfl) (by rfl) (by rfl) (by rfl) rfl (by decide)) ?_); (refine zX.w rfl (by exact s_appL rfl rfl rfl rfl (by exact g5) (by exact g10) rfl (by decide) rfl (by decide)) ?_); (refine zX.v rfl rfl (xV rfl rfl rfl (by decide)) ?_); refine zX.nil ?_) | (refine zY.isR (id := 4) ?_; refine zY.zV [1, 3, 4, 5, 7, 10, 11, 12, 13, 14, 15, 16, 17, 18, 19, 22, 39] [5, 7, 10, 11, 13, 15, 16, 18, 19, 62] (by repeat' first | exact zZ.nil | apply zZ.p rfl | apply zZ.ptr rfl | apply zZ.own rfl) (by repeat' first | exact zW.nil | apply zW.boxP rfl rfl | apply zW.some rfl | apply zW.skip) ?_; (refine zX.v rfl rfl (zQ rfl rfl rfl (by decide)) ?_); (refine zX.v rfl rfl (by exact yP rfl rfl rfl (by exact g3) rfl (by decide)) ?_); (refine zX.v rfl rfl (zK rfl rfl rfl (by decide)) ?_); refine zX.nil ?_) | refine zY.yI rfl (by first | assumption | with_reducible rfl) ?_ | refine zY.skip ?_) | refine yQ.n ?_)
        all_goals
          refine ⟨⟨n + 1, W2, L ++ [r], kq r⟩, ?_, hnext, by dsimp only; omega⟩
          show Sub _ (aloneS me k u v w most fail ⟨n + 1, W2, L ++ [r], kq r⟩)
          unfold aloneS
          dsimp only
          rw [List.map_append]
          refine zI (is := [1, 3, 4, 5, 7, 10, 11, 12, 13, 14]) (js := [5, 7, 10, 11, 13]) ?_ ?_
          repeat' first | exact zZ.nil | apply zZ.p rfl | apply zZ.ptr rfl | apply zZ.own rfl | apply zZ.clo rfl | apply zZ.pt rfl | apply zZ.tup rfl | apply zZ.skip
          repeat' first | exact zW.nil | apply zW.boxP rfl rfl | apply zW.yK rfl | apply zW.some rfl | apply zW.skip
theorem alone_nil (B : Nat) (W W' : Wd) (me : Nat) (k u v w : Int) (most : Nat) (m : Nat) (o : OutI) (hW : WdOK B W) (hme : me < W.r0.length) (hop : OpOK W.t k u v w)
    (hr : (opP W.t k u v w).run (wSt me (xD [])) (W, 0) = .done o (W', m)) (hmm : m ≤ most) (h1000 : most ≤ 100) (hB : B ≤ 700000) :
    Fn Tryd.prog 9 [W.pv, .val (.int .i64 me), opV k u v w, .val (.int .i64 most), yS] (.tup [W'.pv, outV o.e o.is 0 o.w, .val (.bool true)]) :=
  (alone_fn B W W' me k u v w most [] m o hW hme hop hr hmm h1000 hB).weakA (.cons (.refl _) (.cons (.refl _) (.cons (.refl _) (.cons (.refl _) (.cons (.one .nil) .nil)))))
end Go.Proofs.YthnmfmdkdngggaaDoor
/- New disks (reference): contract. -/
namespace Go.Proofs.YthnmfmdkdngggaaDoor
set_option maxRecDepth 100000
set_option maxHeartbeats 16000000
open Go Go.RowKit
set_option linter.unusedSimpArgs false
attribute [local irreducible] zX zY Step zD Sub zH zP Fn
def zStr : PV := .agg [.val (.slice none 0 0), .val (.int .i64 0)]
theorem flat_zs : ∀ t : Nat, PL0s (flat (List.replicate t zStr)) (flat (strs (List.replicate t ([], 0))))
  | 0 => .nil
  | t + 1 => .cons .nil (.cons (.refl _) (flat_zs t))
theorem zStr_cells (t : Nat) : ∀ e ∈ List.replicate t zStr, e.cells.length = 2 := fun e he => by
  rw [List.eq_of_mem_replicate he]
  rfl
theorem new7_fn (t : Nat) (h1 : 1 ≤ t) (h64 : t ≤ 64) : Fn Tryd.prog 31 [.val (.int .i64 t)] (.tup [wP 0 (List.replicate t ([], 0)) (List.replicate t ([], 0)), .val (.int .i64 0)]) := by
  have g1 : decide ((t : Int) < 1) = false := decide_eq_false (by omega)
  have g2 : decide ((64 : Int) < t) = false := decide_eq_false (by omega)
  have g3 : t * 2 ≤ 16777216 ∧ 32 * t ≤ 281474976710656 ∧ t ≤ maxLen := by simp only [maxLen]; omega
  have g4 := zStr_cells t
  refine Fn.weakT (l := [.agg [.val (.int .u64 0), .sl (List.replicate t zStr), .sl (List.replicate t zStr)], .val (.int .i64 0)]) ?_ (.cons (.agg (.cons (.refl _) (.cons (.sl (by simp [strs]) (flat_zs t)) (.cons (.sl (by simp [strs]) (flat_zs t)) .nil)))) (.cons (.refl _) .nil))
  refine yM Tryd.func31 rfl Tryd.ntmps31 (Nat.le_of_ble_eq_true rfl) ?_
  repeat' ((refine zY.is ?_; first | refine zY.seq ?_ | (refine zY.isR (id := 0) ?_; refine zY.zV [0] [2, 4, 13, 17] (by repeat' first | exact zZ.nil | apply zZ.p rfl) (by repeat' first | exact zW.nil | apply zW.skip) ?_; (refine zX.m rfl rfl (zF rfl (by decide) rfl (by decide)) ?_); (refine zX.v rfl rfl (zK rfl rfl rfl (by decide)) ?_); refine zX.nil ?_) | (refine zY.isR (id := 1) ?_; refine zY.zV [0, 2, 3] [2, 4, 13, 17] (by repeat' first | exact zZ.nil | apply zZ.p rfl | apply zZ.ptr rfl) (by repeat' first | exact zW.nil | apply zW.boxP rfl rfl | apply zW.skip) ?_; all_goals (refine zX.v rfl rfl (zQ rfl rfl rfl (by decide)) ?_); all_goals (refine zX.v rfl rfl (by exact yG rfl rfl rfl (by exact g1) rfl (by decide)) ?_); all_goals (refine zX.v rfl rfl (zQ rfl rfl rfl (by decide)) ?_); all_goals (refine zX.gY rfl rfl (by decide) rfl (by with_reducible rfl) rfl (by decide) (zQ rfl rfl rfl (by decide)) ?_); all_goals (refine zX.gY rfl rfl (by decide) rfl (by with_reducible rfl) rfl (by decide) (by exact r_gtr rfl rfl rfl (by exact g2) rfl (by decide)) ?_); all_goals (refine zX.v rfl rfl (by exact yF rfl rfl (by with_reducible rfl) rfl rfl (by decide)) ?_); all_goals (refine zX.nil ?_)) | (refine zY.isR (id := 3) ?_; refine zY.zV [0, 2, 3] [2, 4, 13, 17] (by repeat' first | exact zZ.nil | apply zZ.p rfl | apply zZ.ptr rfl) (by repeat' first | exact zW.nil | apply zW.boxP rfl rfl | apply zW.skip) ?_; (refine zX.m rfl rfl (zF rfl (by decide) rfl (by decide)) ?_); refine zX.nil ?_) | (refine zY.isR (id := 4) ?_; refine zY.zV [0, 2, 3, 4] [2, 4, 13, 17] (by repeat' first | exact zZ.nil | apply zZ.p rfl | apply zZ.ptr rfl) (by repeat' first | exact zW.nil | apply zW.boxP rfl rfl | apply zW.skip) ?_; (refine zX.v rfl rfl (zQ rfl rfl rfl (by decide)) ?_); (refine zX.m rfl rfl (by exact w_makeVN rfl rfl rfl (by exact g3) rfl (by decide) (by rfl) rfl (by decide)) ?_); (refine zX.v rfl rfl (zJ rfl rfl rfl (by decide)) ?_); (refine zX.v rfl rfl (by exact wY rfl rfl rfl (by omega) rfl (by decide)) ?_); (refine zX.w rfl (by exact vK rfl rfl rfl rfl rfl rfl (by exact Nat.le_of_ble_eq_true rfl) rfl rfl) ?_); refine zX.nil ?_) | (refine zY.isR (id := 5) ?_; refine zY.zV [0, 2, 3, 4] [2, 4, 13, 17] (by repeat' first | exact zZ.nil | apply zZ.p rfl | apply zZ.ptr rfl) (by repeat' first | exact zW.nil | apply zW.boxP rfl rfl | apply zW.some rfl | apply zW.skip) ?_; (refine zX.v rfl rfl (zQ rfl rfl rfl (by decide)) ?_); (refine zX.m rfl rfl (by exact w_makeVN rfl rfl rfl (by exact g3) rfl (by decide) (by rfl) rfl (by decide)) ?_); (refine zX.v rfl rfl (zJ rfl rfl rfl (by decide)) ?_); (refine zX.v rfl rfl (by exact wY rfl rfl rfl (by omega) rfl (by decide)) ?_); (refine zX.w rfl (by exact vK rfl rfl rfl rfl rfl rfl (by exact Nat.le_of_ble_eq_true rfl) rfl rfl) ?_); refine zX.nil ?_) | (refine zY.isR (id := 6) ?_; refine zY.sub (sub_frz (id := 13) rfl) ?_; refine zY.sub (sub_frz (id := 17) rfl) ?_; refine zY.zV [2, 3, 4] [2, 4, 13, 17] (by repeat' first | exact zZ.nil | apply zZ.p rfl | apply zZ.ptr rfl) (by repeat' first | exact zW.nil | apply zW.boxP rfl rfl | apply zW.skip) ?_; (refine zX.v rfl rfl (zG rfl rfl rfl (by rfl) (by rfl) rfl (by decide)) ?_); (refine zX.w rfl (by exact zC rfl rfl rfl rfl rfl (by rfl) (by exact Nat.le_of_ble_eq_true rfl) rfl rfl) ?_); (refine zX.v rfl rfl (zK rfl rfl rfl (by decide)) ?_); refine zX.nil ?_) | refine zY.yI rfl (by first | assumption | with_reducible rfl) ?_ | refine zY.skip ?_ | refine zY.ret ?_))
  all_goals exact ⟨by first | exact .inl rfl | exact .inr rfl, _, Sub.refl _, .tup (rs := [.cell 2 31, .tmp 3]) (l := [.agg [.val (.int .u64 0), .sl (List.replicate t zStr), .sl (List.replicate t zStr)], .val (.int .i64 0)]) rfl (by decide) (.cons (.cellN rfl rfl (by rfl) (by rfl)) (.cons (.tmp rfl) .nil))⟩
end Go.Proofs.YthnmfmdkdngggaaDoor
/- New worlds (reference): contracts. -/
namespace Go.Proofs.YthnmfmdkdngggaaDoor
set_option maxRecDepth 100000
set_option maxHeartbeats 16000000
open Go Go.RowKit
set_option linter.unusedSimpArgs false
attribute [local irreducible] zX zY Step zD Sub zH zP Fn
/-- the free list's words -/
def freeW (t : Nat) : Nat → List Int → List Int
  | 0, l => l
  | k + 1, l => (freeW t k l).set (8 + t + 8 * k + 7) ((k : Int) + 2)
theorem freeW_len (t : Nat) (l : List Int) : ∀ k, (freeW t k l).length = l.length
  | 0 => rfl
  | k + 1 => by rw [freeW, List.length_set, freeW_len t l k]
def newW (t c : Nat) : List Int := freeW t (c - 1) ((List.replicate (8 + t + 8 * c) 0).set 1 1)
def newS (t c : Nat) (k : Nat) : AS :=
  { t := [(0, .p (.val (.int .i64 (t : Nat)))), (1, .p (.val (.int .i64 (c : Nat)))), (4, .ptr 4 0), (5, .p (.val (.int .i64 0))), (6, .ptr 6 0), (7, .p (.val (.int .i64 ((k + 1 : Nat) : Int))))],
    s := [(4, .box 27 ([.val (.int .i64 0), .val (.int .i64 0), .val (.slice none 0 0)].map AV.p)), (6, .box 27 [.p (.val (.int .i64 (t : Nat))), .p (.val (.int .i64 (c : Nat))), .own 30]), (30, vO 22 1 (wds (freeW t k ((List.replicate (8 + t + 8 * c) 0).set 1 1))))] }
theorem new9_fn (t c : Nat) (h1 : 1 ≤ t) (h64 : t ≤ 64) (hc1 : 1 ≤ c) (hc : c ≤ 65536) : Fn Tryd.prog 30 [.val (.int .i64 t), .val (.int .i64 c)] (.tup [memV t c (newW t c), .val (.int .i64 0)]) := by
  have g1 : decide ((t : Int) < 1) = false := decide_eq_false (by omega)
  have g2 : decide ((64 : Int) < t) = false := decide_eq_false (by omega)
  have f1 : decide ((c : Int) < 0) = false := decide_eq_false (by omega)
  have f2 : decide ((65536 : Int) < c) = false := decide_eq_false (by omega)
  have g3 : (8 + t + 8 * c) * 1 ≤ 16777216 ∧ 8 * (8 + t + 8 * c) ≤ 281474976710656 ∧ 8 + t + 8 * c ≤ maxLen := by simp only [maxLen]; omega
  have g4 : IntKind.i64.wrap (8 + (t : Int)) = 8 + (t : Int) := wrap_i64 _ (by omega)
  have g4b : IntKind.i64.wrap (8 * (c : Int)) = 8 * (c : Int) := wrap_i64 _ (by omega)
  have g5 : IntKind.i64.wrap (8 + (t : Int) + 8 * (c : Int)) = ((8 + t + 8 * c : Nat) : Int) := by rw [wrap_i64 _ (by omega)]; omega
  have g6 : ∀ e ∈ List.replicate (8 + t + 8 * c) (PV.val (.int .u64 0)), e.cells.length = 1 := fun e he => by rw [List.eq_of_mem_replicate he]; rfl
  have g7 : (0 : Int) ≤ 1 ∧ (1 : Int) < (List.replicate (8 + t + 8 * c) (PV.val (.int .u64 0))).length := by simp; omega
  have g8 : (1 : Int).toNat < (List.replicate (8 + t + 8 * c) (PV.val (.int .u64 0))).length := by simp; omega
  have g9 : decide ((0 : Int) < c) = true := decide_eq_true (by omega)
  refine yM Tryd.func30 rfl Tryd.ntmps30 (Nat.le_of_ble_eq_true rfl) ?_
  repeat' (first | (refine zX.is ?_; first | refine zX.v rfl rfl (by first | exact yP rfl rfl rfl (by first | exact g4 | exact g5) rfl (by decide) | exact a_mul rfl rfl rfl (by exact g4b) rfl (by decide) | exact zQ rfl rfl rfl (by decide)) ?_ | refine zX.m rfl rfl (by exact w_makeV1 rfl rfl rfl (by exact g3) rfl (by decide) rfl (by rfl) rfl (by decide)) ?_) | (refine zY.is ?_; first | refine zY.seq ?_ | (refine zY.isR (id := 0) ?_; refine zY.zV [0, 1] [4, 6, 30] (by repeat' first | exact zZ.nil | apply zZ.p rfl) (by repeat' first | exact zW.nil | apply zW.skip) ?_; (refine zX.m rfl rfl (zF rfl (by decide) rfl (by decide)) ?_); (refine zX.v rfl rfl (zK rfl rfl rfl (by decide)) ?_); refine zX.nil ?_) | (refine zY.isR (id := 1) ?_; refine zY.zV [0, 1, 4, 5] [4, 6, 30] (by repeat' first | exact zZ.nil | apply zZ.p rfl | apply zZ.ptr rfl) (by repeat' first | exact zW.nil | apply zW.boxP rfl rfl | apply zW.skip) ?_; all_goals (refine zX.v rfl rfl (zQ rfl rfl rfl (by decide)) ?_); all_goals (refine zX.v rfl rfl (by exact yG rfl rfl rfl (by exact g1) rfl (by decide)) ?_); all_goals (refine zX.v rfl rfl (zQ rfl rfl rfl (by decide)) ?_); all_goals (refine zX.gY rfl rfl (by decide) rfl (by assumption) rfl (by decide) (zQ rfl rfl rfl (by decide)) ?_); all_goals (refine zX.gY rfl rfl (by decide) rfl (by assumption) rfl (by decide) (by exact r_gtr rfl rfl rfl (by exact g2) rfl (by decide)) ?_); all_goals (refine zX.v rfl rfl (by exact yF rfl rfl (by assumption) rfl rfl (by decide)) ?_); all_goals (refine zX.v rfl rfl (zQ rfl rfl rfl (by decide)) ?_); all_goals (refine zX.gY rfl rfl (by decide) rfl (by assumption) rfl (by decide) (zQ rfl rfl rfl (by decide)) ?_); all_goals (refine zX.gY rfl rfl (by decide) rfl (by assumption) rfl (by decide) (by exact yG rfl rfl rfl (by exact f1) rfl (by decide)) ?_); all_goals (refine zX.v rfl rfl (by exact yF rfl rfl (by assumption) rfl rfl (by decide)) ?_); all_goals (refine zX.v rfl rfl (zQ rfl rfl rfl (by decide)) ?_); all_goals (refine zX.gY rfl rfl (by decide) rfl (by assumption) rfl (by decide) (zQ rfl rfl rfl (by decide)) ?_); all_goals (refine zX.gY rfl rfl (by decide) rfl (by assumption) rfl (by decide) (by exact r_gtr rfl rfl rfl (by exact f2) rfl (by decide)) ?_); all_goals (refine zX.v rfl rfl (by exact yF rfl rfl (by assumption) rfl rfl (by decide)) ?_); all_goals (refine zX.nil ?_)) | (refine zY.isR (id := 3) ?_; refine zY.zV [0, 1, 4, 5] [4, 6, 30] (by repeat' first | exact zZ.nil | apply zZ.p rfl | apply zZ.ptr rfl) (by repeat' first | exact zW.nil | apply zW.boxP rfl rfl | apply zW.skip) ?_) | refine zY.yI rfl (by assumption) ?_ | refine zY.skip ?_))
  refine zX.buildStore rfl rfl rfl rfl rfl rfl rfl rfl rfl (by decide) (by decide) (by decide) (by rfl) (by rfl) (by rfl) (by rfl) (by rfl) ?_
  repeat' (first | (refine zX.nil ?_) | (refine zY.is ?_; first | refine zY.seq ?_ | (refine zY.isR (id := 4) ?_; refine zY.zV [0, 1, 4, 5, 6] [4, 6, 30] (by repeat' first | exact zZ.nil | apply zZ.p rfl | apply zZ.ptr rfl) (by repeat' first | exact zW.nil | apply zW.boxP rfl rfl | apply zW.some rfl) ?_; (refine zX.v rfl rfl (zQ rfl rfl rfl (by decide)) ?_); (refine zX.v rfl rfl (by exact r_gtr rfl rfl rfl (by exact g9) rfl (by decide)) ?_); refine zX.nil ?_) | (refine zY.isR (id := 5) ?_; refine zY.zV [0, 1, 4, 5, 6] [4, 6, 30] (by repeat' first | exact zZ.nil | apply zZ.p rfl | apply zZ.ptr rfl) (by repeat' first | exact zW.nil | apply zW.boxP rfl rfl | apply zW.some rfl) ?_; (refine zX.v rfl rfl (zJ rfl rfl rfl (by decide)) ?_); (refine zX.v rfl rfl (vD rfl rfl rfl rfl rfl (by decide)) ?_); (refine zX.v rfl rfl (by exact yR rfl rfl rfl rfl (by exact g7) rfl (by decide)) ?_); (refine zX.w rfl (by exact vQ rfl rfl rfl rfl rfl (by exact g6) (by rfl) rfl (by exact g8) rfl) ?_); refine zX.nil ?_) | (refine zY.isR (id := 6) ?_; refine zY.zV [0, 1, 4, 5, 6] [4, 6, 30] (by repeat' first | exact zZ.nil | apply zZ.p rfl | apply zZ.ptr rfl) (by repeat' first | exact zW.nil | apply zW.boxP rfl rfl | apply zW.some rfl) ?_; (refine zX.v rfl rfl (zK rfl rfl rfl (by decide)) ?_); refine zX.nil ?_) | refine zY.yO rfl (by first | assumption | with_reducible rfl) ?_ | refine zY.block ?_))
  refine zY.loop (newS t c) (fun k => k + 1 ≤ c) (fun k => c - k) 0 ?h0 (by omega) ?rd
  case h0 =>
    have e0 : wds (freeW t 0 ((List.replicate (8 + t + 8 * c) 0).set 1 1)) = (List.replicate (8 + t + 8 * c) (PV.val (.int .u64 0))).set (1 : Int).toNat (.val (.int .u64 1)) := by simp [wds, freeW, List.map_set]
    unfold newS
    rw [e0]
    refine zI (is := [0, 1, 4, 5, 6, 7]) (js := [4, 6, 30]) ?_ ?_
    repeat' first | exact zZ.nil | apply zZ.p rfl | apply zZ.ptr rfl | apply zZ.own rfl | apply zZ.clo rfl | apply zZ.pt rfl | apply zZ.tup rfl | apply zZ.skip
    repeat' first | exact zW.nil | apply zW.boxP rfl rfl | apply zW.yK rfl | apply zW.some rfl | apply zW.skip
  case rd =>
    rintro k hk
    have hfl : (freeW t k ((List.replicate (8 + t + 8 * c) 0).set 1 1)).length = 8 + t + 8 * c := by rw [freeW_len]; simp
    unfold newS
    by_cases hkc : k + 1 < c
    case pos =>
      have f3 : decide (((k + 1 : Nat) : Int) < c) = true := decide_eq_true (by omega)
      have c3 : Fn Tryd.prog 12 [.val (.int .i64 (t : Nat)), .val (.int .i64 ((k + 1 : Nat) : Int)), .val (.int .i64 7)] (.p (.val (.int .i64 ((8 + t + 8 * k + 7 : Nat) : Int)))) := by
        have h := fieldRef_fn t ((k + 1 : Nat) : Int) 7 (by unfold Small; omega) (by omega) (by unfold Small; omega)
        have e : y7 t ((k + 1 : Nat) : Int) 7 = ((8 + t + 8 * k + 7 : Nat) : Int) := by unfold y7; omega
        rw [← e]; exact h
      have g10 : IntKind.i64.wrap (((k + 1 : Nat) : Int) + 1) = ((k + 2 : Nat) : Int) := by rw [wrap_i64 _ (by omega)]; omega
      have g11 : IntKind.u64.wrap ((k + 2 : Nat) : Int) = (k : Int) + 2 := by rw [wrap_u64 _ (by omega)]; omega
      have g12 := wds_cells (freeW t k ((List.replicate (8 + t + 8 * c) 0).set 1 1))
      have g13 : (0 : Int) ≤ ((8 + t + 8 * k + 7 : Nat) : Int) ∧ ((8 + t + 8 * k + 7 : Nat) : Int) < (wds (freeW t k ((List.replicate (8 + t + 8 * c) 0).set 1 1))).length := by rw [wds_len, hfl]; omega
      have g14 : ((8 + t + 8 * k + 7 : Nat) : Int).toNat < (wds (freeW t k ((List.replicate (8 + t + 8 * c) 0).set 1 1))).length := by rw [wds_len, hfl]; omega
      repeat' (first | (refine zY.is ?_; first | refine zY.seq ?_ | (refine zY.isR (id := 7) ?_; refine zY.zV [0, 1, 4, 5, 6, 7, 39] [4, 6, 30] (by repeat' first | exact zZ.nil | apply zZ.p rfl | apply zZ.ptr rfl | apply zZ.skip) (by repeat' first | exact zW.nil | apply zW.boxP rfl rfl | apply zW.some rfl) ?_; (refine zX.v rfl rfl (zQ rfl rfl rfl (by decide)) ?_); (refine zX.v rfl rfl (zQ rfl rfl rfl (by decide)) ?_); (refine zX.v rfl rfl (by exact yG rfl rfl rfl (by exact f3) rfl (by decide)) ?_); refine zX.nil ?_) | (refine zY.isR (id := 9) ?_; refine zY.z8 [0, 1, 4, 5, 6, 7, 39] [4, 6, 30] (by repeat' first | exact zZ.nil | apply zZ.p rfl | apply zZ.ptr rfl) (by repeat' first | exact zW.nil | apply zW.boxP rfl rfl | apply zW.some rfl) (zY.draws ?_); all_goals (refine Draws.v rfl rfl (zJ rfl rfl rfl (by decide)) ?_); all_goals (refine Draws.v rfl rfl (vD rfl rfl rfl rfl rfl (by decide)) ?_); all_goals (refine Draws.v rfl rfl (zQ rfl rfl rfl (by decide)) ?_); all_goals (refine Draws.v rfl rfl (zQ rfl rfl rfl (by decide)) ?_); all_goals (refine Draws.v rfl rfl (by exact zN (c3) rfl rfl rfl (by decide)) ?_); all_goals (refine Draws.v rfl rfl (zQ rfl rfl rfl (by decide)) ?_); all_goals (refine Draws.v rfl rfl (by exact yP rfl rfl rfl (by exact g10) rfl (by decide)) ?_); all_goals (refine Draws.v rfl rfl (by exact xK rfl rfl (by exact g11) rfl (by decide)) ?_); all_goals (refine Draws.v rfl rfl (by exact yR rfl rfl rfl rfl (by exact g13) rfl (by decide)) ?_); all_goals ((refine Draws.done (by kernel_rfl) (by kernel_rfl) (by kernel_rfl) ?_; refine zH.w rfl (by exact vQ rfl rfl rfl rfl rfl (by exact g12) (by rfl) rfl (by exact g14) rfl) ?_)); all_goals (refine zH.nil ?_)) | (refine zY.isR (id := 8) ?_; refine zY.zV [0, 1, 4, 5, 6, 7, 39] [4, 6, 30] (by repeat' first | exact zZ.nil | apply zZ.p rfl | apply zZ.ptr rfl) (by repeat' first | exact zW.nil | apply zW.boxP rfl rfl | apply zW.some rfl) ?_; (refine zX.v rfl rfl (zQ rfl rfl rfl (by decide)) ?_); (refine zX.v rfl rfl (by exact yP rfl rfl rfl (by exact g10) rfl (by decide)) ?_); (refine zX.v rfl rfl (zK rfl rfl rfl (by decide)) ?_); refine zX.nil ?_) | refine zY.yO rfl (by first | assumption | with_reducible rfl) ?_ | refine zY.skip ?_ | refine zY.block ?_) | refine yQ.n ?_)
      refine ⟨k + 1, ?_, by omega, by omega⟩
      have e1 : wds (freeW t (k + 1) ((List.replicate (8 + t + 8 * c) 0).set 1 1)) = (wds (freeW t k ((List.replicate (8 + t + 8 * c) 0).set 1 1))).set ((8 + t + 8 * k + 7 : Nat) : Int).toNat (.val (.int .u64 ((k : Int) + 2))) := by rw [wds_set, Int.toNat_natCast]; rfl
      show Sub _ (newS t c (k + 1))
      unfold newS
      rw [e1]
      refine zI (is := [0, 1, 4, 5, 6, 7]) (js := [4, 6, 30]) ?_ ?_
      repeat' first | exact zZ.nil | apply zZ.p rfl | apply zZ.ptr rfl | apply zZ.own rfl | apply zZ.clo rfl | apply zZ.pt rfl | apply zZ.tup rfl | apply zZ.skip
      repeat' first | exact zW.nil | apply zW.boxP rfl rfl | apply zW.yK rfl | apply zW.some rfl | apply zW.skip
    case neg =>
      obtain rfl : k = c - 1 := by omega
      have f3 : decide (((c - 1 + 1 : Nat) : Int) < c) = false := decide_eq_false (by omega)
      repeat' ((refine zY.is ?_; first | refine zY.seq ?_ | (refine zY.isR (id := 7) ?_; refine zY.zV [0, 1, 4, 5, 6, 7, 39] [4, 6, 30] (by repeat' first | exact zZ.nil | apply zZ.p rfl | apply zZ.ptr rfl | apply zZ.skip) (by repeat' first | exact zW.nil | apply zW.boxP rfl rfl | apply zW.some rfl) ?_; (refine zX.v rfl rfl (zQ rfl rfl rfl (by decide)) ?_); (refine zX.v rfl rfl (zQ rfl rfl rfl (by decide)) ?_); (refine zX.v rfl rfl (by exact yG rfl rfl rfl (by exact f3) rfl (by decide)) ?_); refine zX.nil ?_) | (refine zY.isR (id := 10) ?_; refine zY.sub ((sub_frzE 30 22 1 (wds (newW t c)) rfl)) ?_; refine zY.zV [4, 5, 6] [4, 6, 30] (by repeat' first | exact zZ.nil | apply zZ.p rfl | apply zZ.ptr rfl) (by repeat' first | exact zW.nil | apply zW.boxP rfl rfl | apply zW.skip) ?_; (refine zX.v rfl rfl (zG rfl rfl rfl (by rfl) (by rfl) rfl (by decide)) ?_); (refine zX.w rfl (by exact zC rfl rfl rfl rfl rfl (by rfl) (by exact Nat.le_of_ble_eq_true rfl) rfl rfl) ?_); (refine zX.v rfl rfl (zK rfl rfl rfl (by decide)) ?_); refine zX.nil ?_) | refine zY.yI rfl (by assumption) ?_ | refine zY.exit ?_ | refine zY.ret ?_))
      all_goals exact ⟨by first | exact .inl rfl | exact .inr rfl, _, Sub.refl _, .tup (rs := [.cell 4 27, .tmp 5]) (l := [.agg [.val (.int .i64 t), .val (.int .i64 c), .sl (wds (newW t c))], .val (.int .i64 0)]) rfl (by decide) (.cons (.cellN rfl rfl (by rfl) (by rfl)) (.cons (.tmp rfl) .nil))⟩
theorem new10_fn (t c : Nat) (h1 : 1 ≤ t) (h64 : t ≤ 64) (hc1 : 1 ≤ c) (hc : c ≤ 65536) : Fn Tryd.prog 8 [.val (.int .i64 t), .val (.int .i64 c)] (.p (Wd.pv ⟨t, c, newW t c, 0, List.replicate t ([], 0), List.replicate t ([], 0)⟩)) := by
  have c1 := new9_fn t c h1 h64 hc1 hc
  have c2 := new7_fn t h1 h64
  refine yM Tryd.func8 rfl Tryd.ntmps8 (Nat.le_of_ble_eq_true rfl) ?_
  repeat' ((refine zY.is ?_; first | refine zY.seq ?_ | (refine zY.isR (id := 0) ?_; refine zY.zV [0, 1] [4, 5, 7] (by repeat' first | exact zZ.nil | apply zZ.p rfl) (by repeat' first | exact zW.nil | apply zW.skip) ?_; (refine zX.m rfl rfl (zF rfl (by decide) rfl (by decide)) ?_); refine zX.nil ?_) | (refine zY.isR (id := 1) ?_; refine zY.zV [0, 1, 4] [4, 5, 7] (by repeat' first | exact zZ.nil | apply zZ.p rfl | apply zZ.ptr rfl) (by repeat' first | exact zW.nil | apply zW.boxP rfl rfl | apply zW.skip) ?_; (refine zX.v rfl rfl (zQ rfl rfl rfl (by decide)) ?_); (refine zX.v rfl rfl (zQ rfl rfl rfl (by decide)) ?_); (refine zX.v rfl rfl (by exact yL (c1) rfl rfl rfl (by decide)) ?_); (refine zX.v rfl rfl (yJ rfl rfl rfl (by decide)) ?_); (refine zX.v rfl rfl (zB rfl rfl rfl rfl (by decide)) ?_); (refine zX.v rfl rfl (zB rfl rfl rfl rfl (by decide)) ?_); (refine zX.m rfl rfl (zF rfl (by decide) rfl (by decide)) ?_); (refine zX.w rfl (by exact zC rfl rfl rfl rfl rfl (by rfl) (by exact Nat.le_of_ble_eq_true rfl) rfl rfl) ?_); (refine zX.v rfl rfl (zK rfl rfl rfl (by decide)) ?_); refine zX.nil ?_) | (refine zY.isR (id := 2) ?_; refine zY.zV [0, 4, 5] [4, 5, 7] (by repeat' first | exact zZ.nil | apply zZ.p rfl | apply zZ.ptr rfl) (by repeat' first | exact zW.nil | apply zW.boxP rfl rfl | apply zW.skip) ?_; (refine zX.v rfl rfl (zQ rfl rfl rfl (by decide)) ?_); (refine zX.v rfl rfl (by exact yL (c2) rfl rfl rfl (by decide)) ?_); (refine zX.v rfl rfl (yJ rfl rfl rfl (by decide)) ?_); (refine zX.v rfl rfl (zB rfl rfl rfl rfl (by decide)) ?_); (refine zX.v rfl rfl (zB rfl rfl rfl rfl (by decide)) ?_); (refine zX.m rfl rfl (zF rfl (by decide) rfl (by decide)) ?_); (refine zX.w rfl (by exact zC rfl rfl rfl rfl rfl (by rfl) (by exact Nat.le_of_ble_eq_true rfl) rfl rfl) ?_); (refine zX.v rfl rfl (zK rfl rfl rfl (by decide)) ?_); refine zX.nil ?_) | (refine zY.isR (id := 3) ?_; refine zY.zV [4, 5, 7] [4, 5, 7] (by repeat' first | exact zZ.nil | apply zZ.ptr rfl) (by repeat' first | exact zW.nil | apply zW.boxP rfl rfl) ?_; (refine zX.v rfl rfl (zG rfl rfl rfl (by rfl) (by rfl) rfl (by decide)) ?_); (refine zX.v rfl rfl (zG rfl rfl rfl (by rfl) (by rfl) rfl (by decide)) ?_); (refine zX.v rfl rfl (yY rfl (by rfl) (by rfl) (by rfl) (by rfl) rfl (by decide)) ?_); (refine zX.w rfl (by exact zC rfl rfl rfl rfl rfl (by rfl) (by exact Nat.le_of_ble_eq_true rfl) rfl rfl) ?_); refine zX.nil ?_) | refine zY.ret ?_))
  all_goals exact ⟨by first | exact .inl rfl | exact .inr rfl, _, Sub.refl _, .p (r := .cell 4 33) rfl (.cellN rfl rfl (by rfl) (by rfl))⟩
end Go.Proofs.YthnmfmdkdngggaaDoor
/- Operations that step alone, by evaluation: the document's example. -/
namespace Go.Proofs.YthnmfmdkdngggaaDoor
set_option maxRecDepth 100000
set_option maxHeartbeats 16000000
open Go Go.RowKit
set_option linter.unusedSimpArgs false
theorem run_keeps {α : Type} {good : α → Prop} {me : Nat} {f : Nat → Bool} : ∀ {p : Pr α} {n b i j : Nat} {W W' : Wd} {x : α}, p.xJ good n → WdOK b W → p.run (wSt me f) (W, i) = .done x (W', j) →
    i ≤ j ∧ WdOK (b + 1000 * (j - i)) W' ∧ W'.t = W.t ∧ W'.c = W.c ∧ W'.r0.length = W.r0.length ∧ W'.ws.length = W.ws.length ∧ good x
  | .ret _, n, b, i, j, W, W', x, hf, h, hr => by
    rw [yZ] at hr
    injection hr with e1 e2
    injection e2 with e2 e3
    subst e1 e2 e3
    exact ⟨Nat.le_refl _, h.le (by omega), rfl, rfl, rfl, rfl, hf⟩
  | .stuck, _, _, _, _, _, _, _, _, _, hr => by cases hr
  | .ask q k, n, b, i, j, W, W', x, hf, h, hr => by
    rw [run_ask] at hr
    have hr2 : (k (doX W me q (f i)).2).run (wSt me f) ((doX W me q (f i)).1, i + 1) = .done x (W', j) := hr
    obtain ⟨h1, h2⟩ := doX_ok h hf.1 me (f i)
    obtain ⟨k1, k2, k3, k4, _⟩ := doX_keeps W me q (f i)
    obtain ⟨a1, a2, a3, a4, a5, a6, a7⟩ := run_keeps (hf.2 _ h2) h1 hr2
    exact ⟨by omega, a2.le (by omega), a3.trans k1, a4.trans k2, a5.trans k3, a6.trans k4, a7⟩
def wd0 : Wd := ⟨0, 0, [], 0, [], []⟩
structure Res where
  o : OutI
  W : Wd
  m : Nat
/-- what an operation answers, that steps alone -/
def resW (p : Pr OutI) (me : Nat) (f : Nat → Bool) (W : Wd) : Res := match p.run (wSt me f) (W, 0) with
  | .done o s => ⟨o, s.1, s.2⟩
  | _ => ⟨⟨0, false, 0⟩, wd0, 1000⟩
def newD (t c : Nat) : Wd := ⟨t, c, newW t c, 0, List.replicate t ([], 0), List.replicate t ([], 0)⟩
theorem freeW_U (t : Nat) {l : List Int} (hl : ∀ x ∈ l, U x) : ∀ k, k ≤ 65536 → ∀ x ∈ freeW t k l, U x
  | 0, _, x, hx => hl x hx
  | k + 1, hk, x, hx => by
    rw [freeW] at hx
    rcases List.mem_or_eq_of_mem_set hx with hx | rfl
    · exact freeW_U t hl k (by omega) x hx
    · unfold U; omega
theorem newD_ok {t c : Nat} (h1 : t ≤ 64) (h2 : c ≤ 65536) : WdOK 0 (newD t c) :=
  ⟨freeW_U t (fun x hx => by
    rcases List.mem_or_eq_of_mem_set hx with hx | rfl
    · rw [List.eq_of_mem_replicate hx]; exact U.zero
    · unfold U; decide) _ (by omega), by show (newW t c).length ≤ _; rw [newW, freeW_len]; simp; omega, rfl, by show (List.replicate t _).length ≤ _; simp; omega, fun p hp => by rw [List.eq_of_mem_replicate hp]; exact Nat.le_refl _⟩
theorem opOK_of {t k u v w : Int} (ht : 1 ≤ t ∧ t ≤ 64) (hu : 1 ≤ u ∧ u ≤ 65536) (hv : k = 7 ∨ k = 23 → v = 1 ∨ v = 2) (hw : U w) : OpOK t k u v w := ⟨fun _ => ⟨by unfold Small; omega, by omega, by omega⟩, hv, hw⟩
/-- an operation that steps alone, in a world: its contract, and what is kept -/
structure Al (B : Nat) (me : Nat) (k u v w : Int) (most : Nat) (fail : List Bool) (W : Wd) (R : Res) : Prop where
  fn : Fn Tryd.prog 9 [W.pv, .val (.int .i64 me), opV k u v w, .val (.int .i64 most), .sl (bools fail)] (.tup [R.W.pv, outV R.o.e R.o.is 0 R.o.w, .val (.bool true)])
  nil : fail = [] → Fn Tryd.prog 9 [W.pv, .val (.int .i64 me), opV k u v w, .val (.int .i64 most), yS] (.tup [R.W.pv, outV R.o.e R.o.is 0 R.o.w, .val (.bool true)])
  ok : WdOK (B + 20000) R.W
  t : R.W.t = W.t
  r0 : R.W.r0.length = W.r0.length
  ws : R.W.ws.length = W.ws.length
theorem al_of {B me : Nat} {k u v w : Int} {most : Nat} {fail : List Bool} {W : Wd} {R : Res} (hr : (opP W.t k u v w).run (wSt me (xD fail)) (W, 0) = .done R.o (R.W, R.m)) (hop : OpOK W.t k u v w) (hW : WdOK B W) (hme : me < W.r0.length) (hm : R.m ≤ most) (h20 : most ≤ 20) (hB : B ≤ 500000) : Al B me k u v w most fail W R := by
  have hk := run_keeps (fine_op hop) hW hr
  refine ⟨alone_fn B W R.W me k u v w most fail R.m R.o hW hme hop hr hm (by omega) (by omega), fun e => ?_, hk.2.1.le (by omega), hk.2.2.1, hk.2.2.2.2.1, hk.2.2.2.2.2.1⟩
  subst e
  exact alone_nil B W R.W me k u v w most R.m R.o hW hme hop hr hm (by omega) (by omega)
/-! ### The document's example -/
def shR1 : Res := resW (opP 1 20 1 0 0) 0 (xD []) (newD 1 1)
def shR2 : Res := resW (opP 1 7 1 1 0) 0 (xD []) shR1.W
def shR3 : Res := resW (opP 1 7 1 1 0) 0 (xD []) shR2.W
def shR4 : Res := resW (opP 1 22 1 0 1) 0 (xD []) shR2.W
theorem sh1 : (opP 1 20 1 0 0).run (wSt 0 (xD [])) (newD 1 1, 0) = .done shR1.o (shR1.W, shR1.m) := by kernel_rfl
theorem sh2 : (opP 1 7 1 1 0).run (wSt 0 (xD [])) (shR1.W, 0) = .done shR2.o (shR2.W, shR2.m) := by kernel_rfl
theorem sh3 : (opP 1 7 1 1 0).run (wSt 0 (xD [])) (shR2.W, 0) = .done shR3.o (shR3.W, shR3.m) := by kernel_rfl
theorem sh4 : (opP 1 22 1 0 1).run (wSt 0 (xD [])) (shR2.W, 0) = .done shR4.o (shR4.W, shR4.m) := by kernel_rfl
theorem sh5 : shR1.o.w = 1 ∧ shR2.o.is = true ∧ shR3.o.is = true ∧ shR4.o.is = true := by refine ⟨?_, ?_, ?_, ?_⟩ <;> kernel_rfl
def shB : List Int := encL 1 1 0 0 0 0
theorem sh6 : shR2.W.r0 = [(wZ shB, ((wZ shB).length : Int))] := by kernel_rfl
theorem sh7 : shR3.W.r0 = [(wZ shB, ((wZ shB).length : Int))] := by kernel_rfl
theorem sh8 : (shB.all fun x => decide (0 ≤ x) && decide (x < 256)) = true ∧ (decide (1 ≤ shB.length) && decide (shB.length ≤ 65535)) = true := by refine ⟨?_, ?_⟩ <;> kernel_rfl
theorem sh9 : shR1.W.t = 1 ∧ shR2.W.t = 1 ∧ shR1.m ≤ 20 ∧ shR2.m ≤ 20 ∧ shR3.m ≤ 20 ∧ shR4.m ≤ 20 := by refine ⟨?_, ?_, ?_, ?_, ?_, ?_⟩ <;> first | exact Nat.le_of_ble_eq_true (by kernel_rfl) | kernel_rfl
theorem al_sh : Al 0 0 20 1 0 0 20 [] (newD 1 1) shR1 ∧ Al 20000 0 7 1 1 0 20 [] shR1.W shR2 ∧ Al 40000 0 7 1 1 0 20 [] shR2.W shR3 ∧ Al 40000 0 22 1 0 1 20 [] shR2.W shR4 := by
  obtain ⟨t1, t2, m1, m2, m3, m4⟩ := sh9
  have a1 : Al 0 0 20 1 0 0 20 [] (newD 1 1) shR1 := al_of sh1 (opOK_of (by decide) (by decide) (by decide) U.zero) (newD_ok (by decide) (by decide)) (by decide) m1 (by decide) (by decide)
  have a2 : Al 20000 0 7 1 1 0 20 [] shR1.W shR2 := al_of (by rw [t1]; exact sh2) (opOK_of (by rw [t1]; decide) (by decide) (by decide) U.zero) a1.ok (by rw [a1.r0]; decide) m2 (by decide) (by decide)
  have z1 : U 1 := by unfold U; decide
  exact ⟨a1, a2, al_of (by rw [t2]; exact sh3) (opOK_of (by rw [t2]; decide) (by decide) (by decide) U.zero) a2.ok (by rw [a2.r0, a1.r0]; decide) m3 (by decide) (by decide),
    al_of (by rw [t2]; exact sh4) (opOK_of (by rw [t2]; decide) (by decide) (by decide) z1) a2.ok (by rw [a2.r0, a1.r0]; decide) m4 (by decide) (by decide)⟩
end Go.Proofs.YthnmfmdkdngggaaDoor
/- Frames told again (reference), one of them: contract. -/
namespace Go.Proofs.YthnmfmdkdngggaaDoor
set_option maxRecDepth 100000
set_option maxHeartbeats 16000000
open Go Go.RowKit
set_option linter.unusedSimpArgs false
attribute [local irreducible] zX zY Step zD Sub zH zP Fn
def splitS0 (b : List Int) : AS := { t := [(0, .p (.sl (byts (wZ b)))), (4, .p (.val (.slice none 0 0))), (5, .p (.val (.int .i64 0)))], s := [] }
def splitS1 (b X : List Int) : AS := { t := [(0, .p (.sl (byts (wZ b)))), (4, .p (.sl [.sl (byts X)])), (5, .p (.val (.int .i64 (6 + (b.length : Int)))))], s := [] }
def splitS (b : List Int) : Nat → AS
  | 0 => splitS0 b
  | _ => splitS1 b b
def splitI (b X : List Int) (i : Nat) : AS :=
  { t := [(0, .p (.sl (byts (wZ b)))), (4, .p (.val (.slice none 0 0))), (5, .p (.val (.int .i64 0))), (6, .p (.val (.int .i64 b.length))), (7, .p (.sl (byts X))), (8, .p (.sl (byts (wZ b)))), (10, .p (.val (.int .i64 (i : Nat))))], s := [] }
theorem putF_len (b : List Int) (hl : putOk b) : (wZ b).length = 6 + b.length := by rw [putF_ref b hl]; simp; omega
theorem splitRef_fn (b : List Int) (hb : ∀ x ∈ b, 0 ≤ x ∧ x < 256) (hl : putOk b) : Fn Tryd.prog 17 [.sl (byts (wZ b))] (.tup [.sl [.sl (byts b)], .val (.int .i64 (6 + (b.length : Int)))]) := by
  have hN := hl.1
  have hN2 := hl.2
  have hlen := putF_len b hl
  have hF := putF_ref b hl
  refine yM Tryd.func17 rfl Tryd.ntmps17 (Nat.le_of_ble_eq_true rfl) ?_
  repeat' ((refine zY.is ?_; first | refine zY.seq ?_ | (refine zY.isR (id := 0) ?_; refine zY.zV [0] [2, 4, 42, 76] (by repeat' first | exact zZ.nil | apply zZ.p rfl) (by repeat' first | exact zW.nil | apply zW.skip) ?_; (refine zX.v rfl rfl (zK rfl rfl rfl (by decide)) ?_); (refine zX.v rfl rfl (zK rfl rfl rfl (by decide)) ?_); refine zX.nil ?_) | (refine zY.isR (id := 1) ?_; refine zY.zV [0, 2, 3] [2, 4, 42, 76] (by repeat' first | exact zZ.nil | apply zZ.p rfl) (by repeat' first | exact zW.nil | apply zW.skip) ?_; (refine zX.v rfl rfl (zK rfl rfl rfl (by decide)) ?_); refine zX.nil ?_) | (refine zY.isR (id := 2) ?_; refine zY.zV [0, 2, 3, 4] [2, 4, 42, 76] (by repeat' first | exact zZ.nil | apply zZ.p rfl) (by repeat' first | exact zW.nil | apply zW.skip) ?_; (refine zX.v rfl rfl (zK rfl rfl rfl (by decide)) ?_); refine zX.nil ?_) | refine zY.block ?_))
  refine zY.loop (splitS b) (fun k => k ≤ 1) (fun k => 2 - k) 0 ?h0 (Nat.zero_le _) ?rd
  case h0 =>
    refine zI (is := [0, 4, 5]) (js := []) ?_ ?_
    repeat' first | exact zZ.nil | apply zZ.p rfl | apply zZ.ptr rfl | apply zZ.own rfl | apply zZ.clo rfl | apply zZ.pt rfl | apply zZ.tup rfl | apply zZ.skip
    repeat' first | exact zW.nil | apply zW.boxP rfl rfl | apply zW.yK rfl | apply zW.some rfl | apply zW.skip
  case rd =>
    intro k hk
    rcases (show k = 0 ∨ k = 1 by omega) with rfl | rfl
    · change zY _ _ _ (splitS0 b) _
      have f0 : decide ((6 : Int) ≤ ((wZ b).length : Int)) = true := decide_eq_true (by rw [hlen]; omega)
      have i0 : (0 : Int) ≤ 0 ∧ (0 : Int) < ((wZ b).length : Int) := by rw [hlen]; omega
      have i1 : (0 : Int) ≤ 1 ∧ (1 : Int) < ((wZ b).length : Int) := by rw [hlen]; omega
      have g1 : IntKind.i64.wrap ((wZ b).getD (0 : Int).toNat 0) = (b.length : Int) % 256 := by rw [hF]; exact wrap_i64 _ (by simp; omega)
      have g2 : IntKind.i64.wrap ((wZ b).getD (1 : Int).toNat 0) = (b.length : Int) / 256 := by rw [hF]; exact wrap_i64 _ (by simp; omega)
      have g3 : IntKind.i64.wrap (256 * ((b.length : Int) / 256)) = 256 * ((b.length : Int) / 256) := wrap_i64 _ (by omega)
      have g4 : IntKind.i64.wrap ((b.length : Int) % 256 + 256 * ((b.length : Int) / 256)) = (b.length : Int) := by rw [wrap_i64 _ (by omega)]; omega
      have g5 : IntKind.i64.wrap (6 + (b.length : Int)) = 6 + (b.length : Int) := wrap_i64 _ (by omega)
      have f1 : decide ((b.length : Int) = 0) = false := decide_eq_false (by omega)
      have f2 : decide (((wZ b).length : Int) < 6 + (b.length : Int)) = false := decide_eq_false (by rw [hlen]; omega)
      have i2 : (0 : Int) ≤ 6 ∧ (6 : Int) ≤ 6 + (b.length : Int) ∧ 6 + (b.length : Int) ≤ ((wZ b).length : Int) := by rw [hlen]; omega
      have hX : ([] ++ ((wZ b).drop (6 : Int).toNat).take ((6 + (b.length : Int)).toNat - (6 : Int).toNat)) = b := by
        rw [hF, List.nil_append]
        have e1 : (6 + (b.length : Int)).toNat - (6 : Int).toNat = b.length := by omega
        rw [e1]
        show List.take b.length (List.drop 6 (_ :: _ :: _ :: _ :: _ :: _ :: b)) = b
        simp
      have c1 := putRef_fn b hb hl
      have c1 : Fn Tryd.prog 35 [.sl (byts ([] ++ ((wZ b).drop (6 : Int).toNat).take ((6 + (b.length : Int)).toNat - (6 : Int).toNat)))] (.tup [.sl (byts (wZ b)), .val (.int .i64 0)]) := by rw [hX]; exact c1
      have l1 : ([] : List Int).length + (((wZ b).drop (6 : Int).toNat).take ((6 + (b.length : Int)).toNat - (6 : Int).toNat)).length ≤ 140737488355328 := by simp; omega
      repeat' ((refine zY.is ?_; first | refine zY.seq ?_ | (refine zY.isR (id := 3) ?_; refine zY.zV [0, 2, 3, 4, 5, 6, 7, 8, 10, 15, 39, 58, 71] [2, 4, 42, 76] (by repeat' first | exact zZ.nil | apply zZ.p rfl | apply zZ.skip) (by repeat' first | exact zW.nil | apply zW.skip) ?_; (refine zX.v rfl rfl (zQ rfl rfl rfl (by decide)) ?_); (refine zX.v rfl rfl (by exact yP rfl rfl rfl (by (simp only [Int.reduceAdd, Int.reduceSub, Int.reduceMul]; exact wrap_i64 _ (by omega))) rfl (by decide)) ?_); (refine zX.v rfl rfl (zQ rfl rfl rfl (by decide)) ?_); (refine zX.v rfl rfl (xO rfl rfl rfl (by decide)) ?_); (refine zX.v rfl rfl (by exact r_leq rfl rfl rfl (by exact f0) rfl (by decide)) ?_); refine zX.nil ?_) | (refine zY.isR (id := 4) ?_; refine zY.z8 [0, 2, 3, 4, 5, 6, 7, 8, 10, 15, 39, 58, 71] [2, 4, 42, 76] (by repeat' first | exact zZ.nil | apply zZ.p rfl | apply zZ.skip) (by repeat' first | exact zW.nil | apply zW.skip) (zY.draws ?_); all_goals (refine Draws.v rfl rfl (zQ rfl rfl rfl (by decide)) ?_); all_goals (refine Draws.v rfl rfl (zQ rfl rfl rfl (by decide)) ?_); all_goals (refine Draws.v rfl rfl (by exact xL rfl rfl rfl (by exact i0) rfl (by decide)) ?_); all_goals (refine Draws.v rfl rfl (y8 rfl rfl rfl rfl (by decide)) ?_); all_goals (refine Draws.v rfl rfl (by exact xK rfl rfl (by exact g1) rfl (by decide)) ?_); all_goals (refine Draws.v rfl rfl (zQ rfl rfl rfl (by decide)) ?_); all_goals (refine Draws.v rfl rfl (zQ rfl rfl rfl (by decide)) ?_); all_goals (refine Draws.v rfl rfl (by exact yP rfl rfl rfl (by (simp only [Int.reduceAdd, Int.reduceSub, Int.reduceMul]; exact wrap_i64 _ (by omega))) rfl (by decide)) ?_); all_goals (refine Draws.v rfl rfl (by exact xL rfl rfl rfl (by exact i1) rfl (by decide)) ?_); all_goals (refine Draws.v rfl rfl (y8 rfl rfl rfl rfl (by decide)) ?_); all_goals (refine Draws.v rfl rfl (by exact xK rfl rfl (by exact g2) rfl (by decide)) ?_); all_goals (refine Draws.v rfl rfl (by exact a_mul rfl rfl rfl (by exact g3) rfl (by decide)) ?_); all_goals (refine Draws.v rfl rfl (by exact yP rfl rfl rfl (by exact g4) rfl (by decide)) ?_); all_goals (refine Draws.v rfl rfl (zK rfl rfl rfl (by decide)) ?_); all_goals ((refine Draws.done (by kernel_rfl) (by kernel_rfl) (by kernel_rfl) ?_; refine zH.nil ?_))) | (refine zY.isR (id := 5) ?_; refine zY.zV [0, 2, 3, 4, 5, 6, 7, 8, 10, 15, 39, 58, 71] [2, 4, 42, 76] (by repeat' first | exact zZ.nil | apply zZ.p rfl | apply zZ.skip) (by repeat' first | exact zW.nil | apply zW.skip) ?_; all_goals (refine zX.v rfl rfl (zQ rfl rfl rfl (by decide)) ?_); all_goals (refine zX.v rfl rfl (by exact y5 rfl rfl rfl (by exact f1) rfl (by decide)) ?_); all_goals (refine zX.v rfl rfl (zQ rfl rfl rfl (by decide)) ?_); all_goals (refine zX.gY rfl rfl (by decide) rfl (by with_reducible rfl) rfl (by decide) (zQ rfl rfl rfl (by decide)) ?_); all_goals (refine zX.gY rfl rfl (by decide) rfl (by with_reducible rfl) rfl (by decide) (by exact yP rfl rfl rfl (by (simp only [Int.reduceAdd, Int.reduceSub, Int.reduceMul]; exact wrap_i64 _ (by omega))) rfl (by decide)) ?_); all_goals (refine zX.gY rfl rfl (by decide) rfl (by with_reducible rfl) rfl (by decide) (zQ rfl rfl rfl (by decide)) ?_); all_goals (refine zX.gY rfl rfl (by decide) rfl (by with_reducible rfl) rfl (by decide) (by exact yP rfl rfl rfl (by exact g5) rfl (by decide)) ?_); all_goals (refine zX.gY rfl rfl (by decide) rfl (by with_reducible rfl) rfl (by decide) (zQ rfl rfl rfl (by decide)) ?_); all_goals (refine zX.gY rfl rfl (by decide) rfl (by with_reducible rfl) rfl (by decide) (xO rfl rfl rfl (by decide)) ?_); all_goals (refine zX.gY rfl rfl (by decide) rfl (by with_reducible rfl) rfl (by decide) (by exact r_gtr rfl rfl rfl (by exact f2) rfl (by decide)) ?_); all_goals (refine zX.v rfl rfl (by exact yF rfl rfl (by with_reducible rfl) rfl rfl (by decide)) ?_); all_goals (refine zX.nil ?_)) | (refine zY.isR (id := 7) ?_; refine zY.zV [0, 2, 3, 4, 5, 6, 7, 8, 10, 15, 39, 58, 71] [2, 4, 42, 76] (by repeat' first | exact zZ.nil | apply zZ.p rfl | apply zZ.skip) (by repeat' first | exact zW.nil | apply zW.skip) ?_; (refine zX.m rfl rfl (w_build0B rfl rfl (by decide)) ?_); (refine zX.v rfl rfl (zQ rfl rfl rfl (by decide)) ?_); (refine zX.v rfl rfl (zQ rfl rfl rfl (by decide)) ?_); (refine zX.v rfl rfl (by exact yP rfl rfl rfl (by (simp only [Int.reduceAdd, Int.reduceSub, Int.reduceMul]; exact wrap_i64 _ (by omega))) rfl (by decide)) ?_); (refine zX.v rfl rfl (zQ rfl rfl rfl (by decide)) ?_); (refine zX.v rfl rfl (by exact yP rfl rfl rfl (by (simp only [Int.reduceAdd, Int.reduceSub, Int.reduceMul]; exact wrap_i64 _ (by omega))) rfl (by decide)) ?_); (refine zX.v rfl rfl (zQ rfl rfl rfl (by decide)) ?_); (refine zX.v rfl rfl (by exact yP rfl rfl rfl (by exact g5) rfl (by decide)) ?_); (refine zX.v rfl rfl (by exact w_sliceLHB rfl rfl rfl rfl (by exact i2) rfl (by decide)) ?_); (refine zX.w rfl (by exact w_appB rfl rfl rfl rfl (by exact l1) rfl rfl (by decide)) ?_); (refine zX.v rfl rfl (xV rfl rfl rfl (by decide)) ?_); refine zX.nil ?_) | (refine zY.isR (id := 8) ?_; refine zY.sub ((sub_frzB 42 rfl)) ?_; refine zY.zV [0, 2, 3, 4, 5, 6, 7, 8, 10, 15, 39, 58, 71] [2, 4, 42, 76] (by repeat' first | exact zZ.nil | apply zZ.p rfl | apply zZ.skip) (by repeat' first | exact zW.nil | apply zW.skip) ?_; (refine zX.v rfl rfl (zQ rfl rfl rfl (by decide)) ?_); (refine zX.v rfl rfl (by exact yL (c1) rfl rfl rfl (by decide)) ?_); (refine zX.v rfl rfl (yJ rfl rfl rfl (by decide)) ?_); (refine zX.v rfl rfl (zB rfl rfl rfl rfl (by decide)) ?_); (refine zX.v rfl rfl (zB rfl rfl rfl rfl (by decide)) ?_); (refine zX.v rfl rfl (zK rfl rfl rfl (by decide)) ?_); (refine zX.v rfl rfl (zK rfl rfl rfl (by decide)) ?_); refine zX.nil ?_) | (refine zY.isR (id := 9) ?_; refine zY.zV [0, 2, 3, 4, 5, 6, 7, 8, 10, 15, 39, 58, 71] [2, 4, 42, 76] (by repeat' first | exact zZ.nil | apply zZ.p rfl | apply zZ.skip) (by repeat' first | exact zW.nil | apply zW.skip) ?_; (refine zX.v rfl rfl (zK rfl rfl rfl (by decide)) ?_); refine zX.nil ?_) | refine zY.yO rfl (by first | assumption | with_reducible rfl) ?_ | refine zY.yI rfl (by first | assumption | with_reducible rfl) ?_ | refine zY.skip ?_ | refine zY.block ?_))
      generalize hXe : ([] ++ ((wZ b).drop (6 : Int).toNat).take ((6 + (b.length : Int)).toNat - (6 : Int).toNat)) = X at hX ⊢
      refine zY.loop (fun k => splitI b X (k + 2)) (fun k => k ≤ 4) (fun k => 4 - k) 0 ?h0 (Nat.zero_le _) ?rd
      case h0 =>
        refine zI (is := [0, 4, 5, 6, 7, 8, 10]) (js := []) ?_ ?_
        repeat' first | exact zZ.nil | apply zZ.p rfl | apply zZ.ptr rfl | apply zZ.own rfl | apply zZ.clo rfl | apply zZ.pt rfl | apply zZ.tup rfl | apply zZ.skip
        repeat' first | exact zW.nil | apply zW.boxP rfl rfl | apply zW.yK rfl | apply zW.some rfl | apply zW.skip
      case rd =>
        intro k hk4
        have q1 : IntKind.i64.wrap (0 + ((k + 2 : Nat) : Int)) = ((k + 2 : Nat) : Int) := by rw [wrap_i64 _ (by omega)]; omega
        have q2 : IntKind.i64.wrap (((k + 2 : Nat) : Int) + 1) = ((k + 1 + 2 : Nat) : Int) := by rw [wrap_i64 _ (by omega)]; omega
        have q3 : (0 : Int) ≤ ((k + 2 : Nat) : Int) ∧ ((k + 2 : Nat) : Int) < ((wZ b).length : Int) := by rw [hlen]; omega
        have q4 : ∀ x : Int, (!decide (x = x)) = false := fun x => by simp
        rcases Nat.lt_or_ge k 4 with h4 | h4
        · have q5 : decide (((k + 2 : Nat) : Int) < 6) = true := decide_eq_true (by omega)
          repeat' (first | (refine zY.is ?_; first | refine zY.seq ?_ | (refine zY.isR (id := 10) ?_; refine zY.zV [0, 2, 3, 4, 5, 6, 7, 8, 10, 15, 39, 58, 71] [2, 4, 42, 76] (by repeat' first | exact zZ.nil | apply zZ.p rfl | apply zZ.skip) (by repeat' first | exact zW.nil | apply zW.skip) ?_; (refine zX.v rfl rfl (zQ rfl rfl rfl (by decide)) ?_); (refine zX.v rfl rfl (by exact yG rfl rfl rfl (by exact q5) rfl (by decide)) ?_); refine zX.nil ?_) | (refine zY.isR (id := 12) ?_; refine zY.z8 [0, 2, 3, 4, 5, 6, 7, 8, 10, 15, 39, 58, 71] [2, 4, 42, 76] (by repeat' first | exact zZ.nil | apply zZ.p rfl | apply zZ.skip) (by repeat' first | exact zW.nil | apply zW.skip) (zY.draws ?_); all_goals (refine Draws.v rfl rfl (zQ rfl rfl rfl (by decide)) ?_); all_goals (refine Draws.v rfl rfl (zQ rfl rfl rfl (by decide)) ?_); all_goals (refine Draws.v rfl rfl (by exact xL rfl rfl rfl (by exact q3) rfl (by decide)) ?_); all_goals (refine Draws.v rfl rfl (y8 rfl rfl rfl rfl (by decide)) ?_); all_goals (refine Draws.v rfl rfl (zQ rfl rfl rfl (by decide)) ?_); all_goals (refine Draws.v rfl rfl (zQ rfl rfl rfl (by decide)) ?_); all_goals (refine Draws.v rfl rfl (zQ rfl rfl rfl (by decide)) ?_); all_goals (refine Draws.v rfl rfl (by exact yP rfl rfl rfl (by exact q1) rfl (by decide)) ?_); all_goals (refine Draws.v rfl rfl (by exact xL rfl rfl rfl (by exact q3) rfl (by decide)) ?_); all_goals (refine Draws.v rfl rfl (y8 rfl rfl rfl rfl (by decide)) ?_); all_goals (refine Draws.v rfl rfl (by exact vI rfl rfl rfl (by exact q4 _) rfl (by decide)) ?_); all_goals ((refine Draws.done (by kernel_rfl) (by kernel_rfl) (by kernel_rfl) ?_; refine zH.nil ?_))) | (refine zY.isR (id := 11) ?_; refine zY.zV [0, 2, 3, 4, 5, 6, 7, 8, 10, 15, 39, 58, 71] [2, 4, 42, 76] (by repeat' first | exact zZ.nil | apply zZ.p rfl | apply zZ.skip) (by repeat' first | exact zW.nil | apply zW.skip) ?_; (refine zX.v rfl rfl (zQ rfl rfl rfl (by decide)) ?_); (refine zX.v rfl rfl (by exact yP rfl rfl rfl (by exact q2) rfl (by decide)) ?_); (refine zX.v rfl rfl (zK rfl rfl rfl (by decide)) ?_); refine zX.nil ?_) | refine zY.yO rfl (by first | assumption | with_reducible rfl) ?_ | refine zY.yI rfl (by first | assumption | with_reducible rfl) ?_ | refine zY.skip ?_ | refine zY.block ?_) | refine yQ.n ?_)
          refine ⟨k + 1, ?_, by omega, by omega⟩
          refine zI (is := [0, 4, 5, 6, 7, 8, 10]) (js := []) ?_ ?_
          repeat' first | exact zZ.nil | apply zZ.p rfl | apply zZ.ptr rfl | apply zZ.own rfl | apply zZ.clo rfl | apply zZ.pt rfl | apply zZ.tup rfl | apply zZ.skip
          repeat' first | exact zW.nil | apply zW.boxP rfl rfl | apply zW.yK rfl | apply zW.some rfl | apply zW.skip
        · obtain rfl : k = 4 := by omega
          have q5 : decide (((4 + 2 : Nat) : Int) < 6) = false := rfl
          have q6 : ∀ e ∈ [PV.sl (byts X)], e.cells.length = 1 := fun e he => by simp at he; subst he; rfl
          have q7 : ([PV.sl (byts X)] : List PV).length * 24 ≤ 140737488355328 ∧ ([PV.sl (byts X)] : List PV).length ≤ maxLen := by simp [maxLen]
          repeat' (first | (refine zY.is ?_; first | refine zY.seq ?_ | (refine zY.isR (id := 10) ?_; refine zY.zV [0, 2, 3, 4, 5, 6, 7, 8, 10, 15, 39, 58, 71] [2, 4, 42, 76] (by repeat' first | exact zZ.nil | apply zZ.p rfl | apply zZ.skip) (by repeat' first | exact zW.nil | apply zW.skip) ?_; (refine zX.v rfl rfl (zQ rfl rfl rfl (by decide)) ?_); (refine zX.v rfl rfl (by exact yG rfl rfl rfl (by exact q5) rfl (by decide)) ?_); refine zX.nil ?_) | (refine zY.isR (id := 14) ?_; refine zY.zV [0, 2, 3, 4, 5, 6, 7, 8, 10, 15, 39, 58, 71] [2, 4, 42, 76] (by repeat' first | exact zZ.nil | apply zZ.p rfl | apply zZ.skip) (by repeat' first | exact zW.nil | apply zW.skip) ?_; (refine zX.v rfl rfl (zQ rfl rfl rfl (by decide)) ?_); (refine zX.v rfl rfl (zQ rfl rfl rfl (by decide)) ?_); (refine zX.v rfl rfl (w_buildSl rfl (by decide) (by decide) (by decide) (by decide) (by rfl) (by rfl) (by rfl) (by rfl) (by rfl) (by rfl) (by rfl) rfl (by decide)) ?_); (refine zX.v rfl rfl (by exact w_appNil rfl rfl rfl (by exact q6) (by exact q7) rfl (by decide) rfl (by decide)) ?_); (refine zX.v rfl rfl (zK rfl rfl rfl (by decide)) ?_); refine zX.nil ?_) | (refine zY.isR (id := 15) ?_; refine zY.zV [0, 2, 3, 4, 5, 6, 7, 8, 10, 15, 39, 58, 71] [2, 4, 42, 76] (by repeat' first | exact zZ.nil | apply zZ.p rfl | apply zZ.skip) (by repeat' first | exact zW.nil | apply zW.skip) ?_; (refine zX.v rfl rfl (zQ rfl rfl rfl (by decide)) ?_); (refine zX.v rfl rfl (by exact yP rfl rfl rfl (by (simp only [Int.reduceAdd, Int.reduceSub, Int.reduceMul]; exact wrap_i64 _ (by omega))) rfl (by decide)) ?_); (refine zX.v rfl rfl (zQ rfl rfl rfl (by decide)) ?_); (refine zX.v rfl rfl (by exact yP rfl rfl rfl (by exact g5) rfl (by decide)) ?_); (refine zX.v rfl rfl (zK rfl rfl rfl (by decide)) ?_); refine zX.nil ?_) | refine zY.yI rfl (by assumption) ?_ | refine zY.exit ?_) | refine yQ.n ?_ | refine wD.n ?_)
          refine ⟨1, ?_, by omega, by omega⟩
          show Sub _ (splitS1 b b)
          rw [show splitS1 b b = splitS1 b X by rw [hX]]
          refine zI (is := [0, 4, 5]) (js := []) ?_ ?_
          repeat' first | exact zZ.nil | apply zZ.p rfl | apply zZ.ptr rfl | apply zZ.own rfl | apply zZ.clo rfl | apply zZ.pt rfl | apply zZ.tup rfl | apply zZ.skip
          repeat' first | exact zW.nil | apply zW.boxP rfl rfl | apply zW.yK rfl | apply zW.some rfl | apply zW.skip
    · change zY _ _ _ (splitS1 b b) _
      have g1 : IntKind.i64.wrap (6 + (b.length : Int) + 6) = 6 + (b.length : Int) + 6 := wrap_i64 _ (by omega)
      have g2 : decide (6 + (b.length : Int) + 6 ≤ ((wZ b).length : Int)) = false := decide_eq_false (by rw [hlen]; omega)
      repeat' ((refine zY.is ?_; first | refine zY.seq ?_ | (refine zY.isR (id := 3) ?_; refine zY.zV [0, 2, 3, 4, 5, 6, 7, 8, 10, 15, 39, 58, 71] [2, 4, 42, 76] (by repeat' first | exact zZ.nil | apply zZ.p rfl | apply zZ.skip) (by repeat' first | exact zW.nil | apply zW.skip) ?_; (refine zX.v rfl rfl (zQ rfl rfl rfl (by decide)) ?_); (refine zX.v rfl rfl (by exact yP rfl rfl rfl (by exact g1) rfl (by decide)) ?_); (refine zX.v rfl rfl (zQ rfl rfl rfl (by decide)) ?_); (refine zX.v rfl rfl (xO rfl rfl rfl (by decide)) ?_); (refine zX.v rfl rfl (by exact r_leq rfl rfl rfl (by exact g2) rfl (by decide)) ?_); refine zX.nil ?_) | (refine zY.isR (id := 16) ?_; refine zY.zV [2, 3, 4, 5] [2, 4, 42, 76] (by repeat' first | exact zZ.nil | apply zZ.p rfl | apply zZ.skip) (by repeat' first | exact zW.nil | apply zW.skip) ?_; (refine zX.v rfl rfl (zQ rfl rfl rfl (by decide)) ?_); (refine zX.v rfl rfl (zQ rfl rfl rfl (by decide)) ?_); (refine zX.v rfl rfl (zK rfl rfl rfl (by decide)) ?_); (refine zX.v rfl rfl (zK rfl rfl rfl (by decide)) ?_); refine zX.nil ?_) | refine zY.yI rfl (by first | assumption | with_reducible rfl) ?_ | refine zY.exit ?_ | refine zY.ret ?_))
      all_goals exact ⟨by first | exact .inl rfl | exact .inr rfl, _, Sub.refl _, .tup (rs := [.tmp 2, .tmp 3]) (l := [.sl [.sl (byts b)], .val (.int .i64 (6 + (b.length : Int)))]) rfl (by decide) (.cons (.tmp rfl) (.cons (.tmp rfl) .nil))⟩
end Go.Proofs.YthnmfmdkdngggaaDoor
/- The document's example of the save layer: contract. -/
namespace Go.Proofs.YthnmfmdkdngggaaDoor
set_option maxRecDepth 100000
set_option maxHeartbeats 16000000
open Go Go.RowKit
set_option linter.unusedSimpArgs false
attribute [local irreducible] zX zY Step zD Sub zH zP Fn
theorem shown14_fn : Fn Tryd.prog 7 [] (.p (.val (.bool true))) := by
  have c0 := new10_fn 1 1 (by decide) (by decide) (by decide) (by decide)
  have c1 := al_sh.1.nil rfl
  have c2 := al_sh.2.1.nil rfl
  have c3 := al_sh.2.2.1.nil rfl
  have c4 := al_sh.2.2.2.nil rfl
  have hpo : putOk shB := by have h := sh8.2; simpa [putOk] using h
  have c5 := splitRef_fn shB (fun x hx => by have h := List.all_eq_true.1 sh8.1 x hx; simpa using h) hpo
  have h5 := sh5
  have h6 := sh6
  have h7 := sh7
  generalize shR1 = q1 at *
  generalize shR2 = q2 at *
  generalize shR3 = q3 at *
  generalize shR4 = q4 at *
  generalize shB = b at *
  obtain ⟨⟨e1, s1, w1⟩, W1, n1⟩ := q1
  obtain ⟨⟨e2, s2, w2⟩, ⟨t2, u2, ws2, root2, r02, r12⟩, n2⟩ := q2
  obtain ⟨⟨e3, s3, w3⟩, ⟨t3, u3, ws3, root3, r03, r13⟩, n3⟩ := q3
  obtain ⟨⟨e4, s4, w4⟩, W4, n4⟩ := q4
  obtain ⟨rfl, rfl, rfl, rfl⟩ : w1 = 1 ∧ s2 = true ∧ s3 = true ∧ s4 = true := h5
  obtain rfl : r02 = [(wZ b, ((wZ b).length : Int))] := h6
  obtain rfl : r03 = [(wZ b, ((wZ b).length : Int))] := h7
  have g1 : (!decide ((((strs [(wZ b, ((wZ b).length : Int))]).length : Nat) : Int) = 1)) = false := rfl
  have g2 := strs_cells [(wZ b, ((wZ b).length : Int))]
  have g3 : (0 : Int) ≤ 0 ∧ (0 : Int) < (strs [(wZ b, ((wZ b).length : Int))]).length := by simp [strs]
  have g4 : (strs [(wZ b, ((wZ b).length : Int))])[(0 : Int).toNat]? = some (strV (wZ b) ((wZ b).length : Int)) := rfl
  have g5 : decide ((1 : Int) = 1) = true := rfl
  have g6 : decide (((wZ b).length : Int) = ((wZ b).length : Int)) = true := by simp
  have g7 : decide ((([PV.sl (byts b)].length : Nat) : Int) = 1) = true := rfl
  have g8 : (0 : Int) ≤ 0 ∧ (0 : Int) < ((2 : Nat) : Int) := by decide
  refine yM Tryd.func7 rfl Tryd.ntmps7 (Nat.le_of_ble_eq_true rfl) ?_
  repeat' ((refine zY.is ?_; first | refine zY.seq ?_ | (refine zY.isR (id := 0) ?_; refine zY.zV [] [1, 2, 3, 5, 6, 8, 9, 11, 12, 14] (by repeat' exact zZ.nil) (by repeat' first | exact zW.nil | apply zW.skip) ?_; (refine zX.v rfl rfl (zK rfl rfl rfl (by decide)) ?_); refine zX.nil ?_) | (refine zY.isR (id := 1) ?_; refine zY.zV [0] [1, 2, 3, 5, 6, 8, 9, 11, 12, 14] (by repeat' first | exact zZ.nil | apply zZ.p rfl) (by repeat' first | exact zW.nil | apply zW.skip) ?_; (refine zX.v rfl rfl (by exact zN (c0) rfl rfl rfl (by decide)) ?_); (refine zX.m rfl rfl (zF rfl (by decide) rfl (by decide)) ?_); (refine zX.w rfl (by exact zC rfl rfl rfl rfl rfl (by rfl) (by exact Nat.le_of_ble_eq_true rfl) rfl rfl) ?_); refine zX.nil ?_) | (refine zY.isR (id := 2) ?_; refine zY.zV [0, 1] [1, 2, 3, 5, 6, 8, 9, 11, 12, 14] (by repeat' first | exact zZ.nil | apply zZ.p rfl | apply zZ.ptr rfl) (by repeat' first | exact zW.nil | apply zW.boxP rfl rfl | apply zW.skip) ?_; (refine zX.v rfl rfl (zG rfl rfl rfl (by rfl) (by rfl) rfl (by decide)) ?_); (refine zX.v rfl rfl (yY rfl (by rfl) (by rfl) (by rfl) (by rfl) rfl (by decide)) ?_); (refine zX.v rfl rfl (by exact yL (c1) rfl rfl rfl (by decide)) ?_); (refine zX.v rfl rfl (yJ rfl rfl rfl (by decide)) ?_); (refine zX.v rfl rfl (zB rfl rfl rfl rfl (by decide)) ?_); (refine zX.v rfl rfl (zB rfl rfl rfl rfl (by decide)) ?_); (refine zX.v rfl rfl (zB rfl rfl rfl rfl (by decide)) ?_); (refine zX.m rfl rfl (zF rfl (by decide) rfl (by decide)) ?_); (refine zX.m rfl rfl (zF rfl (by decide) rfl (by decide)) ?_); (refine zX.w rfl (by exact zC rfl rfl rfl rfl rfl (by rfl) (by exact Nat.le_of_ble_eq_true rfl) rfl rfl) ?_); (refine zX.w rfl (by exact zC rfl rfl rfl rfl rfl (by rfl) (by exact Nat.le_of_ble_eq_true rfl) rfl rfl) ?_); (refine zX.v rfl rfl (zK rfl rfl rfl (by decide)) ?_); refine zX.nil ?_) | (refine zY.isR (id := 3) ?_; refine zY.zV [0, 2, 3, 4] [1, 2, 3, 5, 6, 8, 9, 11, 12, 14] (by repeat' first | exact zZ.nil | apply zZ.p rfl | apply zZ.ptr rfl) (by repeat' first | exact zW.nil | apply zW.boxP rfl rfl | apply zW.skip) ?_; (refine zX.v rfl rfl (zG rfl rfl rfl (by rfl) (by rfl) rfl (by decide)) ?_); (refine zX.v rfl rfl (yY rfl (by rfl) (by rfl) (by rfl) (by rfl) rfl (by decide)) ?_); (refine zX.v rfl rfl (by exact yL (c2) rfl rfl rfl (by decide)) ?_); (refine zX.v rfl rfl (yJ rfl rfl rfl (by decide)) ?_); (refine zX.v rfl rfl (zB rfl rfl rfl rfl (by decide)) ?_); (refine zX.v rfl rfl (zB rfl rfl rfl rfl (by decide)) ?_); (refine zX.v rfl rfl (zB rfl rfl rfl rfl (by decide)) ?_); (refine zX.m rfl rfl (zF rfl (by decide) rfl (by decide)) ?_); (refine zX.m rfl rfl (zF rfl (by decide) rfl (by decide)) ?_); (refine zX.w rfl (by exact zC rfl rfl rfl rfl rfl (by rfl) (by exact Nat.le_of_ble_eq_true rfl) rfl rfl) ?_); (refine zX.w rfl (by exact zC rfl rfl rfl rfl rfl (by rfl) (by exact Nat.le_of_ble_eq_true rfl) rfl rfl) ?_); (refine zX.v rfl rfl (zK rfl rfl rfl (by decide)) ?_); refine zX.nil ?_) | (refine zY.isR (id := 4) ?_; refine zY.zV [0, 3, 4, 5, 6, 7] [1, 2, 3, 5, 6, 8, 9, 11, 12, 14] (by repeat' first | exact zZ.nil | apply zZ.p rfl | apply zZ.ptr rfl) (by repeat' first | exact zW.nil | apply zW.boxP rfl rfl | apply zW.skip) ?_; (refine zX.v rfl rfl (zG rfl rfl rfl (by rfl) (by rfl) rfl (by decide)) ?_); (refine zX.v rfl rfl (yY rfl (by rfl) (by rfl) (by rfl) (by rfl) rfl (by decide)) ?_); (refine zX.v rfl rfl (by exact yL (c3) rfl rfl rfl (by decide)) ?_); (refine zX.v rfl rfl (yJ rfl rfl rfl (by decide)) ?_); (refine zX.v rfl rfl (zB rfl rfl rfl rfl (by decide)) ?_); (refine zX.v rfl rfl (zB rfl rfl rfl rfl (by decide)) ?_); (refine zX.v rfl rfl (zB rfl rfl rfl rfl (by decide)) ?_); (refine zX.m rfl rfl (zF rfl (by decide) rfl (by decide)) ?_); (refine zX.m rfl rfl (zF rfl (by decide) rfl (by decide)) ?_); (refine zX.w rfl (by exact zC rfl rfl rfl rfl rfl (by rfl) (by exact Nat.le_of_ble_eq_true rfl) rfl rfl) ?_); (refine zX.w rfl (by exact zC rfl rfl rfl rfl rfl (by rfl) (by exact Nat.le_of_ble_eq_true rfl) rfl rfl) ?_); (refine zX.v rfl rfl (zK rfl rfl rfl (by decide)) ?_); refine zX.nil ?_) | (refine zY.isR (id := 5) ?_; refine zY.zV [0, 3, 4, 5, 6, 7, 8, 9, 10] [1, 2, 3, 5, 6, 8, 9, 11, 12, 14] (by repeat' first | exact zZ.nil | apply zZ.p rfl | apply zZ.ptr rfl) (by repeat' first | exact zW.nil | apply zW.boxP rfl rfl | apply zW.skip) ?_; (refine zX.v rfl rfl (zG rfl rfl rfl (by rfl) (by rfl) rfl (by decide)) ?_); (refine zX.v rfl rfl (yY rfl (by rfl) (by rfl) (by rfl) (by rfl) rfl (by decide)) ?_); (refine zX.v rfl rfl (by exact yL (c4) rfl rfl rfl (by decide)) ?_); (refine zX.v rfl rfl (yJ rfl rfl rfl (by decide)) ?_); (refine zX.v rfl rfl (zB rfl rfl rfl rfl (by decide)) ?_); (refine zX.v rfl rfl (zB rfl rfl rfl rfl (by decide)) ?_); (refine zX.v rfl rfl (zB rfl rfl rfl rfl (by decide)) ?_); (refine zX.m rfl rfl (zF rfl (by decide) rfl (by decide)) ?_); (refine zX.m rfl rfl (zF rfl (by decide) rfl (by decide)) ?_); (refine zX.w rfl (by exact zC rfl rfl rfl rfl rfl (by rfl) (by exact Nat.le_of_ble_eq_true rfl) rfl rfl) ?_); (refine zX.w rfl (by exact zC rfl rfl rfl rfl rfl (by rfl) (by exact Nat.le_of_ble_eq_true rfl) rfl rfl) ?_); (refine zX.v rfl rfl (zK rfl rfl rfl (by decide)) ?_); refine zX.nil ?_) | (refine zY.isR (id := 6) ?_; refine zY.zV [0, 3, 4, 5, 6, 7, 8, 9, 10, 12, 13] [1, 2, 3, 5, 6, 8, 9, 11, 12, 14] (by repeat' first | exact zZ.nil | apply zZ.p rfl | apply zZ.ptr rfl) (by repeat' first | exact zW.nil | apply zW.boxP rfl rfl | apply zW.skip) ?_; all_goals (refine zX.v rfl rfl (zJ rfl rfl rfl (by decide)) ?_); all_goals (refine zX.v rfl rfl (zJ rfl rfl rfl (by decide)) ?_); all_goals (refine zX.v rfl rfl (by exact wY rfl rfl rfl (by exact g8) rfl (by decide)) ?_); all_goals (refine zX.v rfl rfl (zA rfl rfl rfl (by rfl) rfl (by decide)) ?_); all_goals (refine zX.v rfl rfl (w_lenS rfl rfl rfl (by decide)) ?_); all_goals (refine zX.v rfl rfl (by exact vI rfl rfl rfl (by exact g1) rfl (by decide)) ?_); all_goals (refine zX.v rfl rfl (zQ rfl rfl rfl (by decide)) ?_); all_goals (refine zX.gY rfl rfl (by decide) rfl (by assumption) rfl (by decide) (zJ rfl rfl rfl (by decide)) ?_); all_goals (refine zX.gY rfl rfl (by decide) rfl (by assumption) rfl (by decide) (zJ rfl rfl rfl (by decide)) ?_); all_goals (refine zX.gY rfl rfl (by decide) rfl (by assumption) rfl (by decide) (by exact wY rfl rfl rfl (by exact g8) rfl (by decide)) ?_); all_goals (refine zX.gY rfl rfl (by decide) rfl (by assumption) rfl (by decide) (zA rfl rfl rfl (by rfl) rfl (by decide)) ?_); all_goals (refine zX.gY rfl rfl (by decide) rfl (by assumption) rfl (by decide) (w_lenS rfl rfl rfl (by decide)) ?_); all_goals (refine zX.gY rfl rfl (by decide) rfl (by assumption) rfl (by decide) (by exact vI rfl rfl rfl (by exact g1) rfl (by decide)) ?_); all_goals (refine zX.v rfl rfl (by exact yF rfl rfl (by assumption) rfl rfl (by decide)) ?_); all_goals (refine zX.nil ?_)) | (refine zY.isR (id := 8) ?_; refine zY.zV [0, 3, 4, 5, 6, 7, 8, 9, 10, 12, 13] [1, 2, 3, 5, 6, 8, 9, 11, 12, 14] (by repeat' first | exact zZ.nil | apply zZ.p rfl | apply zZ.ptr rfl) (by repeat' first | exact zW.nil | apply zW.boxP rfl rfl | apply zW.skip) ?_; (refine zX.v rfl rfl (zJ rfl rfl rfl (by decide)) ?_); (refine zX.v rfl rfl (zJ rfl rfl rfl (by decide)) ?_); (refine zX.v rfl rfl (by exact wY rfl rfl rfl (by exact g8) rfl (by decide)) ?_); (refine zX.v rfl rfl (zA rfl rfl rfl (by rfl) rfl (by decide)) ?_); (refine zX.v rfl rfl (by exact xZ rfl rfl rfl (by exact g2) (by exact g4) rfl (by decide)) ?_); (refine zX.v rfl rfl (by exact vC rfl rfl (by exact Nat.le_of_ble_eq_true rfl) rfl (by decide)) ?_); (refine zX.m rfl rfl (zF rfl (by decide) rfl (by decide)) ?_); (refine zX.w rfl (by exact zC rfl rfl rfl rfl rfl (by rfl) (by exact Nat.le_of_ble_eq_true rfl) rfl rfl) ?_); refine zX.nil ?_) | (refine zY.isR (id := 9) ?_; refine zY.zV [0, 3, 4, 6, 7, 8, 9, 10, 12, 13, 14] [1, 2, 3, 5, 6, 8, 9, 11, 12, 14] (by repeat' first | exact zZ.nil | apply zZ.p rfl | apply zZ.ptr rfl) (by repeat' first | exact zW.nil | apply zW.boxP rfl rfl) ?_; (refine zX.v rfl rfl (zJ rfl rfl rfl (by decide)) ?_); (refine zX.v rfl rfl (zA rfl rfl rfl (by rfl) rfl (by decide)) ?_); (refine zX.v rfl rfl (by exact yL (c5) rfl rfl rfl (by decide)) ?_); (refine zX.v rfl rfl (yJ rfl rfl rfl (by decide)) ?_); (refine zX.v rfl rfl (zB rfl rfl rfl rfl (by decide)) ?_); (refine zX.v rfl rfl (zB rfl rfl rfl rfl (by decide)) ?_); (refine zX.v rfl rfl (zK rfl rfl rfl (by decide)) ?_); (refine zX.v rfl rfl (zK rfl rfl rfl (by decide)) ?_); refine zX.nil ?_) | (refine zY.isR (id := 10) ?_; refine zY.z8 [0, 3, 4, 6, 7, 8, 9, 10, 12, 13, 14, 15] [1, 2, 3, 5, 6, 8, 9, 11, 12, 14] (by repeat' first | exact zZ.nil | apply zZ.p rfl | apply zZ.ptr rfl) (by repeat' first | exact zW.nil | apply zW.boxP rfl rfl) (zY.draws ?_); all_goals (refine Draws.v rfl rfl (zQ rfl rfl rfl (by decide)) ?_); all_goals (refine Draws.v rfl rfl (zQ rfl rfl rfl (by decide)) ?_); all_goals (refine Draws.gY rfl rfl (by decide) rfl (by assumption) rfl (zQ rfl rfl rfl (by decide)) ?_); all_goals (refine Draws.v rfl rfl (by exact zO rfl rfl (by assumption) rfl rfl (by decide)) ?_); all_goals (refine Draws.v rfl rfl (zQ rfl rfl rfl (by decide)) ?_); all_goals (refine Draws.gY rfl rfl (by decide) rfl (by assumption) rfl (zQ rfl rfl rfl (by decide)) ?_); all_goals (refine Draws.v rfl rfl (by exact zO rfl rfl (by assumption) rfl rfl (by decide)) ?_); all_goals (refine Draws.v rfl rfl (zQ rfl rfl rfl (by decide)) ?_); all_goals (refine Draws.gY rfl rfl (by decide) rfl (by assumption) rfl (zQ rfl rfl rfl (by decide)) ?_); all_goals (refine Draws.v rfl rfl (by exact zO rfl rfl (by assumption) rfl rfl (by decide)) ?_); all_goals (refine Draws.v rfl rfl (zQ rfl rfl rfl (by decide)) ?_); all_goals (refine Draws.gY rfl rfl (by decide) rfl (by assumption) rfl (zJ rfl rfl rfl (by decide)) ?_); all_goals (refine Draws.gY rfl rfl (by decide) rfl (by assumption) rfl (zA rfl rfl rfl (by rfl) rfl (by decide)) ?_); all_goals (refine Draws.gY rfl rfl (by decide) rfl (by assumption) rfl (by exact y5 rfl rfl rfl (by exact g5) rfl (by decide)) ?_); all_goals (refine Draws.v rfl rfl (by exact zO rfl rfl (by assumption) rfl rfl (by decide)) ?_); all_goals (refine Draws.v rfl rfl (zQ rfl rfl rfl (by decide)) ?_); all_goals (refine Draws.gY rfl rfl (by decide) rfl (by assumption) rfl (zJ rfl rfl rfl (by decide)) ?_); all_goals (refine Draws.gY rfl rfl (by decide) rfl (by assumption) rfl (zA rfl rfl rfl (by rfl) rfl (by decide)) ?_); all_goals (refine Draws.v rfl rfl (by exact zO rfl rfl (by assumption) rfl rfl (by decide)) ?_); all_goals (refine Draws.v rfl rfl (zQ rfl rfl rfl (by decide)) ?_); all_goals (refine Draws.gY rfl rfl (by decide) rfl (by assumption) rfl (zJ rfl rfl rfl (by decide)) ?_); all_goals (refine Draws.gY rfl rfl (by decide) rfl (by assumption) rfl (zA rfl rfl rfl (by rfl) rfl (by decide)) ?_); all_goals (refine Draws.v rfl rfl (by exact zO rfl rfl (by assumption) rfl rfl (by decide)) ?_); all_goals (refine Draws.v rfl rfl (zQ rfl rfl rfl (by decide)) ?_); all_goals (refine Draws.gY rfl rfl (by decide) rfl (by assumption) rfl (zJ rfl rfl rfl (by decide)) ?_); all_goals (refine Draws.gY rfl rfl (by decide) rfl (by assumption) rfl (zA rfl rfl rfl (by rfl) rfl (by decide)) ?_); all_goals (refine Draws.v rfl rfl (by exact zO rfl rfl (by assumption) rfl rfl (by decide)) ?_); all_goals (refine Draws.v rfl rfl (zQ rfl rfl rfl (by decide)) ?_); all_goals (refine Draws.gY rfl rfl (by decide) rfl (by assumption) rfl (zQ rfl rfl rfl (by decide)) ?_); all_goals (refine Draws.gY rfl rfl (by decide) rfl (by assumption) rfl (w_lenS rfl rfl rfl (by decide)) ?_); all_goals (refine Draws.gY rfl rfl (by decide) rfl (by assumption) rfl (by exact y5 rfl rfl rfl (by exact g5) rfl (by decide)) ?_); all_goals (refine Draws.v rfl rfl (by exact zO rfl rfl (by assumption) rfl rfl (by decide)) ?_); all_goals (refine Draws.v rfl rfl (zQ rfl rfl rfl (by decide)) ?_); all_goals (refine Draws.gY rfl rfl (by decide) rfl (by assumption) rfl (zJ rfl rfl rfl (by decide)) ?_); all_goals (refine Draws.gY rfl rfl (by decide) rfl (by assumption) rfl (zA rfl rfl rfl (by rfl) rfl (by decide)) ?_); all_goals (refine Draws.gY rfl rfl (by decide) rfl (by assumption) rfl (zJ rfl rfl rfl (by decide)) ?_); all_goals (refine Draws.gY rfl rfl (by decide) rfl (by assumption) rfl (zA rfl rfl rfl (by rfl) rfl (by decide)) ?_); all_goals (refine Draws.gY rfl rfl (by decide) rfl (by assumption) rfl (xO rfl rfl rfl (by decide)) ?_); all_goals (refine Draws.gY rfl rfl (by decide) rfl (by assumption) rfl (by exact y5 rfl rfl rfl (by exact g6) rfl (by decide)) ?_); all_goals (refine Draws.v rfl rfl (by exact zO rfl rfl (by assumption) rfl rfl (by decide)) ?_); all_goals (refine Draws.v rfl rfl (zQ rfl rfl rfl (by decide)) ?_); all_goals (refine Draws.gY rfl rfl (by decide) rfl (by assumption) rfl (zJ rfl rfl rfl (by decide)) ?_); all_goals (refine Draws.gY rfl rfl (by decide) rfl (by assumption) rfl (zJ rfl rfl rfl (by decide)) ?_); all_goals (refine Draws.gY rfl rfl (by decide) rfl (by assumption) rfl (by exact wY rfl rfl rfl (by exact g8) rfl (by decide)) ?_); all_goals (refine Draws.gY rfl rfl (by decide) rfl (by assumption) rfl (zA rfl rfl rfl (by rfl) rfl (by decide)) ?_); all_goals (refine Draws.gY rfl rfl (by decide) rfl (by assumption) rfl (by exact xZ rfl rfl rfl (by exact g2) (by exact g4) rfl (by decide)) ?_); all_goals (refine Draws.gY rfl rfl (by decide) rfl (by assumption) rfl (w_fieldPt rfl rfl rfl (by decide)) ?_); all_goals (refine Draws.gY rfl rfl (by decide) rfl (by assumption) rfl (y8 rfl rfl rfl rfl (by decide)) ?_); all_goals (refine Draws.gY rfl rfl (by decide) rfl (by assumption) rfl (xO rfl rfl rfl (by decide)) ?_); all_goals (refine Draws.gY rfl rfl (by decide) rfl (by assumption) rfl (zJ rfl rfl rfl (by decide)) ?_); all_goals (refine Draws.gY rfl rfl (by decide) rfl (by assumption) rfl (zA rfl rfl rfl (by rfl) rfl (by decide)) ?_); all_goals (refine Draws.gY rfl rfl (by decide) rfl (by assumption) rfl (xO rfl rfl rfl (by decide)) ?_); all_goals (refine Draws.gY rfl rfl (by decide) rfl (by assumption) rfl (by exact y5 rfl rfl rfl (by exact g6) rfl (by decide)) ?_); all_goals (refine Draws.v rfl rfl (by exact zO rfl rfl (by assumption) rfl rfl (by decide)) ?_); all_goals (refine Draws.v rfl rfl (zK rfl rfl rfl (by decide)) ?_); all_goals ((refine Draws.done (by kernel_rfl) (by kernel_rfl) (by kernel_rfl) ?_; refine zH.nil ?_))) | refine zY.yI rfl (by assumption) ?_ | refine zY.skip ?_ | refine zY.ret ?_))
  all_goals exact ⟨by first | exact .inl rfl | exact .inr rfl, _, Sub.refl _, .p rfl (.tmp rfl)⟩
end Go.Proofs.YthnmfmdkdngggaaDoor
/- Two threads that make a death durable: by evaluation. -/
namespace Go.Proofs.YthnmfmdkdngggaaDoor
set_option maxRecDepth 100000
set_option maxHeartbeats 16000000
open Go Go.RowKit
set_option linter.unusedSimpArgs false
set_option linter.unusedVariables false
def stepP (p : Pr OutI) (r : xQ) : Pr OutI := match p with
  | .ask _ k => k r
  | x => x
def askQ (p : Pr OutI) : Ned := match p with
  | .ask q _ => q
  | _ => ⟨0, 0, 0, 0, yS, yS⟩
def askK (p : Pr OutI) : xQ → Pr OutI := match p with
  | .ask _ k => k
  | x => fun _ => x
def hT : Nat → Pr OutI
  | 0 => opP 3 21 1 0 1
  | 1 => stepP (hT 0) ⟨4, yS, false⟩
  | 2 => stepP (hT 1) ⟨0, yS, false⟩
  | 3 => stepP (hT 2) ⟨0, yS, false⟩
  | 4 => stepP (hT 3) ⟨4, yS, false⟩
  | 5 => stepP (hT 4) ⟨0, yS, false⟩
  | _ => .ret ⟨0, true, 0⟩
def hA : Res := resW (opP 3 20 1 0 10737418240) 2 (xD []) (newD 3 1)
def hB : Res := resW (opP 3 20 1 0 12884901888) 2 (xD []) hA.W
def hF : Nat → Int
  | 0 => 4
  | 1 => 6
  | _ => 8
def hWs : Nat → List Int
  | 0 => hA.W.ws
  | 1 => hA.W.ws.set (y7 3 1 2).toNat 6
  | _ => hB.W.ws
def hW (c : Nat) (s0 s1 : List Int × Int) : Wd := ⟨3, 1, hWs c, 0, [s0, s1, ([], 0)], List.replicate 3 ([], 0)⟩
theorem hT_ask (j : Nat) (hj : j < 6) : hT j = .ask (askQ (hT j)) (askK (hT j)) := by
  match j, hj with
  | 0, _ | 1, _ | 2, _ | 3, _ | 4, _ | 5, _ => (show _ = _; kernel_rfl)
theorem hA_run : (opP 3 20 1 0 10737418240).run (wSt 2 (xD [])) (newD 3 1, 0) = .done hA.o (hA.W, hA.m) := by kernel_rfl
theorem hA_W : hA.W = hW 0 ([], 0) ([], 0) := by kernel_rfl
theorem hA_m : hA.m ≤ 20 := Nat.le_of_ble_eq_true (by kernel_rfl)
/-- made anew -/
def hN (c : Nat) (s0 s1 : List Int × Int) : Res := ⟨hB.o, hW 2 s0 s1, hB.m⟩
theorem hN_run (c : Nat) (hc : c < 2) (s0 s1 : List Int × Int) : (opP 3 20 1 0 12884901888).run (wSt 2 (xD [])) (hW c s0 s1, 0) = .done (hN c s0 s1).o ((hN c s0 s1).W, (hN c s0 s1).m) := by
  match c, hc with
  | 0, _ | 1, _ => (show _ = _; kernel_rfl)
theorem hB_m : hB.m ≤ 20 := Nat.le_of_ble_eq_true (by kernel_rfl)
/-- the data of an append -/
def hD : List Int := wE (askQ (hT 1)).d
/-- how a thread's step turns the world and itself -/
def hJ : Nat → Nat → Nat
  | 0, 0 => 1
  | 0, _ => 6
  | 1, _ => 2
  | 2, _ => 3
  | 3, 0 => 4
  | 3, _ => 6
  | 4, 0 => 6
  | 4, _ => 5
  | _, _ => 6
def hC : Nat → Nat → Nat
  | 4, 0 => 1
  | _, c => c
def hS (j : Nat) (s : List Int × Int) : List Int × Int := match j with
  | 1 => (s.1 ++ hD, s.2)
  | 2 => (s.1, (s.1.length : Int))
  | _ => s
def hR : Nat → Nat → xQ
  | 0, c => ⟨hF c, yS, false⟩
  | 3, c => ⟨hF c, yS, false⟩
  | 5, c => ⟨hF c, yS, false⟩
  | 4, 0 => ⟨1, yS, false⟩
  | _, _ => ⟨0, yS, false⟩
theorem h_step0 (j c : Nat) (hj : j < 6) (hc : c < 3) (s0 s1 : List Int × Int) : doX (hW c s0 s1) 0 (askQ (hT j)) false = (hW (hC j c) (hS j s0) s1, hR j c) := by
  match j, hj, c, hc with
  | 0, _, 0, _ | 0, _, 1, _ | 0, _, 2, _ | 1, _, 0, _ | 1, _, 1, _ | 1, _, 2, _ | 2, _, 0, _ | 2, _, 1, _ | 2, _, 2, _ | 3, _, 0, _ | 3, _, 1, _ | 3, _, 2, _ | 4, _, 0, _ | 4, _, 1, _ | 4, _, 2, _ | 5, _, 0, _ | 5, _, 1, _ | 5, _, 2, _ => (show _ = _; kernel_rfl)
theorem h_step1 (j c : Nat) (hj : j < 6) (hc : c < 3) (s0 s1 : List Int × Int) : doX (hW c s0 s1) 1 (askQ (hT j)) false = (hW (hC j c) s0 (hS j s1), hR j c) := by
  match j, hj, c, hc with
  | 0, _, 0, _ | 0, _, 1, _ | 0, _, 2, _ | 1, _, 0, _ | 1, _, 1, _ | 1, _, 2, _ | 2, _, 0, _ | 2, _, 1, _ | 2, _, 2, _ | 3, _, 0, _ | 3, _, 1, _ | 3, _, 2, _ | 4, _, 0, _ | 4, _, 1, _ | 4, _, 2, _ | 5, _, 0, _ | 5, _, 1, _ | 5, _, 2, _ => (show _ = _; kernel_rfl)
theorem h_next (j c : Nat) (hj : j < 6) (hc : c < 3) (h5 : j = 5 → c ≠ 0) : askK (hT j) (hR j c) = hT (hJ j c) := by
  match j, hj, c, hc with
  | 0, _, 0, _ | 0, _, 1, _ | 0, _, 2, _ | 1, _, 0, _ | 1, _, 1, _ | 1, _, 2, _ | 2, _, 0, _ | 2, _, 1, _ | 2, _, 2, _ | 3, _, 0, _ | 3, _, 1, _ | 3, _, 2, _ | 4, _, 0, _ | 4, _, 1, _ | 4, _, 2, _ | 5, _, 1, _ | 5, _, 2, _ => (show _ = _; kernel_rfl)
  | 5, _, 0, _ => exact absurd rfl (h5 rfl)
theorem hF_at (c : Nat) (hc : c < 3) : (hWs c)[(y7 3 1 2).toNat]? = some (hF c) := by
  match c, hc with
  | 0, _ | 1, _ | 2, _ => (show _ = _; kernel_rfl)
theorem hWs_U (c : Nat) (hc : c < 3) : ((hWs c).all fun x => decide (0 ≤ x) && decide (x < 18446744073709551616)) = true ∧ (hWs c).length.ble 1000000 = true := by
  match c, hc with
  | 0, _ | 1, _ | 2, _ => exact ⟨by kernel_rfl, by kernel_rfl⟩
theorem hR_U (j c : Nat) : U (hR j c).n := by
  have h0 : U 0 := U.zero
  have h1 : U 1 := by unfold U; decide
  have h : ∀ c, U (hF c) := fun c => by unfold U hF; split <;> decide
  unfold hR
  split <;> first | exact h _ | exact h0 | exact h1
theorem hW_ok (b c : Nat) (hc : c < 3) (s0 s1 : List Int × Int) (h0 : s0.1.length ≤ b) (h1 : s1.1.length ≤ b) : WdOK b (hW c s0 s1) := by
  obtain ⟨h2, h3⟩ := hWs_U c hc
  refine ⟨fun x hx => ?_, Nat.le_of_ble_eq_true h3, rfl, Nat.le_of_ble_eq_true rfl, fun p hp => ?_⟩
  · have := List.all_eq_true.1 h2 x hx
    simp only [Bool.and_eq_true, decide_eq_true_eq] at this
    exact this
  · simp only [hW, List.mem_cons, List.not_mem_nil, or_false] at hp
    rcases hp with rfl | rfl | rfl
    · exact h0
    · exact h1
    · exact Nat.zero_le _
end Go.Proofs.YthnmfmdkdngggaaDoor
/- Rows of slices that own their rows: a cell read as a slice that nobody turns; a nil in a cell as an own row; code in two parts with a frame between. Generic over the program. -/
namespace Go.Proofs.YthnmfmdkdngggaaDoor
set_option maxRecDepth 100000
set_option maxHeartbeats 16000000
open Go Go.RowKit
set_option linter.unusedSimpArgs false
section
variable {P : Program} {n : Nat} {o : Oper} {S : AS} {d : Nat} {t : TypeId} {x : Operand}
theorem w_loadView {id off id2 e sz m : Nat} {b : Blk} {es : List PV} [h : TyA P t false m] (ho : o.op = .load t x) (hx : S.get x = .ptr id off) (hb : S.blk id = some b) (hc : b.xs[off]? = some (.own id2)) (hb2 : S.blk id2 = some (vM e sz es)) (hd : o.dst = some d) (hn : d < n) : zD P n o S [id, id2] (.p (.sl es)) none :=
  zD.pure hd hn fun S2 hg hbl M w0 ρ a w hs => by
    have h1 := hs.rep x
    rw [hg x (by rw [ho]; simp [Op.operands]), hx] at h1
    obtain ⟨g, hgv, hv⟩ := vB h1
    have hbS : S2.blk id = some b := (hbl id (by simp)).trans hb
    have hbS2 : S2.blk id2 = some (vM e sz es) := (hbl id2 (by simp)).trans hb2
    obtain ⟨ys, hcs, hcell⟩ := (hs.blks id b hbS).cells hgv
    have h0 : off < b.xs.length := (List.getElem?_eq_some_iff.1 hc).1
    have hy : ys[off]? = some (ys[off]'(by rw [hcs.len]; exact h0)) := List.getElem?_eq_getElem _
    have h2 := hcs.each off _ _ hc hy
    refine ⟨ρ id2, w, ?_, Below.refl _ _, .p (hs.lentRep hbS2)⟩
    · rw [← vE h2]
      unfold execOp
      rw [ho]
      simp only [hv, Sem.run_bind, loadAt_one (h.ag w) (hcell off _ hy).1]
      rfl
end
/-- A cell of an own row holds nil: from now on that is the frame's own row, empty. -/
theorem sub_adoptC {S : AS} {r e m j id ty sz : Nat} {xs : List AV} {b : Blk} (hid : id < 1000) (hne : id ≠ r) (hr : S.blk r = some b) (hb : b = .row e 1 m xs) (hj : xs[j]? = some (.p (.val (.slice none 0 0)))) :
    Sub S ((S.create id (.row ty sz 0 [])).tag r (.row e 1 m ((xs.map (AV.kill id)).set j (.own id)))) := fun M n w0 ρ a w hs => by
  subst hb
  have h1 := hs.change id (.row ty sz 0 []) (.slice none 0 0) none (w0.lo id hid) (w' := w) ⟨rfl, rfl, rfl, Nat.le_refl _, fun _ _ _ => rfl⟩ (fun k hk => by cases hk) (fun k hk => by cases hk) ⟨[], World.ownsRow_nil w _ ty sz, ⟨rfl, fun i c v hc => by simp at hc, fun v hv => by simp at hv⟩⟩
  refine ⟨upd ρ id (.slice none 0 0), ?_⟩
  have hr2 : (S.create id (.row ty sz 0 [])).blk r = some (.row e 1 m (xs.map (AV.kill id))) := by rw [AS.wG, if_neg hne, hr]; rfl
  have hρ : upd ρ id (.slice none 0 0) id = .slice none 0 0 := by simp [upd]
  generalize upd ρ id (.slice none 0 0) = ρ2 at *
  generalize S.create id (.row ty sz 0 []) = S2 at *
  have hm : ∀ k c, k < w.heap.size → Mut M (S2.tag r (.row e 1 m ((xs.map (AV.kill id)).set j (.own id)))) ρ2 k c → Mut M S2 ρ2 k c := fun k c _ hk => by
    rcases hk with hk | ⟨i, b, hi, hk, ht⟩
    · exact .inl hk
    · rw [AS.xY] at hi
      split at hi
      · rename_i he
        subst he
        exact .inr ⟨r, _, hr2, hk, trivial⟩
      · exact .inr ⟨i, b, hi, hk, ht⟩
  have some_of : ∀ i b, (S2.tag r (.row e 1 m ((xs.map (AV.kill id)).set j (.own id)))).blk i = some b → ∃ b1, S2.blk i = some b1 := fun i b hi => by
    rw [AS.xY] at hi
    split at hi
    · rename_i he; subst he; exact ⟨_, hr2⟩
    · exact ⟨b, hi⟩
  refine ⟨h1.below, h1.out, h1.tab, h1.size, h1.defers, fun i => (h1.tmps i).mono hm, fun i b hi => ?_, fun i b k hi hk => ?_, h1.fix, h1.free, fun i i' bi bj k hi hi' => ?_⟩
  · rw [AS.xY] at hi
    split at hi
    · rename_i he
      subst he
      obtain rfl := Option.some.inj hi
      obtain ⟨ys, ho, hc⟩ := h1.blks r _ hr2
      refine ⟨ys, ho, by rw [List.length_set]; exact hc.len, fun i c v h3 h4 => ?_, hc.one⟩
      rw [List.getElem?_set] at h3
      split at h3
      · rename_i he
        subst he
        split at h3
        · obtain rfl := Option.some.inj h3
          have h5 := hc.each j (.p (.val (.slice none 0 0))) v (by rw [List.getElem?_map, hj]; rfl) h4
          have h6 : v = ρ2 id := by rw [hρ]; exact rep_val (rep_p h5)
          rw [h6]
          exact .own id
        · cases h3
      · exact (hc.each i c v h3 h4).mono hm
    · have := h1.blks i b hi
      cases b with
      | row t size m xs => obtain ⟨ys, ho, hc⟩ := this; exact ⟨ys, ho, hc.mono hm⟩
      | prow t size m xs => obtain ⟨ys, ho, hc⟩ := this; exact ⟨ys, ho, hc.mono hm⟩
      | lent t size m xs => obtain ⟨ys, ho, hc⟩ := this; exact ⟨ys, ho, hc.mono hm⟩
      | box t xs => obtain ⟨g, ys, hv, hg, hh, hc⟩ := this; exact ⟨g, ys, hv, hg, hh, hc.mono hm⟩
  · obtain ⟨b1, h3⟩ := some_of i b hi
    exact h1.mine i b1 k h3 hk
  · obtain ⟨b1, h3⟩ := some_of i bi hi
    obtain ⟨b2, h4⟩ := some_of i' bj hi'
    exact h1.dist i i' b1 b2 k h3 h4
/-- Code in two parts: behind the first one of a family of frames. -/
theorem zY.cut {P : Program} {n : Nat} {S : AS} {c1 c2 : Code} {K : Exit → AS → Prop} {ι : Type} (mid : ι → AS) (ok : ι → Prop) (h1 : zY P n c1 S (yQ (fun S' => ∃ i, ok i ∧ Sub S' (mid i)) K)) (h2 : ∀ i, ok i → zY P n c2 (mid i) K) : zY P n (.seq c1 c2) S K :=
  .seq (h1.mono fun e S' h => by
    cases e with
    | normal => obtain ⟨i, hi, hs⟩ := h; exact (h2 i hi).sub hs
    | _ => exact h)
/-- a goal that a walk leaves -/
def Hold (p : Prop) : Prop := p
theorem Hold.go {p : Prop} (h : p) : Hold p := h
theorem zY.hold {P : Program} {n id : Nat} {ops : Array Oper} {d : Bool} {S : AS} {c2 : Code} {K : Exit → AS → Prop} (h : Hold (zY P n (.seq (.region id ops d) c2) S K)) : zY P n (.seq (.region id ops d) c2) S K := h
/-- A region that may go many ways: behind it one frame, told by the first of them. -/
theorem zY.cutR {P : Program} {n id : Nat} {ops : Array Oper} {d : Bool} {S M : AS} {c2 : Code} {K : Exit → AS → Prop} (h1 : zY P n (.region id ops d) S (yQ (fun S' => Sub S' M) K)) (h2 : zY P n c2 M K) : zY P n (.seq (.region id ops d) c2) S K :=
  .seq (h1.mono fun e S' h => by
    cases e with
    | normal => exact h2.sub h
    | _ => exact h)
attribute [irreducible] Hold
end Go.Proofs.YthnmfmdkdngggaaDoor
/- The law SaveHelped: what holds between its rounds. -/
namespace Go.Proofs.YthnmfmdkdngggaaDoor
set_option maxRecDepth 100000
set_option maxHeartbeats 16000000
open Go Go.RowKit
set_option linter.unusedSimpArgs false
set_option linter.unusedVariables false
structure HSt where
  c : Nat
  s0 : List Int × Int
  s1 : List Int × Int
  L0 : List xQ
  L1 : List xQ
  j0 : Nat
  j1 : Nat
  o0 : Bool
  o1 : Bool
def hFr : Nat → Bool
  | 0 => false
  | 1 => false
  | _ => true
theorem hFr_step (j c : Nat) : hFr (hC j c) = hFr c := by
  unfold hC
  split <;> rfl
theorem hC_lt (j c : Nat) (hc : c < 3) : hC j c < 3 := by
  unfold hC
  split <;> omega
theorem hC_zero (j c : Nat) (h : c ≠ 0) : hC j c ≠ 0 := by
  unfold hC
  split <;> omega
theorem hJ_le (j c : Nat) : hJ j c ≤ 6 := by
  unfold hJ
  split <;> omega
theorem hJ_past (j c : Nat) (h5 : 5 ≤ j → c ≠ 0) (h : 5 ≤ hJ j c) : hC j c ≠ 0 := by
  match j with
  | 0 | 1 | 2 | 3 => match c with
    | 0 => simp [hJ] at h
    | c + 1 => simp [hC]
  | 4 => match c with
    | 0 | c + 1 => simp [hC]
  | j + 5 => simpa [hC] using h5 (by omega)
theorem hS_len (j : Nat) (hj : j < 6) (s : List Int × Int) : (hS j s).1.length ≤ s.1.length + 1000 := by
  have hD : hD.length ≤ 1000 := Nat.le_of_ble_eq_true (by kernel_rfl)
  unfold hS
  split
  · simp; omega
  · simp
  · omega
structure HTh (i c j : Nat) (L : List xQ) (o : Bool) : Prop where
  lj : j ≤ 6
  len : L.length ≤ i
  u : ∀ r ∈ L, U r.n
  af : (opP 3 21 1 0 1).after L = some (hT j)
  fine : (hT j).xJ yes (many - L.length)
  ov : o = true → j = 6
  past : 5 ≤ j → c ≠ 0
structure HInv (i : Nat) (x : HSt) : Prop where
  lc : x.c < 3
  a : HTh i x.c x.j0 x.L0 x.o0
  b : HTh i x.c x.j1 x.L1 x.o1
  l0 : x.s0.1.length ≤ 1000 * i
  l1 : x.s1.1.length ≤ 1000 * i
theorem HTh.up {i c c' j : Nat} {L : List xQ} {o : Bool} (h : HTh i c j L o) (hc : c ≠ 0 → c' ≠ 0) : HTh (i + 1) c' j L o := ⟨h.lj, by have := h.len; omega, h.u, h.af, h.fine, h.ov, fun h5 => hc (h.past h5)⟩
theorem HInv.up {i : Nat} {x : HSt} (h : HInv i x) : HInv (i + 1) x := ⟨h.lc, h.a.up id, h.b.up id, by have := h.l0; omega, by have := h.l1; omega⟩
theorem HTh.over {i c j : Nat} {L : List xQ} {o : Bool} (h : HTh i c j L o) (hj : j = 6) : HTh (i + 1) c j L true := ⟨h.lj, by have := h.len; omega, h.u, h.af, h.fine, fun _ => hj, h.past⟩
theorem hop21 : OpOK 3 21 1 0 1 := opOK_of (by decide) (by decide) (by decide) (by unfold U; decide)
theorem hT_0 : hT 0 = opP 3 21 1 0 1 := by show _ = _; kernel_rfl
theorem hT_6 : hT 6 = .ret ⟨0, true, 0⟩ := by show _ = _; kernel_rfl
theorem after_nil {α : Type} (p : Pr α) : p.after [] = some p := by cases p <;> rfl
theorem HTh.zero : HTh 0 0 0 [] false := ⟨by omega, Nat.le_refl _, (fun r h => by simp at h), by rw [hT_0]; exact after_nil _, by rw [hT_0]; exact fine_op hop21, (fun h => by cases h), fun h => by omega⟩
theorem HTh.step {i c j : Nat} {L : List xQ} {o : Bool} (hc : c < 3) (hj : j < 6) (h : HTh i c j L o) : HTh (i + 1) (hC j c) (hJ j c) (L ++ [hR j c]) o := by
  have ha := hT_ask j hj
  have hn := h_next j c hj hc (fun e => h.past (by omega))
  have h1 := h.af
  have h2 := h.fine
  rw [ha] at h1 h2
  have h3 := after_snoc (hR j c) h1
  have h4 := h2.2 (hR j c) (hR_U j c)
  rw [hn] at h3 h4
  refine ⟨hJ_le j c, by have := h.len; simp; omega, fun r hr => ?_, h3, Pr.xJ.le (by simp; omega) h4, fun e => by have := h.ov e; omega, hJ_past j c h.past⟩
  rcases List.mem_append.1 hr with hr | hr
  · exact h.u r hr
  · simp at hr
    subst hr
    exact hR_U j c
def HSt.step0 (x : HSt) : HSt := { x with c := hC x.j0 x.c, s0 := hS x.j0 x.s0, L0 := x.L0 ++ [hR x.j0 x.c], j0 := hJ x.j0 x.c }
def HSt.step1 (x : HSt) : HSt := { x with c := hC x.j1 x.c, s1 := hS x.j1 x.s1, L1 := x.L1 ++ [hR x.j1 x.c], j1 := hJ x.j1 x.c }
theorem HInv.step0 {i : Nat} {x : HSt} (h : HInv i x) (hj : x.j0 < 6) : HInv (i + 1) x.step0 :=
  ⟨hC_lt _ _ h.lc, h.a.step h.lc hj, h.b.up (hC_zero _ _), by have := hS_len x.j0 hj x.s0; have := h.l0; show (hS x.j0 x.s0).1.length ≤ _; omega, by have := h.l1; show x.s1.1.length ≤ _; omega⟩
theorem HInv.step1 {i : Nat} {x : HSt} (h : HInv i x) (hj : x.j1 < 6) : HInv (i + 1) x.step1 :=
  ⟨hC_lt _ _ h.lc, h.a.up (hC_zero _ _), h.b.step h.lc hj, by have := h.l0; show x.s0.1.length ≤ _; omega, by have := hS_len x.j1 hj x.s1; have := h.l1; show (hS x.j1 x.s1).1.length ≤ _; omega⟩
def HSt.over0 (x : HSt) : HSt := { x with o0 := true }
def HSt.over1 (x : HSt) : HSt := { x with o1 := true }
theorem HInv.over0 {i : Nat} {x : HSt} (h : HInv i x) (hj : x.j0 = 6) : HInv (i + 1) x.over0 := ⟨h.lc, h.a.over hj, h.b.up id, by have := h.l0; show x.s0.1.length ≤ _; omega, by have := h.l1; show x.s1.1.length ≤ _; omega⟩
theorem HInv.over1 {i : Nat} {x : HSt} (h : HInv i x) (hj : x.j1 = 6) : HInv (i + 1) x.over1 := ⟨h.lc, h.a.up id, h.b.over hj, by have := h.l0; show x.s0.1.length ≤ _; omega, by have := h.l1; show x.s1.1.length ≤ _; omega⟩
def HSt.anew (x : HSt) : HSt := { x with c := 2 }
theorem HInv.anew {i : Nat} {x : HSt} (h : HInv i x) : HInv i x.anew :=
  ⟨by show 2 < 3; omega, ⟨h.a.lj, h.a.len, h.a.u, h.a.af, h.a.fine, h.a.ov, fun _ => by show 2 ≠ 0; omega⟩, ⟨h.b.lj, h.b.len, h.b.u, h.b.af, h.b.fine, h.b.ov, fun _ => by show 2 ≠ 0; omega⟩, h.l0, h.l1⟩
theorem HTh.log {i c j : Nat} {L : List xQ} {o : Bool} (h : HTh i c j L o) (hi : i ≤ 60) : LogOK L := ⟨by have := h.len; omega, h.u⟩
theorem HTh.done {i c : Nat} {L : List xQ} {o : Bool} (h : HTh i c 6 L o) (hi : i ≤ 60) (me : Int) : Fn Tryd.prog 14 [.val (.int .i64 3), .val (.int .i64 1), .val (.int .i64 me), opV 21 1 0 1, logV L] (.tup [accV 0 0 0 0 yS, outV 0 true 0 0, .val (.bool true)]) :=
  next_done L (h.log hi) 1 me hop21 (after_done (h.af.trans (congrArg some hT_6)))
theorem HTh.need {i c j : Nat} {L : List xQ} {o : Bool} (h : HTh i c j L o) (hi : i ≤ 60) (hj : j < 6) (me : Int) : Fn Tryd.prog 14 [.val (.int .i64 3), .val (.int .i64 1), .val (.int .i64 me), opV 21 1 0 1, logV L] (.tup [accV (askQ (hT j)).kind (askQ (hT j)).cell (askQ (hT j)).a (askQ (hT j)).b (.sl (byts (wE (askQ (hT j)).d))), outV 0 false 0 0, .val (.bool false)]) ∧ vV (askQ (hT j)) := by
  have ha := hT_ask j hj
  have h1 := h.af
  have h2 := h.fine
  rw [ha] at h1 h2
  exact ⟨next_needW L (h.log hi) 1 me hop21 (after_need h1) h2.1, h2.1⟩
theorem HInv.do0 {i : Nat} {x : HSt} (h : HInv i x) (hi : i ≤ 60) (hj : x.j0 < 6) : Fn Tryd.prog 15 [(hW x.c x.s0 x.s1).pv, .val (.int .i64 (0 : Nat)), accV (askQ (hT x.j0)).kind (askQ (hT x.j0)).cell (askQ (hT x.j0)).a (askQ (hT x.j0)).b (.sl (byts (wE (askQ (hT x.j0)).d))), .val (.bool false)] (.tup [(hW x.step0.c x.step0.s0 x.step0.s1).pv, wI (hR x.j0 x.c)]) := by
  have h2 := (h.a.need hi hj 0).2
  have h3 := doX_fn (hW_ok 900000 x.c h.lc x.s0 x.s1 (by have := h.l0; omega) (by have := h.l1; omega)) (by decide) h2 (me := 0) (by show 0 < 3; decide) false
  rw [h_step0 x.j0 x.c hj h.lc] at h3
  exact h3
theorem HInv.do1 {i : Nat} {x : HSt} (h : HInv i x) (hi : i ≤ 60) (hj : x.j1 < 6) : Fn Tryd.prog 15 [(hW x.c x.s0 x.s1).pv, .val (.int .i64 (1 : Nat)), accV (askQ (hT x.j1)).kind (askQ (hT x.j1)).cell (askQ (hT x.j1)).a (askQ (hT x.j1)).b (.sl (byts (wE (askQ (hT x.j1)).d))), .val (.bool false)] (.tup [(hW x.step1.c x.step1.s0 x.step1.s1).pv, wI (hR x.j1 x.c)]) := by
  have h2 := (h.b.need hi hj 1).2
  have h3 := doX_fn (hW_ok 900000 x.c h.lc x.s0 x.s1 (by have := h.l0; omega) (by have := h.l1; omega)) (by decide) h2 (me := 1) (by show 1 < 3; decide) false
  rw [h_step1 x.j1 x.c hj h.lc] at h3
  exact h3
theorem HInv.make {i : Nat} {x : HSt} (h : HInv i x) (hi : i ≤ 60) (hc : hFr x.c = false) : ∃ o : OutI, Fn Tryd.prog 9 [(hW x.c x.s0 x.s1).pv, .val (.int .i64 (2 : Nat)), opV 20 1 0 12884901888, .val (.int .i64 (20 : Nat)), yS] (.tup [(hW 2 x.s0 x.s1).pv, outV o.e o.is 0 o.w, .val (.bool true)]) := by
  have hc2 : x.c < 2 := by
    have := h.lc
    rcases Nat.lt_or_ge x.c 2 with h | h
    · exact h
    · have e : x.c = 2 := by omega
      rw [e] at hc; cases hc
  have h1 : Al 60000 2 20 1 0 12884901888 20 [] (hW x.c x.s0 x.s1) (hN x.c x.s0 x.s1) := al_of (hN_run x.c hc2 x.s0 x.s1) (opOK_of (by show (1 : Int) ≤ 3 ∧ (3 : Int) ≤ 64; decide) (by decide) (by decide) (by unfold U; decide)) (hW_ok 60000 x.c h.lc x.s0 x.s1 (by have := h.l0; omega) (by have := h.l1; omega)) (by show 2 < 3; decide) hB_m (by decide) (by decide)
  exact ⟨hB.o, h1.nil rfl⟩
theorem hA_al : ∃ o : OutI, Fn Tryd.prog 9 [(newD 3 1).pv, .val (.int .i64 (2 : Nat)), opV 20 1 0 10737418240, .val (.int .i64 (20 : Nat)), yS] (.tup [(hW 0 ([], 0) ([], 0)).pv, outV o.e o.is 0 o.w, .val (.bool true)]) := by
  have h1 : Al 0 2 20 1 0 10737418240 20 [] (newD 3 1) hA := al_of hA_run (opOK_of (by show (1 : Int) ≤ 3 ∧ (3 : Int) ≤ 64; decide) (by decide) (by decide) (by unfold U; decide)) (newD_ok (by decide) (by decide)) (by show 2 < 3; decide) hA_m (by decide) (by decide)
  have h2 := h1.nil rfl
  rw [hA_W] at h2
  exact ⟨hA.o, h2⟩
end Go.Proofs.YthnmfmdkdngggaaDoor
