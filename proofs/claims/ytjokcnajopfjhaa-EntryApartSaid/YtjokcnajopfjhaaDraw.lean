/- A region that draws its order, by its operations in the text's order. Generic over the program. -/
import Derived.Test.YtjokcnajopfjhaaJudge
namespace Go.Proofs.Ytjokcnajopfjhaa
open Go Go.RowKit

def maskOf (acc : List Nat) (o : Oper) : Nat := o.after.toList.foldl (fun s e => if Region.binds .any e then s ||| (2 ^ e.on ||| acc.getD e.on 0) else s) 0
/-- Of each operation those that are surely ahead of it, as bits. -/
def masks : List Oper → List Nat → List Nat
  | [], acc => acc
  | o :: r, acc => masks r (acc ++ [maskOf acc o])

theorem masks_prefix : ∀ (l : List Oper) (acc : List Nat) (i : Nat), i < acc.length → (masks l acc).getD i 0 = acc.getD i 0
  | [], acc, i, h => rfl
  | o :: r, acc, i, h => by
    unfold masks
    rw [masks_prefix r (acc ++ [maskOf acc o]) i (by simp; omega)]
    simp [List.getD_eq_getElem?_getD, List.getElem?_append_left h]

theorem maskOf_bit (acc : List Nat) (l : List Edge) (j : Nat) : ∀ (s : Nat), (l.foldl (fun s e => if Region.binds .any e then s ||| (2 ^ e.on ||| acc.getD e.on 0) else s) s).testBit j = true →
    s.testBit j = true ∨ ∃ e ∈ l, Region.binds .any e = true ∧ (e.on = j ∨ (acc.getD e.on 0).testBit j = true) := by
  induction l with
  | nil => intro s h; exact .inl h
  | cons e l ih =>
    intro s h
    simp only [List.foldl_cons] at h
    rcases ih _ h with h1 | ⟨e', he', h2⟩
    · by_cases hb : Region.binds .any e = true
      · rw [if_pos hb, Nat.testBit_or, Nat.testBit_or, Bool.or_eq_true, Bool.or_eq_true] at h1
        rcases h1 with h1 | h1 | h1
        · exact .inl h1
        · rw [Nat.testBit_two_pow] at h1
          exact .inr ⟨e, by simp, hb, .inl (by simpa using h1)⟩
        · exact .inr ⟨e, by simp, hb, .inr h1⟩
      · rw [if_neg hb] at h1
        exact .inl h1
    · exact .inr ⟨e', by simp [he'], h2⟩

theorem masks_spec : ∀ (l : List Oper) (acc : List Nat) (i : Nat) (o : Oper) (j : Nat), l[i]? = some o → ((masks l acc).getD (acc.length + i) 0).testBit j = true →
    ∃ e ∈ o.after.toList, Region.binds .any e = true ∧ (e.on = j ∨ (e.on < acc.length + i ∧ ((masks l acc).getD e.on 0).testBit j = true))
  | [], acc, i, o, j, h, _ => by simp at h
  | o' :: r, acc, 0, o, j, h, hb => by
    simp only [List.getElem?_cons_zero, Option.some.injEq] at h
    subst h
    unfold masks at hb ⊢
    rw [masks_prefix r _ _ (by simp)] at hb
    have e1 : (acc ++ [maskOf acc o']).getD (acc.length + 0) 0 = maskOf acc o' := by simp [List.getD_eq_getElem?_getD]
    rw [e1] at hb
    rcases maskOf_bit acc _ j 0 hb with h1 | ⟨e, he, hbe, h1⟩
    · simp at h1
    · refine ⟨e, he, hbe, ?_⟩
      rcases h1 with h1 | h1
      · exact .inl h1
      · right
        have hlt : e.on < acc.length := by
          rcases Nat.lt_or_ge e.on acc.length with h2 | h2
          · exact h2
          · simp [List.getD_eq_getElem?_getD, List.getElem?_eq_none h2] at h1
        refine ⟨by omega, ?_⟩
        rw [masks_prefix r _ _ (by simp; omega)]
        simpa [List.getD_eq_getElem?_getD, List.getElem?_append_left hlt] using h1
  | o' :: r, acc, i + 1, o, j, h, hb => by
    simp only [List.getElem?_cons_succ] at h
    unfold masks at hb ⊢
    have e1 : acc.length + (i + 1) = (acc ++ [maskOf acc o']).length + i := by simp; omega
    rw [e1] at hb
    obtain ⟨e, he, hbe, h1⟩ := masks_spec r (acc ++ [maskOf acc o']) i o j h hb
    refine ⟨e, he, hbe, ?_⟩
    rw [e1]
    exact h1

/-- j is surely ahead of i. -/
def ord (l : List Oper) (j i : Nat) : Bool := ((masks l []).getD i 0).testBit j

def Done (listed : Array Bool) (i : Nat) : Prop := listed.getD i false = true

structure Closed (l : List Oper) (listed : Array Bool) : Prop where
  size : listed.size = l.length
  edge : ∀ (i : Nat) (o : Oper), l[i]? = some o → Done listed i → ∀ e ∈ o.after.toList, Region.binds .any e = true → Done listed e.on

theorem Closed.ord {l : List Oper} {listed : Array Bool} (h : Closed l listed) : ∀ (m i j : Nat), i < m → i < l.length → Done listed i → ord l j i = true → Done listed j
  | 0, i, _, hm, _, _, _ => by omega
  | m + 1, i, j, hm, hi, hd, ho => by
    unfold Go.Proofs.Ytjokcnajopfjhaa.ord at ho
    obtain ⟨o, hoi⟩ : ∃ o, l[i]? = some o := ⟨l[i], List.getElem?_eq_getElem hi⟩
    obtain ⟨e, he, hb, h1⟩ := masks_spec l [] i o j hoi (by simpa using ho)
    have hd2 := h.edge i o hoi hd e he hb
    rcases h1 with h1 | ⟨h1, h2⟩
    · rw [← h1]; exact hd2
    · simp only [List.length_nil, Nat.zero_add] at h1
      exact Closed.ord h m e.on j (by omega) (by omega) hd2 h2

theorem mem_ready_iff {l : List Oper} {listed : Array Bool} {i : Nat} (h : i ∈ Region.ready .any l.toArray listed) :
    i < l.length ∧ ¬ Done listed i ∧ ∃ o, l[i]? = some o ∧ ∀ e ∈ o.after.toList, Region.binds .any e = true → Done listed e.on := by
  unfold Region.ready at h
  simp only [List.size_toArray, List.mem_filter, List.mem_range, Bool.and_eq_true, Bool.not_eq_true'] at h
  obtain ⟨hi, h1, h2⟩ := h
  refine ⟨hi, ?_, l[i], List.getElem?_eq_getElem hi, ?_⟩
  · intro hd
    unfold Done at hd
    rcases Nat.lt_or_ge i listed.size with h3 | h3
    · simp [h3] at h1 hd; rw [h1] at hd; cases hd
    · simp [Array.getElem?_eq_none h3] at hd
  · intro e he hb
    simp only [List.getElem?_toArray, List.getElem?_eq_getElem hi, Option.map_some, Option.getD_some] at h2
    have := Array.all_eq_true'.1 h2 e (by simpa using he)
    simpa [hb, Done] using this

theorem Closed.ready_ord {l : List Oper} {listed : Array Bool} (h : Closed l listed) {i : Nat} (hr : i ∈ Region.ready .any l.toArray listed) {j : Nat} (ho : Go.Proofs.Ytjokcnajopfjhaa.ord l j i = true) : Done listed j := by
  obtain ⟨hi, _, o, hoi, hall⟩ := mem_ready_iff hr
  unfold Go.Proofs.Ytjokcnajopfjhaa.ord at ho
  obtain ⟨e, he, hb, h1⟩ := masks_spec l [] i o j hoi (by simpa using ho)
  have hd2 := hall e he hb
  rcases h1 with h1 | ⟨h1, h2⟩
  · rw [← h1]; exact hd2
  · simp only [List.length_nil, Nat.zero_add] at h1
    exact h.ord (e.on + 1) e.on j (by omega) (by omega) hd2 h2

theorem done_set {listed : Array Bool} {i j : Nat} (hi : i < listed.size) : Done (listed.setIfInBounds i true) j ↔ (i = j ∨ Done listed j) := by
  unfold Done
  simp only [Array.getD_eq_getD_getElem?, Array.getElem?_setIfInBounds]
  by_cases h : i = j
  · subst h; simp [hi]
  · simp [h]

theorem Closed.set {l : List Oper} {listed : Array Bool} (h : Closed l listed) {i : Nat} (hr : i ∈ Region.ready .any l.toArray listed) : Closed l (listed.setIfInBounds i true) := by
  obtain ⟨hi, _, o, hoi, hall⟩ := mem_ready_iff hr
  have hs : i < listed.size := by rw [h.size]; exact hi
  refine ⟨by simp [h.size], fun k ok hok hd e he hb => ?_⟩
  rw [done_set hs] at hd ⊢
  rcases hd with hd | hd
  · subst hd
    obtain rfl : o = ok := by rw [hoi] at hok; exact Option.some.inj hok
    exact .inr (hall e he hb)
  · exact .inr (h.edge k ok hok hd e he hb)

/-! ### What agrees with what is done -/

def AV.ids : AV → List Nat
  | .own j => [j]
  | .ptr j _ => [j]
  | .tup vs => [0, 1, 2, 3, 4, 5, 6, 7, 8, 9].filter fun _ => !vs.isEmpty
  | _ => []

theorem AV.kill_of_ids {x : AV} {d : Nat} (h : (match x with | .tup _ => false | x => !x.ids.contains d) = true) : x.kill d = x := by
  cases x with
  | own j =>
    have hj : j ≠ d := by intro e; subst e; simp [AV.ids] at h
    simp [AV.kill, hj]
  | ptr j o =>
    have hj : j ≠ d := by intro e; subst e; simp [AV.ids] at h
    simp [AV.kill, hj]
  | tup vs => simp at h
  | _ => rfl

def freeOf (d : Nat) : AV → Bool
  | .tup _ => false
  | x => !x.ids.contains d
def freeOfB (d : Nat) : Blk → Bool
  | .row _ _ _ xs => xs.all (freeOf d)
  | .prow _ _ _ _ => true
  | .box _ xs => xs.all (freeOf d)
def noRef (d : Nat) (S : AS) : Bool := S.t.all (fun p => freeOf d p.2) && S.s.all (fun p => freeOfB d p.2)

theorem kill_of_free {x : AV} {d : Nat} (h : freeOf d x = true) : x.kill d = x := by
  apply AV.kill_of_ids
  cases x <;> exact h
theorem map_kill_of_free {xs : List AV} {d : Nat} (h : xs.all (freeOf d) = true) : xs.map (AV.kill d) = xs := by
  rw [List.all_eq_true] at h
  exact (List.map_congr_left (fun x hx => kill_of_free (h x hx))).trans (by simp)
theorem blk_kill_of_free {b : Blk} {d : Nat} (h : freeOfB d b = true) : b.kill d = b := by
  cases b with
  | row t size n xs => simp only [Blk.kill]; rw [map_kill_of_free (xs := xs) h]
  | prow t size n xs => rfl
  | box t xs => simp only [Blk.kill]; rw [map_kill_of_free (xs := xs) h]
theorem look_all {α : Type} {f : α → Bool} : ∀ {l : List (Nat × α)}, l.all (fun p => f p.2) = true → ∀ {i : Nat} {x : α}, look l i = some x → f x = true
  | [], _, i, x, h => by simp [look] at h
  | (k, y) :: r, hl, i, x, h => by
    simp only [List.all_cons, Bool.and_eq_true] at hl
    unfold look at h
    split at h
    · obtain rfl := Option.some.inj h; exact hl.1
    · exact look_all hl.2 h
theorem noRef_tmp {d : Nat} {S : AS} (h : noRef d S = true) (i : Nat) : (S.tmp i).kill d = S.tmp i := by
  unfold noRef at h
  rw [Bool.and_eq_true] at h
  unfold AS.tmp
  cases hl : look S.t i with
  | none => rfl
  | some x => exact kill_of_free (look_all h.1 hl)
theorem noRef_blk {d : Nat} {S : AS} (h : noRef d S = true) {i : Nat} {b : Blk} (hb : S.blk i = some b) : b.kill d = b := by
  unfold noRef at h
  rw [Bool.and_eq_true] at h
  exact blk_kill_of_free (look_all h.2 hb)

structure AI where
  bs : List Nat
  av : AV
  nb : Option Blk

/-- S2 is S0 with what the operations that are done have made. -/
structure Agr (l : List Oper) (xs : List AI) (S0 : AS) (D : Nat → Prop) (S2 : AS) : Prop where
  t1 : ∀ (i : Nat) (o : Oper) (x : AI) (d : Nat), l[i]? = some o → xs[i]? = some x → D i → o.dst = some d → S2.tmp d = x.av
  t2 : ∀ t, (∀ (i : Nat) (o : Oper) (x : AI), l[i]? = some o → xs[i]? = some x → D i → o.dst ≠ some t) → S2.tmp t = S0.tmp t
  b1 : ∀ (i : Nat) (o : Oper) (x : AI) (d : Nat) (b : Blk), l[i]? = some o → xs[i]? = some x → D i → o.dst = some d → x.nb = some b → S2.blk d = some b
  b2 : ∀ t, (∀ (i : Nat) (o : Oper) (x : AI), l[i]? = some o → xs[i]? = some x → D i → x.nb ≠ none → o.dst ≠ some t) → S2.blk t = S0.blk t

/-- No two write one slot; what is made is not spoken of but by what hangs on it. -/
structure Apart (l : List Oper) (xs : List AI) (S0 : AS) : Prop where
  c1 : ∀ (i j : Nat) (o o' : Oper) (x x' : AI) (d : Nat), l[i]? = some o → l[j]? = some o' → xs[i]? = some x → xs[j]? = some x' → o.dst = some d → o'.dst = some d → i = j
  c4 : ∀ (i k : Nat) (o : Oper) (x x' : AI) (d : Nat), l[i]? = some o → xs[i]? = some x → xs[k]? = some x' → o.dst = some d → x.nb ≠ none → (ord l i k = true ∧ i ≠ k) ∨ ((i = k ∨ freeOf d x'.av = true) ∧ ∀ b, x'.nb = some b → freeOfB d b = true)
  c5 : ∀ (i : Nat) (o : Oper) (x : AI) (d : Nat), l[i]? = some o → xs[i]? = some x → o.dst = some d → x.nb ≠ none → noRef d S0 = true
  dsts : ∀ (i : Nat) (o : Oper) (x : AI), l[i]? = some o → xs[i]? = some x → ∃ d, o.dst = some d

theorem Agr.step {l : List Oper} {xs : List AI} {S0 S2 : AS} {D : Nat → Prop} (hA : Apart l xs S0) (h : Agr l xs S0 D S2) {i : Nat} {o : Oper} {x : AI} (ho : l[i]? = some o) (hx : xs[i]? = some x) (hn : ¬ D i)
    (hk : ∀ k, D k → ord l i k = true → False) : Agr l xs S0 (fun k => k = i ∨ D k) (S2.out o.dst x.av x.nb) := by
  obtain ⟨d, hd⟩ := hA.dsts i o x ho hx
  have uniq : ∀ (k : Nat) (ok : Oper) (xk : AI), l[k]? = some ok → xs[k]? = some xk → ok.dst = some d → k = i := fun k ok xk h1 h2 h3 => hA.c1 k i ok o xk x d h1 ho h2 hx h3 hd
  have hdone : ∀ (k : Nat) (ok : Oper) (xk : AI), l[k]? = some ok → xs[k]? = some xk → D k → ok.dst ≠ some d := fun k ok xk h1 h2 h3 h4 => hn (uniq k ok xk h1 h2 h4 ▸ h3)
  rw [hd]
  cases hnb : x.nb with
  | none =>
    refine ⟨fun k ok xk e h1 h2 h3 h4 => ?_, fun t ht => ?_, fun k ok xk e b h1 h2 h3 h4 h5 => ?_, fun t ht => ?_⟩
    · show (S2.put d x.av).tmp e = xk.av
      rw [AS.tmp_put]
      by_cases hde : d = e
      · subst hde
        obtain rfl := uniq k ok xk h1 h2 h4
        rw [hx] at h2
        obtain rfl := Option.some.inj h2
        rw [if_pos rfl]
      · rw [if_neg hde]
        rcases h3 with rfl | h3
        · rw [ho] at h1; obtain rfl := Option.some.inj h1
          rw [hd] at h4; exact (hde (Option.some.inj h4)).elim
        · exact h.t1 k ok xk e h1 h2 h3 h4
    · show (S2.put d x.av).tmp t = S0.tmp t
      rw [AS.tmp_put]
      by_cases hdt : d = t
      · subst hdt; exact (ht i o x ho hx (.inl rfl) hd).elim
      · rw [if_neg hdt]; exact h.t2 t fun k ok xk h1 h2 h3 => ht k ok xk h1 h2 (.inr h3)
    · show S2.blk e = some b
      rcases h3 with rfl | h3
      · rw [hx] at h2; obtain rfl := Option.some.inj h2
        rw [hnb] at h5; cases h5
      · exact h.b1 k ok xk e b h1 h2 h3 h4 h5
    · show S2.blk t = S0.blk t
      exact h.b2 t fun k ok xk h1 h2 h3 => ht k ok xk h1 h2 (.inr h3)
  | some b =>
    have hnn : x.nb ≠ none := by rw [hnb]; simp
    have kt : ∀ e, e ≠ d → (S2.tmp e).kill d = S2.tmp e := by
      intro e he
      by_cases hex : ∃ (k : Nat) (ok : Oper) (xk : AI), l[k]? = some ok ∧ xs[k]? = some xk ∧ D k ∧ ok.dst = some e
      · obtain ⟨k, ok, xk, h1, h2, h3, h4⟩ := hex
        rw [h.t1 k ok xk e h1 h2 h3 h4]
        rcases hA.c4 i k o x xk d ho hx h2 hd hnn with h5 | ⟨h5, _⟩
        · exact (hk k h3 h5.1).elim
        · rcases h5 with h5 | h5
          · subst h5; exact (hn h3).elim
          · exact kill_of_free h5
      · rw [h.t2 e fun k ok xk h1 h2 h3 h4 => hex ⟨k, ok, xk, h1, h2, h3, h4⟩]
        exact noRef_tmp (hA.c5 i o x d ho hx hd hnn) e
    have kb : ∀ e b', e ≠ d → S2.blk e = some b' → b'.kill d = b' := by
      intro e b' he hb'
      by_cases hex : ∃ (k : Nat) (ok : Oper) (xk : AI), l[k]? = some ok ∧ xs[k]? = some xk ∧ D k ∧ xk.nb ≠ none ∧ ok.dst = some e
      · obtain ⟨k, ok, xk, h1, h2, h3, h4, h5⟩ := hex
        obtain ⟨b2, hb2⟩ := Option.ne_none_iff_exists'.1 h4
        rw [h.b1 k ok xk e b2 h1 h2 h3 h5 hb2] at hb'
        obtain rfl := Option.some.inj hb'
        rcases hA.c4 i k o x xk d ho hx h2 hd hnn with h6 | ⟨_, h6⟩
        · exact (hk k h3 h6.1).elim
        · exact blk_kill_of_free (h6 b2 hb2)
      · rw [h.b2 e fun k ok xk h1 h2 h3 h4 h5 => hex ⟨k, ok, xk, h1, h2, h3, h4, h5⟩] at hb'
        exact noRef_blk (hA.c5 i o x d ho hx hd hnn) hb'
    have kown : b.kill d = b := by
      rcases hA.c4 i i o x x d ho hx hx hd hnn with h6 | ⟨_, h6⟩
      · exact (h6.2 rfl).elim
      · exact blk_kill_of_free (h6 b hnb)
    have tmp' : ∀ e, e ≠ d → ((S2.create d b).put d x.av).tmp e = S2.tmp e := fun e he => by
      rw [AS.tmp_put, if_neg (Ne.symm he), AS.tmp_create, kt e he]
    have blk' : ∀ e, e ≠ d → ((S2.create d b).put d x.av).blk e = S2.blk e := fun e he => by
      rw [AS.blk_put, AS.blk_create, if_neg (Ne.symm he)]
      cases hb' : S2.blk e with
      | none => rfl
      | some b' => rw [Option.map_some, kb e b' he hb']
    refine ⟨fun k ok xk e h1 h2 h3 h4 => ?_, fun t ht => ?_, fun k ok xk e b' h1 h2 h3 h4 h5 => ?_, fun t ht => ?_⟩
    · show ((S2.create d b).put d x.av).tmp e = xk.av
      by_cases hde : e = d
      · subst hde
        obtain rfl := uniq k ok xk h1 h2 h4
        rw [hx] at h2
        obtain rfl := Option.some.inj h2
        rw [AS.tmp_put, if_pos rfl]
      · rw [tmp' e hde]
        rcases h3 with rfl | h3
        · rw [ho] at h1; obtain rfl := Option.some.inj h1
          rw [hd] at h4; exact (hde (Option.some.inj h4).symm).elim
        · exact h.t1 k ok xk e h1 h2 h3 h4
    · show ((S2.create d b).put d x.av).tmp t = S0.tmp t
      by_cases hdt : t = d
      · subst hdt; exact (ht i o x ho hx (.inl rfl) hd).elim
      · rw [tmp' t hdt]; exact h.t2 t fun k ok xk h1 h2 h3 => ht k ok xk h1 h2 (.inr h3)
    · show ((S2.create d b).put d x.av).blk e = some b'
      by_cases hde : e = d
      · subst hde
        obtain rfl := uniq k ok xk h1 h2 h4
        rw [hx] at h2
        obtain rfl := Option.some.inj h2
        rw [hnb] at h5
        obtain rfl := Option.some.inj h5
        rw [AS.blk_put, AS.blk_create, if_pos rfl, kown]
      · rw [blk' e hde]
        rcases h3 with rfl | h3
        · rw [ho] at h1; obtain rfl := Option.some.inj h1
          rw [hd] at h4; exact (hde (Option.some.inj h4).symm).elim
        · exact h.b1 k ok xk e b' h1 h2 h3 h4 h5
    · show ((S2.create d b).put d x.av).blk t = S0.blk t
      by_cases hdt : t = d
      · subst hdt; exact (ht i o x ho hx (.inl rfl) hnn hd).elim
      · rw [blk' t hdt]; exact h.b2 t fun k ok xk h1 h2 h3 h4 => ht k ok xk h1 h2 (.inr h3) h4

/-! ### The region -/

def dstOf (l : List Oper) (i : Nat) : Option Nat := (l[i]?).bind (·.dst)
def tmpOf : Operand → Option Nat
  | .tmp t => some t
  | _ => none
def readsOf (l : List Oper) (i : Nat) : List Nat :=
  match l[i]? with
  | some o => o.op.operands.toList.filterMap tmpOf ++ (match o.guard with
    | some (j, _) => (dstOf l j).toList
    | none => [])
  | none => []
/-- Of the first m operations: each has a slot of its own; what is read of another's is ordered against it; the others stand behind all that is ahead of them. -/
def schedB (l : List Oper) (m : Nat) (bss : List (List Nat)) : Bool :=
  decide (m ≤ l.length) && ((List.range l.length).all fun i => match l[i]? with
    | some o => o.after.toList.all fun e => !Region.binds .any e || decide (e.on < i)
    | none => true) &&
  ((List.range m).all fun i => (List.range m).all fun j =>
    (i == j || dstOf l i != dstOf l j) && (dstOf l i).isSome && (decide (i < j) || !(ord l i j)) &&
    (match dstOf l j with
     | some t => (!(readsOf l i).contains t || i == j || (decide (j < i) && ord l j i) || (decide (i < j) && ord l i j)) && (!(bss.getD i []).contains t || (decide (j < i) && ord l j i))
     | none => true)) &&
  ((List.range l.length).all fun t => decide (t < m) || (List.range t).all fun j => ord l j t)
/-- What is made is not spoken of but by what hangs on it. -/
def madeB (l : List Oper) (xs : List AI) (S0 : AS) : Bool :=
  (List.range xs.length).all fun i => match xs[i]?, dstOf l i with
    | some ⟨_, _, some _⟩, some d => noRef d S0 && ((List.range xs.length).all fun k => (ord l i k && i != k) || (match xs[k]? with
      | some x => (i == k || freeOf d x.av) && (match x.nb with | some b => freeOfB d b | none => true)
      | none => true))
    | _, _ => true

def GStep (P : Program) (n : Nat) (l : List Oper) (S : AS) (o : Oper) (x : AI) : Prop :=
  (o.guard = none ∧ AStep P n o S x.bs x.av x.nb) ∨ (∃ (j : Nat) (want : Bool) (t : Nat) (v : Value), o.guard = some (j, want) ∧ dstOf l j = some t ∧ t < n ∧ S.tmp t = .p (.val v) ∧
    ((wantB v want = true ∧ AStep P n o S x.bs x.av x.nb) ∨ (wantB v want = false ∧ x.av = undefA ∧ x.nb = none ∧ ∃ d, o.dst = some d ∧ d < n)))

def AChain (P : Program) (n : Nat) (l : List Oper) : AS → List Oper → List AI → Prop
  | S, o :: os, x :: xs => GStep P n l S o x ∧ AChain P n l (S.out o.dst x.av x.nb) os xs
  | _, [], _ :: _ => False
  | _, _, [] => True
def runA : AS → List Oper → List AI → AS
  | S, o :: os, x :: xs => runA (S.out o.dst x.av x.nb) os xs
  | S, _, _ => S
/-- The operations behind: in the text's order. -/
def TChain (P : Program) (n : Nat) (K : AS → Prop) : AS → List Oper → Prop
  | S, [] => K S
  | S, o :: os => o.guard = none ∧ ∃ S1, Step P n o S S1 ∧ TChain P n K S1 os

structure Sched (l : List Oper) (xs : List AI) : Prop where
  len : xs.length ≤ l.length
  back : ∀ (i : Nat) (o : Oper), l[i]? = some o → ∀ e ∈ o.after.toList, Region.binds .any e = true → e.on < i
  one : ∀ i j, i < xs.length → j < xs.length → dstOf l i = dstOf l j → i = j
  has : ∀ i, i < xs.length → (dstOf l i).isSome = true
  fwd : ∀ i j, i < xs.length → j < xs.length → ord l i j = true → i < j
  reads : ∀ i j t, i < xs.length → j < xs.length → dstOf l j = some t → t ∈ readsOf l i → i = j ∨ (j < i ∧ ord l j i = true) ∨ (i < j ∧ ord l i j = true)
  blks : ∀ i j t x, i < xs.length → j < xs.length → dstOf l j = some t → xs[i]? = some x → t ∈ x.bs → j < i ∧ ord l j i = true
  tail : ∀ t, xs.length ≤ t → t < l.length → ∀ j, j < t → ord l j t = true

theorem Sched.of {l : List Oper} {xs : List AI} (h : schedB l xs.length (xs.map (·.bs)) = true) : Sched l xs := by
  unfold schedB at h
  simp only [Bool.and_eq_true, List.all_eq_true, List.mem_range, decide_eq_true_eq, Bool.or_eq_true] at h
  obtain ⟨⟨⟨h1, h2⟩, h3⟩, h4⟩ := h
  refine ⟨h1, fun i o ho e he hb => ?_, fun i j hi hj he => ?_, fun i hi => ?_, fun i j hi hj ho => ?_, fun i j t hi hj hd ht => ?_, fun i j t x hi hj hd hx ht => ?_, fun t ht htl j hj => ?_⟩
  · have hi : i < l.length := (List.getElem?_eq_some_iff.1 ho).1
    have := h2 i hi
    rw [ho] at this
    simp only [List.all_eq_true, Bool.or_eq_true, decide_eq_true_eq, Bool.not_eq_true'] at this
    rcases this e he with h5 | h5
    · rw [hb] at h5; cases h5
    · exact h5
  · have := (h3 i hi j hj).1.1.1
    rcases this with h5 | h5
    · simpa using h5
    · simp [he] at h5
  · exact (h3 i hi i hi).1.1.2
  · rcases (h3 i hi j hj).1.2 with h5 | h5
    · exact h5
    · simp [ho] at h5
  · have := (h3 i hi j hj).2
    rw [hd] at this
    simp only [Bool.and_eq_true, Bool.or_eq_true, decide_eq_true_eq, beq_iff_eq] at this
    rcases this.1 with ((h5 | h5) | h5) | h5
    · simp [ht] at h5
    · exact .inl h5
    · exact .inr (.inl h5)
    · exact .inr (.inr h5)
  · have := (h3 i hi j hj).2
    rw [hd] at this
    simp only [Bool.and_eq_true, Bool.or_eq_true, decide_eq_true_eq, beq_iff_eq] at this
    rcases this.2 with h5 | h5
    · exfalso
      have e : (List.map (fun x : AI => x.bs) xs).getD i [] = x.bs := by simp [List.getD_eq_getElem?_getD, hx]
      rw [e] at h5
      simp [ht] at h5
    · exact h5
  · rcases h4 t htl with h5 | h5
    · omega
    · exact h5 j hj

theorem Apart.of {l : List Oper} {xs : List AI} {S0 : AS} (hs : Sched l xs) (h : madeB l xs S0 = true) : Apart l xs S0 := by
  have hd' : ∀ {i : Nat} {o : Oper}, l[i]? = some o → dstOf l i = o.dst := fun {i o} ho => by simp [dstOf, ho]
  have hlt : ∀ {i : Nat} {x : AI}, xs[i]? = some x → i < xs.length := fun {i x} hx => (List.getElem?_eq_some_iff.1 hx).1
  have main : ∀ (i : Nat) (o : Oper) (x : AI) (d : Nat), l[i]? = some o → xs[i]? = some x → o.dst = some d → x.nb ≠ none → noRef d S0 = true ∧ ∀ (k : Nat) (x' : AI), xs[k]? = some x' →
      (ord l i k = true ∧ i ≠ k) ∨ ((i = k ∨ freeOf d x'.av = true) ∧ ∀ b, x'.nb = some b → freeOfB d b = true) := by
    intro i o x d ho hx hd hnb
    unfold madeB at h
    rw [List.all_eq_true] at h
    have h1 := h i (List.mem_range.2 (hlt hx))
    rw [hx, hd' ho, hd] at h1
    obtain ⟨b, hb⟩ := Option.ne_none_iff_exists'.1 hnb
    obtain ⟨bs, av, nb⟩ := x
    simp only at hb
    subst hb
    simp only [Bool.and_eq_true, List.all_eq_true, List.mem_range, Bool.or_eq_true] at h1
    refine ⟨h1.1, fun k x' hx' => ?_⟩
    have h2 := h1.2 k (hlt hx')
    rw [hx'] at h2
    rcases h2 with h2 | h2
    · exact .inl ⟨h2.1, by simpa using h2.2⟩
    · right
      simp only [Bool.and_eq_true, Bool.or_eq_true, beq_iff_eq] at h2
      refine ⟨h2.1, fun b' hb' => ?_⟩
      have h3 := h2.2
      rw [hb'] at h3
      exact h3
  refine ⟨fun i j o o' x x' d ho ho' hx hx' hd hd2 => hs.one i j (hlt hx) (hlt hx') (by rw [hd' ho, hd' ho', hd, hd2]), fun i k o x x' d ho hx hx' hd hnb => (main i o x d ho hx hd hnb).2 k x' hx', fun i o x d ho hx hd hnb => (main i o x d ho hx hd hnb).1, fun i o x ho hx => ?_⟩
  have := hs.has i (hlt hx)
  rw [hd' ho] at this
  exact Option.isSome_iff_exists.1 this

theorem runA_agr {P : Program} {n : Nat} {l : List Oper} {xs : List AI} {S0 : AS} (hs : Sched l xs) (hA : Apart l xs S0) :
    ∀ (m : Nat) (S : AS), m ≤ xs.length → Agr l xs S0 (fun k => k < m) S → AChain P n l S (l.drop m) (xs.drop m) →
      (∀ (i : Nat) (o : Oper) (x : AI), m ≤ i → l[i]? = some o → xs[i]? = some x → ∃ Si, Agr l xs S0 (fun k => k < i) Si ∧ GStep P n l Si o x) ∧ Agr l xs S0 (fun k => k < xs.length) (runA S (l.drop m) (xs.drop m)) := by
  intro m
  generalize hd : xs.length - m = d
  induction d generalizing m with
  | zero =>
    intro S hm hagr _
    have e : xs.length = m := by omega
    refine ⟨fun i o x hi ho hx => ?_, ?_⟩
    · have := (List.getElem?_eq_some_iff.1 hx).1; omega
    · rw [List.drop_eq_nil_of_le (by omega : xs.length ≤ m)]
      have : runA S (l.drop m) [] = S := by cases l.drop m <;> rfl
      rw [this, e]
      exact hagr
  | succ d ih =>
    intro S hm hagr hc
    have hmx : m < xs.length := by omega
    have hml : m < l.length := Nat.lt_of_lt_of_le hmx hs.len
    rw [List.drop_eq_getElem_cons hmx, List.drop_eq_getElem_cons hml] at hc
    obtain ⟨hg, hc⟩ := hc
    have ho : l[m]? = some l[m] := List.getElem?_eq_getElem hml
    have hx : xs[m]? = some xs[m] := List.getElem?_eq_getElem hmx
    have hst := hagr.step hA ho hx (by omega) (fun k hk hok => by
      have := hs.fwd m k hmx (by omega) hok
      omega)
    have e : (fun k => k = m ∨ k < m) = (fun k => k < m + 1) := by funext k; apply propext; omega
    rw [e] at hst
    obtain ⟨r1, r2⟩ := ih (m + 1) (by omega) (S.out l[m].dst xs[m].av xs[m].nb) (by omega) hst hc
    refine ⟨fun i o x hi ho' hx' => ?_, ?_⟩
    · by_cases him : i = m
      · subst him
        rw [ho] at ho'; rw [hx] at hx'
        obtain rfl := Option.some.inj ho'
        obtain rfl := Option.some.inj hx'
        exact ⟨S, hagr, hg⟩
      · exact r1 i o x (by omega) ho' hx'
    · rw [List.drop_eq_getElem_cons hmx, List.drop_eq_getElem_cons hml]
      exact r2

/-- Two frames that say the same. -/
def Same (S S' : AS) : Prop := (∀ t, S.tmp t = S'.tmp t) ∧ ∀ t, S.blk t = S'.blk t

theorem Sat.same {M : Nat → Prop} {n : Nat} {w0 w : World} {S S' : AS} {ρ : Nat → Value} {a : Act} (h : Sat M n w0 S ρ a w) (hs : Same S S') : Sat M n w0 S' ρ a w := by
  have hm : Mut M S ρ = Mut M S' ρ := by funext k; apply propext; unfold Mut; simp only [hs.2]
  refine ⟨h.below, h.out, h.size, h.defers, fun i => ?_, fun id b hb => ?_, fun i j bi bj k hi hj => ?_⟩
  · rw [← hs.1, ← hm]; exact h.tmps i
  · rw [← hm]; exact h.blks id b (by rw [hs.2]; exact hb)
  · exact h.dist i j bi bj k (by rw [hs.2]; exact hi) (by rw [hs.2]; exact hj)

theorem Agr.same {l : List Oper} {xs : List AI} {S0 S2 S3 : AS} {D : Nat → Prop} (h : Agr l xs S0 D S2) (h' : Agr l xs S0 D S3) : Same S2 S3 := by
  refine ⟨fun t => ?_, fun t => ?_⟩
  · by_cases hex : ∃ (i : Nat) (o : Oper) (x : AI), l[i]? = some o ∧ xs[i]? = some x ∧ D i ∧ o.dst = some t
    · obtain ⟨i, o, x, h1, h2, h3, h4⟩ := hex
      rw [h.t1 i o x t h1 h2 h3 h4, h'.t1 i o x t h1 h2 h3 h4]
    · rw [h.t2 t fun i o x h1 h2 h3 h4 => hex ⟨i, o, x, h1, h2, h3, h4⟩, h'.t2 t fun i o x h1 h2 h3 h4 => hex ⟨i, o, x, h1, h2, h3, h4⟩]
  · by_cases hex : ∃ (i : Nat) (o : Oper) (x : AI), l[i]? = some o ∧ xs[i]? = some x ∧ D i ∧ x.nb ≠ none ∧ o.dst = some t
    · obtain ⟨i, o, x, h1, h2, h3, h4, h5⟩ := hex
      obtain ⟨b, hb⟩ := Option.ne_none_iff_exists'.1 h4
      rw [h.b1 i o x t b h1 h2 h3 h5 hb, h'.b1 i o x t b h1 h2 h3 h5 hb]
    · rw [h.b2 t fun i o x h1 h2 h3 h4 h5 => hex ⟨i, o, x, h1, h2, h3, h4, h5⟩, h'.b2 t fun i o x h1 h2 h3 h4 h5 => hex ⟨i, o, x, h1, h2, h3, h4, h5⟩]

/-- What an operation that may come up reads is as it is where the text comes to it. -/
theorem Agr.reads {l : List Oper} {xs : List AI} {S0 S2 Si : AS} {listed : Array Bool} (hs : Sched l xs) (hc : Closed l listed) {i : Nat} {x : AI} (hr : i ∈ Region.ready .any l.toArray listed)
    (hx : xs[i]? = some x) (h : Agr l xs S0 (Done listed) S2) (h' : Agr l xs S0 (fun k => k < i) Si) :
    (∀ t ∈ readsOf l i, S2.tmp t = Si.tmp t) ∧ ∀ id ∈ x.bs, S2.blk id = Si.blk id := by
  have hix : i < xs.length := (List.getElem?_eq_some_iff.1 hx).1
  have hnd := (mem_ready_iff hr).2.1
  have hil := (mem_ready_iff hr).1
  have hd' : ∀ {k : Nat} {ok : Oper}, l[k]? = some ok → dstOf l k = ok.dst := fun {k ok} hk => by simp [dstOf, hk]
  refine ⟨fun t ht => ?_, fun id hid => ?_⟩
  · have iff : ∀ (k : Nat) (ok : Oper) (xk : AI), l[k]? = some ok → xs[k]? = some xk → ok.dst = some t → (Done listed k ↔ k < i) := by
      intro k ok xk h1 h2 h3
      have hkx : k < xs.length := (List.getElem?_eq_some_iff.1 h2).1
      rcases hs.reads i k t hix hkx (by rw [hd' h1, h3]) ht with h4 | ⟨h4, h5⟩ | ⟨h4, h5⟩
      · subst h4; exact ⟨fun h => (hnd h).elim, fun h => by omega⟩
      · exact ⟨fun _ => h4, fun _ => hc.ready_ord hr h5⟩
      · refine ⟨fun h => (hnd ?_).elim, fun h => by omega⟩
        exact hc.ord (k + 1) k i (by omega) (Nat.lt_of_lt_of_le hkx hs.len) h h5
    by_cases hex : ∃ (k : Nat) (ok : Oper) (xk : AI), l[k]? = some ok ∧ xs[k]? = some xk ∧ Done listed k ∧ ok.dst = some t
    · obtain ⟨k, ok, xk, h1, h2, h3, h4⟩ := hex
      rw [h.t1 k ok xk t h1 h2 h3 h4, h'.t1 k ok xk t h1 h2 ((iff k ok xk h1 h2 h4).1 h3) h4]
    · rw [h.t2 t fun k ok xk h1 h2 h3 h4 => hex ⟨k, ok, xk, h1, h2, h3, h4⟩, h'.t2 t fun k ok xk h1 h2 h3 h4 => hex ⟨k, ok, xk, h1, h2, (iff k ok xk h1 h2 h4).2 h3, h4⟩]
  · have iff : ∀ (k : Nat) (ok : Oper) (xk : AI), l[k]? = some ok → xs[k]? = some xk → ok.dst = some id → (Done listed k ∧ k < i) := by
      intro k ok xk h1 h2 h3
      have hkx : k < xs.length := (List.getElem?_eq_some_iff.1 h2).1
      obtain ⟨h4, h5⟩ := hs.blks i k id x hix hkx (by rw [hd' h1, h3]) hx hid
      exact ⟨hc.ready_ord hr h5, h4⟩
    by_cases hex : ∃ (k : Nat) (ok : Oper) (xk : AI), l[k]? = some ok ∧ xs[k]? = some xk ∧ xk.nb ≠ none ∧ ok.dst = some id
    · obtain ⟨k, ok, xk, h1, h2, h4, h5⟩ := hex
      obtain ⟨b, hb⟩ := Option.ne_none_iff_exists'.1 h4
      obtain ⟨h6, h7⟩ := iff k ok xk h1 h2 h5
      rw [h.b1 k ok xk id b h1 h2 h6 h5 hb, h'.b1 k ok xk id b h1 h2 h7 h5 hb]
    · rw [h.b2 id fun k ok xk h1 h2 _ h4 h5 => hex ⟨k, ok, xk, h1, h2, h4, h5⟩, h'.b2 id fun k ok xk h1 h2 _ h4 h5 => hex ⟨k, ok, xk, h1, h2, h4, h5⟩]

/-- How many are not done. -/
def left (listed : Array Bool) : Nat := (List.range listed.size).countP fun i => !(listed.getD i false)

theorem left_set {listed : Array Bool} {i : Nat} (hi : i < listed.size) (hn : ¬ Done listed i) : left (listed.setIfInBounds i true) + 1 = left listed := by
  unfold left
  simp only [Array.size_setIfInBounds]
  have key : ∀ (m : Nat), (List.range m).countP (fun k => !((listed.setIfInBounds i true).getD k false)) + (if i < m then 1 else 0) = (List.range m).countP (fun k => !(listed.getD k false)) := by
    intro m
    induction m with
    | zero => simp
    | succ m ih =>
      rw [List.range_succ, List.countP_append, List.countP_append, ← ih]
      simp only [List.countP_cons, List.countP_nil]
      by_cases him : i = m
      · subst him
        have e1 : (listed.setIfInBounds i true).getD i false = true := by simp [hi]
        have e2 : listed.getD i false = false := by unfold Done at hn; simpa using hn
        rw [e1, e2]
        simp
      · have e1 : (listed.setIfInBounds i true).getD m false = listed.getD m false := by
          simp only [Array.getD_eq_getD_getElem?, Array.getElem?_setIfInBounds]
          rw [if_neg him]
        rw [e1]
        by_cases h : i < m
        · have e3 : i < m + 1 := by omega
          simp only [h, e3, if_true]
          omega
        · have e3 : ¬ i < m + 1 := by omega
          simp only [h, e3, if_false]
          omega
  have := key listed.size
  rw [if_pos hi] at this
  exact this

theorem ready_or_all {l : List Oper} {xs : List AI} {listed : Array Bool} (hs : Sched l xs) (hc : Closed l listed) : Region.ready .any l.toArray listed ≠ [] ∨ ∀ i, i < l.length → Done listed i := by
  by_cases hall : ∀ i, i < l.length → Done listed i
  · exact .inr hall
  · left
    have hex : ∃ i, i < l.length ∧ ¬ Done listed i := by
      apply Classical.byContradiction
      intro h
      exact hall fun i hi => Classical.byContradiction fun hn => h ⟨i, hi, hn⟩
    -- the least that is not done may come up
    have least : ∃ i, i < l.length ∧ ¬ Done listed i ∧ ∀ j, j < i → Done listed j := by
      obtain ⟨i, hi, hn⟩ := hex
      induction i using Nat.strongRecOn with
      | _ i ih =>
        by_cases h : ∀ j, j < i → Done listed j
        · exact ⟨i, hi, hn, h⟩
        · obtain ⟨j, hj, hnj⟩ : ∃ j, j < i ∧ ¬ Done listed j := by
            apply Classical.byContradiction
            intro h2
            exact h fun j hj => Classical.byContradiction fun hn => h2 ⟨j, hj, hn⟩
          exact ih j hj (by omega) hnj
    obtain ⟨i, hi, hn, hlow⟩ := least
    intro hnil
    have : i ∈ Region.ready .any l.toArray listed := by
      unfold Region.ready
      simp only [List.size_toArray, List.mem_filter, List.mem_range, Bool.and_eq_true, Bool.not_eq_true']
      refine ⟨hi, ?_, ?_⟩
      · unfold Done at hn
        have hil : i < listed.size := by rw [hc.size]; exact hi
        simp [hil] at hn ⊢
        exact hn
      · simp only [List.getElem?_toArray, List.getElem?_eq_getElem hi, Option.map_some, Option.getD_some]
        rw [Array.all_eq_true']
        intro e he
        by_cases hb : Region.binds .any e = true
        · have := hlow e.on (hs.back i l[i] (List.getElem?_eq_getElem hi) e (by simpa using he) hb)
          unfold Done at this
          simp [hb, this]
        · simp [Bool.not_eq_true] at hb; simp [hb]
    rw [hnil] at this
    cases this

section
variable {P : Program} {n : Nat} {S : AS}

theorem readsOf_operand {l : List Oper} {i : Nat} {o : Oper} (ho : l[i]? = some o) {t : Nat} (h : Operand.tmp t ∈ o.op.operands.toList) : t ∈ readsOf l i := by
  unfold readsOf
  rw [ho]
  simp only [List.mem_append, List.mem_filterMap]
  exact .inl ⟨_, h, rfl⟩
theorem readsOf_guard {l : List Oper} {i : Nat} {o : Oper} (ho : l[i]? = some o) {j t : Nat} {want : Bool} (hg : o.guard = some (j, want)) (ht : dstOf l j = some t) : t ∈ readsOf l i := by
  unfold readsOf
  rw [ho]
  simp only [hg, ht, List.mem_append]
  exact .inr (by simp)

/-- A region that draws its order: its operations in the text's order. -/
theorem ACode.draw {id : Nat} {l : List Oper} {K : Exit → AS → Prop} (xs : List AI) (hm : P.follows .mixedOrders = true) (hsch : schedB l xs.length (xs.map (·.bs)) = true) (hmade : madeB l xs S = true)
    (hch : AChain P n l S l xs) (ht : TChain P n (K .normal) (runA S l xs) (l.drop xs.length)) : ACode P n (.region id l.toArray true) S K := by
  have hS := Sched.of hsch
  have hA := Apart.of hS hmade
  intro M w0 ρ a w Q hs hK
  have start : Agr l xs S (fun k => k < 0) S := ⟨fun i o x d _ _ h => by omega, fun _ _ => rfl, fun i o x d b _ _ h => by omega, fun _ _ => rfl⟩
  obtain ⟨hgs, hfin⟩ := runA_agr hS hA 0 S (by omega) start hch
  have main2 : ∀ (fuel t : Nat) (listed : Array Bool) (S2 : AS) (ρ : Nat → Value) (a : Act) (w : World), Closed l listed → (∀ i, i < l.length → (Done listed i ↔ i < t)) → xs.length ≤ t → left listed = fuel →
      Sat M n w0 S2 ρ a w → TChain P n (K .normal) S2 (l.drop t) → wpAny P .any l.toArray Q fuel listed a w := by
    intro fuel
    induction fuel with
    | zero =>
      intro t listed S2 ρ a w hc hd htm hl hsat htc
      have hall : ∀ i, i < l.length → Done listed i := by
        intro i hi
        apply Classical.byContradiction
        intro hn
        have := left_set (listed := listed) (by rw [hc.size]; exact hi) hn
        omega
      have htl : l.length ≤ t := by
        apply Classical.byContradiction
        intro hn
        have := (hd t (by omega)).1 (hall t (by omega))
        omega
      rw [List.drop_eq_nil_of_le htl] at htc
      refine ⟨?_, hK .normal S2 ρ a w htc hsat⟩
      rcases ready_or_all hS hc with h | _
      · exfalso
        obtain ⟨i, hi⟩ := List.exists_mem_of_ne_nil _ h
        exact (mem_ready_iff hi).2.1 (hall i (mem_ready_iff hi).1)
      · apply List.eq_nil_iff_forall_not_mem.2
        intro i hi
        exact (mem_ready_iff hi).2.1 (hall i (mem_ready_iff hi).1)
    | succ fuel ih =>
      intro t listed S2 ρ a w hc hd htm hl hsat htc
      refine ⟨fun hnil => ?_, fun i hi => ?_⟩
      · rcases ready_or_all hS hc with h | h
        · exact (h hnil).elim
        · exfalso
          unfold left at hl
          have : (List.range listed.size).countP (fun i => !(listed.getD i false)) = 0 := by
            rw [List.countP_eq_zero]
            intro k hk
            have := h k (by rw [← hc.size]; exact List.mem_range.1 hk)
            unfold Done at this
            simp [this]
          omega
      · obtain ⟨hil, hnd, o, hoi, hall⟩ := mem_ready_iff hi
        have hti : t ≤ i := by
          apply Classical.byContradiction
          intro h
          exact hnd ((hd i hil).2 (by omega))
        have hit : i = t := by
          apply Classical.byContradiction
          intro h
          have := hc.ready_ord hi (hS.tail i (by omega) hil t (by omega))
          have := (hd t (by omega)).1 this
          omega
        subst hit
        rw [List.drop_eq_getElem_cons hil] at htc
        obtain ⟨hg, S1, hst, htc⟩ := htc
        have ho : o = l[i] := by rw [List.getElem?_eq_getElem hil] at hoi; exact (Option.some.inj hoi).symm
        unfold wpOp
        simp only [List.getElem?_toArray, List.getElem?_eq_getElem hil]
        rw [if_pos (by simp [Region.wanted, hg])]
        refine .inl (hst M w0 ρ a w _ Q hsat fun ρ' a' w' hs' => ?_)
        refine ih (i + 1) _ S1 ρ' a' w' (hc.set hi) (fun k hk => ?_) (by omega) ?_ hs' htc
        · rw [done_set (by rw [hc.size]; exact hil), hd k hk]
          omega
        · have := left_set (listed := listed) (by rw [hc.size]; exact hil) hnd
          omega
  have main1 : ∀ (fuel : Nat) (listed : Array Bool) (S2 : AS) (ρ : Nat → Value) (a : Act) (w : World), Closed l listed → (∀ i, xs.length ≤ i → i < l.length → ¬ Done listed i) → Agr l xs S (Done listed) S2 → left listed = fuel →
      Sat M n w0 S2 ρ a w → wpAny P .any l.toArray Q fuel listed a w := by
    intro fuel
    induction fuel with
    | zero =>
      intro listed S2 ρ a w hc htl hagr hl hsat
      have hall : ∀ i, i < l.length → Done listed i := by
        intro i hi
        apply Classical.byContradiction
        intro hn
        have := left_set (listed := listed) (by rw [hc.size]; exact hi) hn
        omega
      refine main2 0 xs.length listed (runA S l xs) ρ a w hc (fun i hi => ⟨fun h => ?_, fun h => hall i hi⟩) (Nat.le_refl _) hl (hsat.same ?_) ht
      · apply Classical.byContradiction
        intro hn
        exact htl i (by omega) hi h
      · refine hagr.same ⟨fun i o x d h1 h2 h3 => hfin.t1 i o x d h1 h2 (List.getElem?_eq_some_iff.1 h2).1, fun t h => hfin.t2 t fun i o x h1 h2 _ => h i o x h1 h2 (hall i (List.getElem?_eq_some_iff.1 h1).1), fun i o x d b h1 h2 h3 => hfin.b1 i o x d b h1 h2 (List.getElem?_eq_some_iff.1 h2).1, fun t h => hfin.b2 t fun i o x h1 h2 _ => h i o x h1 h2 (hall i (List.getElem?_eq_some_iff.1 h1).1)⟩
    | succ fuel ih =>
      intro listed S2 ρ a w hc htl hagr hl hsat
      by_cases hallA : ∀ i, i < xs.length → Done listed i
      · refine main2 (fuel + 1) xs.length listed (runA S l xs) ρ a w hc (fun i hi => ⟨fun h => ?_, fun h => hallA i h⟩) (Nat.le_refl _) hl (hsat.same ?_) ht
        · apply Classical.byContradiction
          intro hn
          exact htl i (by omega) hi h
        · refine hagr.same ⟨fun i o x d h1 h2 h3 => hfin.t1 i o x d h1 h2 (List.getElem?_eq_some_iff.1 h2).1, fun t h => hfin.t2 t fun i o x h1 h2 h3 => h i o x h1 h2 (hallA i h3), fun i o x d b h1 h2 h3 => hfin.b1 i o x d b h1 h2 (List.getElem?_eq_some_iff.1 h2).1, fun t h => hfin.b2 t fun i o x h1 h2 h3 => h i o x h1 h2 (hallA i h3)⟩
      · refine ⟨fun hnil => ?_, fun i hi => ?_⟩
        · rcases ready_or_all hS hc with h | h
          · exact (h hnil).elim
          · exact (hallA fun i hi => h i (Nat.lt_of_lt_of_le hi hS.len)).elim
        · obtain ⟨hil, hnd, o, hoi, _⟩ := mem_ready_iff hi
          have hix : i < xs.length := by
            apply Classical.byContradiction
            intro h
            exact hallA fun j hj => hc.ready_ord hi (hS.tail i (by omega) hil j (by omega))
          have hx : xs[i]? = some xs[i] := List.getElem?_eq_getElem hix
          obtain ⟨Si, hagi, hgst⟩ := hgs i o xs[i] (by omega) hoi hx
          obtain ⟨hrt, hrb⟩ := Agr.reads hS hc hi hx hagr hagi
          have hget : ∀ y ∈ o.op.operands.toList, S2.get y = Si.get y := by
            intro y hy
            cases y with
            | tmp t => exact hrt t (readsOf_operand hoi hy)
            | _ => rfl
          have hnext := hagr.step hA hoi hx hnd (fun k hk hok => hnd (hc.ord (k + 1) k i (by omega) (by
            apply Classical.byContradiction
            intro h
            unfold Done at hk
            simp [Array.getD_eq_getD_getElem?, Array.getElem?_eq_none (by rw [hc.size]; omega : listed.size ≤ k)] at hk) hk hok))
          have cont : ∀ ρ' a' w', Sat M n w0 (S2.out o.dst xs[i].av xs[i].nb) ρ' a' w' → wpAny P .any l.toArray Q fuel (listed.setIfInBounds i true) a' w' := by
            intro ρ' a' w' hs'
            refine ih _ _ ρ' a' w' (hc.set hi) (fun k hk hkl hdk => ?_) ?_ ?_ hs'
            · rw [done_set (by rw [hc.size]; exact hil)] at hdk
              rcases hdk with h | h
              · omega
              · exact htl k hk hkl h
            · have e : (fun k => k = i ∨ Done listed k) = Done (listed.setIfInBounds i true) := by
                funext k
                apply propext
                rw [done_set (by rw [hc.size]; exact hil)]
                constructor
                · rintro (h | h)
                  · exact .inl h.symm
                  · exact .inr h
                · rintro (h | h)
                  · exact .inl h.symm
                  · exact .inr h
              rw [← e]
              exact hnext
            · have := left_set (listed := listed) (by rw [hc.size]; exact hil) hnd
              omega
          unfold wpOp
          simp only [List.getElem?_toArray, hoi]
          rcases hgst with ⟨hg, hast⟩ | ⟨j, want, t, b, hg, hdj, htn, hb, hcase⟩
          · rw [if_pos (by simp [Region.wanted, hg])]
            exact .inl (hast S2 hget hrb M w0 ρ a w _ Q hsat cont)
          · have hb2 : S2.tmp t = .p (.val b) := by rw [hrt t (readsOf_guard hoi hg hdj)]; exact hb
            have hw := hsat.wanted (ops := l.toArray) hg (by simpa [dstOf] using hdj) htn hb2
            rcases hcase with ⟨hbw, hast⟩ | ⟨hbw, hav, hnb, d, hd, hdn⟩
            · rw [if_pos (by rw [hw, hbw])]
              exact .inl (hast S2 hget hrb M w0 ρ a w _ Q hsat cont)
            · rw [if_neg (by rw [hw, hbw]; simp)]
              rw [hd]
              refine cont ρ _ w ?_
              rw [hd, hav, hnb]
              exact hsat.put_undef hdn
  refine wp_region_any hm ?_
  refine main1 _ _ S ρ a _ ⟨by simp, fun i o hi hd => ?_⟩ (fun i _ _ hd => ?_) ⟨fun i o x d _ _ h => ?_, fun _ _ => rfl, fun i o x d b _ _ h => ?_, fun _ _ => rfl⟩ ?_ (hs.ext ((Below.refl _ _).drew))
  · unfold Done at hd; rw [getD_replicate_false] at hd; cases hd
  · unfold Done at hd; rw [getD_replicate_false] at hd; cases hd
  · unfold Done at h; rw [getD_replicate_false] at h; cases h
  · unfold Done at h; rw [getD_replicate_false] at h; cases h
  · unfold left
    simp only [Array.size_replicate, List.size_toArray]
    have : ∀ k ∈ List.range l.length, (!((Array.replicate l.length false).getD k false)) = true := fun k _ => by rw [getD_replicate_false]; rfl
    rw [List.countP_eq_length.2 this, List.length_range]

end

end Go.Proofs.Ytjokcnajopfjhaa
