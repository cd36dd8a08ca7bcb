/- For every input MergeTorn returns true, and leaves its argument as it was. Conditions: none beyond the given statement. (Part 5 of 9.) -/
import Derived.Test.YtomlhekjgagjaaaDoorMn4
import Derived.Laws.BitsAllLaws
namespace Go.Proofs.YtomlhekjgagjaaaDoor
set_option maxRecDepth 100000
set_option maxHeartbeats 16000000
open Go Go.RowKit
theorem numOf_bytes : ∀ (k : Nat) (n : Int), 0 ≤ n → n < 256 ^ k → numOf (bytesOf k n) = n
  | 0, n, h0, h1 => by simp at h1; simp [bytesOf, numOf]; omega
  | k + 1, n, h0, h1 => by
    have h2 : n / 256 < 256 ^ k := by
      rw [Int.pow_succ] at h1
      omega
    rw [bytesOf, numOf, numOf_bytes k (n / 256) (by omega) h2]
    omega
theorem bytes_numOf : ∀ (l : List Int), (∀ x ∈ l, 0 ≤ x ∧ x < 256) → bytesOf l.length (numOf l) = l
  | [], _ => rfl
  | b :: l, h => by
    have hb := h b (by simp)
    have e1 : (b + 256 * numOf l) % 256 = b := by omega
    have e2 : (b + 256 * numOf l) / 256 = numOf l := by omega
    rw [List.length_cons, numOf, bytesOf, e1, e2, bytes_numOf l fun x hx => h x (by simp [hx])]
theorem encL_len (k s y u v x : Int) : (qG k s y u v x).length = if k = 1 then 41 else 9 := by
  unfold qG
  by_cases hk : k = 1
  · rw [if_pos hk, if_pos hk]; simp [bytesOf_length]
  · rw [if_neg hk, if_neg hk]; simp [bytesOf_length]
theorem numAt_mid (p q : List Int) (n : Int) (a : Nat) (ha : a = p.length) (h0 : 0 ≤ n) (h1 : n < 18446744073709551616) : wT (p ++ (bytesOf 8 n ++ q)) a = n := by
  subst ha
  have e : (bytesOf 8 n).length = 8 := bytesOf_length 8 n
  unfold wT
  rw [List.drop_left, List.take_append_of_le_length (by omega), List.take_of_length_le (by omega)]
  exact numOf_bytes 8 n h0 (by simpa using h1)
theorem may_kinds {k s y u v x : Int} (h : qP k s y u v x = true) : k = 1 ∨ (k = 2 ∨ k = 3) ∧ y = 0 ∧ u = 0 ∧ v = 0 ∧ x = 0 := by
  unfold qP at h
  by_cases h1 : k = 1
  · exact .inl h1
  · rw [if_neg h1] at h
    by_cases h2 : k = 2
    · rw [if_pos h2] at h
      simp only [Bool.and_eq_true, decide_eq_true_eq] at h
      exact .inr ⟨.inl h2, h.2⟩
    · rw [if_neg h2] at h
      by_cases h3 : k = 3
      · rw [if_pos h3] at h
        simp only [Bool.and_eq_true, decide_eq_true_eq] at h
        exact .inr ⟨.inr h3, h.2⟩
      · rw [if_neg h3] at h; cases h
theorem dec_enc {k s y u v x : Int} (h0 : 0 ≤ s) (h1 : s < 18446744073709551616) (h2 : 0 ≤ y) (h3 : y < 18446744073709551616) (h4 : 0 ≤ u) (h5 : u < 18446744073709551616) (h6 : 0 ≤ v) (h7 : v < 18446744073709551616) (h8 : 0 ≤ x) (h9 : x < 18446744073709551616) (hm : qP k s y u v x = true) :
    decR (qG k s y u v x) = [entV k s y u v x, .val (.int .i64 0)] := by
  have hl := encL_len k s y u v x
  have l8 : ∀ n, (bytesOf 8 n).length = 8 := bytesOf_length 8
  have hk := may_kinds hm
  have e0 : (qG k s y u v x).getD 0 0 = k := by
    have : (qG k s y u v x).getD 0 0 = k % 256 := by simp [qG]
    rw [this]
    omega
  have n1 : wT (qG k s y u v x) 1 = s := by
    unfold qG
    exact numAt_mid [k % 256] _ s 1 rfl h0 h1
  unfold decR
  rw [e0, n1]
  by_cases h : k = 1
  · rw [if_pos h] at hl
    have e : qG k s y u v x = k % 256 :: (bytesOf 8 s ++ (bytesOf 8 y ++ (bytesOf 8 u ++ (bytesOf 8 v ++ (bytesOf 8 x ++ []))))) := by
      unfold qG
      rw [if_pos h]
      simp
    have n2 : wT (qG k s y u v x) 9 = y := by
      rw [e]
      have := numAt_mid (k % 256 :: bytesOf 8 s) (bytesOf 8 u ++ (bytesOf 8 v ++ (bytesOf 8 x ++ []))) y 9 (by simp [l8]) h2 h3
      simpa using this
    have n3 : wT (qG k s y u v x) 17 = u := by
      rw [e]
      have := numAt_mid (k % 256 :: (bytesOf 8 s ++ bytesOf 8 y)) (bytesOf 8 v ++ (bytesOf 8 x ++ [])) u 17 (by simp [l8]) h4 h5
      simpa using this
    have n4 : wT (qG k s y u v x) 25 = v := by
      rw [e]
      have := numAt_mid (k % 256 :: (bytesOf 8 s ++ (bytesOf 8 y ++ bytesOf 8 u))) (bytesOf 8 x ++ []) v 25 (by simp [l8]) h6 h7
      simpa using this
    have n5 : wT (qG k s y u v x) 33 = x := by
      rw [e]
      have := numAt_mid (k % 256 :: (bytesOf 8 s ++ (bytesOf 8 y ++ (bytesOf 8 u ++ bytesOf 8 v)))) [] x 33 (by simp [l8]) h8 h9
      simpa using this
    rw [if_neg (by omega), if_pos hl, if_pos h, n2, n3, n4, n5]
    unfold decPut
    rw [if_pos hm]
  · rw [if_neg h] at hl
    rcases hk with hk | ⟨_, rfl, rfl, rfl, rfl⟩
    · exact absurd hk h
    · rw [if_pos hl, if_neg h]
      unfold decPut
      rw [if_pos hm]
end Go.Proofs.YtomlhekjgagjaaaDoor
namespace Go.Proofs.YtomlhekjgagjaaaDoor
set_option maxRecDepth 100000
set_option maxHeartbeats 16000000
open Go Go.RowKit
structure zV where
  k : Int
  s : Int
  y : Int
  u : Int
  v : Int
  x : Int
deriving DecidableEq
def zV.V (e : zV) : PV := entV e.k e.s e.y e.u e.v e.x
def zV.may (e : zV) : Bool := qP e.k e.s e.y e.u e.v e.x
def zV.enc (e : zV) : List Int := qG e.k e.s e.y e.u e.v e.x
structure zV.ok (e : zV) : Prop where
  s : U e.s
  y : U e.y
  u : U e.u
  v : U e.v
  x : U e.x
theorem yU (L : List zV) : ∀ e ∈ L.map zV.V, e.cells.length = 6 := fun e he => by
  obtain ⟨x, _, rfl⟩ := List.mem_map.1 he
  rfl
def vD (bs : List (List Int)) : List Int := bs.flatMap xD
theorem catF_nil : vD [] = [] := rfl
theorem catF_cons (b : List Int) (r : List (List Int)) : vD (b :: r) = xD b ++ vD r := rfl
theorem catF_append (a b : List (List Int)) : vD (a ++ b) = vD a ++ vD b := by simp [vD]
def yI (b : List Int) : Prop := ∀ x ∈ b, 0 ≤ x ∧ x < 256
theorem putF_range {b : List Int} (h : yI b) : yI (xD b) := fun x hx => by
  unfold xD at hx
  simp only [List.mem_append] at hx
  rcases hx with (hx | hx) | hx
  · exact wZ _ _ x hx
  · exact wZ _ _ x hx
  · exact h x hx
theorem wJ : ∀ (k : Nat) (n : Int), (bytesOf k n).length = k := by
  intro k
  induction k with
  | zero => intro n; rfl
  | succ k ih => intro n; simp [bytesOf, ih]
theorem vE (b : List Int) : (xD b).length = 6 + b.length := by
  unfold xD
  simp only [List.length_append, wJ]
theorem frameAt_put (pre post b : List Int) (hl : kV b) : yR (pre ++ (xD b ++ post)) pre.length = some (pre.length + 6 + b.length, b) := by
  have hd : (pre ++ (xD b ++ post)).drop pre.length = xD b ++ post := by simp
  have e1 : ((pre ++ (xD b ++ post)).drop pre.length).take 2 = bytesOf 2 b.length := by
    rw [hd]
    unfold xD
    rw [List.append_assoc, List.append_assoc, List.take_append_of_le_length (by rw [wJ]; omega), List.take_of_length_le (by rw [wJ]; omega)]
  have n1 : numOf (bytesOf 2 (b.length : Int)) = b.length := numOf_bytes 2 _ (by omega) (by have := hl.2; simp; omega)
  have hlen : (pre ++ (xD b ++ post)).length = pre.length + 6 + b.length + post.length := by
    simp only [List.length_append, vE]; omega
  have e2 : ((pre ++ (xD b ++ post)).drop (pre.length + 2)).take 4 = bytesOf 4 (xC 0 b : Nat) := by
    rw [← List.drop_drop, hd]
    unfold xD
    rw [List.append_assoc, List.append_assoc, List.drop_append_of_le_length (by rw [wJ]; omega), List.drop_of_length_le (by rw [wJ]; omega), List.nil_append, List.take_append_of_le_length (by rw [wJ]; omega), List.take_of_length_le (by rw [wJ]; omega)]
  have n2 : numOf (bytesOf 4 ((xC 0 b : Nat) : Int)) = (xC 0 b : Nat) := numOf_bytes 4 _ (by omega) (by have := moreF_lt 0 b; simp; omega)
  have e3 : ((pre ++ (xD b ++ post)).drop (pre.length + 6)).take b.length = b := by
    have e : xD b ++ post = (bytesOf 2 b.length ++ bytesOf 4 (xC 0 b : Nat)) ++ (b ++ post) := by unfold xD; simp [List.append_assoc]
    rw [← List.drop_drop, hd, e, List.drop_left' (by simp only [List.length_append, wJ]), List.take_left' rfl]
  unfold yR
  rw [e1, n1, Int.toNat_natCast, e3, e2, n2, hlen]
  have h1 := hl.1
  rw [decide_eq_true (by omega), decide_eq_true h1, decide_eq_true (by omega), decide_eq_true rfl]
  rfl
def endsF : Nat → List (List Int) → List (Nat × List Int)
  | _, [] => []
  | p, b :: r => (p + 6 + b.length, b) :: endsF (p + 6 + b.length) r
theorem framesL_cat : ∀ (bs : List (List Int)) (pre : List Int) (f : Nat), (∀ b ∈ bs, kV b) → bs.length < f → xX (pre ++ vD bs) f pre.length = endsF pre.length bs
  | [], pre, f + 1, _, _ => by
    rw [xX, frameAt_none (fun h => by have := h.1; simp [catF_nil] at this; omega)]
    rfl
  | b :: r, pre, f + 1, h, hf => by
    rw [catF_cons, xX, frameAt_put pre (vD r) b (h b (by simp))]
    have ih := framesL_cat r (pre ++ xD b) f (fun c hc => h c (by simp [hc])) (by simp at hf; omega)
    rw [List.length_append, vE, List.append_assoc] at ih
    show _ :: xX _ f (pre.length + 6 + b.length) = _
    rw [show pre.length + 6 + b.length = pre.length + (6 + b.length) by omega, ih]
    rw [endsF, show pre.length + 6 + b.length = pre.length + (6 + b.length) by omega]
theorem catF_many : ∀ (bs : List (List Int)), 6 * bs.length ≤ (vD bs).length
  | [] => by simp
  | b :: r => by rw [catF_cons, List.length_append, vE, List.length_cons]; have := catF_many r; omega
theorem framesOf_cat (bs : List (List Int)) (h : ∀ b ∈ bs, kV b) : yH (vD bs) = endsF 0 bs := by
  have := framesL_cat bs [] ((vD bs).length + 1) h (by have := catF_many bs; omega)
  exact this
theorem endsF_rows : ∀ (bs : List (List Int)) (p : Nat), (endsF p bs).map (·.2) = bs
  | [], _ => rfl
  | b :: r, p => by rw [endsF, List.map_cons, endsF_rows r]
end Go.Proofs.YtomlhekjgagjaaaDoor
namespace Go.Proofs.YtomlhekjgagjaaaDoor
set_option maxRecDepth 100000
set_option maxHeartbeats 16000000
open Go Go.RowKit
def bget : List zV → Int → Option zV
  | [], _ => none
  | x :: r, j => if x.s = j then some x else bget r j
def bput : List zV → zV → List zV
  | [], e => [e]
  | x :: r, e => if x.s = e.s then e :: r else x :: bput r e
def vC (l : List zV) : ML := l.map fun e => (e.s, e.V)
theorem mget_born : ∀ (l : List zV) (j : Int), mget (vC l) j = (bget l j).map zV.V
  | [], _ => rfl
  | x :: r, j => by
    show (if x.s = j then some x.V else mget (vC r) j) = _
    unfold bget
    split
    · rfl
    · exact mget_born r j
theorem mput_born : ∀ (l : List zV) (e : zV), mput (vC l) e.s e.V = vC (bput l e)
  | [], _ => rfl
  | x :: r, e => by
    show (if x.s = e.s then (e.s, e.V) :: vC r else (x.s, x.V) :: mput (vC r) e.s e.V) = _
    unfold bput
    split
    · rfl
    · rw [mput_born r e]; rfl
def dget : List (Int × Int) → Int → Option Int
  | [], _ => none
  | x :: r, j => if x.1 = j then some x.2 else dget r j
def dset : List (Int × Int) → Int → Int → List (Int × Int)
  | [], j, n => [(j, n)]
  | x :: r, j, n => if x.1 = j then (j, n) :: r else x :: dset r j n
def vZ (l : List (Int × Int)) : ML := l.map fun p => (p.1, .val (.int .i64 p.2))
theorem mget_dead : ∀ (l : List (Int × Int)) (j : Int), mget (vZ l) j = (dget l j).map fun n => .val (.int .i64 n)
  | [], _ => rfl
  | x :: r, j => by
    show (if x.1 = j then some _ else mget (vZ r) j) = _
    unfold dget
    split
    · rfl
    · exact mget_dead r j
theorem mput_dead : ∀ (l : List (Int × Int)) (j n : Int), mput (vZ l) j (.val (.int .i64 n)) = vZ (dset l j n)
  | [], _, _ => rfl
  | x :: r, j, n => by
    show (if x.1 = j then _ :: vZ r else _ :: mput (vZ r) j _) = _
    unfold dset
    split
    · rfl
    · rw [mput_dead r j n]; rfl
structure GD where
  born : List zV
  dead : List (Int × Int)
  bad : Bool
def GD.clash (g : GD) (e : zV) : Bool := match bget g.born e.s with
  | some x => !decide (x = e)
  | none => false
def gput (g : GD) (e : zV) : GD :=
  if e.k = 1 then { g with born := bput g.born e, bad := g.bad || g.clash e }
  else if e.k = 2 then { g with dead := dset g.dead e.s ((dget g.dead e.s).getD 0 + 1) }
  else { g with bad := true }
def GD.small (g : GD) (m : Int) : Prop := ∀ j, 0 ≤ (dget g.dead j).getD 0 ∧ (dget g.dead j).getD 0 ≤ m
end Go.Proofs.YtomlhekjgagjaaaDoor
namespace Go.Proofs.YtomlhekjgagjaaaDoor
set_option maxRecDepth 100000
set_option maxHeartbeats 16000000
open Go Go.RowKit
attribute [local semireducible] wI DOne Draws
def schedL (l : List Oper) (m : Nat) (bss : List (List Nat)) (late : List Nat) : Bool :=
  decide (m ≤ l.length) && ((List.range l.length).all fun i => match l[i]? with
    | some o => o.after.toList.all fun e => !Region.binds .any e || decide (e.on < i)
    | none => true) &&
  ((List.range m).all fun i => (List.range m).all fun j =>
    (i == j || yO l i != yO l j) && (yO l i).isSome && (decide (i < j) || !(ord l i j)) &&
    (match yO l j with
     | some t => (!(readsOf l i).contains t || i == j || (decide (j < i) && ord l j i) || (decide (i < j) && ord l i j)) && (!(bss.getD i []).contains t || (decide (j < i) && ord l j i))
     | none => true)) &&
  ((List.range l.length).all fun t => decide (t < m) || (List.range m).all fun j => ord l j t || late.contains j)
structure SchedL (l : List Oper) (xs : List AI) (late : List Nat) : Prop where
  len : xs.length ≤ l.length
  back : ∀ (i : Nat) (o : Oper), l[i]? = some o → ∀ e ∈ o.after.toList, Region.binds .any e = true → e.on < i
  one : ∀ i j, i < xs.length → j < xs.length → yO l i = yO l j → i = j
  has : ∀ i, i < xs.length → (yO l i).isSome = true
  fwd : ∀ i j, i < xs.length → j < xs.length → ord l i j = true → i < j
  reads : ∀ i j t, i < xs.length → j < xs.length → yO l j = some t → t ∈ readsOf l i → i = j ∨ (j < i ∧ ord l j i = true) ∨ (i < j ∧ ord l i j = true)
  blks : ∀ i j t x, i < xs.length → j < xs.length → yO l j = some t → xs[i]? = some x → t ∈ x.bs → j < i ∧ ord l j i = true
  tail : ∀ t, xs.length ≤ t → t < l.length → ∀ j, j < xs.length → ord l j t = true ∨ late.contains j = true
theorem SchedL.of {l : List Oper} {xs : List AI} {late : List Nat} (h : schedL l xs.length (xs.map (·.bs)) late = true) : SchedL l xs late := by
  unfold schedL at h
  simp only [Bool.and_eq_true, List.all_eq_true, List.mem_range, decide_eq_true_eq, Bool.or_eq_true] at h
  obtain ⟨⟨⟨h1, h2⟩, h3⟩, h4⟩ := h
  refine ⟨h1, fun i o ho e he hb => ?_, fun i j hi hj he => ?_, fun i hi => ?_, fun i j hi hj ho => ?_, fun i j t hi hj hd ht => ?_, fun i j t x hi hj hd hx ht => ?_, fun t ht htl j hj => ?_⟩
  · have hi : i < l.length := (List.getElem?_eq_some_iff.1 ho).1
    have := h2 i hi
    rw [ho] at this
    simp only [List.all_eq_true, Bool.or_eq_true, decide_eq_true_eq, Bool.not_eq_true'] at this
    rcases this e he with h5 | h5
    · rw [hb] at h5; cases h5
    · exact h5
  · have := (h3 i hi j hj).1.1.1
    rcases this with h5 | h5
    · simpa using h5
    · simp [he] at h5
  · exact (h3 i hi i hi).1.1.2
  · rcases (h3 i hi j hj).1.2 with h5 | h5
    · exact h5
    · simp [ho] at h5
  · have := (h3 i hi j hj).2
    rw [hd] at this
    simp only [Bool.and_eq_true, Bool.or_eq_true, decide_eq_true_eq, beq_iff_eq] at this
    rcases this.1 with ((h5 | h5) | h5) | h5
    · simp [ht] at h5
    · exact .inl h5
    · exact .inr (.inl h5)
    · exact .inr (.inr h5)
  · have := (h3 i hi j hj).2
    rw [hd] at this
    simp only [Bool.and_eq_true, Bool.or_eq_true, decide_eq_true_eq, beq_iff_eq] at this
    rcases this.2 with h5 | h5
    · exfalso
      have e : (List.map (fun x : AI => x.bs) xs).getD i [] = x.bs := by simp [List.getD_eq_getElem?_getD, hx]
      rw [e] at h5
      simp [ht] at h5
    · exact h5
  · rcases h4 t htl with h5 | h5
    · omega
    · exact h5 j hj
theorem Apart.ofL {l : List Oper} {xs : List AI} {late : List Nat} {S0 : AS} (hs : SchedL l xs late) (h : madeB l xs S0 = true) : Apart l xs S0 := by
  have hd' : ∀ {i : Nat} {o : Oper}, l[i]? = some o → yO l i = o.dst := fun {i o} ho => by simp [yO, ho]
  have hlt : ∀ {i : Nat} {x : AI}, xs[i]? = some x → i < xs.length := fun {i x} hx => (List.getElem?_eq_some_iff.1 hx).1
  have main : ∀ (i : Nat) (o : Oper) (x : AI) (d : Nat), l[i]? = some o → xs[i]? = some x → o.dst = some d → x.nb ≠ none → noRef d S0 = true ∧ ∀ (k : Nat) (x' : AI), xs[k]? = some x' →
      (ord l i k = true ∧ i ≠ k) ∨ ((i = k ∨ freeOf d x'.av = true) ∧ ∀ b, x'.nb = some b → freeOfB d b = true) := by
    intro i o x d ho hx hd hnb
    unfold madeB at h
    rw [List.all_eq_true] at h
    have h1 := h i (List.mem_range.2 (hlt hx))
    rw [hx, hd' ho, hd] at h1
    obtain ⟨b, hb⟩ := Option.ne_none_iff_exists'.1 hnb
    obtain ⟨bs, av, nb⟩ := x
    simp only at hb
    subst hb
    simp only [Bool.and_eq_true, List.all_eq_true, List.mem_range, Bool.or_eq_true] at h1
    refine ⟨h1.1, fun k x' hx' => ?_⟩
    have h2 := h1.2 k (hlt hx')
    rw [hx'] at h2
    rcases h2 with h2 | h2
    · exact .inl ⟨h2.1, by simpa using h2.2⟩
    · right
      simp only [Bool.and_eq_true, Bool.or_eq_true, beq_iff_eq] at h2
      refine ⟨h2.1, fun b' hb' => ?_⟩
      have h3 := h2.2
      rw [hb'] at h3
      exact h3
  refine ⟨fun i j o o' x x' d ho ho' hx hx' hd hd2 => hs.one i j (hlt hx) (hlt hx') (by rw [hd' ho, hd' ho', hd, hd2]), fun i k o x x' d ho hx hx' hd hnb => (main i o x d ho hx hd hnb).2 k x' hx', fun i o x d ho hx hd hnb => (main i o x d ho hx hd hnb).1, fun i o x ho hx => ?_⟩
  have := hs.has i (hlt hx)
  rw [hd' ho] at this
  exact Option.isSome_iff_exists.1 this
theorem Agr.readsL {l : List Oper} {xs : List AI} {late : List Nat} {S0 S2 Si : AS} {listed : Array Bool} (hs : SchedL l xs late) (hc : Closed l listed) {i : Nat} {x : AI} (hr : i ∈ Region.ready .any l.toArray listed)
    (hx : xs[i]? = some x) (h : Agr l xs S0 (Done listed) S2) (h' : Agr l xs S0 (fun k => k < i) Si) :
    (∀ t ∈ readsOf l i, S2.tmp t = Si.tmp t) ∧ ∀ id ∈ x.bs, S2.blk id = Si.blk id := by
  have hix : i < xs.length := (List.getElem?_eq_some_iff.1 hx).1
  have hnd := (yQ hr).2.1
  have hil := (yQ hr).1
  have hd' : ∀ {k : Nat} {ok : Oper}, l[k]? = some ok → yO l k = ok.dst := fun {k ok} hk => by simp [yO, hk]
  refine ⟨fun t ht => ?_, fun id hid => ?_⟩
  · have iff : ∀ (k : Nat) (ok : Oper) (xk : AI), l[k]? = some ok → xs[k]? = some xk → ok.dst = some t → (Done listed k ↔ k < i) := by
      intro k ok xk h1 h2 h3
      have hkx : k < xs.length := (List.getElem?_eq_some_iff.1 h2).1
      rcases hs.reads i k t hix hkx (by rw [hd' h1, h3]) ht with h4 | ⟨h4, h5⟩ | ⟨h4, h5⟩
      · subst h4; exact ⟨fun h => (hnd h).elim, fun h => by omega⟩
      · exact ⟨fun _ => h4, fun _ => hc.wM hr h5⟩
      · refine ⟨fun h => (hnd ?_).elim, fun h => by omega⟩
        exact hc.ord (k + 1) k i (by omega) (Nat.lt_of_lt_of_le hkx hs.len) h h5
    by_cases hex : ∃ (k : Nat) (ok : Oper) (xk : AI), l[k]? = some ok ∧ xs[k]? = some xk ∧ Done listed k ∧ ok.dst = some t
    · obtain ⟨k, ok, xk, h1, h2, h3, h4⟩ := hex
      rw [h.t1 k ok xk t h1 h2 h3 h4, h'.t1 k ok xk t h1 h2 ((iff k ok xk h1 h2 h4).1 h3) h4]
    · rw [h.t2 t fun k ok xk h1 h2 h3 h4 => hex ⟨k, ok, xk, h1, h2, h3, h4⟩, h'.t2 t fun k ok xk h1 h2 h3 h4 => hex ⟨k, ok, xk, h1, h2, (iff k ok xk h1 h2 h4).2 h3, h4⟩]
  · have iff : ∀ (k : Nat) (ok : Oper) (xk : AI), l[k]? = some ok → xs[k]? = some xk → ok.dst = some id → (Done listed k ∧ k < i) := by
      intro k ok xk h1 h2 h3
      have hkx : k < xs.length := (List.getElem?_eq_some_iff.1 h2).1
      obtain ⟨h4, h5⟩ := hs.blks i k id x hix hkx (by rw [hd' h1, h3]) hx hid
      exact ⟨hc.wM hr h5, h4⟩
    by_cases hex : ∃ (k : Nat) (ok : Oper) (xk : AI), l[k]? = some ok ∧ xs[k]? = some xk ∧ xk.nb ≠ none ∧ ok.dst = some id
    · obtain ⟨k, ok, xk, h1, h2, h4, h5⟩ := hex
      obtain ⟨b, hb⟩ := Option.ne_none_iff_exists'.1 h4
      obtain ⟨h6, h7⟩ := iff k ok xk h1 h2 h5
      rw [h.b1 k ok xk id b h1 h2 h6 h5 hb, h'.b1 k ok xk id b h1 h2 h7 h5 hb]
    · rw [h.b2 id fun k ok xk h1 h2 _ h4 h5 => hex ⟨k, ok, xk, h1, h2, h4, h5⟩, h'.b2 id fun k ok xk h1 h2 _ h4 h5 => hex ⟨k, ok, xk, h1, h2, h4, h5⟩]
theorem ready_or_allL {l : List Oper} {xs : List AI} {late : List Nat} {listed : Array Bool} (hs : SchedL l xs late) (hc : Closed l listed) : Region.ready .any l.toArray listed ≠ [] ∨ ∀ i, i < l.length → Done listed i := by
  by_cases hall : ∀ i, i < l.length → Done listed i
  · exact .inr hall
  · left
    have hex : ∃ i, i < l.length ∧ ¬ Done listed i := by
      apply Classical.byContradiction
      intro h
      exact hall fun i hi => Classical.byContradiction fun hn => h ⟨i, hi, hn⟩
    -- the least that is not done may come up
    have least : ∃ i, i < l.length ∧ ¬ Done listed i ∧ ∀ j, j < i → Done listed j := by
      obtain ⟨i, hi, hn⟩ := hex
      induction i using Nat.strongRecOn with
      | _ i ih =>
        by_cases h : ∀ j, j < i → Done listed j
        · exact ⟨i, hi, hn, h⟩
        · obtain ⟨j, hj, hnj⟩ : ∃ j, j < i ∧ ¬ Done listed j := by
            apply Classical.byContradiction
            intro h2
            exact h fun j hj => Classical.byContradiction fun hn => h2 ⟨j, hj, hn⟩
          exact ih j hj (by omega) hnj
    obtain ⟨i, hi, hn, hlow⟩ := least
    intro hnil
    have : i ∈ Region.ready .any l.toArray listed := by
      unfold Region.ready
      simp only [List.size_toArray, List.mem_filter, List.mem_range, Bool.and_eq_true, Bool.not_eq_true']
      refine ⟨hi, ?_, ?_⟩
      · unfold Done at hn
        have hil : i < listed.size := by rw [hc.size]; exact hi
        simp [hil] at hn ⊢
        exact hn
      · simp only [List.getElem?_toArray, List.getElem?_eq_getElem hi, Option.map_some, Option.getD_some]
        rw [Array.all_eq_true']
        intro e he
        by_cases hb : Region.binds .any e = true
        · have := hlow e.on (hs.back i l[i] (List.getElem?_eq_getElem hi) e (by simpa using he) hb)
          unfold Done at this
          simp [hb, this]
        · simp [Bool.not_eq_true] at hb; simp [hb]
    rw [hnil] at this
    cases this
theorem runA_agrL {P : Program} {n : Nat} {l : List Oper} {xs : List AI} {late : List Nat} {S0 : AS} (hs : SchedL l xs late) (hA : Apart l xs S0) :
    ∀ (m : Nat) (S : AS), m ≤ xs.length → Agr l xs S0 (fun k => k < m) S → AChain P n l S (l.drop m) (xs.drop m) →
      (∀ (i : Nat) (o : Oper) (x : AI), m ≤ i → l[i]? = some o → xs[i]? = some x → ∃ Si, Agr l xs S0 (fun k => k < i) Si ∧ GStep P n l Si o x) ∧ Agr l xs S0 (fun k => k < xs.length) (runA S (l.drop m) (xs.drop m)) := by
  intro m
  generalize hd : xs.length - m = d
  induction d generalizing m with
  | zero =>
    intro S hm hagr _
    have e : xs.length = m := by omega
    refine ⟨fun i o x hi ho hx => ?_, ?_⟩
    · have := (List.getElem?_eq_some_iff.1 hx).1; omega
    · rw [List.drop_eq_nil_of_le (by omega : xs.length ≤ m)]
      have : runA S (l.drop m) [] = S := by cases l.drop m <;> rfl
      rw [this, e]
      exact hagr
  | succ d ih =>
    intro S hm hagr hc
    have hmx : m < xs.length := by omega
    have hml : m < l.length := Nat.lt_of_lt_of_le hmx hs.len
    rw [List.drop_eq_getElem_cons hmx, List.drop_eq_getElem_cons hml] at hc
    obtain ⟨hg, hc⟩ := hc
    have ho : l[m]? = some l[m] := List.getElem?_eq_getElem hml
    have hx : xs[m]? = some xs[m] := List.getElem?_eq_getElem hmx
    have hst := hagr.step hA ho hx (by omega) (fun k hk hok => by
      have := hs.fwd m k hmx (by omega) hok
      omega)
    have e : (fun k => k = m ∨ k < m) = (fun k => k < m + 1) := by funext k; apply propext; omega
    rw [e] at hst
    obtain ⟨r1, r2⟩ := ih (m + 1) (by omega) (S.out l[m].dst xs[m].av xs[m].nb) (by omega) hst hc
    refine ⟨fun i o x hi ho' hx' => ?_, ?_⟩
    · by_cases him : i = m
      · subst him
        rw [ho] at ho'; rw [hx] at hx'
        obtain rfl := Option.some.inj ho'
        obtain rfl := Option.some.inj hx'
        exact ⟨S, hagr, hg⟩
      · exact r1 i o x (by omega) ho' hx'
    · rw [List.drop_eq_getElem_cons hmx, List.drop_eq_getElem_cons hml]
      exact r2
section
variable {P : Program} {n : Nat} {S : AS}
theorem wI.any {l : List Oper} {K : Exit → AS → Prop} {M : Nat → Nat → Prop} {w0 : Home} {Q : Exit → Act → World → Prop} (hK : ∀ e S' ρ' a' w', K (bare e) S' → Sat M n w0 S' ρ' a' w' → ExOK M S' ρ' w' e → Q e a' w') :
    ∀ (m : Nat) (listed : Array Bool) (done : List Nat) (S : AS) (ρ : Nat → Value) (a : Act) (w : World), listed.size = l.length → (∀ i, listed.getD i false = done.contains i) → wI P n l K m done S → Sat M n w0 S ρ a w → wpAny P .any l.toArray Q m listed a w := by
  intro m
  induction m with
  | zero =>
    intro listed done S ρ a w hz hl hd hs
    refine ⟨List.eq_nil_iff_forall_not_mem.2 fun i hi => ?_, hK .normal S ρ a w hd.2 hs trivial⟩
    have := (readyD_iff hz hl i).1 hi
    rw [hd.1] at this
    simp at this
  | succ m ih =>
    intro listed done S ρ a w hz hl hd hs
    refine ⟨fun hnil => ?_, fun i hi => ?_⟩
    · obtain ⟨j, hj⟩ := List.exists_mem_of_ne_nil _ hd.1
      have := (readyD_iff hz hl j).2 hj
      rw [hnil] at this
      simp at this
    · obtain ⟨hil, _, _⟩ := yQ hi
      obtain ⟨o, ho, hg, ht⟩ := hd.2 i ((readyD_iff hz hl i).1 hi)
      unfold wpOp
      simp only [List.getElem?_toArray, ho]
      rw [if_pos (by simp [Region.wanted, hg])]
      refine .inl (ht M w0 ρ a w _ Q hs (fun S1 ρ' a' w' hd1 hs' => ?_) hK)
      refine ih _ _ S1 ρ' a' w' (by simp [hz]) (fun k => ?_) hd1 hs'
      simp only [Array.getD_eq_getD_getElem?, Array.getElem?_setIfInBounds, List.contains_cons]
      by_cases hik : i = k
      · subst hik
        simp [hz, hil]
      · have : (k == i) = false := by simpa using fun e => hik e.symm
        rw [if_neg hik, this, Bool.false_or, ← hl k, Array.getD_eq_getD_getElem?]
def subs1 : List Nat → List (List Nat)
  | [] => []
  | a :: r => subs1 r ++ ([a] :: (subs1 r).map (a :: ·))
theorem filter_subs1 (p : Nat → Bool) : ∀ l : List Nat, l.filter p = [] ∨ l.filter p ∈ subs1 l
  | [] => .inl rfl
  | a :: r => by
    rw [List.filter_cons]
    by_cases h : p a = true
    · rw [if_pos h]
      right
      unfold subs1
      rcases filter_subs1 p r with h1 | h1
      · rw [h1]; exact List.mem_append.2 (.inr (List.mem_cons_self ..))
      · exact List.mem_append.2 (.inr (List.mem_cons_of_mem _ (List.mem_map.2 ⟨_, h1, rfl⟩)))
    · rw [if_neg h]
      rcases filter_subs1 p r with h1 | h1
      · exact .inl h1
      · right
        unfold subs1
        exact List.mem_append.2 (.inl h1)
def runX : Nat → List Nat → AS → List Oper → List AI → AS
  | i, X, S, o :: os, x :: xs => runX (i + 1) X (bif X.contains i then S else S.out o.dst x.av x.nb) os xs
  | _, _, S, _, _ => S
def qE (m : Nat) (X : List Nat) : List Nat := (List.range m).filter fun i => !X.contains i
def restX (l : List Oper) (done : List Nat) : List Nat := (List.range l.length).filter fun i => !done.contains i
theorem doneX_iff {m : Nat} {X : List Nat} {i : Nat} : i ∈ qE m X ↔ i < m ∧ X.contains i = false := by
  unfold qE
  rw [List.mem_filter, List.mem_range, Bool.not_eq_true']
theorem left_done {l : List Oper} {listed : Array Bool} {done : List Nat} (hz : listed.size = l.length) (h : ∀ i, listed.getD i false = done.contains i) : left listed = (restX l done).length := by
  unfold left restX
  rw [List.countP_eq_length_filter, hz]
  congr 1
  exact List.filter_congr fun i _ => by rw [h i]
theorem runX_agr {l : List Oper} {xs : List AI} {late : List Nat} {S0 : AS} (hs : SchedL l xs late) (hA : Apart l xs S0) (X : List Nat) :
    ∀ (m : Nat) (S : AS), m ≤ xs.length → Agr l xs S0 (fun k => k < m ∧ X.contains k = false) S → Agr l xs S0 (fun k => k < xs.length ∧ X.contains k = false) (runX m X S (l.drop m) (xs.drop m)) := by
  intro m
  generalize hd : xs.length - m = d
  induction d generalizing m with
  | zero =>
    intro S hm hagr
    have e : xs.length = m := by omega
    rw [List.drop_eq_nil_of_le (by omega : xs.length ≤ m)]
    have : runX m X S (l.drop m) [] = S := by cases l.drop m <;> rfl
    rw [this, e]
    exact hagr
  | succ d ih =>
    intro S hm hagr
    have hmx : m < xs.length := by omega
    have hml : m < l.length := Nat.lt_of_lt_of_le hmx hs.len
    rw [List.drop_eq_getElem_cons hmx, List.drop_eq_getElem_cons hml]
    have ho : l[m]? = some l[m] := List.getElem?_eq_getElem hml
    have hx : xs[m]? = some xs[m] := List.getElem?_eq_getElem hmx
    unfold runX
    refine ih (m + 1) (by omega) _ (by omega) ?_
    cases hX : X.contains m with
    | true =>
      have e : (fun k => k < m ∧ X.contains k = false) = (fun k => k < m + 1 ∧ X.contains k = false) := by
        funext k; apply propext
        constructor
        · rintro ⟨h1, h2⟩; exact ⟨by omega, h2⟩
        · rintro ⟨h1, h2⟩
          refine ⟨?_, h2⟩
          rcases Nat.lt_or_ge k m with h | h
          · exact h
          · have : k = m := by omega
            subst this
            rw [hX] at h2; cases h2
      rw [← e]
      exact hagr
    | false =>
      have hst := hagr.step hA ho hx (by omega) (fun k hk hok => by
        have := hs.fwd m k hmx (by omega) hok
        omega)
      have e : (fun k => k = m ∨ (k < m ∧ X.contains k = false)) = (fun k => k < m + 1 ∧ X.contains k = false) := by
        funext k; apply propext
        constructor
        · rintro (h | ⟨h1, h2⟩)
          · subst h; exact ⟨by omega, hX⟩
          · exact ⟨by omega, h2⟩
        · rintro ⟨h1, h2⟩
          rcases Nat.lt_or_ge k m with h | h
          · exact .inr ⟨h, h2⟩
          · exact .inl (by omega)
      rw [e] at hst
      exact hst
theorem zY.drawL {id : Nat} {l : List Oper} {K : Exit → AS → Prop} (xs : List AI) (late : List Nat) (hm : P.follows .mixedOrders = true) (hsch : schedL l xs.length (xs.map (·.bs)) late = true) (hmade : madeB l xs S = true)
    (hch : AChain P n l S l xs) (h0 : wI P n l K (restX l (qE xs.length [])).length (qE xs.length []) (runA S l xs))
    (h1 : ∀ X ∈ subs1 late, wI P n l K (restX l (qE xs.length X)).length (qE xs.length X) (runX 0 X S l xs)) : zY P n (.region id l.toArray true) S K := by
  have hS := SchedL.of hsch
  have hA := Apart.ofL hS hmade
  intro M w0 ρ a w Q hs hK
  have start : Agr l xs S (fun k => k < 0) S := ⟨fun i o x d _ _ h => by omega, fun _ _ => rfl, fun i o x d b _ _ h => by omega, fun _ _ => rfl⟩
  have startX : ∀ X : List Nat, Agr l xs S (fun k => k < 0 ∧ X.contains k = false) S := fun X => ⟨fun i o x d _ _ h => by omega, fun _ _ => rfl, fun i o x d b _ _ h => by omega, fun _ _ => rfl⟩
  obtain ⟨hgs, hfin⟩ := runA_agrL hS hA 0 S (by omega) start hch
  have tailD : ∀ (fuel : Nat) (listed : Array Bool) (S2 : AS) (ρ : Nat → Value) (a : Act) (w : World), Closed l listed → (∀ i, xs.length ≤ i → i < l.length → ¬ Done listed i) → (∀ i, i < xs.length → Done listed i ∨ late.contains i = true) → Agr l xs S (Done listed) S2 → left listed = fuel →
      Sat M n w0 S2 ρ a w → wpAny P .any l.toArray Q fuel listed a w := by
    intro fuel listed S2 ρ a w hc htl hnl hagr hl hsat
    let X := late.filter fun i => !(listed.getD i false)
    have hX : ∀ i, i < xs.length → (Done listed i ↔ X.contains i = false) := by
      intro i hi
      have e : X.contains i = true ↔ late.contains i = true ∧ ¬ Done listed i := by
        simp only [X, List.contains_iff_mem, List.mem_filter, Bool.not_eq_true', Done]
        simp
      constructor
      · intro h
        apply Bool.eq_false_iff.2
        intro h2
        exact (e.1 h2).2 h
      · intro h
        rcases hnl i hi with h2 | h2
        · exact h2
        · apply Classical.byContradiction
          intro h3
          rw [e.2 ⟨h2, h3⟩] at h
          cases h
    have hlt : ∀ k, Done listed k → k < xs.length := by
      intro k hk
      apply Classical.byContradiction
      intro h
      rcases Nat.lt_or_ge k l.length with h2 | h2
      · exact htl k (by omega) h2 hk
      · unfold Done at hk
        simp [Array.getD_eq_getD_getElem?, Array.getElem?_eq_none (by rw [hc.size]; omega : listed.size ≤ k)] at hk
    have hdone : ∀ i, listed.getD i false = (qE xs.length X).contains i := by
      intro i
      have h2 : Done listed i ↔ i ∈ qE xs.length X := by
        rw [doneX_iff]
        exact ⟨fun h => ⟨hlt i h, (hX i (hlt i h)).1 h⟩, fun h => (hX i h.1).2 h.2⟩
      unfold Done at h2
      rw [Bool.eq_iff_iff, h2, List.contains_iff_mem]
    have eD : Done listed = fun k => k < xs.length ∧ X.contains k = false := by
      funext k; apply propext
      exact ⟨fun h => ⟨hlt k h, (hX k (hlt k h)).1 h⟩, fun h => (hX k h.1).2 h.2⟩
    have hfuel := left_done hc.size hdone
    rw [hl] at hfuel
    rw [hfuel]
    rcases filter_subs1 (fun i => !(listed.getD i false)) late with h | h
    · have eX : X = [] := h
      rw [eX] at eD hdone ⊢
      refine wI.any hK _ listed _ (runA S l xs) ρ a w hc.size hdone h0 (hsat.same (hagr.same ?_))
      rw [eD]
      have e : (fun k => k < xs.length) = (fun k => k < xs.length ∧ ([] : List Nat).contains k = false) := by
        funext k; apply propext; simp
      rw [← e]
      exact hfin
    · refine wI.any hK _ listed _ (runX 0 X S l xs) ρ a w hc.size hdone (h1 X h) (hsat.same (hagr.same ?_))
      rw [eD]
      exact runX_agr hS hA X 0 S (by omega) (startX X)
  have main1 : ∀ (fuel : Nat) (listed : Array Bool) (S2 : AS) (ρ : Nat → Value) (a : Act) (w : World), Closed l listed → (∀ i, xs.length ≤ i → i < l.length → ¬ Done listed i) → Agr l xs S (Done listed) S2 → left listed = fuel →
      Sat M n w0 S2 ρ a w → wpAny P .any l.toArray Q fuel listed a w := by
    intro fuel
    induction fuel with
    | zero =>
      intro listed S2 ρ a w hc htl hagr hl hsat
      refine tailD 0 listed S2 ρ a w hc htl (fun i hi => .inl ?_) hagr hl hsat
      apply Classical.byContradiction
      intro hn
      have := vL (listed := listed) (by rw [hc.size]; exact Nat.lt_of_lt_of_le hi hS.len) hn
      omega
    | succ fuel ih =>
      intro listed S2 ρ a w hc htl hagr hl hsat
      by_cases hallA : ∀ i, i < xs.length → Done listed i ∨ late.contains i = true
      · exact tailD (fuel + 1) listed S2 ρ a w hc htl hallA hagr hl hsat
      · refine ⟨fun hnil => ?_, fun i hi => ?_⟩
        · rcases ready_or_allL hS hc with h | h
          · exact (h hnil).elim
          · exact (hallA fun i hi => .inl (h i (Nat.lt_of_lt_of_le hi hS.len))).elim
        · obtain ⟨hil, hnd, o, hoi, _⟩ := yQ hi
          have hix : i < xs.length := by
            apply Classical.byContradiction
            intro h
            exact hallA fun j hj => (hS.tail i (by omega) hil j hj).imp (fun h2 => hc.wM hi h2) (fun h2 => h2)
          have hx : xs[i]? = some xs[i] := List.getElem?_eq_getElem hix
          obtain ⟨Si, hagi, hgst⟩ := hgs i o xs[i] (by omega) hoi hx
          obtain ⟨hrt, hrb⟩ := Agr.readsL hS hc hi hx hagr hagi
          have hget : ∀ y ∈ o.op.operands.toList, S2.get y = Si.get y := by
            intro y hy
            cases y with
            | tmp t => exact hrt t (vM hoi hy)
            | _ => rfl
          have hnext := hagr.step hA hoi hx hnd (fun k hk hok => hnd (hc.ord (k + 1) k i (by omega) (by
            apply Classical.byContradiction
            intro h
            unfold Done at hk
            simp [Array.getD_eq_getD_getElem?, Array.getElem?_eq_none (by rw [hc.size]; omega : listed.size ≤ k)] at hk) hk hok))
          have cont : ∀ ρ' a' w', Sat M n w0 (S2.out o.dst xs[i].av xs[i].nb) ρ' a' w' → wpAny P .any l.toArray Q fuel (listed.setIfInBounds i true) a' w' := by
            intro ρ' a' w' hs'
            refine ih _ _ ρ' a' w' (hc.set hi) (fun k hk hkl hdk => ?_) ?_ ?_ hs'
            · rw [wW (by rw [hc.size]; exact hil)] at hdk
              rcases hdk with h | h
              · omega
              · exact htl k hk hkl h
            · have e : (fun k => k = i ∨ Done listed k) = Done (listed.setIfInBounds i true) := by
                funext k
                apply propext
                rw [wW (by rw [hc.size]; exact hil)]
                constructor
                · rintro (h | h)
                  · exact .inl h.symm
                  · exact .inr h
                · rintro (h | h)
                  · exact .inl h.symm
                  · exact .inr h
              rw [← e]
              exact hnext
            · have := vL (listed := listed) (by rw [hc.size]; exact hil) hnd
              omega
          unfold wpOp
          simp only [List.getElem?_toArray, hoi]
          rcases hgst with ⟨hg, hast⟩ | ⟨j, want, t, b, hg, hdj, htn, hb, hcase⟩
          · rw [if_pos (by simp [Region.wanted, hg])]
            exact .inl (hast S2 hget hrb M w0 ρ a w _ Q hsat cont)
          · have hb2 : S2.tmp t = .p (.val b) := by rw [hrt t (readsOf_guard hoi hg hdj)]; exact hb
            have hw := hsat.wanted (ops := l.toArray) hg (by simpa [yO] using hdj) htn hb2
            rcases hcase with ⟨hbw, hast⟩ | ⟨hbw, hav, hnb, d, hd, hdn⟩
            · rw [if_pos (by rw [hw, hbw])]
              exact .inl (hast S2 hget hrb M w0 ρ a w _ Q hsat cont)
            · rw [if_neg (by rw [hw, hbw]; simp)]
              rw [hd]
              refine cont ρ _ w ?_
              rw [hd, hav, hnb]
              exact hsat.put_undef hdn
  refine wp_region_any hm ?_
  refine main1 _ _ S ρ a _ ⟨by simp, fun i o hi hd => ?_⟩ (fun i _ _ hd => ?_) ⟨fun i o x d _ _ h => ?_, fun _ _ => rfl, fun i o x d b _ _ h => ?_, fun _ _ => rfl⟩ ?_ (hs.ext ((Below.refl _ _).drew))
  · unfold Done at hd; rw [getD_replicate_false] at hd; cases hd
  · unfold Done at hd; rw [getD_replicate_false] at hd; cases hd
  · unfold Done at h; rw [getD_replicate_false] at h; cases h
  · unfold Done at h; rw [getD_replicate_false] at h; cases h
  · unfold left
    simp only [Array.size_replicate, List.size_toArray]
    have : ∀ k ∈ List.range l.length, (!((Array.replicate l.length false).getD k false)) = true := fun k _ => by rw [getD_replicate_false]; rfl
    rw [List.countP_eq_length.2 this, List.length_range]
def wH (p : List Nat → Prop) : List (List Nat) → Prop
  | [] => True
  | X :: r => p X ∧ wH p r
theorem wH.all {p : List Nat → Prop} : ∀ {rs : List (List Nat)}, wH p rs → ∀ X ∈ rs, p X
  | [], _, i, hi => by simp at hi
  | j :: r, h, i, hi => by
    rcases List.mem_cons.1 hi with rfl | hi
    · exact h.1
    · exact wH.all h.2 i hi
theorem wH.nil {p : List Nat → Prop} : wH p [] := trivial
theorem wH.cons {p : List Nat → Prop} {X : List Nat} {r : List (List Nat)} (h : p X) (hr : wH p r) : wH p (X :: r) := ⟨h, hr⟩
theorem Draws.late {id : Nat} {l os : List Oper} {S0 S : AS} {K : Exit → AS → Prop} {rev : List AI} (late : List Nat) (hm : P.follows .mixedOrders = true) (hsch : schedL l rev.reverse.length (rev.reverse.map (·.bs)) late = true) (hmade : madeB l rev.reverse S0 = true)
    (h0 : wI P n l K (restX l (qE rev.reverse.length [])).length (qE rev.reverse.length []) S) (h1 : wH (fun X => wI P n l K (restX l (qE rev.reverse.length X)).length (qE rev.reverse.length X) (runX 0 X S0 l rev.reverse)) (subs1 late)) : Draws P n id l S0 K rev S os := by
  unfold Draws
  intro hc
  obtain ⟨c1, c2, c3⟩ := hc.chain
  exact zY.drawL _ late hm hsch hmade c1 (by rw [c2]; exact h0) h1.all
theorem Draws.late2 {id : Nat} {l os : List Oper} {S0 S : AS} {K : Exit → AS → Prop} {rev : List AI} (late : List Nat) (fu : Nat) (done : List Nat) (hm : P.follows .mixedOrders = true) (hsch : schedL l rev.reverse.length (rev.reverse.map (·.bs)) late = true) (hmade : madeB l rev.reverse S0 = true)
    (e1 : (restX l (qE rev.reverse.length [])).length = fu) (e2 : qE rev.reverse.length [] = done)
    (h0 : wI P n l K fu done S) (h1 : wH (fun X => wI P n l K (restX l (qE rev.reverse.length X)).length (qE rev.reverse.length X) (runX 0 X S0 l rev.reverse)) (subs1 late)) : Draws P n id l S0 K rev S os :=
  Draws.late late hm hsch hmade (by rw [e1, e2]; exact h0) h1
theorem wH.consD {l : List Oper} {S0 : AS} {K : Exit → AS → Prop} {xs : List AI} {X : List Nat} {r : List (List Nat)} {m : Nat} (fu : Nat) (done : List Nat) (e1 : (restX l (qE m X)).length = fu) (e2 : qE m X = done) (h : wI P n l K fu done (runX 0 X S0 l xs))
    (hr : wH (fun X => wI P n l K (restX l (qE m X)).length (qE m X) (runX 0 X S0 l xs)) r) : wH (fun X => wI P n l K (restX l (qE m X)).length (qE m X) (runX 0 X S0 l xs)) (X :: r) :=
  .cons (by rw [e1, e2]; exact h) hr
theorem wI.as {l : List Oper} {K : Exit → AS → Prop} {fu : Nat} {done : List Nat} {S : AS} (fu' : Nat) (done' : List Nat) (h1 : fu = fu') (h2 : done = done') (h : wI P n l K fu' done' S) : wI P n l K fu done S := by
  subst h1 h2
  exact h
end
end Go.Proofs.YtomlhekjgagjaaaDoor
namespace Go.Proofs.YtomlhekjgagjaaaDoor
set_option maxRecDepth 100000
set_option maxHeartbeats 16000000
open Go Go.RowKit
attribute [local irreducible] zZ zY Step zA Sub zL Fn
def numTo (b : List Int) (p j : Nat) : Int := numOf ((b.drop p).take j)
def wF (b : List Int) (i j : Nat) : List Int := (List.range 5).map fun p => if p < i then wT b (1 + 8 * p) else if p = i then numTo b (1 + 8 * i) j else 0
def dcells (k : Int) (vs : List Int) : List PV := .val (.int .i64 k) :: vs.map fun v => .val (.int .u64 v)
theorem numsTo_len (b : List Int) (i j : Nat) : (wF b i j).length = 5 := by simp [wF]
theorem numsTo_next (b : List Int) (i : Nat) : wF b i 8 = wF b (i + 1) 0 := by
  refine List.map_congr_left fun p _ => ?_
  by_cases h : p < i
  · rw [if_pos h, if_pos (by omega)]
  · rw [if_neg h]
    by_cases h2 : p = i
    · subst h2
      rw [if_pos rfl, if_pos (by omega)]
      rfl
    · rw [if_neg h2, if_neg (by omega)]
      by_cases h3 : p = i + 1
      · rw [if_pos h3]
        rfl
      · rw [if_neg h3]
theorem numsTo_set (b : List Int) (i j j' : Nat) : (wF b i j).set i (numTo b (1 + 8 * i) j') = wF b i j' := by
  apply List.ext_getElem?
  intro p
  rw [List.getElem?_set]
  simp only [wF, List.length_map, List.length_range, List.getElem?_map]
  by_cases hp : p < 5
  · rw [List.getElem?_range hp]
    simp only [Option.map_some]
    by_cases h : i = p
    · subst h
      rw [if_pos rfl, if_pos hp, if_neg (by omega), if_pos rfl]
    · rw [if_neg h]
      by_cases h2 : p < i
      · rw [if_pos h2, if_pos h2]
      · rw [if_neg h2, if_neg h2, if_neg (fun e => h e.symm), if_neg (fun e => h e.symm)]
  · have e : (List.range 5)[p]? = none := List.getElem?_eq_none (by simp; omega)
    rw [e]
    by_cases h : i = p
    · subst h
      rw [if_pos rfl, if_neg hp]
      rfl
    · rw [if_neg h]
      rfl
theorem numTo_succ (b : List Int) (p j : Nat) (h : p + j < b.length) : numTo b p (j + 1) = numTo b p j + b.getD (p + j) 0 * 256 ^ j := by
  have key : ∀ (j : Nat) (l : List Int), j < l.length → numOf (l.take (j + 1)) = numOf (l.take j) + l.getD j 0 * 256 ^ j := by
    intro j
    induction j with
    | zero => intro l hl; match l, hl with
      | a :: r, _ => simp [numOf]
    | succ j ih => intro l hl; match l, hl with
      | a :: r, hl =>
        rw [List.take_succ_cons, numOf, ih r (by simpa using hl), List.take_succ_cons, numOf, List.getD_cons_succ, Int.pow_succ, Int.mul_add, Int.add_assoc]
        congr 1
        rw [Int.mul_comm (256 ^ j) 256, ← Int.mul_assoc (List.getD r j 0), Int.mul_comm (List.getD r j 0) 256, Int.mul_assoc]
  unfold numTo
  rw [key j (b.drop p) (by rw [List.length_drop]; omega)]
  simp [List.getD]
theorem or64 (x c : Int) (j : Nat) (hj : j < 8) (h0 : 0 ≤ x) (h1 : x < 256 ^ j) (c0 : 0 ≤ c) (c1 : c < 256) : bits .or .u64 x (c * 256 ^ j) = x + c * 256 ^ j := by
  obtain ⟨n, rfl⟩ := Int.eq_ofNat_of_zero_le h0
  obtain ⟨m, rfl⟩ := Int.eq_ofNat_of_zero_le c0
  have e : (m : Int) * 256 ^ j = ((m * 256 ^ j : Nat) : Int) := by simp
  have hn : n < 256 ^ j := by
    have : ((n : Nat) : Int) < ((256 ^ j : Nat) : Int) := by simpa using h1
    exact Int.ofNat_lt.1 this
  have hm : m < 256 := by omega
  have hle : 256 ^ (j + 1) ≤ 256 ^ 8 := Nat.pow_le_pow_right (by decide) (by omega)
  have h2 : m * 256 ^ j < 256 ^ (j + 1) := by
    rw [Nat.pow_succ, Nat.mul_comm]
    exact Nat.mul_lt_mul_of_pos_left hm (Nat.pow_pos (by decide))
  have h3 : 256 ^ j ≤ 256 ^ (j + 1) := Nat.pow_le_pow_right (by decide) (by omega)
  have e8 : (256 : Nat) ^ 8 = 18446744073709551616 := by decide
  rw [e, u64_or_nat n (m * 256 ^ j) (by omega) (by omega)]
  have e2 : n ||| m * 256 ^ j = m * 256 ^ j + n := by
    have e3 : (256 : Nat) ^ j = 2 ^ (8 * j) := by rw [Nat.pow_mul]
    rw [e3] at hn ⊢
    rw [Nat.or_comm, ← Nat.shiftLeft_eq, Nat.shiftLeft_add_eq_or_of_lt hn]
  rw [e2]
  omega
theorem shl64 (c : Int) (j : Nat) (hj : j < 8) (c0 : 0 ≤ c) (c1 : c < 256) : IntKind.u64.wrap (c * 2 ^ (8 * (j : Int)).toNat) = c * 256 ^ j := by
  rw [pow8]
  obtain ⟨m, rfl⟩ := Int.eq_ofNat_of_zero_le c0
  have e : (m : Int) * 256 ^ j = ((m * 256 ^ j : Nat) : Int) := by simp
  have hm : m < 256 := by omega
  have hle : 256 ^ (j + 1) ≤ 256 ^ 8 := Nat.pow_le_pow_right (by decide) (by omega)
  have h2 : m * 256 ^ j < 256 ^ (j + 1) := by
    rw [Nat.pow_succ, Nat.mul_comm]
    exact Nat.mul_lt_mul_of_pos_left hm (Nat.pow_pos (by decide))
  have e8 : (256 : Nat) ^ 8 = 18446744073709551616 := by decide
  rw [e]
  exact wrap_u64 _ (by omega)
theorem fieldsA4_get (k : Int) (i : Nat) (hi : i < (zI 4 k).length) : (zI 4 k)[((i : Int)).toNat * 1]? = some (.ptr 4 (i + 1)) := by
  rw [Nat.mul_one, Int.toNat_natCast]
  unfold zI at hi ⊢
  by_cases h1 : k = 1
  · rw [if_pos h1] at hi ⊢
    match i with
    | 0 | 1 | 2 | 3 | 4 => rfl
    | i + 5 => simp at hi; omega
  · rw [if_neg h1] at hi ⊢
    by_cases h2 : k = 2 ∨ k = 3
    · rw [if_pos h2] at hi ⊢
      match i with
      | 0 => rfl
      | i + 1 => simp at hi
    · rw [if_neg h2] at hi; simp at hi
theorem fieldsA4_le (k : Int) : (zI 4 k).length ≤ 5 := by
  unfold zI
  split
  · decide
  · split <;> decide
theorem dcells_get (k : Int) (b : List Int) (i j : Nat) (hi : i < 5) : ((dcells k (wF b i j)).map AV.p)[i + 1]? = some (.p (.val (.int .u64 (numTo b (1 + 8 * i) j)))) := by
  have e : (wF b i j)[i]? = some (numTo b (1 + 8 * i) j) := by
    simp only [wF, List.getElem?_map, List.getElem?_range hi, Option.map_some]
    simp
  simp [dcells, e]
theorem splice_one {α : Type} : ∀ (xs : List α) (i : Nat) (x : α), i < xs.length → splice xs i [x] = xs.set i x := by
  intro xs i x h
  apply List.ext_getElem?
  intro p
  rw [xV (by simp; omega), List.getElem?_set]
  by_cases h1 : i = p
  · subst h1
    simp [h]
  · rw [if_neg h1]
    by_cases h2 : p < i
    · rw [if_pos h2]
    · rw [if_neg h2, if_neg (by simp; omega)]
theorem dcells_put (k : Int) (b : List Int) (i j j' : Nat) (hi : i < 5) : splice ((dcells k (wF b i j)).map AV.p) (i + 1) [.p (.val (.int .u64 (numTo b (1 + 8 * i) j')))] = (dcells k (wF b i j')).map AV.p := by
  rw [splice_one _ _ _ (by simp [dcells, numsTo_len]; omega), ← numsTo_set b i j j']
  simp [dcells, List.map_set]
theorem decR_len (b : List Int) (h : b.length ≠ 1 + 8 * (zI 4 (b.getD 0 0)).length) : decR b = decBad := by
  unfold zI at h
  unfold decR
  by_cases h9 : b.length = 9
  · rw [if_pos h9]
    by_cases h1 : b.getD 0 0 = 1
    · rw [if_pos h1]
    · rw [if_neg h1]
      rw [if_neg h1] at h
      by_cases h2 : b.getD 0 0 = 2 ∨ b.getD 0 0 = 3
      · rw [if_pos h2] at h
        simp at h
        omega
      · have : qP (b.getD 0 0) (wT b 1) 0 0 0 0 = false := by
          unfold qP
          rw [if_neg h1, if_neg (fun e => h2 (.inl e)), if_neg (fun e => h2 (.inr e))]
        unfold decPut
        rw [this]
        rfl
  · rw [if_neg h9]
    by_cases h41 : b.length = 41
    · rw [if_pos h41]
      by_cases h1 : b.getD 0 0 = 1
      · rw [if_pos h1] at h
        simp at h
        omega
      · rw [if_neg h1]
    · rw [if_neg h41]
theorem dcells_zero (b : List Int) (k : Int) : dcells k (wF b 0 0) = [.val (.int .i64 k), .val (.int .u64 0), .val (.int .u64 0), .val (.int .u64 0), .val (.int .u64 0), .val (.int .u64 0)] := by
  simp [dcells, wF, numTo, numOf, List.range, List.range.loop]
theorem row4_kill (k : Int) (id : Nat) (h : id ≠ 4) : (some (Blk.row 107 1 (zI 4 k).length ((zI 4 k).map (AV.kill id))) : Option Blk) = some (.row 107 1 (zI 4 k).length (zI 4 k)) := by
  have e : ∀ j, AV.kill id (.ptr 4 j) = .ptr 4 j := fun j => by
    show (if 4 = id then AV.any else AV.ptr 4 j) = _
    rw [if_neg (fun h' => h h'.symm)]
  have e2 : (zI 4 k).map (AV.kill id) = zI 4 k := by
    unfold zI
    split
    · simp only [List.map_cons, List.map_nil, e]
    · split
      · simp only [List.map_cons, List.map_nil, e]
      · rfl
  rw [e2]
theorem dput (k : Int) (b : List Int) (i j j' : Nat) (hi : i < 5) : (some (Blk.box 46 (splice ((dcells k (wF b i j)).map AV.p) (i + 1) [.p (.val (.int .u64 (numTo b (1 + 8 * i) j')))])) : Option Blk) = some (.box 46 ((dcells k (wF b i j')).map AV.p)) := by
  rw [dcells_put k b i j j' hi]
theorem decR_put (b : List Int) (hb : ∀ x ∈ b, 0 ≤ x ∧ x < 256) (h : b.length = 1 + 8 * (zI 4 (b.getD 0 0)).length) :
    ∃ s y u v x, dcells (b.getD 0 0) (wF b (zI 4 (b.getD 0 0)).length 0) = [.val (.int .i64 (b.getD 0 0)), .val (.int .u64 s), .val (.int .u64 y), .val (.int .u64 u), .val (.int .u64 v), .val (.int .u64 x)] ∧
      0 ≤ y ∧ y < 18446744073709551616 ∧ decR b = decPut (b.getD 0 0) s y u v x := by
  generalize hk : b.getD 0 0 = k at *
  have z : ∀ p, numTo b p 0 = 0 := fun p => rfl
  unfold decR
  rw [hk]
  unfold zI at h ⊢
  by_cases h1 : k = 1
  · rw [if_pos h1] at h ⊢
    have hl : b.length = 41 := h
    refine ⟨wT b 1, wT b 9, wT b 17, wT b 25, wT b 33, by simp [dcells, wF, List.range, List.range.loop], (numAt_range b hb 9).1, (numAt_range b hb 9).2, ?_⟩
    rw [if_neg (by omega), if_pos hl, if_pos h1]
  · rw [if_neg h1] at h ⊢
    by_cases h2 : k = 2 ∨ k = 3
    · rw [if_pos h2] at h ⊢
      have hl : b.length = 9 := h
      refine ⟨wT b 1, 0, 0, 0, 0, by simp [dcells, wF, List.range, List.range.loop, z], by decide, by decide, ?_⟩
      rw [if_pos hl, if_neg h1]
    · rw [if_neg h2] at h ⊢
      have hl : b.length = 1 := h
      refine ⟨0, 0, 0, 0, 0, by simp [dcells, wF, List.range, List.range.loop, z], by decide, by decide, ?_⟩
      rw [if_neg (by omega), if_neg (by omega)]
      have : qP k 0 0 0 0 0 = false := by
        unfold qP
        rw [if_neg h1, if_neg (fun e => h2 (.inl e)), if_neg (fun e => h2 (.inr e))]
      unfold decPut
      rw [this]
      rfl
def zeroE : List PV := [.val (.int .i64 0), .val (.int .u64 0), .val (.int .u64 0), .val (.int .u64 0), .val (.int .u64 0), .val (.int .u64 0)]
def decO (b : List Int) (k : Int) (i : Nat) : AS :=
  ⟨[(0, .p (.sl (byts b))), (2, .ptr 2 0), (3, .p (.val (.int .i64 0))), (4, .ptr 4 0), (27, .own 18), (28, .p (.val (.int .i64 (zI 4 k).length))), (29, .p (.val (.int .i64 i)))],
   [(2, .box 46 (zeroE.map AV.p)), (4, .box 46 ((dcells k (wF b i 0)).map AV.p)), (18, .row 107 1 (zI 4 k).length (zI 4 k))], .any⟩
def decI (b : List Int) (k : Int) (i j : Nat) : AS :=
  ⟨[(0, .p (.sl (byts b))), (2, .ptr 2 0), (3, .p (.val (.int .i64 0))), (4, .ptr 4 0), (6, .p (.val (.int .i64 i))), (7, .ptr 4 (i + 1)), (27, .own 18), (28, .p (.val (.int .i64 (zI 4 k).length))), (29, .p (.val (.int .i64 i))), (34, .p (.val (.int .i64 j)))],
   [(2, .box 46 (zeroE.map AV.p)), (4, .box 46 ((dcells k (wF b i j)).map AV.p)), (18, .row 107 1 (zI 4 k).length (zI 4 k))], .any⟩
theorem dec_fn (b : List Int) (h64 : b.length ≤ 9223372036854775807) (hb : ∀ x ∈ b, 0 ≤ x ∧ x < 256) : Fn Tryd.prog 66 [.sl (byts b)] (.tup (decR b)) := by
 have hk0 := getD_range b hb 0
 have hw : IntKind.i64.wrap (b.getD 0 0) = b.getD 0 0 := wrap_i64 _ (by omega)
 have hl5 := fieldsA4_le (b.getD 0 0)
 refine wU Tryd.func66 rfl Tryd.ntmps66 (Nat.le_of_ble_eq_true rfl) ?_
 repeat' (first | (refine zY.is ?_; first | refine zY.seq ?_ | (refine zY.iq 0 ?_; refine zY.rqa _ K_5 K_f ?_; refine zZ.m rfl rfl (xW rfl (by decide) rfl (by decide)) ?_; refine zZ.va rfl rfl rfl rfl (by decide) ?_; refine zZ.nil ?_) | (refine zY.iq 1 ?_; refine zY.rqh _ K_7 K_f ?_; refine zZ.vm rfl rfl rfl rfl (by decide) ?_; refine zZ.v rfl rfl (xH rfl rfl rfl (by decide)) ?_; refine zZ.v rfl rfl (yM rfl rfl rfl (by rfl) rfl (by decide)) ?_; refine zZ.nil ?_) | (refine zY.iq 2 ?_; refine zY.rqh _ K_7 K_f ?_; refine zZ.v rfl rfl (vV rfl (by rfl) (by rfl) (by rfl) (by rfl) rfl (by decide)) ?_; refine zZ.w rfl (by exact yB rfl rfl rfl rfl rfl (by rfl) (by exact Nat.le_of_ble_eq_true rfl) rfl rfl) ?_; refine zZ.va rfl rfl rfl rfl (by decide) ?_; refine zZ.nil ?_) | (refine zY.iq 3 ?_; refine zY.rqh _ K_7 K_f ?_; refine zZ.vm rfl rfl rfl rfl (by decide) ?_; (refine zZ.v rfl rfl (by exact wE rfl rfl rfl (by (simp only [decide_eq_true_eq, decide_eq_false_iff_not, Bool.not_eq_true', Bool.not_eq_false'] at *; omega)) rfl (by decide)) ?_); refine zZ.v rfl rfl (zP rfl rfl rfl rfl (by decide)) ?_; refine zZ.v rfl rfl (xZ rfl rfl hw rfl (by decide)) ?_; refine zZ.v rfl rfl (vV rfl (by rfl) (by rfl) (by rfl) (by rfl) rfl (by decide)) ?_; refine zZ.m rfl rfl (xW rfl (by decide) rfl (by decide)) ?_; refine zZ.w rfl (by exact yB rfl rfl rfl rfl rfl (by rfl) (by exact Nat.le_of_ble_eq_true rfl) rfl rfl) ?_; refine zZ.nil ?_) | (refine zY.iq 4 ?_; refine zY.rqh _ K_k K_f ?_; refine zZ.m rfl rfl (w_fields rfl rfl rfl rfl rfl (by decide)) ?_; refine zZ.v rfl rfl (zN rfl rfl rfl (by decide)) ?_; refine zZ.nil ?_) | (refine zY.isR (id := 5) ?_; refine zY.zK [0, 2, 3, 4, 5] [2, 4, 10, 18, 20, 22, 28, 57] (by repeat' first | exact zX.nil | apply zX.p rfl | apply zX.ptr rfl | apply zX.own rfl) (by repeat' first | exact zW.nil | apply zW.boxP rfl rfl | apply zW.some rfl | apply zW.skip) ?_; refine zZ.vm rfl rfl rfl rfl (by decide) ?_; refine zZ.v rfl rfl (xH rfl rfl rfl (by decide)) ?_; refine zZ.v rfl rfl (yJ rfl rfl rfl (by decide)) ?_; refine zZ.v rfl rfl (w_lenO rfl rfl rfl rfl (by decide)) ?_; refine zZ.v rfl rfl (by exact a_mul rfl rfl rfl (by exact wrap_i64 _ (by omega)) rfl (by decide)) ?_; refine zZ.v rfl rfl (by exact yX rfl rfl rfl (by exact wrap_i64 _ (by omega)) rfl (by decide)) ?_; refine zZ.v rfl rfl (vJ rfl rfl rfl (by rfl) rfl (by decide)) ?_; refine zZ.nil ?_) | (refine zY.isR (id := 6) ?_; refine zY.zK [0, 2, 3, 4, 5] [2, 4, 10, 18, 20, 22, 28, 57] (by repeat' first | exact zX.nil | apply zX.p rfl | apply zX.ptr rfl | apply zX.own rfl) (by repeat' first | exact zW.nil | apply zW.boxP rfl rfl | apply zW.some rfl | apply zW.skip) ?_; refine zZ.v rfl rfl (vV rfl (by rfl) (by rfl) (by rfl) (by rfl) rfl (by decide)) ?_; refine zZ.w rfl (by exact yB rfl rfl rfl rfl rfl (by rfl) (by exact Nat.le_of_ble_eq_true rfl) rfl rfl) ?_; refine zZ.va rfl rfl rfl rfl (by decide) ?_; refine zZ.nil ?_) | (refine zY.isR (id := 7) ?_; refine zY.zK [0, 2, 3, 4, 5] [2, 4, 10, 18, 20, 22, 28, 57] (by repeat' first | exact zX.nil | apply zX.p rfl | apply zX.ptr rfl | apply zX.own rfl) (by repeat' first | exact zW.nil | apply zW.boxP rfl rfl | apply zW.some rfl | apply zW.skip) ?_; refine zZ.v rfl rfl (yJ rfl rfl rfl (by decide)) ?_; refine zZ.v rfl rfl (w_lenO rfl rfl rfl rfl (by decide)) ?_; refine zZ.vm rfl rfl rfl rfl (by decide) ?_; refine zZ.nil ?_) | refine zY.cond rfl (fun h => ?_) (fun h => ?_) | refine zY.skip ?_ | refine zY.block ?_ | refine zY.ret ?_) | refine zH.r ?_)
 ·have hz : b.length = 0 := by simpa using h
  refine ⟨.inl rfl, _, Sub.refl _, .tupE (rs := [.cell 2 46, .tmp 3]) rfl (by decide) (.cons (.cellN rfl rfl (by rfl) (by rfl)) (.cons (.tmp rfl) .nil)) ?_⟩
  unfold decR
  rw [if_neg (by omega), if_neg (by omega)]
  rfl
 ·rename_i h
  have hz : b.length ≠ 1 + 8 * (zI 4 (b.getD 0 0)).length := by
   intro e
   rw [e] at h
   simp at h
  refine ⟨.inl rfl, _, Sub.refl _, .tupE (rs := [.cell 2 46, .tmp 3]) rfl (by decide) (.cons (.cellN rfl rfl (by rfl) (by rfl)) (.cons (.tmp rfl) .nil)) ?_⟩
  exact decR_len b hz
 ·rename_i h
  have hbl : b.length = 1 + 8 * (zI 4 (b.getD 0 0)).length := by
   simp only [Bool.not_eq_eq_eq_not, Bool.not_false, decide_eq_true_eq] at h
   omega
  refine zY.loop (decO b (b.getD 0 0)) (fun i => i ≤ (zI 4 (b.getD 0 0)).length) (fun i => (zI 4 (b.getD 0 0)).length - i) 0 ?h0 (Nat.zero_le _) ?rd
  case h0 =>
   unfold decO
   rw [dcells_zero]
   refine sub_keep (is := [0, 2, 3, 4, 27, 28, 29]) (js := [2, 4, 18]) ?_ (.boxP rfl rfl (.boxP rfl rfl (.some (row4_kill (b.getD 0 0) 18 (by decide)) .nil)))
   repeat' first | exact zX.nil | apply zX.p rfl | apply zX.ptr rfl | apply zX.own rfl | apply zX.clo rfl | apply zX.pt rfl | apply zX.tup rfl | apply zX.skip
  case rd =>
   intro i hi
   by_cases hc : i < (zI 4 (b.getD 0 0)).length
   ·have hdec : decide ((i : Int) < ((zI 4 (b.getD 0 0)).length : Int)) = true := by simpa using hc
    have f1 := fieldsA4_get (b.getD 0 0) i hc
    have f3 : (0 : Int) ≤ (i : Int) ∧ ((i : Int)).toNat < (zI 4 (b.getD 0 0)).length := by omega
    repeat' ((refine zY.is ?_; first | refine zY.seq ?_ | (refine zY.iq 8 ?_; refine zY.rqe _ K_14 K_f ?_; refine zZ.v rfl rfl (yZ rfl rfl rfl (by rfl) rfl (by decide)) ?_; refine zZ.nil ?_) | (refine zY.iq 9 ?_; refine zY.rqe _ K_14 K_f ?_; refine zZ.vm rfl rfl rfl rfl (by decide) ?_; refine zZ.v rfl rfl (by exact w_indexO rfl rfl rfl rfl (by omega) rfl (by decide)) ?_; refine zZ.v rfl rfl (w_loadP rfl rfl rfl f1 rfl (by decide)) ?_; refine zZ.va rfl rfl rfl rfl (by decide) ?_; refine zZ.v rfl rfl (a_assignR rfl rfl rfl (by decide)) ?_; refine zZ.nil ?_) | (refine zY.iq 10 ?_; refine zY.rqe _ K_14 K_f ?_; refine zZ.vm rfl rfl rfl rfl (by decide) ?_; refine zZ.nil ?_) | refine zY.yC rfl (by assumption) ?_ | refine zY.skip ?_ | refine zY.block ?_))
    refine zY.loop (decI b (b.getD 0 0) i) (fun j => j ≤ 8) (fun j => 8 - j) 0 ?h0 (Nat.zero_le _) ?rd
    case h0 =>
     exact zD K_3q K_2v
    case rd =>
     intro j hj
     by_cases hj8 : j < 8
     ·have hb8 : decide ((j : Int) < 8) = true := by simp; omega
      have hj8' : (j : Int) < 8 := by omega
      have f2 := dcells_get (b.getD 0 0) b i j (by omega)
      have hC := getD_range b hb (1 + 8 * i + j)
      have e0 : (1 + 8 * (i : Int) + (j : Int)).toNat = 1 + 8 * i + j := by omega
      have g1 : IntKind.u64.wrap (b.getD (1 + 8 * (i : Int) + (j : Int)).toNat 0) = b.getD (1 + 8 * i + j) 0 := by rw [e0]; exact wrap_u64 _ (by omega)
      have g2 := shl64 (b.getD (1 + 8 * i + j) 0) j hj8 hC.1 hC.2
      have hN : 0 ≤ numTo b (1 + 8 * i) j ∧ numTo b (1 + 8 * i) j < 256 ^ j := numOf_small (b.drop (1 + 8 * i)) j fun x hx => hb x (List.mem_of_mem_drop hx)
      have g3 : bits .or .u64 (numTo b (1 + 8 * i) j) (b.getD (1 + 8 * i + j) 0 * 256 ^ j) = numTo b (1 + 8 * i) (j + 1) := by
       rw [or64 _ _ j hj8 hN.1 hN.2 hC.1 hC.2, numTo_succ b (1 + 8 * i) j (by omega)]
      have f4 : i + 1 + 1 ≤ ((dcells (b.getD 0 0) (wF b i j)).map AV.p).length := by simp [dcells, numsTo_len]; omega
      repeat' (first | (refine zY.is ?_; first | refine zY.seq ?_ | (refine zY.iq 11 ?_; refine zY.rqe _ K_14 K_f ?_; refine zZ.v rfl rfl (yZ rfl rfl rfl (by rfl) rfl (by decide)) ?_; refine zZ.nil ?_) | (refine zY.iq 12 ?_; refine zY.rqe _ K_14 K_f ?_; refine zZ.vm rfl rfl rfl rfl (by decide) ?_; refine zZ.va rfl rfl rfl rfl (by decide) ?_; refine zZ.nil ?_) | (refine zY.isR (id := 13) ?_; refine zY.xE [0, 2, 3, 4, 6, 7, 8, 27, 28, 29, 30, 34, 35] [2, 4, 10, 18, 20, 22, 28, 57] (by repeat' first | exact zX.nil | apply zX.p rfl | apply zX.ptr rfl | apply zX.own rfl | apply zX.skip) (by repeat' first | exact zW.nil | apply zW.boxP rfl rfl | apply zW.some rfl | apply zW.skip) (zY.draws ?_); all_goals (refine Draws.v rfl rfl (zO rfl rfl rfl (by decide)) ?_); all_goals (refine Draws.v rfl rfl (yD rfl rfl rfl (by decide)) ?_); all_goals (refine Draws.v rfl rfl (zB rfl rfl rfl f2 rfl (by decide)) ?_); all_goals (refine Draws.v rfl rfl (zQ rfl rfl rfl (by decide)) ?_); all_goals (refine Draws.v rfl rfl (zQ rfl rfl rfl (by decide)) ?_); all_goals (refine Draws.v rfl rfl (by exact a_mul rfl rfl rfl (by exact wrap_i64 _ (by omega)) rfl (by decide)) ?_); all_goals (refine Draws.v rfl rfl (by exact yX rfl rfl rfl (by exact wrap_i64 _ (by omega)) rfl (by decide)) ?_); all_goals (refine Draws.v rfl rfl (zQ rfl rfl rfl (by decide)) ?_); all_goals (refine Draws.v rfl rfl (by exact yX rfl rfl rfl (by exact wrap_i64 _ (by omega)) rfl (by decide)) ?_); all_goals (refine Draws.v rfl rfl (by exact wE rfl rfl rfl (by omega) rfl (by decide)) ?_); all_goals (refine Draws.v rfl rfl (zP rfl rfl rfl rfl (by decide)) ?_); all_goals (refine Draws.v rfl rfl (xZ rfl rfl g1 rfl (by decide)) ?_); all_goals (refine Draws.v rfl rfl (zQ rfl rfl rfl (by decide)) ?_); all_goals (refine Draws.v rfl rfl (by exact a_mul rfl rfl rfl (by exact wrap_i64 _ (by omega)) rfl (by decide)) ?_); all_goals (refine Draws.v rfl rfl (by exact a_shl rfl rfl rfl (by omega) (by (simp only [IntKind.bits]; omega)) g2 rfl (by decide)) ?_); all_goals (refine Draws.v rfl rfl (a_or rfl rfl rfl g3 rfl (by decide)) ?_); all_goals (refine Draws.v rfl rfl (yD rfl rfl rfl (by decide)) ?_); all_goals ((refine Draws.done (by kernel_rfl) (by kernel_rfl) (by kernel_rfl) ?_; refine zL.w rfl (yB rfl rfl rfl rfl rfl (by rfl) f4 rfl rfl) ?_)); all_goals (refine zL.nil ?_)) | (refine zY.iq 14 ?_; refine zY.rqe _ K_14 K_f ?_; refine zZ.v rfl rfl (by exact yX rfl rfl rfl (by exact wrap_i64 _ (by omega)) rfl (by decide)) ?_; refine zZ.vm rfl rfl rfl rfl (by decide) ?_; refine zZ.nil ?_) | refine zY.yC rfl (by assumption) ?_ | refine zY.skip ?_ | refine zY.block ?_) | refine zH.n ?_)
      refine ⟨j + 1, ?_, by omega, by omega⟩
      refine sub_keep (is := [0, 2, 3, 4, 6, 7, 27, 28, 29, 34]) (js := [2, 4, 18]) ?_ (.boxP rfl rfl (.some (dput (b.getD 0 0) b i j (j + 1) (by omega)) (.some rfl .nil)))
      repeat' first | exact zX.nil | apply zX.p rfl | apply zX.ptr rfl | apply zX.own rfl | apply zX.clo rfl | apply zX.pt rfl | apply zX.tup rfl | apply zX.skip
     ·have hb8 : decide ((j : Int) < 8) = false := by simp; omega
      obtain rfl : j = 8 := by omega
      repeat' (first | (refine zY.is ?_; first | refine zY.seq ?_ | (refine zY.iq 11 ?_; refine zY.rqe _ K_14 K_f ?_; refine zZ.v rfl rfl (by exact yZ rfl rfl rfl (by exact bF (by decide)) rfl (by decide)) ?_; refine zZ.nil ?_) | (refine zY.iq 15 ?_; refine zY.rqe _ K_14 K_f ?_; refine zZ.v rfl rfl (by exact yX rfl rfl rfl (by exact wrap_i64 _ (by omega)) rfl (by decide)) ?_; refine zZ.vm rfl rfl rfl rfl (by decide) ?_; refine zZ.nil ?_) | refine zY.yF rfl (by assumption) ?_ | refine zY.exit ?_) | refine zH.n ?_)
      refine ⟨i + 1, ?_, by omega, by omega⟩
      unfold decO
      rw [← numsTo_next]
      exact zD K_3r K_2v
   ·have hdec : decide ((i : Int) < ((zI 4 (b.getD 0 0)).length : Int)) = false := by simpa using hc
    obtain rfl : i = (zI 4 (b.getD 0 0)).length := by omega
    obtain ⟨s, y, u, v, x, e, hy0, hy1, hr⟩ := decR_put b hb hbl
    unfold decO
    rw [e, hr]
    repeat' (first | (refine zY.is ?_; first | refine zY.seq ?_ | (refine zY.iq 8 ?_; refine zY.rqe _ K_14 K_f ?_; refine zZ.v rfl rfl (yZ rfl rfl rfl (by rfl) rfl (by decide)) ?_; refine zZ.nil ?_) | (refine zY.iq 16 ?_; refine zY.rql _ K_v K_f ?_; refine zZ.v rfl rfl (xY rfl rfl rfl (by rfl) (by rfl) rfl (by decide)) ?_; refine zZ.v rfl rfl (by exact yE (may_fn _ _ _ _ _ _ hy0 hy1) rfl rfl rfl (by decide)) ?_; refine zZ.v rfl rfl (xR rfl rfl (by rfl) rfl (by decide)) ?_; refine zZ.nil ?_) | (refine zY.iq 17 ?_; refine zY.rql _ K_v K_f ?_; refine zZ.v rfl rfl (vV rfl (by rfl) (by rfl) (by rfl) (by rfl) rfl (by decide)) ?_; refine zZ.w rfl (by exact yB rfl rfl rfl rfl rfl (by rfl) (by exact Nat.le_of_ble_eq_true rfl) rfl rfl) ?_; refine zZ.va rfl rfl rfl rfl (by decide) ?_; refine zZ.nil ?_) | (refine zY.iq 18 ?_; refine zY.rql _ K_v K_f ?_; refine zZ.v rfl rfl (xY rfl rfl rfl (by rfl) (by rfl) rfl (by decide)) ?_; refine zZ.w rfl (by exact yB rfl rfl rfl rfl rfl (by rfl) (by exact Nat.le_of_ble_eq_true rfl) rfl rfl) ?_; refine zZ.va rfl rfl rfl rfl (by decide) ?_; refine zZ.nil ?_) | refine zY.yF rfl (by assumption) ?_ | refine zY.cond rfl (fun h => ?_) (fun h => ?_) | refine zY.skip ?_ | refine zY.exit ?_ | refine zY.ret ?_) | refine zH.r ?_)
    ·rename_i h
     have hm : qP (b.getD 0 0) s y u v x = false := by simpa only [Bool.not_eq_eq_eq_not, Bool.not_true] using h
     refine ⟨.inl rfl, _, Sub.refl _, .tupE (rs := [.cell 2 46, .tmp 3]) rfl (by decide) (.cons (.cellN rfl rfl (by rfl) (by rfl)) (.cons (.tmp rfl) .nil)) ?_⟩
     unfold decPut
     rw [hm]
     rfl
    ·rename_i h
     have hm : qP (b.getD 0 0) s y u v x = true := by simpa only [Bool.not_eq_eq_eq_not, Bool.not_false] using h
     refine ⟨.inl rfl, _, Sub.refl _, .tupE (rs := [.cell 2 46, .tmp 3]) rfl (by decide) (.cons (.cellN rfl rfl (by rfl) (by rfl)) (.cons (.tmp rfl) .nil)) ?_⟩
     unfold decPut
     rw [hm]
     rfl
end Go.Proofs.YtomlhekjgagjaaaDoor
namespace Go.Proofs.YtomlhekjgagjaaaDoor
set_option maxRecDepth 100000
set_option maxHeartbeats 16000000
open Go Go.RowKit
attribute [local irreducible] zZ zY Step zA Sub zL Fn
end Go.Proofs.YtomlhekjgagjaaaDoor
namespace Go.Proofs.YtomlhekjgagjaaaDoor
set_option maxRecDepth 100000
set_option maxHeartbeats 16000000
open Go Go.RowKit
end Go.Proofs.YtomlhekjgagjaaaDoor
namespace Go.Proofs.YtomlhekjgagjaaaDoor
set_option maxRecDepth 100000
set_option maxHeartbeats 16000000
open Go Go.RowKit
attribute [local irreducible] zZ zY Step zA Sub zL Fn
def U64 (x : Int) : Prop := 0 ≤ x ∧ x < 18446744073709551616
end Go.Proofs.YtomlhekjgagjaaaDoor
namespace Go.Proofs.YtomlhekjgagjaaaDoor
set_option maxRecDepth 100000
set_option maxHeartbeats 16000000
open Go Go.RowKit
attribute [local irreducible] zZ zY Step zA Sub zL z8 Fn
def gB (g : GD) : List Blk := [.box 65 [.own 1001, .own 1002, .p (.val (.bool g.bad))], mapB (vC g.born), mapB (vZ g.dead)]
def gBl (b : Bool) (L1 L2 : ML) : List Blk := [.box 65 [.own 1001, .own 1002, .p (.val (.bool b))], mapB L1, mapB L2]
theorem gput_bad {g : GD} {e : zV} (h1 : e.k ≠ 1) (h2 : e.k ≠ 2) : gB (gput g e) = gBl true (vC g.born) (vZ g.dead) := by
  unfold gput; rw [if_neg h1, if_neg h2]; rfl
theorem gput_dead {g : GD} {e : zV} (h2 : e.k = 2) : gB (gput g e) = gBl g.bad (vC g.born) (mput (vZ g.dead) e.s (.val (.int .i64 ((dget g.dead e.s).getD 0 + 1)))) := by
  unfold gput
  have h1 : e.k ≠ 1 := by omega
  rw [if_neg h1, if_pos h2, mput_dead]; rfl
theorem gput_new {g : GD} {e : zV} (h1 : e.k = 1) (hb : bget g.born e.s = none) : gB (gput g e) = gBl g.bad (mput (vC g.born) e.s e.V) (vZ g.dead) := by
  unfold gput GD.clash
  rw [if_pos h1, hb, mput_born, Bool.or_false]; rfl
theorem gput_old {g : GD} {e x : zV} (h1 : e.k = 1) (hb : bget g.born e.s = some x) : gB (gput g e) = gBl (g.bad || !decide (x = e)) (mput (vC g.born) e.s e.V) (vZ g.dead) := by
  unfold gput GD.clash
  rw [if_pos h1, hb, mput_born]; rfl
theorem ent_eq (k s y u v x k' s' y' u' v' x' : Int) : (!decide ((⟨k, s, y, u, v, x⟩ : zV) = ⟨k', s', y', u', v', x'⟩)) = (!decide ([(IntKind.i64, k), (IntKind.u64, s), (IntKind.u64, y), (IntKind.u64, u), (IntKind.u64, v), (IntKind.u64, x)] = [(IntKind.i64, k'), (IntKind.u64, s'), (IntKind.u64, y'), (IntKind.u64, u'), (IntKind.u64, v'), (IntKind.u64, x')])) := by
  congr 1
  rw [decide_eq_decide]
  simp
theorem gput_bad_fn (g : GD) (k s y u v x : Int) (h1 : k ≠ 1) (h2 : k ≠ 2) : FnZ Tryd.prog 50 [.ptr 1000 0, .p (entV k s y u v x)] (gB g) [] .any (gBl true (vC g.born) (vZ g.dead)) [] := by
  refine vO [1000, 1001, 1002] Tryd.func50 rfl Tryd.ntmps50 (Nat.le_of_ble_eq_true rfl) (Nat.le_of_ble_eq_true rfl) rfl rfl ?_
  obtain ⟨born, dead, bad⟩ := g
  have c1 : decide (k = 1) = false := decide_eq_false h1
  have c2 : decide (k = 2) = false := decide_eq_false h2
  repeat' (first | (refine zY.is ?_; first | refine zY.seq ?_ | (refine zY.iq 0 ?_; refine zY.rqi _ K_h K_6 ?_; refine zZ.m rfl rfl (vQ rfl rfl rfl (by decide)) ?_; refine zZ.nil ?_) | (refine zY.iq 1 ?_; refine zY.rqp _ K_1h K_6 ?_; refine zZ.v rfl rfl (zJ rfl rfl rfl (by decide)) ?_; refine zZ.v rfl rfl (zB rfl rfl rfl (by rfl) rfl (by decide)) ?_; refine zZ.nil ?_) | (refine zY.iq 3 ?_; refine zY.rql _ K_l K_6 ?_; refine zZ.v rfl rfl (yM rfl rfl rfl c1 rfl (by decide)) ?_; refine zZ.va rfl rfl rfl rfl (by decide) ?_; refine zZ.nil ?_) | (refine zY.iq 7 ?_; refine zY.rql _ K_l K_6 ?_; refine zZ.v rfl rfl (yM rfl rfl rfl c2 rfl (by decide)) ?_; refine zZ.va rfl rfl rfl rfl (by decide) ?_; refine zZ.nil ?_) | (refine zY.iq 2 ?_; refine zY.rqp _ K_5 K_6 ?_; refine zZ.v rfl rfl (zO rfl rfl rfl (by decide)) ?_; refine zZ.v rfl rfl (yD rfl rfl rfl (by decide)) ?_; refine zZ.v rfl rfl (zJ rfl rfl rfl (by decide)) ?_; refine zZ.w rfl (by exact yB rfl rfl rfl rfl rfl (by rfl) (by exact Nat.le_of_ble_eq_true rfl) rfl rfl) ?_; refine zZ.nil ?_) | refine zY.yF rfl (by first | assumption | with_reducible rfl) ?_ | refine zY.block ?_) | refine zS.n ?_)
  all_goals exact ⟨.inr rfl, _, Sub.refl _, .none rfl, zG (by decide) rfl (by repeat' first | exact trivial | rfl | constructor)⟩
theorem gput_dead_fn (g : GD) (k s y u v x : Int) (n : Int) (hn : mget (vZ g.dead) s = some (.val (.int .i64 n)) ∨ (mget (vZ g.dead) s = none ∧ n = 0)) (h0 : 0 ≤ n) (h1 : n ≤ 1000000000) (hk : k = 2) : FnZ Tryd.prog 50 [.ptr 1000 0, .p (entV k s y u v x)] (gB g) [] .any (gBl g.bad (vC g.born) (mput (vZ g.dead) s (.val (.int .i64 (n + 1))))) [] := by
 refine vO [1000, 1001, 1002] Tryd.func50 rfl Tryd.ntmps50 (Nat.le_of_ble_eq_true rfl) (Nat.le_of_ble_eq_true rfl) rfl rfl ?_
 obtain ⟨born, dead, bad⟩ := g
 subst hk
 have c3 : IntKind.i64.wrap (n + 1) = n + 1 := wrap_i64 _ (by omega)
 rcases hn with m1 | ⟨m1, rfl⟩
 ·
  repeat' (first | (refine zY.is ?_; first | refine zY.seq ?_ | (refine zY.iq 0 ?_; refine zY.rqi _ K_h K_6 ?_; refine zZ.m rfl rfl (vQ rfl rfl rfl (by decide)) ?_; refine zZ.nil ?_) | (refine zY.iq 1 ?_; refine zY.rqp _ K_1h K_6 ?_; refine zZ.v rfl rfl (zJ rfl rfl rfl (by decide)) ?_; refine zZ.v rfl rfl (zB rfl rfl rfl (by rfl) rfl (by decide)) ?_; refine zZ.nil ?_) | (refine zY.iq 3 ?_; refine zY.rql _ K_l K_6 ?_; refine zZ.v rfl rfl (by exact yM rfl rfl rfl (by exact bF (by decide)) rfl (by decide)) ?_; refine zZ.va rfl rfl rfl rfl (by decide) ?_; refine zZ.nil ?_) | (refine zY.iq 7 ?_; refine zY.rql _ K_l K_6 ?_; refine zZ.v rfl rfl (by exact yM rfl rfl rfl (by exact bT (by decide)) rfl (by decide)) ?_; refine zZ.va rfl rfl rfl rfl (by decide) ?_; refine zZ.nil ?_) | (refine zY.isR (id := 8) ?_; refine zY.xE [0, 3] [3, 4, 1000, 1001, 1002] (by repeat' first | exact zX.nil | apply zX.ptr rfl) (by repeat' first | exact zW.nil | apply zW.boxP rfl rfl | apply zW.some rfl | apply zW.skip) (zY.draws ?_); all_goals (refine Draws.v rfl rfl (zO rfl rfl rfl (by decide)) ?_); all_goals (refine Draws.v rfl rfl (yD rfl rfl rfl (by decide)) ?_); all_goals (refine Draws.v rfl rfl (zJ rfl rfl rfl (by decide)) ?_); all_goals (refine Draws.v rfl rfl (y8 rfl rfl rfl rfl rfl (by decide)) ?_); all_goals (refine Draws.v rfl rfl (zJ rfl rfl rfl (by decide)) ?_); all_goals (refine Draws.v rfl rfl (zB rfl rfl rfl (by rfl) rfl (by decide)) ?_); all_goals (refine Draws.v rfl rfl (by exact w_lookY rfl rfl rfl (by exact fun _ _ h => h) rfl m1 rfl rfl rfl (by decide)) ?_); all_goals (refine Draws.v rfl rfl (yX rfl rfl rfl c3 rfl (by decide)) ?_); all_goals ((refine Draws.done (by kernel_rfl) (by kernel_rfl) (by kernel_rfl) ?_; refine zL.w rfl (qK rfl rfl rfl rfl rfl (by rfl) rfl) ?_)); all_goals (refine zL.nil ?_)) | refine zY.yC rfl (by rfl) ?_ | refine zY.yF rfl (by rfl) ?_ | refine zY.block ?_) | refine zS.n ?_)
  all_goals exact ⟨.inr rfl, _, Sub.refl _, .none rfl, zG (by decide) rfl (by repeat' first | exact trivial | rfl | constructor)⟩
 ·
  repeat' (first | (refine zY.is ?_; first | refine zY.seq ?_ | (refine zY.iq 0 ?_; refine zY.rqi _ K_h K_6 ?_; refine zZ.m rfl rfl (vQ rfl rfl rfl (by decide)) ?_; refine zZ.nil ?_) | (refine zY.iq 1 ?_; refine zY.rqp _ K_1h K_6 ?_; refine zZ.v rfl rfl (zJ rfl rfl rfl (by decide)) ?_; refine zZ.v rfl rfl (zB rfl rfl rfl (by rfl) rfl (by decide)) ?_; refine zZ.nil ?_) | (refine zY.iq 3 ?_; refine zY.rql _ K_l K_6 ?_; refine zZ.v rfl rfl (by exact yM rfl rfl rfl (by exact bF (by decide)) rfl (by decide)) ?_; refine zZ.va rfl rfl rfl rfl (by decide) ?_; refine zZ.nil ?_) | (refine zY.iq 7 ?_; refine zY.rql _ K_l K_6 ?_; refine zZ.v rfl rfl (by exact yM rfl rfl rfl (by exact bT (by decide)) rfl (by decide)) ?_; refine zZ.va rfl rfl rfl rfl (by decide) ?_; refine zZ.nil ?_) | (refine zY.isR (id := 8) ?_; refine zY.xE [0, 3] [3, 4, 1000, 1001, 1002] (by repeat' first | exact zX.nil | apply zX.ptr rfl) (by repeat' first | exact zW.nil | apply zW.boxP rfl rfl | apply zW.some rfl | apply zW.skip) (zY.draws ?_); all_goals (refine Draws.v rfl rfl (zO rfl rfl rfl (by decide)) ?_); all_goals (refine Draws.v rfl rfl (yD rfl rfl rfl (by decide)) ?_); all_goals (refine Draws.v rfl rfl (zJ rfl rfl rfl (by decide)) ?_); all_goals (refine Draws.v rfl rfl (y8 rfl rfl rfl rfl rfl (by decide)) ?_); all_goals (refine Draws.v rfl rfl (zJ rfl rfl rfl (by decide)) ?_); all_goals (refine Draws.v rfl rfl (zB rfl rfl rfl (by rfl) rfl (by decide)) ?_); all_goals (refine Draws.v rfl rfl (by exact w_lookN rfl rfl rfl (by exact fun _ _ h => h) rfl m1 rfl rfl rfl (by decide)) ?_); all_goals (refine Draws.v rfl rfl (yX rfl rfl rfl c3 rfl (by decide)) ?_); all_goals ((refine Draws.done (by kernel_rfl) (by kernel_rfl) (by kernel_rfl) ?_; refine zL.w rfl (qK rfl rfl rfl rfl rfl (by rfl) rfl) ?_)); all_goals (refine zL.nil ?_)) | refine zY.yC rfl (by rfl) ?_ | refine zY.yF rfl (by rfl) ?_ | refine zY.block ?_) | refine zS.n ?_)
  all_goals exact ⟨.inr rfl, _, Sub.refl _, .none rfl, zG (by decide) rfl (by repeat' first | exact trivial | rfl | constructor)⟩
theorem gput_new_fn (g : GD) (k s y u v x : Int) (hb : mget (vC g.born) s = none) (hk : k = 1) : FnZ Tryd.prog 50 [.ptr 1000 0, .p (entV k s y u v x)] (gB g) [] .any (gBl g.bad (mput (vC g.born) s (entV k s y u v x)) (vZ g.dead)) [] := by
 refine vO [1000, 1001, 1002] Tryd.func50 rfl Tryd.ntmps50 (Nat.le_of_ble_eq_true rfl) (Nat.le_of_ble_eq_true rfl) rfl rfl ?_
 obtain ⟨born, dead, bad⟩ := g
 subst hk
 cases bad
 ·
  repeat' (first | (refine zY.is ?_; first | refine zY.seq ?_ | (refine zY.iq 0 ?_; refine zY.rqi _ K_h K_6 ?_; refine zZ.m rfl rfl (vQ rfl rfl rfl (by decide)) ?_; refine zZ.nil ?_) | (refine zY.iq 1 ?_; refine zY.rqp _ K_1h K_6 ?_; refine zZ.v rfl rfl (zJ rfl rfl rfl (by decide)) ?_; refine zZ.v rfl rfl (zB rfl rfl rfl (by rfl) rfl (by decide)) ?_; refine zZ.nil ?_) | (refine zY.iq 3 ?_; refine zY.rql _ K_l K_6 ?_; refine zZ.v rfl rfl (by exact yM rfl rfl rfl (by exact bT (by decide)) rfl (by decide)) ?_; refine zZ.va rfl rfl rfl rfl (by decide) ?_; refine zZ.nil ?_) | (refine zY.isR (id := 4) ?_; refine zY.xE [0, 3, 7] [3, 4, 1000, 1001, 1002] (by repeat' first | exact zX.nil | apply zX.p rfl | apply zX.ptr rfl) (by repeat' first | exact zW.nil | apply zW.boxP rfl rfl | apply zW.some rfl | apply zW.skip) (zY.draws ?_); all_goals (refine Draws.v rfl rfl (zO rfl rfl rfl (by decide)) ?_); all_goals (refine Draws.v rfl rfl (yD rfl rfl rfl (by decide)) ?_); all_goals (refine Draws.v rfl rfl (zJ rfl rfl rfl (by decide)) ?_); all_goals (refine Draws.v rfl rfl (y8 rfl rfl rfl rfl rfl (by decide)) ?_); all_goals (refine Draws.v rfl rfl (zJ rfl rfl rfl (by decide)) ?_); all_goals (refine Draws.v rfl rfl (zB rfl rfl rfl (by rfl) rfl (by decide)) ?_); all_goals (refine Draws.v rfl rfl (by exact w_lookOkN rfl rfl rfl (by exact fun _ _ h => h) rfl hb rfl rfl rfl (by decide)) ?_); all_goals (refine Draws.v rfl rfl (yG rfl rfl rfl (by decide)) ?_); all_goals (refine Draws.v rfl rfl (zC rfl rfl rfl rfl (by decide)) ?_); all_goals (refine Draws.v rfl rfl (zC rfl rfl rfl rfl (by decide)) ?_); all_goals (refine Draws.m rfl rfl (xW rfl (by decide) rfl (by decide)) ?_); all_goals (((refine Draws.late2 [9] 2 [0, 1, 2, 3, 4, 5, 6, 7, 8, 9, 10] (by kernel_rfl) (by kernel_rfl) (by kernel_rfl) (by kernel_rfl) (by kernel_rfl) ?_ (wH.consD 3 [0, 1, 2, 3, 4, 5, 6, 7, 8, 10] (by kernel_rfl) (by kernel_rfl) ?_ wH.nil)) <;> (repeat' (first | refine wI.many (by rfl) ?_ | refine vR.cons ?_ ?_ | exact vR.nil | refine DOne.v rfl rfl rfl (by first | exact wN rfl rfl rfl (by decide) | exact zC rfl rfl rfl rfl (by decide)) ?_ | refine DOne.w rfl rfl (by exact yB rfl rfl rfl rfl rfl (by rfl) (by exact Nat.le_of_ble_eq_true rfl) rfl rfl) ?_ | refine wI.fin (by rfl) ?_))))) | (refine zY.iq 5 ?_; refine zY.rqj _ K_21 K_6 ?_; all_goals (refine zZ.v rfl rfl (zO rfl rfl rfl (by decide)) ?_); all_goals (refine zZ.v rfl rfl (zO rfl rfl rfl (by decide)) ?_); all_goals (refine zZ.v rfl rfl (yD rfl rfl rfl (by decide)) ?_); all_goals (refine zZ.v rfl rfl (zJ rfl rfl rfl (by decide)) ?_); all_goals (refine zZ.v rfl rfl (zB rfl rfl rfl (by rfl) rfl (by decide)) ?_); all_goals (refine zZ.vm rfl rfl rfl rfl (by decide) ?_); all_goals (refine zZ.gY rfl rfl (by decide) rfl (by rfl) rfl (by decide) (zQ rfl rfl rfl (by decide)) ?_); all_goals (refine zZ.gY rfl rfl (by decide) rfl (by rfl) rfl (by decide) (zQ rfl rfl rfl (by decide)) ?_); all_goals (refine zZ.gnT rfl rfl (by decide) rfl (by rfl) rfl (by decide) ?_); all_goals (refine zZ.gnT rfl rfl (by decide) rfl (by rfl) rfl (by decide) ?_); all_goals (refine zZ.gnT rfl rfl (by decide) rfl (by rfl) rfl (by decide) ?_); all_goals (refine zZ.gY rfl rfl (by decide) rfl (by rfl) rfl (by decide) (zM rfl rfl (by rfl) rfl rfl (by decide)) ?_); all_goals (refine zZ.v rfl rfl (zM rfl rfl (by rfl) rfl rfl (by decide)) ?_); all_goals (refine zZ.v rfl rfl (yD rfl rfl rfl (by decide)) ?_); all_goals (refine zZ.v rfl rfl (zJ rfl rfl rfl (by decide)) ?_); all_goals (refine zZ.w rfl (by exact yB rfl rfl rfl rfl rfl (by rfl) (by exact Nat.le_of_ble_eq_true rfl) rfl rfl) ?_); all_goals (refine zZ.nil ?_)) | (refine zY.iq 6 ?_; refine zY.rqs _ K_l K_6 (zY.draws ?_); all_goals (refine Draws.v rfl rfl (zO rfl rfl rfl (by decide)) ?_); all_goals (refine Draws.v rfl rfl (yD rfl rfl rfl (by decide)) ?_); all_goals (refine Draws.v rfl rfl (zJ rfl rfl rfl (by decide)) ?_); all_goals (refine Draws.v rfl rfl (y8 rfl rfl rfl rfl rfl (by decide)) ?_); all_goals (refine Draws.v rfl rfl (zJ rfl rfl rfl (by decide)) ?_); all_goals (refine Draws.v rfl rfl (zB rfl rfl rfl (by rfl) rfl (by decide)) ?_); all_goals (refine Draws.v rfl rfl (xY rfl rfl rfl (by rfl) (by rfl) rfl (by decide)) ?_); all_goals ((refine Draws.done (by kernel_rfl) (by kernel_rfl) (by kernel_rfl) ?_; refine zL.w rfl (qK rfl rfl rfl rfl rfl (by rfl) rfl) ?_)); all_goals (refine zL.nil ?_)) | refine zY.yC rfl (by rfl) ?_ | refine zY.block ?_) | refine zS.n ?_)
  all_goals exact ⟨.inr rfl, _, Sub.refl _, .none rfl, zG (by decide) rfl (by repeat' first | exact trivial | rfl | constructor)⟩
 ·
  repeat' (first | (refine zY.is ?_; first | refine zY.seq ?_ | (refine zY.iq 0 ?_; refine zY.rqi _ K_h K_6 ?_; refine zZ.m rfl rfl (vQ rfl rfl rfl (by decide)) ?_; refine zZ.nil ?_) | (refine zY.iq 1 ?_; refine zY.rqp _ K_1h K_6 ?_; refine zZ.v rfl rfl (zJ rfl rfl rfl (by decide)) ?_; refine zZ.v rfl rfl (zB rfl rfl rfl (by rfl) rfl (by decide)) ?_; refine zZ.nil ?_) | (refine zY.iq 3 ?_; refine zY.rql _ K_l K_6 ?_; refine zZ.v rfl rfl (by exact yM rfl rfl rfl (by exact bT (by decide)) rfl (by decide)) ?_; refine zZ.va rfl rfl rfl rfl (by decide) ?_; refine zZ.nil ?_) | (refine zY.isR (id := 4) ?_; refine zY.xE [0, 3, 7] [3, 4, 1000, 1001, 1002] (by repeat' first | exact zX.nil | apply zX.p rfl | apply zX.ptr rfl) (by repeat' first | exact zW.nil | apply zW.boxP rfl rfl | apply zW.some rfl | apply zW.skip) (zY.draws ?_); all_goals (refine Draws.v rfl rfl (zO rfl rfl rfl (by decide)) ?_); all_goals (refine Draws.v rfl rfl (yD rfl rfl rfl (by decide)) ?_); all_goals (refine Draws.v rfl rfl (zJ rfl rfl rfl (by decide)) ?_); all_goals (refine Draws.v rfl rfl (y8 rfl rfl rfl rfl rfl (by decide)) ?_); all_goals (refine Draws.v rfl rfl (zJ rfl rfl rfl (by decide)) ?_); all_goals (refine Draws.v rfl rfl (zB rfl rfl rfl (by rfl) rfl (by decide)) ?_); all_goals (refine Draws.v rfl rfl (by exact w_lookOkN rfl rfl rfl (by exact fun _ _ h => h) rfl hb rfl rfl rfl (by decide)) ?_); all_goals (refine Draws.v rfl rfl (yG rfl rfl rfl (by decide)) ?_); all_goals (refine Draws.v rfl rfl (zC rfl rfl rfl rfl (by decide)) ?_); all_goals (refine Draws.v rfl rfl (zC rfl rfl rfl rfl (by decide)) ?_); all_goals (refine Draws.m rfl rfl (xW rfl (by decide) rfl (by decide)) ?_); all_goals (((refine Draws.late2 [9] 2 [0, 1, 2, 3, 4, 5, 6, 7, 8, 9, 10] (by kernel_rfl) (by kernel_rfl) (by kernel_rfl) (by kernel_rfl) (by kernel_rfl) ?_ (wH.consD 3 [0, 1, 2, 3, 4, 5, 6, 7, 8, 10] (by kernel_rfl) (by kernel_rfl) ?_ wH.nil)) <;> (repeat' (first | refine wI.many (by rfl) ?_ | refine vR.cons ?_ ?_ | exact vR.nil | refine DOne.v rfl rfl rfl (by first | exact wN rfl rfl rfl (by decide) | exact zC rfl rfl rfl rfl (by decide)) ?_ | refine DOne.w rfl rfl (by exact yB rfl rfl rfl rfl rfl (by rfl) (by exact Nat.le_of_ble_eq_true rfl) rfl rfl) ?_ | refine wI.fin (by rfl) ?_))))) | (refine zY.iq 5 ?_; refine zY.rqj _ K_21 K_6 ?_; all_goals (refine zZ.v rfl rfl (zO rfl rfl rfl (by decide)) ?_); all_goals (refine zZ.v rfl rfl (zO rfl rfl rfl (by decide)) ?_); all_goals (refine zZ.v rfl rfl (yD rfl rfl rfl (by decide)) ?_); all_goals (refine zZ.v rfl rfl (zJ rfl rfl rfl (by decide)) ?_); all_goals (refine zZ.v rfl rfl (zB rfl rfl rfl (by rfl) rfl (by decide)) ?_); all_goals (refine zZ.vm rfl rfl rfl rfl (by decide) ?_); all_goals (refine zZ.gnF rfl rfl (by decide) rfl (by rfl) rfl (by decide) ?_); all_goals (refine zZ.gnF rfl rfl (by decide) rfl (by rfl) rfl (by decide) ?_); all_goals (refine zZ.gU rfl rfl (by decide) (by rfl) rfl (by decide) ?_); all_goals (refine zZ.gU rfl rfl (by decide) (by rfl) rfl (by decide) ?_); all_goals (refine zZ.gU rfl rfl (by decide) (by rfl) rfl (by decide) ?_); all_goals (refine zZ.gnF rfl rfl (by decide) rfl (by rfl) rfl (by decide) ?_); all_goals (refine zZ.v rfl rfl (zR rfl rfl (by rfl) rfl rfl (by decide)) ?_); all_goals (refine zZ.v rfl rfl (yD rfl rfl rfl (by decide)) ?_); all_goals (refine zZ.v rfl rfl (zJ rfl rfl rfl (by decide)) ?_); all_goals (refine zZ.w rfl (by exact yB rfl rfl rfl rfl rfl (by rfl) (by exact Nat.le_of_ble_eq_true rfl) rfl rfl) ?_); all_goals (refine zZ.nil ?_)) | (refine zY.iq 6 ?_; refine zY.rqs _ K_l K_6 (zY.draws ?_); all_goals (refine Draws.v rfl rfl (zO rfl rfl rfl (by decide)) ?_); all_goals (refine Draws.v rfl rfl (yD rfl rfl rfl (by decide)) ?_); all_goals (refine Draws.v rfl rfl (zJ rfl rfl rfl (by decide)) ?_); all_goals (refine Draws.v rfl rfl (y8 rfl rfl rfl rfl rfl (by decide)) ?_); all_goals (refine Draws.v rfl rfl (zJ rfl rfl rfl (by decide)) ?_); all_goals (refine Draws.v rfl rfl (zB rfl rfl rfl (by rfl) rfl (by decide)) ?_); all_goals (refine Draws.v rfl rfl (xY rfl rfl rfl (by rfl) (by rfl) rfl (by decide)) ?_); all_goals ((refine Draws.done (by kernel_rfl) (by kernel_rfl) (by kernel_rfl) ?_; refine zL.w rfl (qK rfl rfl rfl rfl rfl (by rfl) rfl) ?_)); all_goals (refine zL.nil ?_)) | refine zY.yC rfl (by rfl) ?_ | refine zY.block ?_) | refine zS.n ?_)
  all_goals exact ⟨.inr rfl, _, Sub.refl _, .none rfl, zG (by decide) rfl (by repeat' first | exact trivial | rfl | constructor)⟩
theorem gput_old_fn (g : GD) (k s y u v x : Int) (k' s' y' u' v' x' : Int) (d : Bool) (hd : (!decide ([(IntKind.i64, k'), (IntKind.u64, s'), (IntKind.u64, y'), (IntKind.u64, u'), (IntKind.u64, v'), (IntKind.u64, x')] = [(IntKind.i64, k), (IntKind.u64, s), (IntKind.u64, y), (IntKind.u64, u), (IntKind.u64, v), (IntKind.u64, x)])) = d) (hb : mget (vC g.born) s = some (entV k' s' y' u' v' x')) (hk : k = 1) : FnZ Tryd.prog 50 [.ptr 1000 0, .p (entV k s y u v x)] (gB g) [] .any (gBl (g.bad || d) (mput (vC g.born) s (entV k s y u v x)) (vZ g.dead)) [] := by
 refine vO [1000, 1001, 1002] Tryd.func50 rfl Tryd.ntmps50 (Nat.le_of_ble_eq_true rfl) (Nat.le_of_ble_eq_true rfl) rfl rfl ?_
 obtain ⟨born, dead, bad⟩ := g
 subst hk
 cases bad
 ·
  repeat' (first | (refine zY.is ?_; first | refine zY.seq ?_ | (refine zY.iq 0 ?_; refine zY.rqi _ K_h K_6 ?_; refine zZ.m rfl rfl (vQ rfl rfl rfl (by decide)) ?_; refine zZ.nil ?_) | (refine zY.iq 1 ?_; refine zY.rqp _ K_1h K_6 ?_; refine zZ.v rfl rfl (zJ rfl rfl rfl (by decide)) ?_; refine zZ.v rfl rfl (zB rfl rfl rfl (by rfl) rfl (by decide)) ?_; refine zZ.nil ?_) | (refine zY.iq 3 ?_; refine zY.rql _ K_l K_6 ?_; refine zZ.v rfl rfl (by exact yM rfl rfl rfl (by exact bT (by decide)) rfl (by decide)) ?_; refine zZ.va rfl rfl rfl rfl (by decide) ?_; refine zZ.nil ?_) | (refine zY.isR (id := 4) ?_; refine zY.xE [0, 3, 7] [3, 4, 1000, 1001, 1002] (by repeat' first | exact zX.nil | apply zX.p rfl | apply zX.ptr rfl) (by repeat' first | exact zW.nil | apply zW.boxP rfl rfl | apply zW.some rfl | apply zW.skip) (zY.draws ?_); all_goals (refine Draws.v rfl rfl (zO rfl rfl rfl (by decide)) ?_); all_goals (refine Draws.v rfl rfl (yD rfl rfl rfl (by decide)) ?_); all_goals (refine Draws.v rfl rfl (zJ rfl rfl rfl (by decide)) ?_); all_goals (refine Draws.v rfl rfl (y8 rfl rfl rfl rfl rfl (by decide)) ?_); all_goals (refine Draws.v rfl rfl (zJ rfl rfl rfl (by decide)) ?_); all_goals (refine Draws.v rfl rfl (zB rfl rfl rfl (by rfl) rfl (by decide)) ?_); all_goals (refine Draws.v rfl rfl (by exact w_lookOkY rfl rfl rfl (by exact fun _ _ h => h) rfl hb rfl rfl rfl (by decide)) ?_); all_goals (refine Draws.v rfl rfl (yG rfl rfl rfl (by decide)) ?_); all_goals (refine Draws.v rfl rfl (zC rfl rfl rfl rfl (by decide)) ?_); all_goals (refine Draws.v rfl rfl (zC rfl rfl rfl rfl (by decide)) ?_); all_goals (refine Draws.m rfl rfl (xW rfl (by decide) rfl (by decide)) ?_); all_goals (((refine Draws.late2 [9] 2 [0, 1, 2, 3, 4, 5, 6, 7, 8, 9, 10] (by kernel_rfl) (by kernel_rfl) (by kernel_rfl) (by kernel_rfl) (by kernel_rfl) ?_ (wH.consD 3 [0, 1, 2, 3, 4, 5, 6, 7, 8, 10] (by kernel_rfl) (by kernel_rfl) ?_ wH.nil)) <;> (repeat' (first | refine wI.many (by rfl) ?_ | refine vR.cons ?_ ?_ | exact vR.nil | refine DOne.v rfl rfl rfl (by first | exact wN rfl rfl rfl (by decide) | exact zC rfl rfl rfl rfl (by decide)) ?_ | refine DOne.w rfl rfl (by exact yB rfl rfl rfl rfl rfl (by rfl) (by exact Nat.le_of_ble_eq_true rfl) rfl rfl) ?_ | refine wI.fin (by rfl) ?_))))) | (refine zY.iq 5 ?_; refine zY.rqj _ K_21 K_6 ?_; all_goals (refine zZ.v rfl rfl (zO rfl rfl rfl (by decide)) ?_); all_goals (refine zZ.v rfl rfl (zO rfl rfl rfl (by decide)) ?_); all_goals (refine zZ.v rfl rfl (yD rfl rfl rfl (by decide)) ?_); all_goals (refine zZ.v rfl rfl (zJ rfl rfl rfl (by decide)) ?_); all_goals (refine zZ.v rfl rfl (zB rfl rfl rfl (by rfl) rfl (by decide)) ?_); all_goals (refine zZ.vm rfl rfl rfl rfl (by decide) ?_); all_goals (refine zZ.gY rfl rfl (by decide) rfl (by rfl) rfl (by decide) (zQ rfl rfl rfl (by decide)) ?_); all_goals (refine zZ.gY rfl rfl (by decide) rfl (by rfl) rfl (by decide) (zQ rfl rfl rfl (by decide)) ?_); all_goals (refine zZ.gY rfl rfl (by decide) rfl (by rfl) rfl (by decide) (xY rfl rfl rfl (by rfl) (by rfl) rfl (by decide)) ?_); all_goals (refine zZ.gY rfl rfl (by decide) rfl (by rfl) rfl (by decide) (xY rfl rfl rfl (by rfl) (by rfl) rfl (by decide)) ?_); all_goals (refine zZ.gY rfl rfl (by decide) rfl (by rfl) rfl (by decide) (r_neqT rfl rfl rfl rfl rfl rfl (by rfl) hd rfl (by decide)) ?_); all_goals (refine zZ.gY rfl rfl (by decide) rfl (by rfl) rfl (by decide) (zR rfl rfl (by rfl) rfl rfl (by decide)) ?_); all_goals (refine zZ.v rfl rfl (zM rfl rfl (by rfl) rfl rfl (by decide)) ?_); all_goals (refine zZ.v rfl rfl (yD rfl rfl rfl (by decide)) ?_); all_goals (refine zZ.v rfl rfl (zJ rfl rfl rfl (by decide)) ?_); all_goals (refine zZ.w rfl (by exact yB rfl rfl rfl rfl rfl (by rfl) (by exact Nat.le_of_ble_eq_true rfl) rfl rfl) ?_); all_goals (refine zZ.nil ?_)) | (refine zY.iq 6 ?_; refine zY.rqs _ K_l K_6 (zY.draws ?_); all_goals (refine Draws.v rfl rfl (zO rfl rfl rfl (by decide)) ?_); all_goals (refine Draws.v rfl rfl (yD rfl rfl rfl (by decide)) ?_); all_goals (refine Draws.v rfl rfl (zJ rfl rfl rfl (by decide)) ?_); all_goals (refine Draws.v rfl rfl (y8 rfl rfl rfl rfl rfl (by decide)) ?_); all_goals (refine Draws.v rfl rfl (zJ rfl rfl rfl (by decide)) ?_); all_goals (refine Draws.v rfl rfl (zB rfl rfl rfl (by rfl) rfl (by decide)) ?_); all_goals (refine Draws.v rfl rfl (xY rfl rfl rfl (by rfl) (by rfl) rfl (by decide)) ?_); all_goals ((refine Draws.done (by kernel_rfl) (by kernel_rfl) (by kernel_rfl) ?_; refine zL.w rfl (qK rfl rfl rfl rfl rfl (by rfl) rfl) ?_)); all_goals (refine zL.nil ?_)) | refine zY.yC rfl (by rfl) ?_ | refine zY.block ?_) | refine zS.n ?_)
  all_goals exact ⟨.inr rfl, _, Sub.refl _, .none rfl, zG (by decide) rfl (by repeat' first | exact trivial | rfl | constructor)⟩
 ·
  repeat' (first | (refine zY.is ?_; first | refine zY.seq ?_ | (refine zY.iq 0 ?_; refine zY.rqi _ K_h K_6 ?_; refine zZ.m rfl rfl (vQ rfl rfl rfl (by decide)) ?_; refine zZ.nil ?_) | (refine zY.iq 1 ?_; refine zY.rqp _ K_1h K_6 ?_; refine zZ.v rfl rfl (zJ rfl rfl rfl (by decide)) ?_; refine zZ.v rfl rfl (zB rfl rfl rfl (by rfl) rfl (by decide)) ?_; refine zZ.nil ?_) | (refine zY.iq 3 ?_; refine zY.rql _ K_l K_6 ?_; refine zZ.v rfl rfl (by exact yM rfl rfl rfl (by exact bT (by decide)) rfl (by decide)) ?_; refine zZ.va rfl rfl rfl rfl (by decide) ?_; refine zZ.nil ?_) | (refine zY.isR (id := 4) ?_; refine zY.xE [0, 3, 7] [3, 4, 1000, 1001, 1002] (by repeat' first | exact zX.nil | apply zX.p rfl | apply zX.ptr rfl) (by repeat' first | exact zW.nil | apply zW.boxP rfl rfl | apply zW.some rfl | apply zW.skip) (zY.draws ?_); all_goals (refine Draws.v rfl rfl (zO rfl rfl rfl (by decide)) ?_); all_goals (refine Draws.v rfl rfl (yD rfl rfl rfl (by decide)) ?_); all_goals (refine Draws.v rfl rfl (zJ rfl rfl rfl (by decide)) ?_); all_goals (refine Draws.v rfl rfl (y8 rfl rfl rfl rfl rfl (by decide)) ?_); all_goals (refine Draws.v rfl rfl (zJ rfl rfl rfl (by decide)) ?_); all_goals (refine Draws.v rfl rfl (zB rfl rfl rfl (by rfl) rfl (by decide)) ?_); all_goals (refine Draws.v rfl rfl (by exact w_lookOkY rfl rfl rfl (by exact fun _ _ h => h) rfl hb rfl rfl rfl (by decide)) ?_); all_goals (refine Draws.v rfl rfl (yG rfl rfl rfl (by decide)) ?_); all_goals (refine Draws.v rfl rfl (zC rfl rfl rfl rfl (by decide)) ?_); all_goals (refine Draws.v rfl rfl (zC rfl rfl rfl rfl (by decide)) ?_); all_goals (refine Draws.m rfl rfl (xW rfl (by decide) rfl (by decide)) ?_); all_goals (((refine Draws.late2 [9] 2 [0, 1, 2, 3, 4, 5, 6, 7, 8, 9, 10] (by kernel_rfl) (by kernel_rfl) (by kernel_rfl) (by kernel_rfl) (by kernel_rfl) ?_ (wH.consD 3 [0, 1, 2, 3, 4, 5, 6, 7, 8, 10] (by kernel_rfl) (by kernel_rfl) ?_ wH.nil)) <;> (repeat' (first | refine wI.many (by rfl) ?_ | refine vR.cons ?_ ?_ | exact vR.nil | refine DOne.v rfl rfl rfl (by first | exact wN rfl rfl rfl (by decide) | exact zC rfl rfl rfl rfl (by decide)) ?_ | refine DOne.w rfl rfl (by exact yB rfl rfl rfl rfl rfl (by rfl) (by exact Nat.le_of_ble_eq_true rfl) rfl rfl) ?_ | refine wI.fin (by rfl) ?_))))) | (refine zY.iq 5 ?_; refine zY.rqj _ K_21 K_6 ?_; all_goals (refine zZ.v rfl rfl (zO rfl rfl rfl (by decide)) ?_); all_goals (refine zZ.v rfl rfl (zO rfl rfl rfl (by decide)) ?_); all_goals (refine zZ.v rfl rfl (yD rfl rfl rfl (by decide)) ?_); all_goals (refine zZ.v rfl rfl (zJ rfl rfl rfl (by decide)) ?_); all_goals (refine zZ.v rfl rfl (zB rfl rfl rfl (by rfl) rfl (by decide)) ?_); all_goals (refine zZ.vm rfl rfl rfl rfl (by decide) ?_); all_goals (refine zZ.gnF rfl rfl (by decide) rfl (by rfl) rfl (by decide) ?_); all_goals (refine zZ.gnF rfl rfl (by decide) rfl (by rfl) rfl (by decide) ?_); all_goals (refine zZ.gU rfl rfl (by decide) (by rfl) rfl (by decide) ?_); all_goals (refine zZ.gU rfl rfl (by decide) (by rfl) rfl (by decide) ?_); all_goals (refine zZ.gU rfl rfl (by decide) (by rfl) rfl (by decide) ?_); all_goals (refine zZ.gnF rfl rfl (by decide) rfl (by rfl) rfl (by decide) ?_); all_goals (refine zZ.v rfl rfl (zR rfl rfl (by rfl) rfl rfl (by decide)) ?_); all_goals (refine zZ.v rfl rfl (yD rfl rfl rfl (by decide)) ?_); all_goals (refine zZ.v rfl rfl (zJ rfl rfl rfl (by decide)) ?_); all_goals (refine zZ.w rfl (by exact yB rfl rfl rfl rfl rfl (by rfl) (by exact Nat.le_of_ble_eq_true rfl) rfl rfl) ?_); all_goals (refine zZ.nil ?_)) | (refine zY.iq 6 ?_; refine zY.rqs _ K_l K_6 (zY.draws ?_); all_goals (refine Draws.v rfl rfl (zO rfl rfl rfl (by decide)) ?_); all_goals (refine Draws.v rfl rfl (yD rfl rfl rfl (by decide)) ?_); all_goals (refine Draws.v rfl rfl (zJ rfl rfl rfl (by decide)) ?_); all_goals (refine Draws.v rfl rfl (y8 rfl rfl rfl rfl rfl (by decide)) ?_); all_goals (refine Draws.v rfl rfl (zJ rfl rfl rfl (by decide)) ?_); all_goals (refine Draws.v rfl rfl (zB rfl rfl rfl (by rfl) rfl (by decide)) ?_); all_goals (refine Draws.v rfl rfl (xY rfl rfl rfl (by rfl) (by rfl) rfl (by decide)) ?_); all_goals ((refine Draws.done (by kernel_rfl) (by kernel_rfl) (by kernel_rfl) ?_; refine zL.w rfl (qK rfl rfl rfl rfl rfl (by rfl) rfl) ?_)); all_goals (refine zL.nil ?_)) | refine zY.yC rfl (by rfl) ?_ | refine zY.block ?_) | refine zS.n ?_)
  all_goals exact ⟨.inr rfl, _, Sub.refl _, .none rfl, zG (by decide) rfl (by repeat' first | exact trivial | rfl | constructor)⟩
theorem gput_fn (g : GD) (e : zV) (hs : g.small 1000000000) : FnZ Tryd.prog 50 [.ptr 1000 0, .p e.V] (gB g) [] .any (gB (gput g e)) [] := by
  obtain ⟨k, s, y, u, v, x⟩ := e
  by_cases h1 : k = 1
  · rcases hb : bget g.born s with _ | ⟨k', s', y', u', v', x'⟩
    · rw [gput_new h1 hb]
      exact gput_new_fn g k s y u v x (by rw [mget_born, hb]; rfl) h1
    · rw [gput_old h1 hb, ent_eq]
      exact gput_old_fn g k s y u v x k' s' y' u' v' x' _ rfl (by rw [mget_born, hb]; rfl) h1
  · by_cases h2 : k = 2
    · rw [gput_dead h2]
      refine gput_dead_fn g k s y u v x _ ?_ (hs s).1 (hs s).2 h2
      rcases hb : dget g.dead s with _ | n
      · exact .inr ⟨by rw [mget_dead, hb]; rfl, rfl⟩
      · exact .inl (by rw [mget_dead, hb]; rfl)
    · rw [gput_bad h1 h2]
      exact gput_bad_fn g k s y u v x h1 h2
end Go.Proofs.YtomlhekjgagjaaaDoor
namespace Go.Proofs.YtomlhekjgagjaaaDoor
set_option maxRecDepth 100000
set_option maxHeartbeats 16000000
open Go Go.RowKit
attribute [local irreducible] zZ zY Step zA Sub zL z8 Fn
theorem odd_fn (e : zV) : Fn Tryd.prog 67 [e.V] (.p (.val (.bool (!decide (e.k = 1))))) := by
  refine qI Tryd.func67 rfl Tryd.ntmps67 (Nat.le_of_ble_eq_true rfl) ?_
  obtain ⟨k, s, y, u, v, x⟩ := e
  repeat' ((refine zY.is ?_; first | refine zY.seq ?_ | (refine zY.iq 0 ?_; refine zY.rqa _ K_5 K_8 ?_; refine zZ.m rfl rfl (vQ rfl rfl rfl (by decide)) ?_; refine zZ.va rfl rfl rfl rfl (by decide) ?_; refine zZ.nil ?_) | (refine zY.iq 1 ?_; refine zY.rqd _ K_9 K_8 ?_; refine zZ.v rfl rfl (zJ rfl rfl rfl (by decide)) ?_; refine zZ.v rfl rfl (zB rfl rfl rfl rfl rfl (by decide)) ?_; refine zZ.v rfl rfl (vJ rfl rfl rfl (by rfl) rfl (by decide)) ?_; refine zZ.va rfl rfl rfl rfl (by decide) ?_; refine zZ.nil ?_) | refine zY.ret ?_))
  all_goals exact ⟨.inl rfl, gives1 rfl rfl (eqB rfl)⟩
def oddF : PV := .val (.func (.func 67) #[] #[])
def oddAt : List zV → Nat → Int
  | [], _ => -1
  | e :: r, i => if e.k = 1 then oddAt r (i + 1) else (i : Int)
theorem oddAt_all : ∀ (L : List zV) (i : Nat), decide (oddAt L i ≥ 0) = !(L.all fun e => decide (e.k = 1))
  | [], i => rfl
  | e :: r, i => by
    unfold oddAt
    by_cases h : e.k = 1
    · rw [if_pos h, oddAt_all r (i + 1)]; simp [h]
    · rw [if_neg h]; simp [h]
def idS (L : List zV) (i : Nat) : AS := { t := [(0, .p (.sl (L.map zV.V))), (1, .p oddF), (7, .p (.val (.int .i64 (L.length : Nat)))), (8, .p (.val (.int .i64 (i : Nat))))], s := [] }
theorem index_fn (L : List zV) (hl : L.length ≤ 1000000) : Fn Tryd.prog 78 [.sl (L.map zV.V), oddF] (.p (.val (.int .i64 (oddAt L 0)))) := by
 have hc := yU L
 refine qI Tryd.func78 rfl Tryd.ntmps78 (Nat.le_of_ble_eq_true rfl) ?_
 repeat' ((refine zY.is ?_; first | refine zY.seq ?_ | (refine zY.isR (id := 0) ?_; refine zY.zK [0, 1] [] (by repeat' first | exact zX.nil | apply zX.p rfl) (by repeat' exact zW.nil) ?_; refine zZ.va rfl rfl rfl rfl (by decide) ?_; refine zZ.nil ?_) | (refine zY.isR (id := 1) ?_; refine zY.zK [0, 1, 4] [] (by repeat' first | exact zX.nil | apply zX.p rfl) (by repeat' exact zW.nil) ?_; refine zZ.vm rfl rfl rfl rfl (by decide) ?_; refine zZ.v rfl rfl (yL rfl rfl rfl (by decide)) ?_; refine zZ.vm rfl rfl rfl rfl (by decide) ?_; refine zZ.nil ?_) | refine zY.block ?_))
 refine zY.loop (idS L) (fun i => i ≤ L.length ∧ oddAt L 0 = oddAt (L.drop i) i) (fun i => L.length - i) 0 ?h0 ⟨Nat.zero_le _, by simp⟩ ?rd
 case h0 =>
  unfold idS
  rw [show (L.length : Nat) = (L.map zV.V).length by rw [List.length_map]]
  exact zD K_2w []
 case rd =>
  intro i ⟨hi, hx⟩
  have g3 : IntKind.i64.wrap (((i : Nat) : Int) + 1) = ((i + 1 : Nat) : Int) := by rw [wrap_i64 _ (by omega)]; omega
  unfold idS
  by_cases hlt : i < L.length
  case pos =>
   have g1 : decide (((i : Nat) : Int) < ((L.length : Nat) : Int)) = true := decide_eq_true (by omega)
   obtain ⟨e, he⟩ : ∃ e, L[i]? = some e := ⟨_, List.getElem?_eq_getElem hlt⟩
   have g2 : (L.map zV.V)[i]? = some e.V := by rw [List.getElem?_map, he]; rfl
   have c := odd_fn e
   have hdrop : L.drop i = e :: L.drop (i + 1) := by
    rw [List.drop_eq_getElem_cons hlt]
    rw [List.getElem?_eq_getElem hlt] at he
    rw [Option.some.inj he]
   rw [hdrop] at hx
   obtain ⟨ek, es, ey, eu, ev, ex⟩ := e
   by_cases hk : ek = 1
   ·have hx' : oddAt L 0 = oddAt (L.drop (i + 1)) (i + 1) := by rw [hx]; show (if ek = 1 then _ else _) = _; rw [if_pos hk]
    rw [show (!decide ((⟨ek, es, ey, eu, ev, ex⟩ : zV).k = 1)) = false by simp [hk]] at c
    repeat' (first | (refine zY.is ?_; first | refine zY.seq ?_ | (refine zY.isR (id := 2) ?_; refine zY.zK [0, 1, 4, 5, 7, 8, 9, 16] [] (by repeat' first | exact zX.nil | apply zX.p rfl | apply zX.skip) (by repeat' exact zW.nil) ?_; refine zZ.v rfl rfl (yZ rfl rfl rfl g1 rfl (by decide)) ?_; refine zZ.nil ?_) | (refine zY.isR (id := 3) ?_; refine zY.zK [0, 1, 4, 5, 7, 8, 9, 16] [] (by repeat' first | exact zX.nil | apply zX.p rfl | apply zX.skip) (by repeat' exact zW.nil) ?_; refine zZ.vm rfl rfl rfl rfl (by decide) ?_; refine zZ.va rfl rfl rfl rfl (by decide) ?_; refine zZ.nil ?_) | (refine zY.isR (id := 4) ?_; refine zY.zK [0, 1, 4, 5, 7, 8, 9, 16] [] (by repeat' first | exact zX.nil | apply zX.p rfl | apply zX.skip) (by repeat' exact zW.nil) ?_; refine zZ.vm rfl rfl rfl rfl (by decide) ?_; refine zZ.vm rfl rfl rfl rfl (by decide) ?_; refine zZ.vm rfl rfl rfl rfl (by decide) ?_; refine zZ.v rfl rfl (yY rfl rfl rfl hc g2 rfl (by decide)) ?_; refine zZ.v rfl rfl (by exact vW rfl rfl (by exact Nat.le_of_ble_eq_true rfl) rfl (by decide)) ?_; refine zZ.v rfl rfl (by exact w_callFV (c) rfl rfl rfl rfl (by decide)) ?_; refine zZ.nil ?_) | (refine zY.isR (id := 6) ?_; refine zY.zK [0, 1, 4, 5, 7, 8, 9, 16] [] (by repeat' first | exact zX.nil | apply zX.p rfl | apply zX.skip) (by repeat' exact zW.nil) ?_; refine zZ.v rfl rfl (yX rfl rfl rfl g3 rfl (by decide)) ?_; refine zZ.vm rfl rfl rfl rfl (by decide) ?_; refine zZ.nil ?_) | refine zY.yC rfl (by first | assumption | with_reducible rfl) ?_ | refine zY.yF rfl (by rfl) ?_ | refine zY.skip ?_ | refine zY.block ?_) | refine zH.n ?_)
    all_goals
     refine ⟨i + 1, ?_, ⟨hlt, hx'⟩, by omega⟩
     try unfold idS
     exact zD K_2w []
   ·have hx' : oddAt L 0 = (i : Int) := by rw [hx]; show (if ek = 1 then _ else _) = _; rw [if_neg hk]
    rw [show (!decide ((⟨ek, es, ey, eu, ev, ex⟩ : zV).k = 1)) = true by simp [hk]] at c
    repeat' (first | (refine zY.is ?_; first | refine zY.seq ?_ | (refine zY.isR (id := 2) ?_; refine zY.zK [0, 1, 4, 5, 7, 8, 9, 16] [] (by repeat' first | exact zX.nil | apply zX.p rfl | apply zX.skip) (by repeat' exact zW.nil) ?_; refine zZ.v rfl rfl (yZ rfl rfl rfl g1 rfl (by decide)) ?_; refine zZ.nil ?_) | (refine zY.isR (id := 3) ?_; refine zY.zK [0, 1, 4, 5, 7, 8, 9, 16] [] (by repeat' first | exact zX.nil | apply zX.p rfl | apply zX.skip) (by repeat' exact zW.nil) ?_; refine zZ.vm rfl rfl rfl rfl (by decide) ?_; refine zZ.va rfl rfl rfl rfl (by decide) ?_; refine zZ.nil ?_) | (refine zY.isR (id := 4) ?_; refine zY.zK [0, 1, 4, 5, 7, 8, 9, 16] [] (by repeat' first | exact zX.nil | apply zX.p rfl | apply zX.skip) (by repeat' exact zW.nil) ?_; refine zZ.vm rfl rfl rfl rfl (by decide) ?_; refine zZ.vm rfl rfl rfl rfl (by decide) ?_; refine zZ.vm rfl rfl rfl rfl (by decide) ?_; refine zZ.v rfl rfl (yY rfl rfl rfl hc g2 rfl (by decide)) ?_; refine zZ.v rfl rfl (by exact vW rfl rfl (by exact Nat.le_of_ble_eq_true rfl) rfl (by decide)) ?_; refine zZ.v rfl rfl (by exact w_callFV (c) rfl rfl rfl rfl (by decide)) ?_; refine zZ.nil ?_) | (refine zY.isR (id := 5) ?_; refine zY.zK [0, 1, 4, 5, 7, 8, 9, 16] [] (by repeat' first | exact zX.nil | apply zX.p rfl | apply zX.skip) (by repeat' exact zW.nil) ?_; refine zZ.vm rfl rfl rfl rfl (by decide) ?_; refine zZ.va rfl rfl rfl rfl (by decide) ?_; refine zZ.nil ?_) | refine zY.yC rfl (by first | assumption | with_reducible rfl) ?_ | refine zY.skip ?_ | refine zY.block ?_ | refine zY.ret ?_) | refine zH.r ?_ | refine zS.r ?_)
    all_goals exact ⟨.inl rfl, gives1 rfl rfl (eqI hx'.symm)⟩
  case neg =>
   have g1 : decide (((i : Nat) : Int) < ((L.length : Nat) : Int)) = false := decide_eq_false (by omega)
   have hx' : oddAt L 0 = -1 := by rw [hx, List.drop_of_length_le (by omega)]; rfl
   repeat' ((refine zY.is ?_; first | refine zY.seq ?_ | (refine zY.isR (id := 2) ?_; refine zY.zK [0, 1, 4, 5, 7, 8, 9, 16] [] (by repeat' first | exact zX.nil | apply zX.p rfl | apply zX.skip) (by repeat' exact zW.nil) ?_; refine zZ.v rfl rfl (yZ rfl rfl rfl g1 rfl (by decide)) ?_; refine zZ.nil ?_) | (refine zY.isR (id := 7) ?_; refine zY.zK [4] [] (by repeat' first | exact zX.nil | apply zX.skip) (by repeat' exact zW.nil) ?_; refine zZ.va rfl rfl rfl rfl (by decide) ?_; refine zZ.nil ?_) | refine zY.yF rfl (by first | assumption | with_reducible rfl) ?_ | refine zY.exit ?_ | refine zY.ret ?_))
   all_goals exact ⟨.inl rfl, gives1 rfl rfl (eqI hx'.symm)⟩
theorem contains_fn (L : List zV) (hl : L.length ≤ 1000000) : Fn Tryd.prog 68 [.sl (L.map zV.V), oddF] (.p (.val (.bool (!(L.all fun e => decide (e.k = 1)))))) := by
 have c := index_fn L hl
 have g := oddAt_all L 0
 refine qI Tryd.func68 rfl Tryd.ntmps68 (Nat.le_of_ble_eq_true rfl) ?_
 repeat' ((refine zY.is ?_; first | refine zY.seq ?_ | (refine zY.isR (id := 0) ?_; refine zY.zK [0, 1] [] (by repeat' first | exact zX.nil | apply zX.p rfl) (by repeat' exact zW.nil) ?_; refine zZ.va rfl rfl rfl rfl (by decide) ?_; refine zZ.nil ?_) | (refine zY.isR (id := 1) ?_; refine zY.zK [0, 1, 4] [] (by repeat' first | exact zX.nil | apply zX.p rfl) (by repeat' exact zW.nil) ?_; refine zZ.vm rfl rfl rfl rfl (by decide) ?_; refine zZ.vm rfl rfl rfl rfl (by decide) ?_; refine zZ.v rfl rfl (by exact yE (c) rfl rfl rfl (by decide)) ?_; refine zZ.v rfl rfl (qM rfl rfl rfl g rfl (by decide)) ?_; refine zZ.va rfl rfl rfl rfl (by decide) ?_; refine zZ.nil ?_) | refine zY.ret ?_))
 all_goals exact ⟨.inl rfl, gives1 rfl rfl (eqB rfl)⟩
def headOf : List zV → List zV × Bool
  | [] => ([], false)
  | h :: r => if h.k = 3 then if (r.length : Int) < h.s then ([], false) else (r, (r.take h.s.toNat).all fun e => decide (e.k = 1)) else ([], false)
theorem headed_fn (L : List zV) (hok : ∀ e ∈ L, e.ok) (hl : L.length ≤ 1000000) : Fn Tryd.prog 49 [.sl (L.map zV.V)] (.tup [.sl ((headOf L).1.map zV.V), .val (.bool (headOf L).2)]) := by
  refine wU Tryd.func49 rfl Tryd.ntmps49 (Nat.le_of_ble_eq_true rfl) ?_
  cases L with
  | nil =>
    have c1 : decide ((((([] : List zV).map zV.V).length : Nat) : Int) = 0) = true := rfl
    repeat' (first | (refine zY.is ?_; first | refine zY.seq ?_ | (refine zY.iq 0 ?_; refine zY.rqa _ K_5 K_m ?_; refine zZ.va rfl rfl rfl rfl (by decide) ?_; refine zZ.va rfl rfl rfl rfl (by decide) ?_; refine zZ.nil ?_) | (refine zY.iq 1 ?_; refine zY.rqa _ K_7 K_m ?_; all_goals (refine zZ.vm rfl rfl rfl rfl (by decide) ?_); all_goals (refine zZ.v rfl rfl (yL rfl rfl rfl (by decide)) ?_); all_goals (refine zZ.v rfl rfl (yM rfl rfl rfl c1 rfl (by decide)) ?_); all_goals (refine zZ.vm rfl rfl rfl rfl (by decide) ?_); all_goals (refine zZ.gnF rfl rfl (by decide) rfl (by assumption) rfl (by decide) ?_); all_goals (refine zZ.gnF rfl rfl (by decide) rfl (by assumption) rfl (by decide) ?_); all_goals (refine zZ.gnF rfl rfl (by decide) rfl (by assumption) rfl (by decide) ?_); all_goals (refine zZ.gnF rfl rfl (by decide) rfl (by assumption) rfl (by decide) ?_); all_goals (refine zZ.gnF rfl rfl (by decide) rfl (by assumption) rfl (by decide) ?_); all_goals (refine zZ.v rfl rfl (by exact zR rfl rfl (by assumption) rfl rfl (by decide)) ?_); all_goals (refine zZ.vm rfl rfl rfl rfl (by decide) ?_); all_goals (refine zZ.gnF rfl rfl (by decide) rfl (by assumption) rfl (by decide) ?_); all_goals (refine zZ.gnF rfl rfl (by decide) rfl (by assumption) rfl (by decide) ?_); all_goals (refine zZ.gnF rfl rfl (by decide) rfl (by assumption) rfl (by decide) ?_); all_goals (refine zZ.gnF rfl rfl (by decide) rfl (by assumption) rfl (by decide) ?_); all_goals (refine zZ.gnF rfl rfl (by decide) rfl (by assumption) rfl (by decide) ?_); all_goals (refine zZ.gnF rfl rfl (by decide) rfl (by assumption) rfl (by decide) ?_); all_goals (refine zZ.gnF rfl rfl (by decide) rfl (by assumption) rfl (by decide) ?_); all_goals (refine zZ.gnF rfl rfl (by decide) rfl (by assumption) rfl (by decide) ?_); all_goals (refine zZ.gnF rfl rfl (by decide) rfl (by assumption) rfl (by decide) ?_); all_goals (refine zZ.v rfl rfl (by exact zR rfl rfl (by assumption) rfl rfl (by decide)) ?_); all_goals (refine zZ.nil ?_)) | (refine zY.iq 2 ?_; refine zY.rqa _ K_7 K_m ?_; refine zZ.va rfl rfl rfl rfl (by decide) ?_; refine zZ.va rfl rfl rfl rfl (by decide) ?_; refine zZ.nil ?_) | refine zY.yC rfl (by assumption) ?_ | refine zY.ret ?_) | refine zH.r ?_)
    all_goals exact ⟨.inl rfl, _, qU (d := 2) rfl, xG.tupE (rs := [.tmp 2, .tmp 3]) rfl (by decide) (.cons (.tmp rfl) (.cons (.tmp rfl) .nil)) rfl⟩
  | cons h r =>
    have ho := (hok h (by simp)).s
    have hc := yU (h :: r)
    have hc2 := yU r
    have hlen : ((h :: r).map zV.V).length = r.length + 1 := by simp
    have hlr : r.length ≤ 1000000 := by simp at hl; omega
    have c1 : decide (((((h :: r).map zV.V).length : Nat) : Int) = 0) = false := decide_eq_false (by rw [hlen]; omega)
    have g1 : ((h :: r).map zV.V)[0]? = some h.V := rfl
    have g2 : IntKind.i64.wrap (((((h :: r).map zV.V).length : Nat) : Int) - 1) = ((r.length : Nat) : Int) := by rw [hlen]; exact (wrap_i64 _ (by omega)).trans (by omega)
    have g3 : IntKind.u64.wrap ((r.length : Nat) : Int) = ((r.length : Nat) : Int) := wrap_u64 _ (by omega)
    have i0 : (0 : Int) ≤ 1 ∧ (1 : Int) ≤ ((((h :: r).map zV.V).length : Nat) : Int) := by rw [hlen]; omega
    unfold headOf
    obtain ⟨k, s, y, u, v, x⟩ := h
    simp only at ho ⊢
    by_cases hk : k = 3
    case neg =>
      rw [if_neg hk]
      have c2 : (!decide (k = 3)) = true := by simp [hk]
      repeat' (first | (refine zY.is ?_; first | refine zY.seq ?_ | (refine zY.iq 0 ?_; refine zY.rqa _ K_5 K_m ?_; refine zZ.va rfl rfl rfl rfl (by decide) ?_; refine zZ.va rfl rfl rfl rfl (by decide) ?_; refine zZ.nil ?_) | (refine zY.iq 1 ?_; refine zY.rqa _ K_7 K_m ?_; all_goals (refine zZ.vm rfl rfl rfl rfl (by decide) ?_); all_goals (refine zZ.v rfl rfl (yL rfl rfl rfl (by decide)) ?_); all_goals (refine zZ.v rfl rfl (yM rfl rfl rfl c1 rfl (by decide)) ?_); all_goals (refine zZ.vm rfl rfl rfl rfl (by decide) ?_); all_goals (refine zZ.gY rfl rfl (by decide) rfl (by assumption) rfl (by decide) (zQ rfl rfl rfl (by decide)) ?_); all_goals (refine zZ.gY rfl rfl (by decide) rfl (by assumption) rfl (by decide) (yY rfl rfl rfl hc g1 rfl (by decide)) ?_); all_goals (refine zZ.gY rfl rfl (by decide) rfl (by assumption) rfl (by decide) (wY rfl rfl rfl (by decide)) ?_); all_goals (refine zZ.gY rfl rfl (by decide) rfl (by assumption) rfl (by decide) (zP rfl rfl rfl rfl (by decide)) ?_); all_goals (refine zZ.gY rfl rfl (by decide) rfl (by assumption) rfl (by decide) (vJ rfl rfl rfl c2 rfl (by decide)) ?_); all_goals (refine zZ.v rfl rfl (by exact zM rfl rfl (by assumption) rfl rfl (by decide)) ?_); all_goals (refine zZ.vm rfl rfl rfl rfl (by decide) ?_); all_goals (refine zZ.gnF rfl rfl (by decide) rfl (by rfl) rfl (by decide) ?_); all_goals (refine zZ.gnF rfl rfl (by decide) rfl (by rfl) rfl (by decide) ?_); all_goals (refine zZ.gnF rfl rfl (by decide) rfl (by rfl) rfl (by decide) ?_); all_goals (refine zZ.gnF rfl rfl (by decide) rfl (by rfl) rfl (by decide) ?_); all_goals (refine zZ.gnF rfl rfl (by decide) rfl (by rfl) rfl (by decide) ?_); all_goals (refine zZ.gnF rfl rfl (by decide) rfl (by rfl) rfl (by decide) ?_); all_goals (refine zZ.gnF rfl rfl (by decide) rfl (by rfl) rfl (by decide) ?_); all_goals (refine zZ.gnF rfl rfl (by decide) rfl (by rfl) rfl (by decide) ?_); all_goals (refine zZ.gnF rfl rfl (by decide) rfl (by rfl) rfl (by decide) ?_); all_goals (refine zZ.v rfl rfl (zR rfl rfl (by rfl) rfl rfl (by decide)) ?_); all_goals (refine zZ.nil ?_)) | (refine zY.iq 2 ?_; refine zY.rqa _ K_7 K_m ?_; refine zZ.va rfl rfl rfl rfl (by decide) ?_; refine zZ.va rfl rfl rfl rfl (by decide) ?_; refine zZ.nil ?_) | refine zY.yC rfl (by first | assumption | with_reducible rfl) ?_ | refine zY.ret ?_) | refine zH.r ?_)
      all_goals exact ⟨.inl rfl, _, qU (d := 2) rfl, xG.tupE (rs := [.tmp 2, .tmp 3]) rfl (by decide) (.cons (.tmp rfl) (.cons (.tmp rfl) .nil)) rfl⟩
    case pos =>
      rw [if_pos hk]
      have c2 : (!decide (k = 3)) = false := by simp [hk]
      by_cases hs : (r.length : Int) < s
      · rw [if_pos hs]
        have c3 : decide (((r.length : Nat) : Int) < s) = true := decide_eq_true hs
        repeat' (first | (refine zY.is ?_; first | refine zY.seq ?_ | (refine zY.iq 0 ?_; refine zY.rqa _ K_5 K_m ?_; refine zZ.va rfl rfl rfl rfl (by decide) ?_; refine zZ.va rfl rfl rfl rfl (by decide) ?_; refine zZ.nil ?_) | (refine zY.iq 1 ?_; refine zY.rqa _ K_7 K_m ?_; all_goals (refine zZ.vm rfl rfl rfl rfl (by decide) ?_); all_goals (refine zZ.v rfl rfl (yL rfl rfl rfl (by decide)) ?_); all_goals (refine zZ.v rfl rfl (yM rfl rfl rfl c1 rfl (by decide)) ?_); all_goals (refine zZ.vm rfl rfl rfl rfl (by decide) ?_); all_goals (refine zZ.gY rfl rfl (by decide) rfl (by assumption) rfl (by decide) (zQ rfl rfl rfl (by decide)) ?_); all_goals (refine zZ.gY rfl rfl (by decide) rfl (by assumption) rfl (by decide) (yY rfl rfl rfl hc g1 rfl (by decide)) ?_); all_goals (refine zZ.gY rfl rfl (by decide) rfl (by assumption) rfl (by decide) (wY rfl rfl rfl (by decide)) ?_); all_goals (refine zZ.gY rfl rfl (by decide) rfl (by assumption) rfl (by decide) (zP rfl rfl rfl rfl (by decide)) ?_); all_goals (refine zZ.gY rfl rfl (by decide) rfl (by assumption) rfl (by decide) (vJ rfl rfl rfl c2 rfl (by decide)) ?_); all_goals (refine zZ.v rfl rfl (by exact zM rfl rfl (by assumption) rfl rfl (by decide)) ?_); all_goals (refine zZ.vm rfl rfl rfl rfl (by decide) ?_); all_goals (refine zZ.gY rfl rfl (by decide) rfl (by assumption) rfl (by decide) (zQ rfl rfl rfl (by decide)) ?_); all_goals (refine zZ.gY rfl rfl (by decide) rfl (by assumption) rfl (by decide) (yL rfl rfl rfl (by decide)) ?_); all_goals (refine zZ.gY rfl rfl (by decide) rfl (by assumption) rfl (by decide) (w9 rfl rfl rfl g2 rfl (by decide)) ?_); all_goals (refine zZ.gY rfl rfl (by decide) rfl (by assumption) rfl (by decide) (xZ rfl rfl g3 rfl (by decide)) ?_); all_goals (refine zZ.gY rfl rfl (by decide) rfl (by assumption) rfl (by decide) (zQ rfl rfl rfl (by decide)) ?_); all_goals (refine zZ.gY rfl rfl (by decide) rfl (by assumption) rfl (by decide) (yY rfl rfl rfl hc g1 rfl (by decide)) ?_); all_goals (refine zZ.gY rfl rfl (by decide) rfl (by assumption) rfl (by decide) (wY rfl rfl rfl (by decide)) ?_); all_goals (refine zZ.gY rfl rfl (by decide) rfl (by assumption) rfl (by decide) (zP rfl rfl rfl rfl (by decide)) ?_); all_goals (refine zZ.gY rfl rfl (by decide) rfl (by assumption) rfl (by decide) (yZ rfl rfl rfl c3 rfl (by decide)) ?_); all_goals (refine zZ.v rfl rfl (by exact zM rfl rfl (by assumption) rfl rfl (by decide)) ?_); all_goals (refine zZ.nil ?_)) | (refine zY.iq 2 ?_; refine zY.rqa _ K_7 K_m ?_; refine zZ.va rfl rfl rfl rfl (by decide) ?_; refine zZ.va rfl rfl rfl rfl (by decide) ?_; refine zZ.nil ?_) | refine zY.yC rfl (by first | assumption | with_reducible rfl) ?_ | refine zY.ret ?_) | refine zH.r ?_)
        all_goals exact ⟨.inl rfl, _, qU (d := 2) rfl, xG.tupE (rs := [.tmp 2, .tmp 3]) rfl (by decide) (.cons (.tmp rfl) (.cons (.tmp rfl) .nil)) rfl⟩
      · rw [if_neg hs]
        have c3 : decide (((r.length : Nat) : Int) < s) = false := decide_eq_false hs
        have i1 : (0 : Int) ≤ s ∧ s ≤ (((r.map zV.V).length : Nat) : Int) := by rw [List.length_map]; have := ho.1; omega
        have d1 := contains_fn (r.take s.toNat) (by rw [List.length_take]; omega)
        rw [List.map_take] at d1
        unfold oddF at d1
        generalize ((r.take s.toNat).all fun e => decide (e.k = 1)) = b at d1
        have hb : (!(!b)) = b := by simp
        repeat' ((refine zY.is ?_; first | refine zY.seq ?_ | (refine zY.iq 0 ?_; refine zY.rqa _ K_5 K_m ?_; refine zZ.va rfl rfl rfl rfl (by decide) ?_; refine zZ.va rfl rfl rfl rfl (by decide) ?_; refine zZ.nil ?_) | (refine zY.iq 1 ?_; refine zY.rqa _ K_7 K_m ?_; all_goals (refine zZ.vm rfl rfl rfl rfl (by decide) ?_); all_goals (refine zZ.v rfl rfl (yL rfl rfl rfl (by decide)) ?_); all_goals (refine zZ.v rfl rfl (yM rfl rfl rfl c1 rfl (by decide)) ?_); all_goals (refine zZ.vm rfl rfl rfl rfl (by decide) ?_); all_goals (refine zZ.gY rfl rfl (by decide) rfl (by assumption) rfl (by decide) (zQ rfl rfl rfl (by decide)) ?_); all_goals (refine zZ.gY rfl rfl (by decide) rfl (by assumption) rfl (by decide) (yY rfl rfl rfl hc g1 rfl (by decide)) ?_); all_goals (refine zZ.gY rfl rfl (by decide) rfl (by assumption) rfl (by decide) (wY rfl rfl rfl (by decide)) ?_); all_goals (refine zZ.gY rfl rfl (by decide) rfl (by assumption) rfl (by decide) (zP rfl rfl rfl rfl (by decide)) ?_); all_goals (refine zZ.gY rfl rfl (by decide) rfl (by assumption) rfl (by decide) (vJ rfl rfl rfl c2 rfl (by decide)) ?_); all_goals (refine zZ.v rfl rfl (by exact zM rfl rfl (by assumption) rfl rfl (by decide)) ?_); all_goals (refine zZ.vm rfl rfl rfl rfl (by decide) ?_); all_goals (refine zZ.gY rfl rfl (by decide) rfl (by assumption) rfl (by decide) (zQ rfl rfl rfl (by decide)) ?_); all_goals (refine zZ.gY rfl rfl (by decide) rfl (by assumption) rfl (by decide) (yL rfl rfl rfl (by decide)) ?_); all_goals (refine zZ.gY rfl rfl (by decide) rfl (by assumption) rfl (by decide) (w9 rfl rfl rfl g2 rfl (by decide)) ?_); all_goals (refine zZ.gY rfl rfl (by decide) rfl (by assumption) rfl (by decide) (xZ rfl rfl g3 rfl (by decide)) ?_); all_goals (refine zZ.gY rfl rfl (by decide) rfl (by assumption) rfl (by decide) (zQ rfl rfl rfl (by decide)) ?_); all_goals (refine zZ.gY rfl rfl (by decide) rfl (by assumption) rfl (by decide) (yY rfl rfl rfl hc g1 rfl (by decide)) ?_); all_goals (refine zZ.gY rfl rfl (by decide) rfl (by assumption) rfl (by decide) (wY rfl rfl rfl (by decide)) ?_); all_goals (refine zZ.gY rfl rfl (by decide) rfl (by assumption) rfl (by decide) (zP rfl rfl rfl rfl (by decide)) ?_); all_goals (refine zZ.gY rfl rfl (by decide) rfl (by assumption) rfl (by decide) (yZ rfl rfl rfl c3 rfl (by decide)) ?_); all_goals (refine zZ.v rfl rfl (by exact zM rfl rfl (by assumption) rfl rfl (by decide)) ?_); all_goals (refine zZ.nil ?_)) | (refine zY.iq 3 ?_; refine zY.rqa _ K_7 K_m ?_; refine zZ.vm rfl rfl rfl rfl (by decide) ?_; refine zZ.v rfl rfl (a_sliceL rfl rfl hc rfl i0 rfl (by decide)) ?_; refine zZ.va rfl rfl rfl rfl (by decide) ?_; refine zZ.nil ?_) | (refine zY.iq 4 ?_; refine zY.rqa _ K_k K_m ?_; refine zZ.va rfl rfl rfl rfl (by decide) ?_; refine zZ.nil ?_) | (refine zY.iq 5 ?_; refine zY.rqa _ K_2b K_m ?_; refine zZ.vm rfl rfl rfl rfl (by decide) ?_; refine zZ.vm rfl rfl rfl rfl (by decide) ?_; refine zZ.vm rfl rfl rfl rfl (by decide) ?_; refine zZ.v rfl rfl (yY rfl rfl rfl hc g1 rfl (by decide)) ?_; refine zZ.v rfl rfl (wY rfl rfl rfl (by decide)) ?_; refine zZ.v rfl rfl (zP rfl rfl rfl rfl (by decide)) ?_; refine zZ.v rfl rfl (a_sliceH rfl rfl hc2 rfl i1 rfl (by decide)) ?_; refine zZ.vm rfl rfl rfl rfl (by decide) ?_; refine zZ.v rfl rfl (by exact yE (d1) rfl rfl rfl (by decide)) ?_; refine zZ.v rfl rfl (xR rfl rfl (by rfl) rfl (by decide)) ?_; refine zZ.va rfl rfl rfl rfl (by decide) ?_; refine zZ.va rfl rfl rfl rfl (by decide) ?_; refine zZ.nil ?_) | refine zY.yF rfl (by assumption) ?_ | refine zY.skip ?_ | refine zY.ret ?_))
        all_goals exact ⟨.inl rfl, _, Sub.refl _, xG.tupE (rs := [.tmp 2, .tmp 3]) rfl (by decide) (.cons (.tmp rfl) (.cons (.tmp rfl) .nil)) (by simp only [Bool.not_not]; rfl)⟩
end Go.Proofs.YtomlhekjgagjaaaDoor
namespace Go.Proofs.YtomlhekjgagjaaaDoor
set_option maxRecDepth 100000
set_option maxHeartbeats 16000000
open Go Go.RowKit
attribute [local irreducible] zZ zY Step zA Sub zL z8 Fn zH zS
def putE (e : zV) : Option zV := if e.may then some e else none
def decE (b : List Int) : Option zV :=
  if b.length = 9 then if b.getD 0 0 = 1 then none else putE ⟨b.getD 0 0, wT b 1, 0, 0, 0, 0⟩
  else if b.length = 41 then if b.getD 0 0 = 1 then putE ⟨b.getD 0 0, wT b 1, wT b 9, wT b 17, wT b 25, wT b 33⟩ else none else none
theorem decR_some {b : List Int} {e : zV} (h : decE b = some e) : decR b = [e.V, .val (.int .i64 0)] := by
  unfold decE putE zV.may at h
  unfold decR decPut
  split at h
  · rename_i h9
    rw [if_pos h9]
    split at h
    · cases h
    · rename_i h1
      rw [if_neg h1]
      split at h
      · rename_i hm
        rw [if_pos hm]
        obtain rfl := Option.some.inj h
        rfl
      · cases h
  · rename_i h9
    rw [if_neg h9]
    split at h
    · rename_i h41
      rw [if_pos h41]
      split at h
      · rename_i h1
        rw [if_pos h1]
        split at h
        · rename_i hm
          rw [if_pos hm]
          obtain rfl := Option.some.inj h
          rfl
        · cases h
      · cases h
    · cases h
theorem decR_none {b : List Int} (h : decE b = none) : decR b = decBad := by
  unfold decE putE zV.may at h
  unfold decR decPut
  split at h
  · rename_i h9
    rw [if_pos h9]
    split at h
    · rename_i h1; rw [if_pos h1]
    · rename_i h1
      rw [if_neg h1]
      split at h
      · cases h
      · rename_i hm; rw [if_neg hm]
  · rename_i h9
    rw [if_neg h9]
    split at h
    · rename_i h41
      rw [if_pos h41]
      split at h
      · rename_i h1
        rw [if_pos h1]
        split at h
        · cases h
        · rename_i hm; rw [if_neg hm]
      · rename_i h1; rw [if_neg h1]
    · rename_i h41; rw [if_neg h41]
def decs : List (List Int) → List zV × Bool
  | [] => ([], true)
  | b :: r => match decE b with
    | some e => (e :: (decs r).1, (decs r).2)
    | none => ([], false)
def rowsOf (s : List Int) : List (List Int) := (yH s).map (·.2)
def wL (s : List Int) : List zV × Bool := match decs (rowsOf s) with
  | (l, true) => (l, true)
  | (_, false) => ([], false)
theorem spRows_all (s : List Int) : spRows s (yH s).length = (rowsOf s).map fun b => .sl (byts b) := by
  unfold spRows rowsOf
  rw [List.take_length, List.map_map]; rfl
theorem frames_bytes {s : List Int} (hb : yI s) : ∀ (f p : Nat), ∀ x ∈ xX s f p, yI x.2 ∧ x.2.length ≤ s.length
  | 0, p, x, h => by cases h
  | f + 1, p, x, h => by
    rw [xX] at h
    cases e : yR s p with
    | none => rw [e] at h; cases h
    | some y =>
      rw [e] at h
      obtain ⟨_, _, _, _, _, h2, _⟩ := frameAt_some e
      rcases List.mem_cons.1 h with rfl | h
      · rw [h2]
        exact ⟨fun z hz => hb z (List.mem_of_mem_drop (List.mem_of_mem_take hz)), by rw [List.length_take, List.length_drop]; omega⟩
      · exact frames_bytes hb f y.1 x h
theorem rows_bytes {s : List Int} (hb : yI s) : ∀ b ∈ rowsOf s, yI b ∧ b.length ≤ s.length := fun b hb' => by
  obtain ⟨x, hx, rfl⟩ := List.mem_map.1 hb'
  exact frames_bytes hb _ _ x hx
theorem rows_many (s : List Int) : (rowsOf s).length ≤ s.length := by
  unfold rowsOf yH
  rw [List.length_map]
  have := fr_many (s := s) (s.length + 1) 0
  omega
def enS (rows : List PV) (L : List zV) (i : Nat) : AS := { t := [(4, .own 42), (16, .p (.sl rows)), (17, .p (.val (.int .i64 (rows.length : Nat)))), (18, .p (.val (.int .i64 (i : Nat))))], s := [(42, x9 46 6 (L.map zV.V))] }
theorem entries_fn (s : List Int) (hb : yI s) (hl : s.length ≤ 1000000) : Fn Tryd.prog 48 [.sl (byts s)] (.tup [.sl ((wL s).1.map zV.V), .val (.bool (wL s).2)]) := by
  have c1 := fsplit_fn s hb hl
  rw [spRows_all] at c1
  have hrows := rows_bytes hb
  have hmany := rows_many s
  generalize hR : rowsOf s = R at *
  have hcells : ∀ e ∈ R.map (fun b => PV.sl (byts b)), e.cells.length = 1 := fun e he => by
    obtain ⟨b, _, rfl⟩ := List.mem_map.1 he
    rfl
  refine wU Tryd.func48 rfl Tryd.ntmps48 (Nat.le_of_ble_eq_true rfl) ?_
  repeat' (first | (refine zY.is ?_; first | refine zY.seq ?_ | (refine zY.iq 0 ?_; refine zY.rqa _ K_5 K_22 ?_; refine zZ.va rfl rfl rfl rfl (by decide) ?_; refine zZ.va rfl rfl rfl rfl (by decide) ?_; refine zZ.nil ?_) | (refine zY.iq 1 ?_; refine zY.rqa _ K_7 K_22 ?_; refine zZ.va rfl rfl rfl rfl (by decide) ?_; refine zZ.nil ?_) | (refine zY.iq 2 ?_; refine zY.rqa _ K_k K_22 ?_; refine zZ.vm rfl rfl rfl rfl (by decide) ?_; refine zZ.v rfl rfl (by exact y9 (c1) rfl rfl rfl (by decide)) ?_; refine zZ.v rfl rfl (yG rfl rfl rfl (by decide)) ?_; refine zZ.v rfl rfl (zC rfl rfl rfl rfl (by decide)) ?_; refine zZ.v rfl rfl (zC rfl rfl rfl rfl (by decide)) ?_; refine zZ.va rfl rfl rfl rfl (by decide) ?_; refine zZ.va rfl rfl rfl rfl (by decide) ?_; refine zZ.nil ?_) | (refine zY.iq 3 ?_; refine zY.rqa _ K_20 K_22 ?_; refine zZ.vm rfl rfl rfl rfl (by decide) ?_; refine zZ.v rfl rfl (yL rfl rfl rfl (by decide)) ?_; refine zZ.vm rfl rfl rfl rfl (by decide) ?_; refine zZ.nil ?_) | refine zY.block ?_) | refine zH.n ?_)
  refine zY.loop (fun p : List zV × Nat => enS (R.map fun b => .sl (byts b)) p.1 p.2) (fun p => p.2 ≤ R.length ∧ p.1.length = p.2 ∧ decs R = (p.1 ++ (decs (R.drop p.2)).1, (decs (R.drop p.2)).2)) (fun p => R.length - p.2) ([], 0) ?h0 ⟨Nat.zero_le _, rfl, by simp⟩ ?rd
  case h0 =>
    refine (sub_adoptV (d := 4) (id := 42) (ty := 46) (sz := 6) (by decide) rfl).trans ?_
    unfold enS
    exact zD K_2x K_19
  case rd =>
    rintro ⟨L, i⟩ ⟨hi, hL, hd⟩
    simp only at hi hL hd
    have g3 : IntKind.i64.wrap (((i : Nat) : Int) + 1) = ((i + 1 : Nat) : Int) := by rw [wrap_i64 _ (by omega)]; omega
    have hlen : (R.map fun b => PV.sl (byts b)).length = R.length := by rw [List.length_map]
    unfold enS
    by_cases hlt : i < R.length
    case pos =>
      have g1 : decide (((i : Nat) : Int) < (((R.map fun b => PV.sl (byts b)).length : Nat) : Int)) = true := decide_eq_true (by rw [hlen]; omega)
      obtain ⟨b, hbi⟩ : ∃ b, R[i]? = some b := ⟨_, List.getElem?_eq_getElem hlt⟩
      have g2 : (R.map fun b => PV.sl (byts b))[i]? = some (.sl (byts b)) := by rw [List.getElem?_map, hbi]; rfl
      have hbb := hrows b (List.mem_of_getElem? hbi)
      have d1 := dec_fn b (by omega) hbb.1
      have hdrop : R.drop i = b :: R.drop (i + 1) := by
        rw [List.drop_eq_getElem_cons hlt]
        rw [List.getElem?_eq_getElem hlt] at hbi
        rw [Option.some.inj hbi]
      rw [hdrop] at hd
      cases he : decE b with
      | none =>
        rw [decR_none he] at d1
        have hdec : decs R = (L, false) := by rw [hd]; simp [decs, he]
        have hent : wL s = ([], false) := by unfold wL; rw [hR, hdec]
        rw [hent]
        unfold decBad at d1
        repeat' (first | (refine zY.is ?_; first | refine zY.seq ?_ | (refine zY.iq 4 ?_; refine zY.rqb _ K_u K_n ?_; refine zZ.v rfl rfl (yZ rfl rfl rfl g1 rfl (by decide)) ?_; refine zZ.nil ?_) | (refine zY.iq 5 ?_; refine zY.rqb _ K_u K_n ?_; refine zZ.v rfl rfl (yY rfl rfl rfl hcells g2 rfl (by decide)) ?_; refine zZ.v rfl rfl (zP rfl rfl rfl rfl (by decide)) ?_; refine zZ.va rfl rfl rfl rfl (by decide) ?_; refine zZ.nil ?_) | (refine zY.iq 6 ?_; refine zY.rqb _ K_u K_n ?_; refine zZ.vm rfl rfl rfl rfl (by decide) ?_; refine zZ.v rfl rfl (by exact y9 (d1) rfl rfl rfl (by decide)) ?_; refine zZ.v rfl rfl (yG rfl rfl rfl (by decide)) ?_; refine zZ.v rfl rfl (zC rfl rfl rfl rfl (by decide)) ?_; refine zZ.v rfl rfl (zC rfl rfl rfl rfl (by decide)) ?_; refine zZ.m rfl rfl (xW rfl (by decide) rfl (by decide)) ?_; refine zZ.w rfl (by exact yB rfl rfl rfl rfl rfl (by rfl) (by exact Nat.le_of_ble_eq_true rfl) rfl rfl) ?_; refine zZ.va rfl rfl rfl rfl (by decide) ?_; refine zZ.nil ?_) | (refine zY.iq 7 ?_; refine zY.rqe _ K_u K_n ?_; refine zZ.vm rfl rfl rfl rfl (by decide) ?_; refine zZ.v rfl rfl (by exact vJ rfl rfl rfl (by exact bT (by decide)) rfl (by decide)) ?_; refine zZ.nil ?_) | (refine zY.iq 8 ?_; refine zY.rqe _ K_u K_n ?_; refine zZ.va rfl rfl rfl rfl (by decide) ?_; refine zZ.va rfl rfl rfl rfl (by decide) ?_; refine zZ.nil ?_) | refine zY.yC rfl (by first | assumption | with_reducible rfl) ?_ | refine zY.skip ?_ | refine zY.block ?_ | refine zY.ret ?_) | refine zH.n ?_ | refine zH.r ?_ | refine zS.r ?_)
        all_goals exact ⟨.inl rfl, _, qU (d := 2) rfl, xG.tupE (rs := [.tmp 2, .tmp 3]) rfl (by decide) (.cons (.tmp rfl) (.cons (.tmp rfl) .nil)) rfl⟩
      | some e =>
        rw [decR_some he] at d1
        have q6 : ∀ x ∈ [e.V], x.cells.length = 6 := fun x hx => by simp at hx; subst hx; rfl
        have q7 : ([e.V] : List PV).length * 48 ≤ 140737488355328 ∧ ([e.V] : List PV).length ≤ maxLen := by simp [maxLen]
        have q8 : ((L.map zV.V).length + ([e.V] : List PV).length) * 48 ≤ 140737488355328 ∧ (L.map zV.V).length + ([e.V] : List PV).length ≤ maxLen := by simp [maxLen]; omega
        have hm : (L ++ [e]).map zV.V = L.map zV.V ++ [e.V] := by simp
        have hd' : decs R = ((L ++ [e]) ++ (decs (R.drop (i + 1))).1, (decs (R.drop (i + 1))).2) := by rw [hd]; simp [decs, he]
        clear hdrop he hd
        have hlL : (L ++ [e]).length = i + 1 := by simp [hL]
        obtain ⟨ek, es, ey, eu, ev, ex⟩ := e
        repeat' (first | (refine zY.is ?_; first | refine zY.seq ?_ | (refine zY.iq 4 ?_; refine zY.rqb _ K_u K_n ?_; refine zZ.v rfl rfl (yZ rfl rfl rfl g1 rfl (by decide)) ?_; refine zZ.nil ?_) | (refine zY.iq 5 ?_; refine zY.rqb _ K_u K_n ?_; refine zZ.v rfl rfl (yY rfl rfl rfl hcells g2 rfl (by decide)) ?_; refine zZ.v rfl rfl (zP rfl rfl rfl rfl (by decide)) ?_; refine zZ.va rfl rfl rfl rfl (by decide) ?_; refine zZ.nil ?_) | (refine zY.iq 6 ?_; refine zY.rqb _ K_u K_n ?_; refine zZ.vm rfl rfl rfl rfl (by decide) ?_; refine zZ.v rfl rfl (by exact y9 (d1) rfl rfl rfl (by decide)) ?_; refine zZ.v rfl rfl (yG rfl rfl rfl (by decide)) ?_; refine zZ.v rfl rfl (zC rfl rfl rfl rfl (by decide)) ?_; refine zZ.v rfl rfl (zC rfl rfl rfl rfl (by decide)) ?_; refine zZ.m rfl rfl (xW rfl (by decide) rfl (by decide)) ?_; refine zZ.w rfl (by exact yB rfl rfl rfl rfl rfl (by rfl) (by exact Nat.le_of_ble_eq_true rfl) rfl rfl) ?_; refine zZ.va rfl rfl rfl rfl (by decide) ?_; refine zZ.nil ?_) | (refine zY.iq 7 ?_; refine zY.rqe _ K_u K_n ?_; refine zZ.vm rfl rfl rfl rfl (by decide) ?_; refine zZ.v rfl rfl (by exact vJ rfl rfl rfl (by exact bF (by decide)) rfl (by decide)) ?_; refine zZ.nil ?_) | (refine zY.iq 9 ?_; refine zY.rqe _ K_u K_n ?_; refine zZ.v rfl rfl (yJ rfl rfl rfl (by decide)) ?_; refine zZ.v rfl rfl (xY rfl rfl rfl (by rfl) (by rfl) rfl (by decide)) ?_; refine zZ.v rfl rfl (wO rfl (by decide) (by decide) (by decide) (by decide) (by rfl) (by rfl) (by rfl) (by rfl) (by rfl) (by rfl) (by rfl) rfl (by decide)) ?_; refine zZ.w rfl (qF rfl rfl rfl rfl q6 q8 rfl (by decide) rfl (by decide)) ?_; refine zZ.v rfl rfl (zN rfl rfl rfl (by decide)) ?_; refine zZ.nil ?_) | (refine zY.iq 10 ?_; refine zY.rqe _ K_u K_n ?_; refine zZ.v rfl rfl (yX rfl rfl rfl g3 rfl (by decide)) ?_; refine zZ.vm rfl rfl rfl rfl (by decide) ?_; refine zZ.nil ?_) | refine zY.yC rfl (by first | assumption | with_reducible rfl) ?_ | refine zY.yF rfl (by rfl) ?_ | refine zY.skip ?_ | refine zY.block ?_) | refine zH.n ?_ | refine zS.n ?_)
        all_goals
          refine ⟨(L ++ [⟨ek, es, ey, eu, ev, ex⟩], i + 1), ?_, ⟨hlt, hlL, hd'⟩, by show R.length - (i + 1) < R.length - i; omega⟩
          simp only []
          rw [hm]
          exact zD K_2x K_19
    case neg =>
      have hie : i = R.length := by omega
      subst hie
      have g1 : decide (((R.length : Nat) : Int) < (((R.map fun b => PV.sl (byts b)).length : Nat) : Int)) = false := decide_eq_false (by rw [hlen]; omega)
      rw [List.drop_length] at hd
      have hent : wL s = (L, true) := by unfold wL; rw [hR, hd]; simp [decs]
      rw [hent]
      repeat' (first | (refine zY.is ?_; first | refine zY.seq ?_ | (refine zY.iq 4 ?_; refine zY.rqb _ K_u K_n ?_; refine zZ.v rfl rfl (yZ rfl rfl rfl g1 rfl (by decide)) ?_; refine zZ.nil ?_) | (refine zY.isR (id := 11) ?_; refine zY.sub ((wS 42 46 6 (L.map zV.V) rfl)) ?_; refine zY.rqg _ K_v K_n ?_; refine zZ.vm rfl rfl rfl rfl (by decide) ?_; refine zZ.va rfl rfl rfl rfl (by decide) ?_; refine zZ.va rfl rfl rfl rfl (by decide) ?_; refine zZ.nil ?_) | refine zY.yF rfl (by first | assumption | with_reducible rfl) ?_ | refine zY.exit ?_ | refine zY.ret ?_) | refine zH.n ?_ | refine zS.eY ?_ | refine zH.e ?_)
      all_goals exact ⟨.inl rfl, _, Sub.refl _, xG.tupE (rs := [.tmp 2, .tmp 3]) rfl (by decide) (.cons (.tmp rfl) (.cons (.tmp rfl) .nil)) rfl⟩
end Go.Proofs.YtomlhekjgagjaaaDoor
namespace Go.Proofs.YtomlhekjgagjaaaDoor
set_option maxRecDepth 100000
set_option maxHeartbeats 16000000
open Go Go.RowKit
def yA (i : Nat) (s : List Int) : List zV × Bool := if i = 0 ∧ (wL s).2 = true then headOf (wL s).1 else wL s
def gstep (g : GD) (l : List zV × Bool) : GD := l.1.foldl gput { g with bad := g.bad || !l.2 }
def gfrom : GD → Nat → List (List Int) → GD
  | g, _, [] => g
  | g, i, s :: r => gfrom (gstep g (yA i s)) (i + 1) r
def xB (ss : List (List Int)) : GD := gfrom ⟨[], [], decide (ss.length = 0)⟩ 0 ss
theorem dget_set : ∀ (d : List (Int × Int)) (j n i : Int), dget (dset d j n) i = if j = i then some n else dget d i
  | [], j, n, i => by simp [dset, dget]
  | x :: r, j, n, i => by
    unfold dset
    by_cases h : x.1 = j
    · rw [if_pos h]
      subst h
      simp only [dget]
      split <;> rfl
    · rw [if_neg h]
      simp only [dget]
      rw [dget_set r j n i]
      by_cases h2 : x.1 = i
      · subst h2
        rw [if_pos rfl, if_pos rfl, if_neg (fun e => h e.symm)]
      · rw [if_neg h2, if_neg h2]
theorem gput_small {g : GD} {e : zV} {m : Int} (h : g.small m) : (gput g e).small (m + 1) := fun j => by
  unfold gput
  have hj := h j
  have hs := h e.s
  split
  · exact ⟨hj.1, Int.le_trans hj.2 (by omega)⟩
  · split
    · show 0 ≤ (dget (dset g.dead e.s _) j).getD 0 ∧ (dget (dset g.dead e.s _) j).getD 0 ≤ m + 1
      rw [dget_set]
      split
      · show 0 ≤ (dget g.dead e.s).getD 0 + 1 ∧ (dget g.dead e.s).getD 0 + 1 ≤ m + 1
        omega
      · exact ⟨hj.1, Int.le_trans hj.2 (by omega)⟩
    · exact ⟨hj.1, Int.le_trans hj.2 (by omega)⟩
theorem decE_ok {b : List Int} (hb : yI b) {e : zV} (h : decE b = some e) : e.ok ∧ e.may = true := by
  have z : U 0 := ⟨by decide, by decide⟩
  have n := fun p => numAt_range b hb p
  unfold decE putE at h
  split at h
  · split at h
    · cases h
    · split at h
      · rename_i hm
        obtain rfl := Option.some.inj h
        exact ⟨⟨n 1, z, z, z, z⟩, hm⟩
      · cases h
  · split at h
    · split at h
      · split at h
        · rename_i hm
          obtain rfl := Option.some.inj h
          exact ⟨⟨n 1, n 9, n 17, n 25, n 33⟩, hm⟩
        · cases h
      · cases h
    · cases h
theorem decs_ok : ∀ (R : List (List Int)), (∀ b ∈ R, yI b) → (∀ e ∈ (decs R).1, e.ok ∧ e.may = true) ∧ (decs R).1.length ≤ R.length
  | [], _ => ⟨(fun e he => by cases he), Nat.le_refl _⟩
  | b :: r, h => by
    have ih := decs_ok r fun c hc => h c (by simp [hc])
    unfold decs
    cases hd : decE b with
    | none => exact ⟨(fun e he => by cases he), Nat.zero_le _⟩
    | some e =>
      refine ⟨fun x hx => ?_, by simp only [List.length_cons]; omega⟩
      rcases List.mem_cons.1 hx with rfl | hx
      · exact decE_ok (h b (by simp)) hd
      · exact ih.1 x hx
theorem entsOf_ok {s : List Int} (hb : yI s) : (∀ e ∈ (wL s).1, e.ok ∧ e.may = true) ∧ (wL s).1.length ≤ s.length := by
  have h := decs_ok (rowsOf s) fun b hb' => (rows_bytes hb b hb').1
  have h2 := rows_many s
  unfold wL
  generalize decs (rowsOf s) = x at *
  obtain ⟨l, b⟩ := x
  cases b
  · exact ⟨(fun e he => by cases he), Nat.zero_le _⟩
  · exact ⟨h.1, by have := h.2; simp only at this; exact Nat.le_trans this h2⟩
theorem headOf_sub (L : List zV) : (∀ e ∈ (headOf L).1, e ∈ L) ∧ (headOf L).1.length ≤ L.length := by
  cases L with
  | nil => exact ⟨(fun e he => by cases he), Nat.le_refl _⟩
  | cons h r =>
    show (∀ e ∈ (if h.k = 3 then if (r.length : Int) < h.s then ([], false) else (r, (r.take h.s.toNat).all fun e => decide (e.k = 1)) else (([], false) : List zV × Bool)).1, e ∈ h :: r) ∧ (if h.k = 3 then if (r.length : Int) < h.s then ([], false) else (r, (r.take h.s.toNat).all fun e => decide (e.k = 1)) else (([], false) : List zV × Bool)).1.length ≤ (h :: r).length
    split
    · split
      · exact ⟨(fun e he => by cases he), Nat.zero_le _⟩
      · exact ⟨(fun e he => List.mem_cons_of_mem _ he), by simp⟩
    · exact ⟨(fun e he => by cases he), Nat.zero_le _⟩
theorem streamEnts_ok {i : Nat} {s : List Int} (hb : yI s) : (∀ e ∈ (yA i s).1, e.ok ∧ e.may = true) ∧ (yA i s).1.length ≤ s.length := by
  have h := entsOf_ok hb
  have h2 := headOf_sub (wL s).1
  unfold yA
  split
  · exact ⟨fun e he => h.1 e (h2.1 e he), by omega⟩
  · exact h
theorem small_mono {g : GD} {m n : Int} (h : g.small m) (hmn : m ≤ n) : g.small n := fun j => ⟨(h j).1, Int.le_trans (h j).2 hmn⟩
def gmid (g : GD) (b : Bool) : GD := { g with bad := g.bad || !b }
theorem gmid_small {g : GD} {m : Int} (b : Bool) (h : g.small m) : (gmid g b).small m := h
def total (ss : List (List Int)) : Nat := (ss.map List.length).sum
end Go.Proofs.YtomlhekjgagjaaaDoor
namespace Go.Proofs.YtomlhekjgagjaaaDoor
set_option maxRecDepth 100000
set_option maxHeartbeats 16000000
open Go Go.RowKit
attribute [local irreducible] zZ zY Step zA Sub zL z8 Fn
def vS (ss : List (List Int)) : PV := .sl (ss.map fun s => .sl (byts s))
def gaB (g : GD) : List (Nat × Blk) := [(16, .box 65 [.own 10, .own 11, .p (.val (.bool g.bad))]), (10, mapB (vC g.born)), (11, mapB (vZ g.dead))]
def gaS (ss : List (List Int)) (p : GD × Nat) : AS := { t := [(3, .ptr 16 0), (17, .p (vS ss)), (18, .p (.val (.int .i64 ((ss.map fun s => PV.sl (byts s)).length : Nat)))), (19, .p (.val (.int .i64 (p.2 : Nat))))], s := gaB p.1 }
def gaM (ss : List (List Int)) (g : GD) (i : Nat) (l : List zV × Bool) : AS := { t := [(3, .ptr 16 0), (6, .p (.sl (l.1.map zV.V))), (7, .p (.val (.bool l.2))), (17, .p (vS ss)), (18, .p (.val (.int .i64 ((ss.map fun s => PV.sl (byts s)).length : Nat)))), (19, .p (.val (.int .i64 (i : Nat))))], s := gaB g }
def gaN (ss : List (List Int)) (g : GD) (i : Nat) (l : List zV) : AS := { t := [(3, .ptr 16 0), (6, .p (.sl (l.map zV.V))), (17, .p (vS ss)), (18, .p (.val (.int .i64 ((ss.map fun s => PV.sl (byts s)).length : Nat)))), (19, .p (.val (.int .i64 (i : Nat))))], s := gaB g }
def gaI (ss : List (List Int)) (i : Nat) (l : List zV) (p : GD × Nat) : AS := { t := [(3, .ptr 16 0), (17, .p (vS ss)), (18, .p (.val (.int .i64 ((ss.map fun s => PV.sl (byts s)).length : Nat)))), (19, .p (.val (.int .i64 (i : Nat)))), (50, .p (.sl (l.map zV.V))), (51, .p (.val (.int .i64 ((l.map zV.V).length : Nat)))), (52, .p (.val (.int .i64 (p.2 : Nat))))], s := gaB p.1 }
theorem gather_fn (ss : List (List Int)) (hb : ∀ s ∈ ss, yI s) (hn : ss.length ≤ 1000000) (ht : total ss ≤ 1000000) : FnZ Tryd.prog 28 [.p (vS ss)] [] [] (.ptr 1000 0) [] (gB (xB ss)) := by
 refine vO [16, 10, 11] Tryd.func28 rfl Tryd.ntmps28 (Nat.le_of_ble_eq_true rfl) (Nat.le_of_ble_eq_true rfl) rfl rfl ?_
 have hlen : (ss.map fun s => PV.sl (byts s)).length = ss.length := by rw [List.length_map]
 have hcells : ∀ e ∈ ss.map (fun s => PV.sl (byts s)), e.cells.length = 1 := fun e he => by
  obtain ⟨b, _, rfl⟩ := List.mem_map.1 he
  rfl
 have hdec : decide ((((ss.map fun s => PV.sl (byts s)).length : Nat) : Int) = 0) = decide (ss.length = 0) := by rw [hlen]; exact decide_eq_decide.2 (by omega)
 unfold vS
 repeat' (first | (refine zZ.is ?_; first | refine zZ.nil ?_ | refine zZ.v rfl rfl (by first | exact a_assignR rfl rfl rfl (by decide) | exact yM rfl rfl rfl (by first | exact decide_eq_true (by rfl) | rfl) rfl (by decide) | exact yL rfl rfl rfl (by decide) | exact zQ rfl rfl rfl (by decide)) ?_ | refine zZ.m rfl rfl (w_makeMap rfl rfl (by decide)) ?_ | refine zZ.buildBox rfl rfl rfl rfl rfl rfl (by decide) (by decide) rfl rfl rfl rfl ?_) | (refine zY.is ?_; first | refine zY.seq ?_ | (refine zY.iq 0 ?_; refine zY.rqa _ K_5 K_b ?_; refine zZ.va rfl rfl rfl rfl (by decide) ?_; refine zZ.nil ?_) | (refine zY.iq 1 ?_; refine zY.rqa _ K_s K_b ?_) | (refine zY.iq 2 ?_; refine zY.rqi _ K_7 K_b ?_; refine zZ.vm rfl rfl rfl rfl (by decide) ?_; refine zZ.v rfl rfl (yL rfl rfl rfl (by decide)) ?_; refine zZ.vm rfl rfl rfl rfl (by decide) ?_; refine zZ.nil ?_) | refine zY.block ?_))
 refine zY.loop (gaS ss) (fun p => p.2 ≤ ss.length ∧ (∃ m : Int, p.1.small m ∧ m + (total (ss.drop p.2) : Nat) ≤ 1000000) ∧ gfrom p.1 p.2 (ss.drop p.2) = xB ss) (fun p => ss.length - p.2) (⟨[], [], decide ((((ss.map fun s => PV.sl (byts s)).length : Nat) : Int) = 0)⟩, 0) ?h0 ⟨Nat.zero_le _, ⟨0, fun j => ⟨by simp [dget], by simp [dget]⟩, by simp; omega⟩, by rw [hdec]; rfl⟩ ?rd
 case h0 =>
  unfold gaS gaB vS
  dsimp only [vC, vZ, List.map_nil]
  exact zD K_1u K_y
 case rd =>
  rintro ⟨g, i⟩ ⟨hi, ⟨m, hsm, hmt⟩, hg⟩
  simp only at hi hsm hmt hg
  have g3 : IntKind.i64.wrap (((i : Nat) : Int) + 1) = ((i + 1 : Nat) : Int) := by rw [wrap_i64 _ (by omega)]; omega
  unfold gaS gaB vS
  dsimp only
  by_cases hlt : i < ss.length
  case neg =>
   have hie : i = ss.length := by omega
   subst hie
   have g1 : decide (((ss.length : Nat) : Int) < (((ss.map fun s => PV.sl (byts s)).length : Nat) : Int)) = false := decide_eq_false (by rw [hlen]; omega)
   rw [List.drop_length] at hg
   repeat' ((refine zY.is ?_; first | refine zY.seq ?_ | (refine zY.iq 3 ?_; refine zY.rqk _ K_g K_b ?_; refine zZ.v rfl rfl (yZ rfl rfl rfl g1 rfl (by decide)) ?_; refine zZ.nil ?_) | (refine zY.isR (id := 15) ?_; refine zY.zK [2, 3] [9, 10, 11, 16] (by repeat' first | exact zX.nil | apply zX.ptr rfl | apply zX.skip) (by repeat' first | exact zW.nil | apply zW.some rfl | apply zW.skip) ?_; refine zZ.v rfl rfl (zO rfl rfl rfl (by decide)) ?_; refine zZ.v rfl rfl (a_assignR rfl rfl rfl (by decide)) ?_; refine zZ.nil ?_) | refine zY.yF rfl (by first | assumption | with_reducible rfl) ?_ | refine zY.exit ?_ | refine zY.ret ?_))
   all_goals
    rw [← hg]
    exact ⟨.inl rfl, _, Sub.refl _, .one rfl rfl, zG (by decide) rfl (by repeat' first | exact trivial | rfl | constructor)⟩
  case pos =>
   have g1 : decide (((i : Nat) : Int) < (((ss.map fun s => PV.sl (byts s)).length : Nat) : Int)) = true := decide_eq_true (by rw [hlen]; omega)
   obtain ⟨s, hsi⟩ : ∃ s, ss[i]? = some s := ⟨_, List.getElem?_eq_getElem hlt⟩
   have g2 : (ss.map fun b => PV.sl (byts b))[i]? = some (.sl (byts s)) := by rw [List.getElem?_map, hsi]; rfl
   have hsb := hb s (List.mem_of_getElem? hsi)
   have hdrop : ss.drop i = s :: ss.drop (i + 1) := by
    rw [List.drop_eq_getElem_cons hlt]
    rw [List.getElem?_eq_getElem hlt] at hsi
    rw [Option.some.inj hsi]
   rw [hdrop] at hg hmt
   have htot : total (s :: ss.drop (i + 1)) = s.length + total (ss.drop (i + 1)) := by simp [total]
   rw [htot] at hmt
   have hm0 := (hsm 0).1
   have hm1 := (hsm 0).2
   have hent := streamEnts_ok (i := i) hsb
   have d1 := entries_fn s hsb (by omega)
   have eok := entsOf_ok hsb
   repeat' (first | refine zY.hold (id := 6) ?_ | (refine zY.is ?_; first | refine zY.seq ?_ | (refine zY.iq 3 ?_; refine zY.rqk _ K_g K_b ?_; refine zZ.v rfl rfl (yZ rfl rfl rfl g1 rfl (by decide)) ?_; refine zZ.nil ?_) | (refine zY.iq 4 ?_; refine zY.rqk _ K_g K_b ?_; refine zZ.vm rfl rfl rfl rfl (by decide) ?_; refine zZ.v rfl rfl (yY rfl rfl rfl hcells g2 rfl (by decide)) ?_; refine zZ.v rfl rfl (zP rfl rfl rfl rfl (by decide)) ?_; refine zZ.va rfl rfl rfl rfl (by decide) ?_; refine zZ.va rfl rfl rfl rfl (by decide) ?_; refine zZ.nil ?_) | (refine zY.iq 5 ?_; refine zY.rqk _ K_g K_b ?_; refine zZ.vm rfl rfl rfl rfl (by decide) ?_; refine zZ.v rfl rfl (by exact y9 (d1) rfl rfl rfl (by decide)) ?_; refine zZ.v rfl rfl (yG rfl rfl rfl (by decide)) ?_; refine zZ.v rfl rfl (zC rfl rfl rfl rfl (by decide)) ?_; refine zZ.v rfl rfl (zC rfl rfl rfl rfl (by decide)) ?_; refine zZ.va rfl rfl rfl rfl (by decide) ?_; refine zZ.va rfl rfl rfl rfl (by decide) ?_; refine zZ.nil ?_) | refine zY.yC rfl (by first | assumption | with_reducible rfl) ?_ | refine zY.skip ?_ | refine zY.block ?_))
   refine Hold.go ?_
   refine zY.cutK (M := gaM ss g i (yA i s)) ?h1 ?h2
   case h1 =>
    by_cases h0 : i = 0
    case neg =>
     have c1 : decide (((i : Nat) : Int) = 0) = false := decide_eq_false (by omega)
     have hst : yA i s = wL s := by unfold yA; rw [if_neg (fun h => h0 h.1)]
     rw [hst]
     repeat' (first | (refine zY.is ?_; first | refine zY.seq ?_ | (refine zY.iq 6 ?_; refine zY.rqk _ K_g K_b ?_; all_goals (refine zZ.vm rfl rfl rfl rfl (by decide) ?_); all_goals (refine zZ.v rfl rfl (yM rfl rfl rfl c1 rfl (by decide)) ?_); all_goals (refine zZ.vm rfl rfl rfl rfl (by decide) ?_); all_goals (refine zZ.gnT rfl rfl (by decide) rfl (by rfl) rfl (by decide) ?_); all_goals (refine zZ.v rfl rfl (zM rfl rfl (by rfl) rfl rfl (by decide)) ?_); all_goals (refine zZ.nil ?_)) | refine zY.yF rfl (by first | assumption | with_reducible rfl) ?_ | refine zY.skip ?_) | refine zH.n ?_)
     all_goals
      unfold gaM gaB vS
      exact zD K_2d K_y
    case pos =>
     have c1 : decide (((i : Nat) : Int) = 0) = true := decide_eq_true (by omega)
     cases hok : (wL s).2
     ·have hst : yA i s = ((wL s).1, false) := by unfold yA; rw [if_neg (fun h => by rw [hok] at h; exact Bool.noConfusion h.2), ← hok]
      rw [hst]
      repeat' (first | (refine zY.is ?_; first | refine zY.seq ?_ | (refine zY.iq 6 ?_; refine zY.rqk _ K_g K_b ?_; all_goals (refine zZ.vm rfl rfl rfl rfl (by decide) ?_); all_goals (refine zZ.v rfl rfl (yM rfl rfl rfl c1 rfl (by decide)) ?_); all_goals (refine zZ.vm rfl rfl rfl rfl (by decide) ?_); all_goals (refine zZ.gY rfl rfl (by decide) rfl (by rfl) rfl (by decide) (zQ rfl rfl rfl (by decide)) ?_); all_goals (refine zZ.v rfl rfl (zR rfl rfl (by rfl) rfl rfl (by decide)) ?_); all_goals (refine zZ.nil ?_)) | refine zY.yF rfl (by first | assumption | with_reducible rfl) ?_ | refine zY.skip ?_) | refine zH.n ?_)
      all_goals
       unfold gaM gaB vS
       exact zD K_2d K_y
     ·have hst : yA i s = headOf (wL s).1 := by unfold yA; rw [if_pos ⟨h0, hok⟩]
      have d2 := headed_fn (wL s).1 (fun e he => (eok.1 e he).1) (by omega)
      rw [hst]
      repeat' (first | (refine zY.is ?_; first | refine zY.seq ?_ | (refine zY.iq 6 ?_; refine zY.rqk _ K_g K_b ?_; all_goals (refine zZ.vm rfl rfl rfl rfl (by decide) ?_); all_goals (refine zZ.v rfl rfl (yM rfl rfl rfl c1 rfl (by decide)) ?_); all_goals (refine zZ.vm rfl rfl rfl rfl (by decide) ?_); all_goals (refine zZ.gY rfl rfl (by decide) rfl (by rfl) rfl (by decide) (zQ rfl rfl rfl (by decide)) ?_); all_goals (refine zZ.v rfl rfl (zR rfl rfl (by rfl) rfl rfl (by decide)) ?_); all_goals (refine zZ.nil ?_)) | (refine zY.iq 7 ?_; refine zY.rqk _ K_g K_b ?_; refine zZ.vm rfl rfl rfl rfl (by decide) ?_; refine zZ.v rfl rfl (by exact y9 (d2) rfl rfl rfl (by decide)) ?_; refine zZ.v rfl rfl (yG rfl rfl rfl (by decide)) ?_; refine zZ.v rfl rfl (zC rfl rfl rfl rfl (by decide)) ?_; refine zZ.v rfl rfl (zC rfl rfl rfl rfl (by decide)) ?_; refine zZ.va rfl rfl rfl rfl (by decide) ?_; refine zZ.va rfl rfl rfl rfl (by decide) ?_; refine zZ.nil ?_) | refine zY.yC rfl (by rfl) ?_) | refine zH.n ?_)
      all_goals
       unfold gaM gaB vS
       exact zD K_2d K_y
   case h2 =>
    generalize hl : yA i s = l at *
    obtain ⟨L, ok⟩ := l
    unfold gaM gaB vS
    dsimp only
    refine zY.hold (id := 8) ?_
    refine Hold.go ?_
    refine zY.cutR (id := 8) (M := gaN ss (gmid g ok) i L) ?k1 ?k2
    case k1 =>
     obtain ⟨gb, gd, gx⟩ := g
     cases gx <;> cases ok
     case false.false =>
      repeat' (first | (refine zY.is ?_; (refine zY.iq 8 ?_; refine zY.rqk _ K_g K_b ?_; all_goals (refine zZ.v rfl rfl (zO rfl rfl rfl (by decide)) ?_); all_goals (refine zZ.v rfl rfl (zO rfl rfl rfl (by decide)) ?_); all_goals (refine zZ.v rfl rfl (yD rfl rfl rfl (by decide)) ?_); all_goals (refine zZ.v rfl rfl (zJ rfl rfl rfl (by decide)) ?_); all_goals (refine zZ.v rfl rfl (zB rfl rfl rfl rfl rfl (by decide)) ?_); all_goals (refine zZ.vm rfl rfl rfl rfl (by decide) ?_); all_goals (refine zZ.gY rfl rfl (by decide) rfl (by rfl) rfl (by decide) (zQ rfl rfl rfl (by decide)) ?_); all_goals (refine zZ.gY rfl rfl (by decide) rfl (by rfl) rfl (by decide) (by exact xR rfl rfl (by exact bT (by decide)) rfl (by decide)) ?_); all_goals (refine zZ.v rfl rfl (zM rfl rfl (by rfl) rfl rfl (by decide)) ?_); all_goals (refine zZ.v rfl rfl (yD rfl rfl rfl (by decide)) ?_); all_goals (refine zZ.v rfl rfl (zJ rfl rfl rfl (by decide)) ?_); all_goals (refine zZ.w rfl (by exact yB rfl rfl rfl rfl rfl (by rfl) (by exact Nat.le_of_ble_eq_true rfl) rfl rfl) ?_); all_goals (refine zZ.nil ?_))) | refine zH.n ?_)
      all_goals
       unfold gaN gaB vS gmid
       dsimp only
       exact zD K_23 K_y
     case false.true =>
      repeat' (first | (refine zY.is ?_; (refine zY.iq 8 ?_; refine zY.rqk _ K_g K_b ?_; all_goals (refine zZ.v rfl rfl (zO rfl rfl rfl (by decide)) ?_); all_goals (refine zZ.v rfl rfl (zO rfl rfl rfl (by decide)) ?_); all_goals (refine zZ.v rfl rfl (yD rfl rfl rfl (by decide)) ?_); all_goals (refine zZ.v rfl rfl (zJ rfl rfl rfl (by decide)) ?_); all_goals (refine zZ.v rfl rfl (zB rfl rfl rfl rfl rfl (by decide)) ?_); all_goals (refine zZ.vm rfl rfl rfl rfl (by decide) ?_); all_goals (refine zZ.gY rfl rfl (by decide) rfl (by rfl) rfl (by decide) (zQ rfl rfl rfl (by decide)) ?_); all_goals (refine zZ.gY rfl rfl (by decide) rfl (by rfl) rfl (by decide) (by exact xR rfl rfl (by exact bF (by decide)) rfl (by decide)) ?_); all_goals (refine zZ.v rfl rfl (zM rfl rfl (by rfl) rfl rfl (by decide)) ?_); all_goals (refine zZ.v rfl rfl (yD rfl rfl rfl (by decide)) ?_); all_goals (refine zZ.v rfl rfl (zJ rfl rfl rfl (by decide)) ?_); all_goals (refine zZ.w rfl (by exact yB rfl rfl rfl rfl rfl (by rfl) (by exact Nat.le_of_ble_eq_true rfl) rfl rfl) ?_); all_goals (refine zZ.nil ?_))) | refine zH.n ?_)
      all_goals
       unfold gaN gaB vS gmid
       dsimp only
       exact zD K_23 K_y
     case true.false =>
      repeat' (first | (refine zY.is ?_; (refine zY.iq 8 ?_; refine zY.rqk _ K_g K_b ?_; all_goals (refine zZ.v rfl rfl (zO rfl rfl rfl (by decide)) ?_); all_goals (refine zZ.v rfl rfl (zO rfl rfl rfl (by decide)) ?_); all_goals (refine zZ.v rfl rfl (yD rfl rfl rfl (by decide)) ?_); all_goals (refine zZ.v rfl rfl (zJ rfl rfl rfl (by decide)) ?_); all_goals (refine zZ.v rfl rfl (zB rfl rfl rfl rfl rfl (by decide)) ?_); all_goals (refine zZ.vm rfl rfl rfl rfl (by decide) ?_); all_goals (refine zZ.gnF rfl rfl (by decide) rfl (by rfl) rfl (by decide) ?_); all_goals (refine zZ.gnF rfl rfl (by decide) rfl (by rfl) rfl (by decide) ?_); all_goals (refine zZ.v rfl rfl (zR rfl rfl (by rfl) rfl rfl (by decide)) ?_); all_goals (refine zZ.v rfl rfl (yD rfl rfl rfl (by decide)) ?_); all_goals (refine zZ.v rfl rfl (zJ rfl rfl rfl (by decide)) ?_); all_goals (refine zZ.w rfl (by exact yB rfl rfl rfl rfl rfl (by rfl) (by exact Nat.le_of_ble_eq_true rfl) rfl rfl) ?_); all_goals (refine zZ.nil ?_))) | refine zH.n ?_)
      all_goals
       unfold gaN gaB vS gmid
       dsimp only
       exact zD K_23 K_y
     case true.true =>
      repeat' (first | (refine zY.is ?_; (refine zY.iq 8 ?_; refine zY.rqk _ K_g K_b ?_; all_goals (refine zZ.v rfl rfl (zO rfl rfl rfl (by decide)) ?_); all_goals (refine zZ.v rfl rfl (zO rfl rfl rfl (by decide)) ?_); all_goals (refine zZ.v rfl rfl (yD rfl rfl rfl (by decide)) ?_); all_goals (refine zZ.v rfl rfl (zJ rfl rfl rfl (by decide)) ?_); all_goals (refine zZ.v rfl rfl (zB rfl rfl rfl rfl rfl (by decide)) ?_); all_goals (refine zZ.vm rfl rfl rfl rfl (by decide) ?_); all_goals (refine zZ.gnF rfl rfl (by decide) rfl (by rfl) rfl (by decide) ?_); all_goals (refine zZ.gnF rfl rfl (by decide) rfl (by rfl) rfl (by decide) ?_); all_goals (refine zZ.v rfl rfl (zR rfl rfl (by rfl) rfl rfl (by decide)) ?_); all_goals (refine zZ.v rfl rfl (yD rfl rfl rfl (by decide)) ?_); all_goals (refine zZ.v rfl rfl (zJ rfl rfl rfl (by decide)) ?_); all_goals (refine zZ.w rfl (by exact yB rfl rfl rfl rfl rfl (by rfl) (by exact Nat.le_of_ble_eq_true rfl) rfl rfl) ?_); all_goals (refine zZ.nil ?_))) | refine zH.n ?_)
      all_goals
       unfold gaN gaB vS gmid
       dsimp only
       exact zD K_23 K_y
    case k2 =>
     have hLc : ∀ e ∈ L.map zV.V, e.cells.length = 6 := yU L
     have hLl : (L.map zV.V).length = L.length := by rw [List.length_map]
     have hL0 : L.length ≤ s.length := hent.2
     have hg2 : gfrom ((L.foldl gput (gmid g ok))) (i + 1) (ss.drop (i + 1)) = xB ss := by
      rw [← hg]
      show _ = gfrom (gstep g (yA i s)) (i + 1) (ss.drop (i + 1))
      rw [hl]
      rfl
     clear hg hent hdrop htot d1 eok g2 hsi
     have hsm2 : (gmid g ok).small m := gmid_small ok hsm
     generalize gmid g ok = g' at *
     unfold gaN gaB vS
     repeat' ((refine zY.is ?_; first | refine zY.seq ?_ | (refine zY.iq 9 ?_; refine zY.rqk _ K_g K_b ?_; refine zZ.vm rfl rfl rfl rfl (by decide) ?_; refine zZ.v rfl rfl (yL rfl rfl rfl (by decide)) ?_; refine zZ.vm rfl rfl rfl rfl (by decide) ?_; refine zZ.nil ?_) | refine zY.block ?_))
     refine zY.loop (gaI ss i L) (fun p => p.2 ≤ L.length ∧ p.1.small (m + (p.2 : Nat)) ∧ (L.drop p.2).foldl gput p.1 = L.foldl gput g') (fun p => L.length - p.2) (g', 0) ?i0 ⟨Nat.zero_le _, by simpa using hsm2, rfl⟩ ?ir
     case i0 =>
      unfold gaI gaB vS
      exact zD K_2y K_y
     case ir =>
      rintro ⟨q, j⟩ ⟨hj, hqs, hq⟩
      simp only at hj hqs hq
      have k3 : IntKind.i64.wrap (((j : Nat) : Int) + 1) = ((j + 1 : Nat) : Int) := by rw [wrap_i64 _ (by omega)]; omega
      unfold gaI gaB vS
      dsimp only
      by_cases hjt : j < L.length
      case neg =>
       have hie : j = L.length := by omega
       subst hie
       have k1 : decide (((L.length : Nat) : Int) < (((L.map zV.V).length : Nat) : Int)) = false := decide_eq_false (by rw [hLl]; omega)
       rw [List.drop_length] at hq
       repeat' (first | (refine zY.is ?_; first | refine zY.seq ?_ | (refine zY.iq 10 ?_; refine zY.rqk _ K_g K_b ?_; refine zZ.v rfl rfl (yZ rfl rfl rfl k1 rfl (by decide)) ?_; refine zZ.nil ?_) | (refine zY.iq 14 ?_; refine zY.rqk _ K_g K_b ?_; refine zZ.v rfl rfl (yX rfl rfl rfl g3 rfl (by decide)) ?_; refine zZ.vm rfl rfl rfl rfl (by decide) ?_; refine zZ.nil ?_) | refine zY.yF rfl (by first | assumption | with_reducible rfl) ?_ | refine zY.exit ?_) | refine zH.n ?_)
       all_goals
        refine ⟨(q, i + 1), ?_, ⟨hlt, ⟨m + (L.length : Nat), hqs, by simp only; omega⟩, by simp only [List.foldl_nil] at hq; rw [hq]; exact hg2⟩, by show ss.length - (i + 1) < ss.length - i; omega⟩
        exact zD K_1u K_y
      case pos =>
       have k1 : decide (((j : Nat) : Int) < (((L.map zV.V).length : Nat) : Int)) = true := decide_eq_true (by rw [hLl]; omega)
       obtain ⟨e, hje⟩ : ∃ e, L[j]? = some e := ⟨_, List.getElem?_eq_getElem hjt⟩
       have k2 : (L.map zV.V)[j]? = some e.V := by rw [List.getElem?_map, hje]; rfl
       have hdrop : L.drop j = e :: L.drop (j + 1) := by
        rw [List.drop_eq_getElem_cons hjt]
        rw [List.getElem?_eq_getElem hjt] at hje
        rw [Option.some.inj hje]
       rw [hdrop] at hq
       have p1 := gput_fn q e (small_mono hqs (by omega))
       unfold gB at p1
       have hqs' := gput_small (e := e) hqs
       obtain ⟨ek, es, ey, eu, ev, ex⟩ := e
       repeat' (first | (refine zY.is ?_; first | refine zY.seq ?_ | (refine zY.iq 10 ?_; refine zY.rqk _ K_g K_b ?_; refine zZ.v rfl rfl (yZ rfl rfl rfl k1 rfl (by decide)) ?_; refine zZ.nil ?_) | (refine zY.iq 11 ?_; refine zY.rqk _ K_g K_b ?_; refine zZ.v rfl rfl (yY rfl rfl rfl hLc k2 rfl (by decide)) ?_; refine zZ.v rfl rfl (by exact vW rfl rfl (by exact Nat.le_of_ble_eq_true rfl) rfl (by decide)) ?_; refine zZ.m rfl rfl (xW rfl (by decide) rfl (by decide)) ?_; refine zZ.w rfl (by exact yB rfl rfl rfl rfl rfl (by rfl) (by exact Nat.le_of_ble_eq_true rfl) rfl rfl) ?_; refine zZ.nil ?_) | (refine zY.isR (id := 12) ?_; refine zY.zK [2, 3, 4, 5, 6, 7, 9, 17, 18, 19, 20, 33, 50, 51, 52, 53] [9, 10, 11, 16] (by repeat' first | exact zX.nil | apply zX.p rfl | apply zX.ptr rfl | apply zX.skip) (by repeat' first | exact zW.nil | apply zW.boxP rfl rfl | apply zW.some rfl) ?_; refine zZ.v rfl rfl (zO rfl rfl rfl (by decide)) ?_; refine zZ.v rfl rfl (xY rfl rfl rfl (by rfl) (by rfl) rfl (by decide)) ?_; refine zZ.ofT rfl (z8.z [16, 10, 11] [] [] (p1) rfl (by decide) (yT rfl) (by rfl) (zG (by decide) rfl (by repeat' first | exact trivial | rfl | constructor)) rfl rfl rfl (by decide) rfl rfl (by decide) rfl rfl rfl ?_); refine zZ.nil ?_) | (refine zY.isR (id := 13) ?_; refine zY.zK [2, 3, 4, 5, 6, 7, 9, 17, 18, 19, 20, 33, 50, 51, 52, 53] [9, 10, 11, 16] (by repeat' first | exact zX.nil | apply zX.p rfl | apply zX.ptr rfl | apply zX.skip) (by repeat' first | exact zW.nil | apply zW.boxP rfl rfl | apply zW.some rfl) ?_; refine zZ.v rfl rfl (yX rfl rfl rfl k3 rfl (by decide)) ?_; refine zZ.vm rfl rfl rfl rfl (by decide) ?_; refine zZ.nil ?_) | refine zY.yC rfl (by first | assumption | with_reducible rfl) ?_ | refine zY.skip ?_ | refine zY.block ?_) | refine zH.n ?_)
       all_goals
        refine ⟨(gput q ⟨ek, es, ey, eu, ev, ex⟩, j + 1), ?_, ⟨hjt, by have := hqs'; rw [Int.add_assoc] at this; exact this, hq⟩, by show L.length - (j + 1) < L.length - j; omega⟩
        exact zD K_2y K_y
end Go.Proofs.YtomlhekjgagjaaaDoor
