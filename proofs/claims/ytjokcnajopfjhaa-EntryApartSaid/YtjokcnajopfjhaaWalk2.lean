/- More rules in the form that the walk takes; and functions whose results lie in cells, or are to be frozen. Generic over the program. -/
import Derived.Test.YtjokcnajopfjhaaMem4
import Derived.Test.YtjokcnajopfjhaaWalk
namespace Go.Proofs.Ytjokcnajopfjhaa
open Go Go.RowKit

class BuildA (P : Program) (t : Nat) (pl : outParam (List (Nat × Nat))) : Prop where
  st : P.underlying t = some (.struct (P.fieldsOf t))
  pl : (P.fieldsOf t).toList.map (fun f => (P.info? f.type).map fun i => (f.offset, i.size)) = pl.map some
class EqA (P : Program) (t : Nat) (m : outParam Nat) : Prop where
  st : P.underlying t = some (.struct (P.fieldsOf t))
  held : P.stoodInHeld t = false
  guard : P.eqGuardType P.depth t = false
  flat : flatInts P (P.fieldsOf t).toList 0 = true
  len : (P.fieldsOf t).toList.length = m

theorem run_places {P : Program} {w : World} : ∀ (fs : List Field) (pl : List (Nat × Nat)), fs.map (fun f => (P.info? f.type).map fun i => (f.offset, i.size)) = pl.map some →
    (List.mapM (fun f => do pure (f.offset, ← sizeOf f.type)) fs : Sem (List (Nat × Nat))).run P w = .ok pl w
  | [], pl, h => by
    cases pl with
    | nil => simp
    | cons p r => simp at h
  | f :: fs, pl, h => by
    cases pl with
    | nil => simp at h
    | cons p r =>
      simp only [List.map_cons, List.cons.injEq] at h
      obtain ⟨h1, h2⟩ := h
      obtain ⟨i, hi, rfl⟩ := Option.map_eq_some_iff.1 h1
      have ih := run_places (P := P) (w := w) fs r h2
      have hs : (sizeOf f.type).run P w = .ok i.size w := by simp [sizeOf, typeInfo, hi]
      simp only [List.mapM_cons, Sem.run_bind, Sem.run_pure, hs, ih, Result.andThen_ok]

theorem run_build {P : Program} {t : Nat} {pl : List (Nat × Nat)} {z : Value} [hb : BuildA P t pl] [hz : ZeroA P t z] (parts : List (Nat × Value)) (w : World) (cells : Array Value) (h : Instr.fill (fun i => pl[i]?) z.cells.toList.toArray parts = some cells) :
    (Instr.build t parts.toArray).run P w = .ok (.agg cells) w := by
  have h1 := run_places (w := w) _ pl hb.pl
  have h2 : (Array.mapM (fun f => do pure (f.offset, ← sizeOf f.type)) (P.fieldsOf t) : Sem (Array (Nat × Nat))).run P w = .ok pl.toArray w := by
    rw [Array.mapM_eq_mapM_toList]
    simp only [Sem.run_map, h1]
    rfl
  unfold Instr.build
  simp only [Sem.run_bind, hz.h, Result.andThen_ok, run_underlying hb.st, h2]
  have e : (fun i : Nat => pl.toArray[i]?) = fun i : Nat => pl[i]? := by funext i; simp
  rw [Array.toArray_toList] at h
  rw [e, h]
  rfl

section
variable {P : Program} {n : Nat} {o : Oper} {S : AS} {d : Nat} {t : TypeId} {x y : Operand}

theorem w_build {ps : Array (Nat × Operand)} {pl : List (Nat × Nat)} {z : Value} {zs : List AV} {cs : List PV} [hb : BuildA P t pl] [hz : ZeroA P t z] (ho : o.op = .build t ps) (h1 : z.cells.toList.all (fun u => u.oneCell') = true)
    (hk : ps.toList.all (fun p => (S.get p.2).partOK) = true)
    (hf : fillA (fun i => pl[i]?) (z.cells.toList.map fun u => .p (.val u)) (ps.toList.map fun p => (p.1, S.get p.2)) = some zs) (hp : pures zs = some cs) (hd : o.dst = some d) (hn : d < n) : AStep P n o S [] (.p (.agg cs)) none :=
  a_build ho (fun parts w cells h => run_build parts w cells h) (fun u hu => List.all_eq_true.1 h1 u hu) hk hf (pures_spec hp) hd hn

theorem zeros_eq (z : Array Value) (len : Nat) : ((Array.range len).map (z[· % z.size]!)) = ((List.range len).map (z[· % z.size]!)).toArray := by
  apply Array.ext'
  simp [Array.toList_range]

theorem w_buildSlice {ps : Array (Nat × Operand)} {len e sz by_ : Nat} {z : Value} {zs : List AV} [ht : Und P t (.slice e)] [hi : InfoA P e z sz by_] (ho : o.op = .buildSlice t len ps)
    (hl : len ≤ maxLen) (hsmall : ¬ len * sz > 2 ^ 24) (hpos : ¬ len * sz = 0) (hz : ((List.range (len * sz)).map (z.cells[· % z.cells.size]!)).all (fun u => u.oneCell') = true) (hk : ps.toList.all (fun p => (S.get p.2).partOK) = true)
    (hf : fillA (fun i => some (i * sz, sz)) (((List.range (len * sz)).map (z.cells[· % z.cells.size]!)).map fun u => .p (.val u)) (ps.toList.map fun p => (p.1, S.get p.2)) = some zs) (hlen : zs.length = len * sz) (hd : o.dst = some d) (hn : d < n) :
    AStep P n o S [] (.own d) (some (.row e sz len zs)) := by
  obtain ⟨i, hi1, hi2⟩ := Option.map_eq_some_iff.1 hi.h
  simp only [Prod.mk.injEq] at hi2
  obtain ⟨hzi, hisz, _⟩ := hi2
  subst hisz
  exact a_buildSlice ho (fun parts w cells h => run_buildSlice w t e len _ cells i z ht.h hi1 hzi hsmall hpos (by rw [zeros_eq]; exact h)) hl (fun u hu => List.all_eq_true.1 hz u hu) hk hf hlen hd hn

theorem w_store {id off m : Nat} {b : Blk} {av : AV} {agg : Bool} [h : TyA P t agg m] (ho : o.op = .store t x y) (hx : S.get x = .ptr id off) (hb : S.blk id = some b) (hy : S.get y = av) (hk : av.partOK = true)
    (hlen : av.cellsA.length = m) (hle : off + m ≤ b.xs.length) (hd : o.dst = none) : Step P n o S { S with s := putL S.s id (b.setXs (splice b.xs off av.cellsA)) } :=
  s_store ho hx hb hy hk h.sz hlen hle hd

theorem w_appendP {id e sz by_ m : Nat} {z : Value} {xs : List AV} {es : List PV} [ht : Und P t (.slice e)] [hi : InfoA P e z sz by_] (ho : o.op = .call { callee := .builtin .append, args := #[x, y], argTypes := #[t, t] }) (hx : S.get x = .own id) (hb : S.blk id = some (.row e sz m xs))
    (hy : S.get y = .p (.sl es)) (hes : ∀ e ∈ es, e.cells.length = sz) (hlim : (m + es.length) * by_ ≤ 140737488355328 ∧ m + es.length ≤ maxLen) (hzs : z.cells.size = sz) (hsz : 0 < sz) (hd : o.dst = some d) (hn : d < n) :
    Step P n o S ((S.create id (.row e sz (m + es.length) (xs ++ (flat es).map AV.p))).put d (.own id)) :=
  s_appendP ho hx hb hy hes ht.h hi.h hzs hsz hlim.2 hlim.1 hd hn
theorem w_appendO {id id2 e ty2 sz by_ m k : Nat} {z : Value} {xs news : List AV} [ht : Und P t (.slice e)] [hi : InfoA P e z sz by_] (ho : o.op = .call { callee := .builtin .append, args := #[x, y], argTypes := #[t, t] }) (hx : S.get x = .own id) (hb : S.blk id = some (.row e sz m xs))
    (hy : S.get y = .own id2) (hb2 : S.blk id2 = some (.row ty2 sz k news)) (hlim : (m + k) * by_ ≤ 140737488355328 ∧ m + k ≤ maxLen) (hzs : z.cells.size = sz) (hsz : 0 < sz) (hd : o.dst = some d) (hn : d < n) :
    Step P n o S ((S.create id (.row e sz (m + k) (xs ++ news))).put d (.own id)) :=
  s_appendO ho hx hb hy hb2 ht.h hi.h hzs hsz hlim.2 hlim.1 hd hn

theorem w_str {src dst e : TypeId} {bs : List Int} [hs : Und P src (.slice e)] [he : Und P e (.int .u8)] [ht : Und P dst .string] (ho : o.op = .convert src dst x) (hx : S.get x = .p (.sl (byts bs))) (hd : o.dst = some d) (hn : d < n) :
    AStep P n o S [] (.p (.val (.string (strOfNums bs)))) none := a_str ho hx hs.h he.h ht.h hd hn
theorem w_eqlT {xt yt m : TypeId} {ps qs : List PV} {la lb : List (IntKind × Int)} [h : EqA P xt m] (ho : o.op = .binOp .eql xt x y yt) (hx : S.get x = .p (.agg ps)) (hy : S.get y = .p (.agg qs)) (ha : intsOf ps = some la) (hb : intsOf qs = some lb) (hab : la.map Prod.fst = lb.map Prod.fst)
    (hlen : la.length = m) (hd : o.dst = some d) (hn : d < n) : AStep P n o S [] (.p (.val (.bool (decide (la = lb))))) none :=
  a_eqlT ho hx hy ha hb hab (hlen.trans h.len.symm) h.st h.held h.guard h.flat hd hn

end

theorem AOps.known {P : Program} {n : Nat} {S : AS} {o : Oper} {ops : Array Oper} {rest : List Oper} {K : AS → Prop} {j t : Nat} {want b : Bool} (_hg : o.guard = some (j, want)) (_ht : (ops[j]?).bind (·.dst) = some t) (_hb : S.tmp t = .p (.val (.bool b))) (_hk : b = true ∨ b = false)
    (h : AOps P n ops (o :: rest) S K) : AOps P n ops (o :: rest) S K := h

/-! ### Rows of pure cells: as rows -/
inductive Alike : Blk → Blk → Prop
  | refl (b : Blk) : Alike b b
  | rp (t size n : Nat) (xs : List PV) : Alike (.row t size n (xs.map AV.p)) (.prow t size n xs)
  | pr (t size n : Nat) (xs : List PV) : Alike (.prow t size n xs) (.row t size n (xs.map AV.p))
theorem Alike.ok {b b' : Blk} (h : Alike b b') {M : Nat → Prop} {B : Nat} {ρ : Nat → Value} {w : World} {v : Value} (hb : BlkOK M B ρ w v b) : BlkOK M B ρ w v b' := by
  cases h <;> exact hb
theorem Alike.kill {b b' : Blk} (h : Alike b b') (id : Nat) : Alike (b.kill id) (b'.kill id) := by
  cases h with
  | refl => exact .refl _
  | rp t size n xs =>
    show Alike (.row t size n ((xs.map AV.p).map (AV.kill id))) _
    rw [kill_pures]
    exact .rp _ _ _ _
  | pr t size n xs =>
    show Alike _ (.row t size n ((xs.map AV.p).map (AV.kill id)))
    rw [kill_pures]
    exact .pr _ _ _ _
/-- The same frame, but for how rows are written. -/
structure SameR (S S' : AS) : Prop where
  t : ∀ i, S'.tmp i = S.tmp i
  s : ∀ id, (S.blk id = none ∧ S'.blk id = none) ∨ ∃ b b', S.blk id = some b ∧ S'.blk id = some b' ∧ Alike b b'
theorem SameR.refl (S : AS) : SameR S S := ⟨fun _ => rfl, fun id => by
  cases h : S.blk id with
  | none => exact .inl ⟨rfl, rfl⟩
  | some b => exact .inr ⟨b, b, rfl, rfl, .refl b⟩⟩
theorem map_p_inj : ∀ {xs ys : List PV}, xs.map AV.p = ys.map AV.p → xs = ys
  | [], [], _ => rfl
  | [], _ :: _, h => by simp at h
  | _ :: _, [], h => by simp at h
  | x :: xs, y :: ys, h => by
    simp only [List.map_cons, List.cons.injEq, AV.p.injEq] at h
    rw [h.1, map_p_inj h.2]
theorem Alike.trans {a b c : Blk} (h : Alike a b) (h' : Alike b c) : Alike a c := by
  cases h with
  | refl => exact h'
  | rp t size n xs =>
    cases h' with
    | refl => exact .rp _ _ _ _
    | pr => exact .refl _
  | pr t size n xs =>
    generalize hb : Blk.row t size n (xs.map AV.p) = b at h'
    cases h' with
    | refl => subst hb; exact .pr _ _ _ _
    | rp t2 size2 n2 ys =>
      simp only [Blk.row.injEq] at hb
      obtain ⟨rfl, rfl, rfl, hxy⟩ := hb
      rw [map_p_inj hxy]
      exact .refl _
    | pr => cases hb
theorem SameR.trans {S S1 S2 : AS} (h : SameR S S1) (h' : SameR S1 S2) : SameR S S2 := ⟨fun i => (h'.t i).trans (h.t i), fun id => by
  rcases h.s id with ⟨h1, h2⟩ | ⟨b1, b2, h1, h2, ha⟩
  · rcases h'.s id with ⟨_, h3⟩ | ⟨b3, _, h3, _, _⟩
    · exact .inl ⟨h1, h3⟩
    · rw [h2] at h3; cases h3
  · rcases h'.s id with ⟨h3, _⟩ | ⟨b3, b4, h3, h4, hb⟩
    · rw [h2] at h3; cases h3
    · rw [h2] at h3
      obtain rfl := Option.some.inj h3
      exact .inr ⟨b1, b4, h1, h4, ha.trans hb⟩⟩
theorem SameR.mut {S S' : AS} (h : SameR S S') {M : Nat → Prop} {ρ : Nat → Value} {k : Nat} (hk : Mut M S' ρ k) : Mut M S ρ k := by
  rcases hk with hk | ⟨id, b, hb, h2⟩
  · exact .inl hk
  · rcases h.s id with ⟨_, h1⟩ | ⟨b1, b2, h1, _, _⟩
    · rw [h1] at hb; cases hb
    · exact .inr ⟨id, b1, h1, h2⟩
theorem SameR.sat {S S' : AS} (h : SameR S S') {M : Nat → Prop} {n : Nat} {w0 w : World} {ρ : Nat → Value} {a : Act} (hs : Sat M n w0 S ρ a w) : Sat M n w0 S' ρ a w := by
  refine ⟨hs.below, hs.out, hs.size, hs.defers, fun i => ?_, fun id b hb => ?_, fun i j bi bj k hi hj h1 h2 => ?_⟩
  · rw [h.t i]
    exact (hs.tmps i).mono fun _ _ hk => h.mut hk
  · rcases h.s id with ⟨_, h1⟩ | ⟨b1, b2, h1, h2, ha⟩
    · rw [h1] at hb; cases hb
    · rw [hb] at h2
      obtain rfl := Option.some.inj h2
      exact (ha.ok (hs.blks id b1 h1)).mono fun _ hk => h.mut hk
  · rcases h.s i with ⟨_, h3⟩ | ⟨b1, _, h3, _, _⟩
    · rw [h3] at hi; cases hi
    · rcases h.s j with ⟨_, h4⟩ | ⟨b2, _, h4, _, _⟩
      · rw [h4] at hj; cases hj
      · exact hs.dist i j b1 b2 k h3 h4 h1 h2
theorem SameR.sub {S S' : AS} (h : SameR S S') : Sub S S' := fun _ _ _ ρ _ _ hs => ⟨ρ, h.sat hs⟩
theorem SameR.put {S S' : AS} (h : SameR S S') (d : Nat) (x : AV) : SameR (S.put d x) (S'.put d x) := ⟨fun i => by
  rw [AS.tmp_put, AS.tmp_put]
  split
  · rfl
  · exact h.t i, h.s⟩
theorem SameR.create {S S' : AS} (h : SameR S S') (id : Nat) {b b' : Blk} (hb : Alike b b') : SameR (S.create id b) (S'.create id b') := ⟨fun i => by rw [AS.tmp_create, AS.tmp_create, h.t i], fun j => by
  rw [AS.blk_create, AS.blk_create]
  split
  · exact .inr ⟨_, _, rfl, rfl, hb.kill id⟩
  · rcases h.s j with ⟨h1, h2⟩ | ⟨b1, b2, h1, h2, ha⟩
    · exact .inl ⟨by rw [h1]; rfl, by rw [h2]; rfl⟩
    · exact .inr ⟨b1.kill id, b2.kill id, by rw [h1]; rfl, by rw [h2]; rfl, ha.kill id⟩⟩
theorem SameR.drop {S S' : AS} (h : SameR S S') (id : Nat) : SameR (S.drop id) (S'.drop id) := ⟨fun i => by
  show (S'.kill id).tmp i = (S.kill id).tmp i
  rw [AS.tmp_kill, AS.tmp_kill, h.t i], fun j => by
  rw [AS.blk_drop, AS.blk_drop]
  split
  · exact .inl ⟨rfl, rfl⟩
  · rcases h.s j with ⟨h1, h2⟩ | ⟨b1, b2, h1, h2, ha⟩
    · exact .inl ⟨by rw [h1]; rfl, by rw [h2]; rfl⟩
    · exact .inr ⟨b1.kill id, b2.kill id, by rw [h1]; rfl, by rw [h2]; rfl, ha.kill id⟩⟩
def AS.tag (S : AS) (id : Nat) (b : Blk) : AS := { S with s := putL S.s id b }
theorem AS.blk_tag (S : AS) (id : Nat) (b : Blk) (j : Nat) : (S.tag id b).blk j = if id = j then some b else S.blk j := rfl
theorem AS.get_tag (S : AS) (id : Nat) (b : Blk) (x : Operand) : (S.tag id b).get x = S.get x := by cases x <;> rfl
theorem same_tag {S : AS} {id : Nat} {b b' : Blk} (hb : S.blk id = some b) (h : Alike b b') : SameR S (S.tag id b') := ⟨fun _ => rfl, fun j => by
  rw [AS.blk_tag]
  by_cases hj : id = j
  · subst hj
    rw [if_pos rfl]
    exact .inr ⟨b, b', hb, rfl, h⟩
  · rw [if_neg hj]
    exact (SameR.refl S).s j⟩
theorem same_untag {S : AS} {id : Nat} {b b' : Blk} (hb : S.blk id = some b) (h : Alike b' b) : SameR (S.tag id b') S := ⟨fun _ => rfl, fun j => by
  rw [AS.blk_tag]
  by_cases hj : id = j
  · subst hj
    rw [if_pos rfl]
    exact .inr ⟨b', b, rfl, hb, h⟩
  · rw [if_neg hj]
    exact (SameR.refl S).s j⟩
theorem Step.same {P : Program} {n : Nat} {o : Oper} {S S1 T T1 : AS} (h : Step P n o S T) (h1 : SameR S1 S) (h2 : SameR T T1) : Step P n o S1 T1 :=
  fun M w0 ρ a w K Q hs hK => h M w0 ρ a w K Q (h1.sat hs) fun ρ' a' w' hs' => hK ρ' a' w' (h2.sat hs')
theorem AStep.nb {P : Program} {n : Nat} {o : Oper} {S : AS} {bs : List Nat} {av : AV} {b b' : Blk} (h : AStep P n o S bs av (some b)) (ha : Alike b b') : AStep P n o S bs av (some b') := by
  intro S2 hg hbl
  refine (h S2 hg hbl).same (SameR.refl _) ?_
  cases o.dst with
  | none => exact SameR.refl _
  | some d => exact ((SameR.refl S2).create d ha).put d av
theorem AStep.tag {P : Program} {n : Nat} {o : Oper} {S : AS} {bs : List Nat} {av : AV} {id : Nat} {b b' : Blk} (hb : S.blk id = some b) (ha : Alike b b') (ha' : Alike b' b) (hin : id ∈ bs) (h : AStep P n o (S.tag id b') bs av none) : AStep P n o S bs av none := by
  intro S2 hg hbl
  have hb2 : S2.blk id = some b := (hbl id hin).trans hb
  refine (h (S2.tag id b') (fun x hx => by rw [AS.get_tag, AS.get_tag]; exact hg x hx) (fun j hj => ?_)).same (same_tag hb2 ha) ?_
  · rw [AS.blk_tag, AS.blk_tag]
    split
    · rfl
    · exact hbl j hj
  · cases o.dst with
    | none => exact same_untag hb2 ha'
    | some d => exact (same_untag hb2 ha').put d av

/-! ### Rows of bytes -/
def bxs (bs : List Int) : List AV := (byts bs).map AV.p
def rowB (e : Nat) (bs : List Int) : Blk := .prow e 1 bs.length (byts bs)
theorem rowB_alike (e : Nat) (bs : List Int) : Alike (.row e 1 bs.length (bxs bs)) (rowB e bs) := .rp _ _ _ _
theorem rowB_alike' (e : Nat) (bs : List Int) : Alike (rowB e bs) (.row e 1 bs.length (bxs bs)) := .pr _ _ _ _
def readB : List AV → Option (List Int)
  | [] => some []
  | .p (.val (.int .u8 b)) :: r => match readB r with
    | some l => some (b :: l)
    | none => none
  | _ => none
theorem readB_spec : ∀ {l : List AV} {bs : List Int}, readB l = some bs → l = bxs bs := by
  intro l
  induction l with
  | nil => intro bs h; simp only [readB, Option.some.injEq] at h; subst h; rfl
  | cons a r ih =>
    intro bs h
    unfold readB at h
    split at h
    · rename_i h0; cases h0
    · rename_i b r' h0
      injection h0 with h1 h2
      subst h1
      subst h2
      split at h
      · rename_i l2 hr
        obtain rfl := Option.some.inj h
        rw [ih hr]
        rfl
      · cases h
    · cases h
theorem byts_len (bs : List Int) : (byts bs).length = bs.length := by simp [byts]
theorem bxs_len (bs : List Int) : (bxs bs).length = bs.length := by simp [bxs, byts]
theorem byts_one (bs : List Int) : ∀ e ∈ byts bs, e.cells.length = 1 := fun e he => by
  simp only [byts, List.mem_map] at he
  obtain ⟨b, _, rfl⟩ := he
  rfl
theorem bxs_append (cs bs : List Int) : bxs cs ++ bxs bs = bxs (cs ++ bs) := by simp [bxs, byts]

section
variable {P : Program} {n : Nat} {o : Oper} {S : AS} {d : Nat} {t : TypeId} {x y : Operand}

theorem w_buildB {ps : Array (Nat × Operand)} {len e : Nat} {z : Value} {zs : List AV} {bs : List Int} [ht : Und P t (.slice e)] [hi : InfoA P e z 1 1] (ho : o.op = .buildSlice t len ps)
    (hl : len ≤ maxLen) (hsmall : ¬ len * 1 > 2 ^ 24) (hpos : ¬ len * 1 = 0) (hz : ((List.range (len * 1)).map (z.cells[· % z.cells.size]!)).all (fun u => u.oneCell') = true) (hk : ps.toList.all (fun p => (S.get p.2).partOK) = true)
    (hf : fillA (fun i => some (i * 1, 1)) (((List.range (len * 1)).map (z.cells[· % z.cells.size]!)).map fun u => .p (.val u)) (ps.toList.map fun p => (p.1, S.get p.2)) = some zs) (hlen : zs.length = len * 1) (hb : readB zs = some bs) (hd : o.dst = some d) (hn : d < n) :
    AStep P n o S [] (.own d) (some (rowB e bs)) := by
  have h := w_buildSlice (P := P) (S := S) ho hl hsmall hpos hz hk hf hlen hd hn
  have e1 := readB_spec hb
  subst e1
  have e2 : bs.length = len := by rw [bxs_len, Nat.mul_one] at hlen; exact hlen
  subst e2
  exact h.nb (rowB_alike e bs)
theorem w_appB {id e : Nat} {z : Value} {cs bs : List Int} [ht : Und P t (.slice e)] [hi : InfoA P e z 1 1] (ho : o.op = .call { callee := .builtin .append, args := #[x, y], argTypes := #[t, t] }) (hx : S.get x = .own id) (hb : S.blk id = some (rowB e cs))
    (hy : S.get y = .p (.sl (byts bs))) (hlim : cs.length + bs.length ≤ 140737488355328) (hzs : z.cells.size = 1) (hd : o.dst = some d) (hn : d < n) :
    Step P n o S ((S.create id (rowB e (cs ++ bs))).put d (.own id)) := by
  have h := w_appendP (P := P) (by_ := 1) (sz := 1) (S := S.tag id (.row e 1 cs.length (bxs cs))) (o := o) (d := d) (by exact ho) (by rw [AS.get_tag]; exact hx) (by rw [AS.blk_tag, if_pos rfl]) (by rw [AS.get_tag]; exact hy) (byts_one bs) (by rw [byts_len]; simp only [maxLen]; omega) hzs (by decide) hd hn
  have e1 : Blk.row e 1 (cs.length + (byts bs).length) (bxs cs ++ (flat (byts bs)).map AV.p) = .row e 1 (cs ++ bs).length (bxs (cs ++ bs)) := by
    rw [byts_flat, byts_len]
    show Blk.row e 1 (cs.length + bs.length) (bxs cs ++ bxs bs) = _
    rw [bxs_append]
    simp
  rw [e1] at h
  exact h.same (same_tag hb (rowB_alike' e cs)) (((same_untag hb (rowB_alike e cs)).create id (rowB_alike e (cs ++ bs))).put d _)
theorem w_appOB {id id2 e e2 : Nat} {z : Value} {cs bs : List Int} [ht : Und P t (.slice e)] [hi : InfoA P e z 1 1] (ho : o.op = .call { callee := .builtin .append, args := #[x, y], argTypes := #[t, t] }) (hx : S.get x = .own id) (hb : S.blk id = some (rowB e cs))
    (hy : S.get y = .own id2) (hb2 : S.blk id2 = some (rowB e2 bs)) (hlim : cs.length + bs.length ≤ 140737488355328) (hzs : z.cells.size = 1) (hd : o.dst = some d) (hn : d < n) :
    Step P n o S ((S.create id (rowB e (cs ++ bs))).put d (.own id)) := by
  have hb3 : (S.tag id2 (.row e2 1 bs.length (bxs bs))).blk id = some (rowB e cs) ∨ id = id2 ∧ e = e2 ∧ cs = bs := by
    by_cases h : id2 = id
    · subst h
      rw [hb2] at hb
      simp only [rowB, Option.some.injEq, Blk.prow.injEq] at hb
      refine .inr ⟨rfl, hb.1.symm, ?_⟩
      have h3 := hb.2.2.2
      have inj : ∀ l m : List Int, byts l = byts m → l = m := by
        intro l
        induction l with
        | nil => intro m h; cases m with
          | nil => rfl
          | cons => simp [byts] at h
        | cons a r ih => intro m h; cases m with
          | nil => simp [byts] at h
          | cons c q =>
            simp only [byts, List.map_cons, List.cons.injEq, PV.val.injEq, Value.int.injEq, true_and] at h
            rw [h.1, ih q h.2]
      exact (inj _ _ h3).symm
    · left
      rw [AS.blk_tag, if_neg h]
      exact hb
  have go : ∀ {S1 S0 : AS}, S1.get x = .own id → S1.blk id = some (.row e 1 cs.length (bxs cs)) → S1.get y = .own id2 → S1.blk id2 = some (.row e2 1 bs.length (bxs bs)) → SameR S S1 → SameR S1 S → Step P n o S ((S.create id (rowB e (cs ++ bs))).put d (.own id)) := by
    intro S1 _ h1 h2 h3 h4 h5 h6
    have h := w_appendO (P := P) (by_ := 1) (sz := 1) (S := S1) ho h1 h2 h3 h4 (by simp only [maxLen]; omega) hzs (by decide) hd hn
    have e1 : Blk.row e 1 (cs.length + bs.length) (bxs cs ++ bxs bs) = .row e 1 (cs ++ bs).length (bxs (cs ++ bs)) := by
      rw [bxs_append]
      simp
    rw [e1] at h
    exact h.same h5 ((h6.create id (rowB_alike e (cs ++ bs))).put d _)
  rcases hb3 with hb3 | ⟨rfl, rfl, rfl⟩
  · have s1 := same_tag hb2 (rowB_alike' e2 bs)
    have u1 := same_untag hb2 (rowB_alike e2 bs)
    have s2 := same_tag hb3 (rowB_alike' e cs)
    have u2 := same_untag hb3 (rowB_alike e cs)
    by_cases hne : id = id2
    · subst hne
      rw [AS.blk_tag, if_pos rfl] at hb3
      cases hb3
    · exact go (S0 := S) (by rw [AS.get_tag, AS.get_tag]; exact hx) (by rw [AS.blk_tag, if_pos rfl]) (by rw [AS.get_tag, AS.get_tag]; exact hy) (by rw [AS.blk_tag, if_neg hne, AS.blk_tag, if_pos rfl]) (s1.trans s2) (u2.trans u1)
  · exact go (S0 := S) (by rw [AS.get_tag]; exact hx) (by rw [AS.blk_tag, if_pos rfl]) (by rw [AS.get_tag]; exact hy) (by rw [AS.blk_tag, if_pos rfl]) (same_tag hb (rowB_alike' e cs)) (same_untag hb (rowB_alike e cs))
theorem sub_freezeB {d id e : Nat} {bs : List Int} (hd : S.tmp d = .own id) (hb : S.blk id = some (rowB e bs)) : Sub S ((S.drop id).put d (.p (.sl (byts bs)))) :=
  ((same_tag hb (rowB_alike' e bs)).sub.trans (sub_freeze (S := S.tag id (.row e 1 bs.length (bxs bs))) (es := byts bs) hd (by rw [byts_flat, AS.blk_tag, if_pos rfl]; rfl) (byts_len bs))).trans (((same_untag hb (rowB_alike e bs)).drop id).put d _).sub
theorem w_lenB {id e t' : Nat} {bs : List Int} [ht : Und P t (.slice t')] (ho : o.op = .call { callee := .builtin .len, args := #[x], argTypes := #[t] }) (hx : S.get x = .own id) (hb : S.blk id = some (rowB e bs)) (hd : o.dst = some d) (hn : d < n) : AStep P n o S [id] (.p (.val (.int .i64 bs.length))) none :=
  AStep.tag hb (rowB_alike' e bs) (rowB_alike e bs) (by simp) (w_lenO (S := S.tag id (.row e 1 bs.length (bxs bs))) ho (by rw [AS.get_tag]; exact hx) (by rw [AS.blk_tag, if_pos rfl]) hd hn)
theorem w_indexB {ix : Operand} {e : Nat} {j : Int} {k : IntKind} {bs : List Int} {agg : Bool} [ht : Und P t (.slice e)] [he : TyA P e agg 1] (ho : o.op = .indexAddr t x ix) (hx : S.get x = .p (.sl (byts bs))) (hi : S.get ix = .p (.val (.int k j)))
    (hj : 0 ≤ j ∧ j < bs.length) (hd : o.dst = some d) (hn : d < n) : AStep P n o S [] (.pt [.val (.int .u8 (bs.getD j.toNat 0))]) none := by
  obtain ⟨m, rfl⟩ := Int.eq_ofNat_of_zero_le hj.1
  have hm : m < bs.length := by omega
  have hc : (byts bs)[m]? = some (.val (.int .u8 (bs.getD m 0))) := by simp [byts, hm, List.getD]
  exact w_indexS (P := P) (i := m) ho hx hi (byts_one bs) hc hd hn
/-- the address of an element of an own row -/
theorem w_indexO {ix : Operand} {id e ty sz m : Nat} {j : Int} {k : IntKind} {xs : List AV} {agg : Bool} [ht : Und P t (.slice e)] [he : TyA P e agg sz] (ho : o.op = .indexAddr t x ix) (hx : S.get x = .own id) (hb : S.blk id = some (.row ty sz m xs)) (hi : S.get ix = .p (.val (.int k j)))
    (hj : 0 ≤ j ∧ j < m) (hd : o.dst = some d) (hn : d < n) : AStep P n o S [id] (.ptr id (j.toNat * sz)) none :=
  AStep.pure hd hn fun S2 hg hbl M w0 ρ a w hs => by
    have h1 := hs.rep x
    rw [hg x (by rw [ho]; simp [Op.operands]), hx] at h1
    have h2 := hs.val ((hg ix (by rw [ho]; simp [Op.operands])).trans hi)
    have hv := own_eq h1
    obtain ⟨ys, hown, _⟩ := hs.blks id _ ((hbl id (by simp)).trans hb)
    rcases hown.2 with ⟨_, h⟩ | ⟨g, cap, cur, hr, _⟩
    · omega
    · refine ⟨.pointer (some ⟨g, j.toNat * sz, none⟩), w, ?_, Below.refl _ _, .ptr id _ g (by rw [hr]; rfl)⟩
      unfold execOp
      rw [ho]
      simp only [hv, hr, h2, Sem.run_bind]
      have : (Instr.indexAt t (.slice (some ⟨g, 0, none⟩) m cap) (.int k j)).run P w = .ok (.pointer (some ⟨g, j.toNat * sz, none⟩)) w := by
        have hel : P.elem t = e := by simp [Program.elem, ht.h]
        rw [run_indexAt_slice w t _ _ _ _ _ (by rw [hel]; exact ht.h), if_pos ⟨by omega, by omega⟩, hel, he.sz w]
        show Result.ok _ w = _
        rw [add_lit, Nat.zero_add]
      rw [this]
      rfl
theorem w_lenP {t' : Nat} {bs : List Int} [ht : Und P t (.slice t')] (ho : o.op = .call { callee := .builtin .len, args := #[x], argTypes := #[t] }) (hx : S.get x = .p (.sl (byts bs))) (hd : o.dst = some d) (hn : d < n) : AStep P n o S [] (.p (.val (.int .i64 bs.length))) none := by
  have h := w_lenS (P := P) ho hx hd hn
  rw [byts_len] at h
  exact h

end

/-! ### What is said of a frame, anew and less -/
theorem look_mem {α : Type} {l : List (Nat × α)} {i : Nat} {x : α} (h : look l i = some x) : (i, x) ∈ l := by
  induction l with
  | nil => cases h
  | cons p r ih =>
    obtain ⟨k, y⟩ := p
    simp only [look] at h
    split at h
    · rename_i hk
      subst hk
      obtain rfl := Option.some.inj h
      exact List.mem_cons_self
    · exact List.mem_cons_of_mem _ (ih h)
theorem sub_less {S S' : AS} (ht : ∀ p ∈ S'.t, p.2 = S.tmp p.1) (hs : ∀ p ∈ S'.s, S.blk p.1 = some p.2) : Sub S S' :=
  fun M n w0 ρ a w h => by
    have hb : ∀ {id b}, S'.blk id = some b → S.blk id = some b := fun {id b} hb => hs (id, b) (look_mem hb)
    have hm : ∀ k, k < w.heap.size → Mut M S' ρ k → Mut M S ρ k := fun k _ hk => by
      rcases hk with hk | ⟨id, b, h1, h2⟩
      · exact .inl hk
      · exact .inr ⟨id, b, hb h1, h2⟩
    refine ⟨ρ, ⟨h.below, h.out, h.size, h.defers, fun i => ?_, fun id b hbk => ?_, fun i j bi bj k hi hj => h.dist i j bi bj k (hb hi) (hb hj)⟩⟩
    · show RepA _ _ _ ((look S'.t i).getD .any) _
      cases hl : look S'.t i with
      | none => exact .any _
      | some x =>
        have e : x = S.tmp i := ht (i, x) (look_mem hl)
        rw [Option.getD_some, e]
        exact (h.tmps i).mono hm
    · have h1 := h.blks id b (hb hbk)
      cases b with
      | row t size m xs =>
        obtain ⟨ys, ho, hc⟩ := h1
        exact ⟨ys, ho, hc.mono hm⟩
      | prow t size m xs =>
        obtain ⟨ys, ho, hc⟩ := h1
        exact ⟨ys, ho, hc.mono hm⟩
      | box t xs =>
        obtain ⟨g, ys, hv, hg, hh, hc⟩ := h1
        exact ⟨g, ys, hv, hg, hh, hc.mono hm⟩

inductive KeepT (S : AS) : List Nat → List (Nat × AV) → Prop
  | nil : KeepT S [] []
  | p {i : Nat} {x : PV} {is : List Nat} {l : List (Nat × AV)} (h : S.tmp i = .p x) (t : KeepT S is l) : KeepT S (i :: is) ((i, .p x) :: l)
  | own {i id : Nat} {is : List Nat} {l : List (Nat × AV)} (h : S.tmp i = .own id) (t : KeepT S is l) : KeepT S (i :: is) ((i, .own id) :: l)
  | ptr {i id off : Nat} {is : List Nat} {l : List (Nat × AV)} (h : S.tmp i = .ptr id off) (t : KeepT S is l) : KeepT S (i :: is) ((i, .ptr id off) :: l)
  | pt {i : Nat} {xs : List PV} {is : List Nat} {l : List (Nat × AV)} (h : S.tmp i = .pt xs) (t : KeepT S is l) : KeepT S (i :: is) ((i, .pt xs) :: l)
  | tup {i : Nat} {xs : List AV} {is : List Nat} {l : List (Nat × AV)} (h : S.tmp i = .tup xs) (t : KeepT S is l) : KeepT S (i :: is) ((i, .tup xs) :: l)
  | skip {i : Nat} {is : List Nat} {l : List (Nat × AV)} (t : KeepT S is l) : KeepT S (i :: is) l
inductive KeepB (S : AS) : List Nat → List (Nat × Blk) → Prop
  | nil : KeepB S [] []
  | boxP {i ty : Nat} {xs : List AV} {cs : List PV} {is : List Nat} {l : List (Nat × Blk)} (h : S.blk i = some (.box ty xs)) (hp : pures xs = some cs) (t : KeepB S is l) : KeepB S (i :: is) ((i, .box ty (cs.map AV.p)) :: l)
  | rowB {i e : Nat} {bs : List Int} {is : List Nat} {l : List (Nat × Blk)} (h : S.blk i = some (rowB e bs)) (t : KeepB S is l) : KeepB S (i :: is) ((i, rowB e bs) :: l)
  | some {i : Nat} {b : Blk} {is : List Nat} {l : List (Nat × Blk)} (h : S.blk i = some b) (t : KeepB S is l) : KeepB S (i :: is) ((i, b) :: l)
  | skip {i : Nat} {is : List Nat} {l : List (Nat × Blk)} (t : KeepB S is l) : KeepB S (i :: is) l

theorem sub_keep {S : AS} {is js : List Nat} {l : List (Nat × AV)} {m : List (Nat × Blk)} (ht : KeepT S is l) (hb : KeepB S js m) : Sub S ⟨l, m⟩ := by
  refine sub_less ?_ ?_
  · clear hb
    induction ht with
    | nil => intro p hp; cases hp
    | p h _ ih => intro p hp; rcases List.mem_cons.1 hp with rfl | hp; exact h.symm; exact ih p hp
    | own h _ ih => intro p hp; rcases List.mem_cons.1 hp with rfl | hp; exact h.symm; exact ih p hp
    | ptr h _ ih => intro p hp; rcases List.mem_cons.1 hp with rfl | hp; exact h.symm; exact ih p hp
    | pt h _ ih => intro p hp; rcases List.mem_cons.1 hp with rfl | hp; exact h.symm; exact ih p hp
    | tup h _ ih => intro p hp; rcases List.mem_cons.1 hp with rfl | hp; exact h.symm; exact ih p hp
    | skip _ ih => exact ih
  · clear ht
    induction hb with
    | nil => intro p hp; cases hp
    | boxP h hp _ ih =>
      intro p hp2
      rcases List.mem_cons.1 hp2 with rfl | hp2
      · rw [h, pures_spec hp]
      · exact ih p hp2
    | rowB h _ ih => intro p hp; rcases List.mem_cons.1 hp with rfl | hp; exact h; exact ih p hp
    | some h _ ih => intro p hp; rcases List.mem_cons.1 hp with rfl | hp; exact h; exact ih p hp
    | skip _ ih => exact ih

theorem ACode.regionK {P : Program} {n : Nat} {S : AS} {id : Nat} {ops : List Oper} {K : Exit → AS → Prop} (is js : List Nat) {l : List (Nat × AV)} {m : List (Nat × Blk)} (ht : KeepT S is l) (hb : KeepB S js m)
    (h : AOps P n ops.toArray ops ⟨l, m⟩ (K .normal)) : ACode P n (.region id ops.toArray false) S K := ACode.sub (sub_keep ht hb) (ACode.region h)
theorem ACode.regionD {P : Program} {n : Nat} {S : AS} {id : Nat} {ops : List Oper} {K : Exit → AS → Prop} (is js : List Nat) {l : List (Nat × AV)} {m : List (Nat × Blk)} (ht : KeepT S is l) (hb : KeepB S js m)
    (h : ACode P n (.region id ops.toArray true) ⟨l, m⟩ K) : ACode P n (.region id ops.toArray true) S K := ACode.sub (sub_keep ht hb) h

/-! ### Functions whose results lie in cells -/
inductive ResV (P : Program) (S : AS) : ResultVar → PV → Prop
  | tmp {t : Nat} {x : PV} (h : S.tmp t = .p x) : ResV P S (.tmp t) x
  | cell1 {a t id off m : Nat} {b : Blk} {c : PV} [ht : TyA P t false m] (h : S.tmp a = .ptr id off) (hb : S.blk id = some b) (hc : b.xs[off]? = some (.p c)) : ResV P S (.cell a t) c
  | cellN {a t id off m : Nat} {b : Blk} {cs : List PV} [ht : TyA P t true m] (h : S.tmp a = .ptr id off) (hb : S.blk id = some b) (hc : pures ((b.xs.drop off).take m) = some cs) (hl : cs.length = m) : ResV P S (.cell a t) (.agg cs)
inductive ResVs (P : Program) (S : AS) : List ResultVar → List PV → Prop
  | nil : ResVs P S [] []
  | cons {r : ResultVar} {x : PV} {rs : List ResultVar} {xs : List PV} (h : ResV P S r x) (t : ResVs P S rs xs) : ResVs P S (r :: rs) (x :: xs)

inductive GivesV (P : Program) (fn : Func) (S : AS) : RV → Prop
  | p {r : ResultVar} {x : PV} (hr : fn.results = #[r]) (h : ResV P S r x) : GivesV P fn S (.p x)
  | tup {rs : List ResultVar} {l : List PV} (hr : fn.results = rs.toArray) (hl : rs.length ≠ 1) (h : ResVs P S rs l) : GivesV P fn S (.tup l)
  | row {t id ty size n : Nat} {xs : List PV} (hr : fn.results = #[.tmp t]) (ht : S.tmp t = .own id) (hb : S.blk id = some (.row ty size n (xs.map AV.p))) : GivesV P fn S (.row ty size n xs)

theorem GivesV.tupE {P : Program} {fn : Func} {S : AS} {rs : List ResultVar} {l l' : List PV} (hr : fn.results = rs.toArray) (hl : rs.length ≠ 1) (h : ResVs P S rs l) (e : l' = l) : GivesV P fn S (.tup l') := by
  subst e
  exact .tup hr hl h

def resOne (tmps : Array Value) : ResultVar → Sem Value
  | .tmp t => pure (tmps.getD t undef)
  | .cell a t => do loadVar t (← asAddr (tmps.getD a undef))

theorem res_one {P : Program} {M : Nat → Prop} {n : Nat} {w0 w : World} {S : AS} {ρ : Nat → Value} {a : Act} (hs : Sat M n w0 S ρ a w) {r : ResultVar} {x : PV} (h : ResV P S r x) :
    ∃ v, (resOne a.tmps r).run P w = .ok v w ∧ Rep M w x v := by
  cases h with
  | @tmp t _ h =>
    have h1 := hs.tmps t
    rw [h] at h1
    exact ⟨_, rfl, (rep_p h1).outer⟩
  | @cell1 p t id off m b c ht h hb hc =>
    have h1 := hs.tmps p
    rw [h] at h1
    obtain ⟨g, hgv, hv⟩ := rep_ptr h1
    obtain ⟨ys, hcs, hcell⟩ := (hs.blks id b hb).cells hgv
    have h0 : off < b.xs.length := (List.getElem?_eq_some_iff.1 hc).1
    have hy : ys[off]? = some (ys[off]'(by rw [hcs.len]; exact h0)) := List.getElem?_eq_getElem _
    refine ⟨_, ?_, (rep_p (hcs.each off _ _ hc hy)).outer⟩
    have := loadAt_one (P := P) (ht.ag w) (hcell off _ hy).1
    simp only [Instr.loadAt, Instr.sureAddr, Sem.run_bind, Sem.run_pure, Result.andThen_ok] at this
    simp only [resOne, hv, asAddr, Sem.run_bind, Sem.run_pure, Result.andThen_ok]
    exact this
  | @cellN p t id off m b cs ht h hb hc hl =>
    have h1 := hs.tmps p
    rw [h] at h1
    obtain ⟨g, hgv, hv⟩ := rep_ptr h1
    obtain ⟨ys, hcs, hcell⟩ := (hs.blks id b hb).cells hgv
    have hcm := pures_spec hc
    have hlen : ((b.xs.drop off).take m).length = m := by rw [hcm, List.length_map, hl]
    have hlen2 : ((ys.drop off).take m).length = m := by
      simp only [List.length_take, List.length_drop] at hlen ⊢
      rw [hcs.len]
      exact hlen
    have get : ∀ (j : Nat) y, ((ys.drop off).take m)[j]? = some y → j < m ∧ ys[off + j]? = some y := by
      intro j y hy
      rw [List.getElem?_take] at hy
      split at hy
      · rename_i hj
        rw [List.getElem?_drop] at hy
        exact ⟨hj, hy⟩
      · cases hy
    refine ⟨.agg ((ys.drop off).take m).toArray, ?_, .agg _ _ (by rw [hlen2, hl]) (fun i c v h1 h2 => ?_) (fun v hv => hcs.one v (List.mem_of_mem_drop (List.mem_of_mem_take hv)))⟩
    · have := loadAt_many (P := P) (w := w) (t := t) (g := g) (o := off) (ys := (ys.drop off).take m) (ht.ag w) (ht.sz w) hlen2 (fun j y hy => (hcell (off + j) y (get j y hy).2).1)
      simp only [Instr.loadAt, Instr.sureAddr, Sem.run_bind, Sem.run_pure, Result.andThen_ok] at this
      simp only [resOne, hv, asAddr, Sem.run_bind, Sem.run_pure, Result.andThen_ok]
      exact this
    · obtain ⟨hj, hy⟩ := get i v h2
      have h3 : b.xs[off + i]? = some (.p c) := by
        have h4 : ((b.xs.drop off).take m)[i]? = (cs.map AV.p)[i]? := by rw [hcm]
        rw [List.getElem?_take, if_pos hj, List.getElem?_drop, List.getElem?_map, h1] at h4
        exact h4
      exact (rep_p (hcs.each (off + i) (.p c) v h3 hy)).outer

theorem res_all {P : Program} {M : Nat → Prop} {n : Nat} {w0 w : World} {S : AS} {ρ : Nat → Value} {a : Act} (hs : Sat M n w0 S ρ a w) {rs : List ResultVar} {l : List PV} (h : ResVs P S rs l) :
    ∃ vs : List Value, (List.mapM (resOne a.tmps) rs).run P w = .ok vs w ∧ vs.length = l.length ∧ rs.length = l.length ∧ ∀ (i : Nat) x u, l[i]? = some x → vs[i]? = some u → Rep M w x u := by
  induction h with
  | nil => exact ⟨[], by simp, rfl, rfl, fun i x u h => by simp at h⟩
  | @cons r x rs xs h _ ih =>
    obtain ⟨v, h1, h2⟩ := res_one hs h
    obtain ⟨vs, h3, h4, h6, h5⟩ := ih
    refine ⟨v :: vs, by simp only [List.mapM_cons, Sem.run_bind, Sem.run_pure, h1, h3, Result.andThen_ok], by simp [h4], by simp [h6], fun i y u hy hu => ?_⟩
    cases i with
    | zero => simp at hy hu; subst hy; subst hu; exact h2
    | succ i => exact h5 i y u (by simpa using hy) (by simpa using hu)

theorem results_run {P : Program} {w : World} (fn : Func) (tmps : Array Value) {rs : List ResultVar} {vs : List Value} (hr : fn.results = rs.toArray) (h : (List.mapM (resOne tmps) rs).run P w = .ok vs w) :
    (results fn tmps).run P w = .ok (if h : vs.toArray.size = 1 then vs.toArray[0] else .tuple vs.toArray) w := by
  have e : (fun (x : ResultVar) => match x with | .tmp t => pure (tmps.getD t undef) | .cell a t => do loadVar t (← asAddr (tmps.getD a undef))) = resOne tmps := by
    funext r
    cases r <;> rfl
  unfold results
  rw [hr]
  show Sem.run P (do let vs ← Array.mapM (fun (x : ResultVar) => match x with | .tmp t => pure (tmps.getD t undef) | .cell a t => do loadVar t (← asAddr (tmps.getD a undef))) rs.toArray; pure (if h : vs.size = 1 then vs[0] else .tuple vs)) w = _
  rw [e, List.mapM_toArray]
  simp only [Sem.run_bind, Sem.run_map, h]
  rfl

theorem fn_of2 {P : Program} {f : FuncId} {fn : Func} {c : Code} {args : List PV} {r : RV} {n : Nat} (hf : P.funcs[f]? = some fn) (hb : fn.body = some c) (hn : fn.ntmps = n) (hle : args.length ≤ n)
    (h : ACode P n c (AS.entry args) (fun e S => (e = .ret ∨ e = .normal) ∧ ∃ S', Sub S S' ∧ GivesV P fn S' r)) : Fn P f args r := by
  intro M w vs hM hvl hvs
  refine calls_of_wp hf hb ?_
  have hsat : Sat M n w (AS.entry args) (fun _ => undef) { tmps := vs.toArray ++ Array.replicate (fn.ntmps - vs.toArray.size) undef, defers := [] } w := by
    refine ⟨Below.refl _ _, hM, by simp; omega, rfl, fun i => ?_, (fun id b hb => by cases hb), (fun i j bi bj k hi => by cases hi)⟩
    show RepA _ _ _ ((look (zipArgs 0 args) i).getD .any) _
    rw [look_zipArgs]
    simp only [Nat.zero_le, if_true, Nat.sub_zero]
    cases hx : args[i]? with
    | none => exact .any _
    | some x =>
      have hi : i < vs.length := by rw [hvl]; exact (List.getElem?_eq_some_iff.1 hx).1
      have e : ({ tmps := vs.toArray ++ Array.replicate (fn.ntmps - vs.toArray.size) undef, defers := [] } : Act).tmps.getD i undef = vs[i] := by
        simp [Array.getD_eq_getD_getElem?, Array.getElem?_append, hi]
      rw [e]
      refine .p ((hvs i x vs[i] hx (List.getElem?_eq_getElem hi)).mono ?_)
      rintro k _ (hk | ⟨id, b, hb, _⟩)
      · exact hk
      · cases hb
  refine h M w _ _ w _ hsat ?_
  rintro e S0 ρ0 a' w' ⟨he, S', hsub, hg⟩ hs0
  obtain ⟨ρ', hs'⟩ := hsub M n w ρ0 a' w' hs0
  have fin : a'.defers = [] ∧ ∃ v, (results fn a'.tmps).run P w' = .ok v w' ∧ (∃ v', Ending.returned v = .returned v' ∧ RepR M w w' r v' ∧ Below w.heap.size w w') := by
    refine ⟨hs'.defers, ?_⟩
    cases hg with
    | p hr hx =>
      obtain ⟨v, h1, h2⟩ := res_one hs' hx
      have h3 := results_run (P := P) (w := w') fn a'.tmps (rs := [_]) (vs := [v]) hr (by simp only [List.mapM_cons, List.mapM_nil, Sem.run_bind, Sem.run_pure, h1, Result.andThen_ok])
      exact ⟨v, h3, _, rfl, h2, hs'.below⟩
    | tup hr hl hx =>
      obtain ⟨us, h1, h2, h4, h3⟩ := res_all hs' hx
      have h5 := results_run (P := P) (w := w') fn a'.tmps hr h1
      rw [dif_neg (by simp only [List.size_toArray]; omega)] at h5
      exact ⟨_, h5, _, rfl, ⟨us, rfl, h2, h3⟩, hs'.below⟩
    | @row t id ty size m xs hr ht hblk =>
      have h1 := hs'.tmps t
      rw [ht] at h1
      refine ⟨_, results_tmp hr _ _ _, _, rfl, ?_, hs'.below⟩
      have h2 := hs'.blks id _ hblk
      have e : a'.tmps.getD t undef = ρ' id := own_eq h1
      obtain ⟨ys, ho, hc⟩ := h2
      rw [e]
      refine ⟨ys, ho, by simpa using hc.len, fun i c v h3 h4 => ?_, hc.one⟩
      have h5 := hc.each i (.p c) v (by rw [List.getElem?_map, h3]; rfl) h4
      cases h5 with
      | p h6 =>
        refine h6.mono ?_
        rintro k _ (hk | hk)
        · exact Or.inl hk
        · exact Or.inr ⟨id, _, hblk, hk⟩
  rcases he with rfl | rfl
  · exact fin
  · exact fin

/-! ### Regions that draw their order, walked forward -/
theorem AC.snoc {P : Program} {n : Nat} {l : List Oper} {S S' : AS} {o : Oper} {os tl tl' : List Oper} {xs : List AI} {x : AI} (h : AC P n l S os xs S' tl) (ht : tl = o :: tl') (hg : GStep P n l S' o x) : AC P n l S os (xs ++ [x]) (S'.out o.dst x.av x.nb) tl' := by
  induction h with
  | done S os => subst ht; exact .step hg (.done _ _)
  | step h1 _ ih => exact .step h1 (ih ht hg)

/-- A region that draws its order: these are done (the last one ahead), the frame is S, these are to come. -/
def Draws (P : Program) (n : Nat) (id : Nat) (l : List Oper) (S0 : AS) (K : Exit → AS → Prop) (rev : List AI) (S : AS) (os : List Oper) : Prop :=
  AC P n l S0 l rev.reverse S os → ACode P n (.region id l.toArray true) S0 K

section
variable {P : Program} {n id : Nat} {l os : List Oper} {S0 S : AS} {K : Exit → AS → Prop} {rev : List AI} {o : Oper} {d : Nat}
theorem ACode.draws {S : AS} (h : Draws P n id l S K [] S l) : ACode P n (.region id l.toArray true) S K := h (.done _ _)
theorem Draws.is (h : Draws P n id l S0 K rev S os) : Draws P n id l S0 K rev S os := h
theorem Draws.step {x : AI} (hg : GStep P n l S o x) (h : Draws P n id l S0 K (x :: rev) (S.out o.dst x.av x.nb) os) : Draws P n id l S0 K rev S (o :: os) := fun hc => h (by
  rw [List.reverse_cons]
  exact hc.snoc rfl hg)
theorem Draws.done (hm : P.follows .mixedOrders = true) (hsch : schedB l rev.reverse.length (rev.reverse.map (·.bs)) = true) (hmade : madeB l rev.reverse S0 = true) (ht : TChain P n (K .normal) S os) : Draws P n id l S0 K rev S os :=
  fun hc => ACode.draw2 hm hc hsch hmade ht
theorem Draws.v {bs : List Nat} {av : AV} (hg : o.guard = none) (hd : o.dst = some d) (ha : AStep P n o S bs av none) (h : Draws P n id l S0 K (⟨bs, av, none⟩ :: rev) (S.put d av) os) : Draws P n id l S0 K rev S (o :: os) :=
  .step (.inl ⟨hg, ha⟩) (by rw [hd]; exact h)
theorem Draws.m {bs : List Nat} {av : AV} {b : Blk} (hg : o.guard = none) (hd : o.dst = some d) (ha : AStep P n o S bs av (some b)) (h : Draws P n id l S0 K (⟨bs, av, some b⟩ :: rev) ((S.create d b).put d av) os) : Draws P n id l S0 K rev S (o :: os) :=
  .step (.inl ⟨hg, ha⟩) (by rw [hd]; exact h)
theorem Draws.gY {bs : List Nat} {av : AV} {j t : Nat} {want b : Bool} (hg : o.guard = some (j, want)) (ht : dstOf l j = some t) (htn : t < n) (hb : S.tmp t = .p (.val (.bool b))) (hbw : b = want) (hd : o.dst = some d) (ha : AStep P n o S bs av none) (h : Draws P n id l S0 K (⟨bs, av, none⟩ :: rev) (S.put d av) os) : Draws P n id l S0 K rev S (o :: os) :=
  .step (.inr ⟨j, want, t, _, hg, ht, htn, hb, .inl ⟨by simp [wantB, hbw], ha⟩⟩) (by rw [hd]; exact h)
theorem Draws.gNT {j t : Nat} {b : Bool} (hg : o.guard = some (j, true)) (ht : dstOf l j = some t) (htn : t < n) (hb : S.tmp t = .p (.val (.bool b))) (hbw : b = false) (hd : o.dst = some d) (hdn : d < n) (h : Draws P n id l S0 K (⟨[], undefA, none⟩ :: rev) (S.put d undefA) os) : Draws P n id l S0 K rev S (o :: os) :=
  .step (.inr ⟨j, true, t, _, hg, ht, htn, hb, .inr ⟨by simp [wantB, hbw], rfl, rfl, d, hd, hdn⟩⟩) (by rw [hd]; exact h)
theorem Draws.gNF {j t : Nat} {b : Bool} (hg : o.guard = some (j, false)) (ht : dstOf l j = some t) (htn : t < n) (hb : S.tmp t = .p (.val (.bool b))) (hbw : b = true) (hd : o.dst = some d) (hdn : d < n) (h : Draws P n id l S0 K (⟨[], undefA, none⟩ :: rev) (S.put d undefA) os) : Draws P n id l S0 K rev S (o :: os) :=
  .step (.inr ⟨j, false, t, _, hg, ht, htn, hb, .inr ⟨by simp [wantB, hbw], rfl, rfl, d, hd, hdn⟩⟩) (by rw [hd]; exact h)
theorem Draws.gU {j t : Nat} {want : Bool} (hg : o.guard = some (j, want)) (ht : dstOf l j = some t) (htn : t < n) (hb : S.tmp t = undefA) (hd : o.dst = some d) (hdn : d < n) (h : Draws P n id l S0 K (⟨[], undefA, none⟩ :: rev) (S.put d undefA) os) : Draws P n id l S0 K rev S (o :: os) :=
  .step (.inr ⟨j, want, t, _, hg, ht, htn, hb, .inr ⟨rfl, rfl, rfl, d, hd, hdn⟩⟩) (by rw [hd]; exact h)
theorem Draws.split {j t : Nat} {want b : Bool} (_hg : o.guard = some (j, want)) (_ht : dstOf l j = some t) (_hb : S.tmp t = .p (.val (.bool b)))
    (h1 : b = true → Draws P n id l S0 K rev S (o :: os)) (h2 : b = false → Draws P n id l S0 K rev S (o :: os)) : Draws P n id l S0 K rev S (o :: os) := by
  cases b
  · exact h2 rfl
  · exact h1 rfl
theorem Draws.known {j t : Nat} {want b : Bool} (_hg : o.guard = some (j, want)) (_ht : dstOf l j = some t) (_hb : S.tmp t = .p (.val (.bool b))) (_hk : b = true ∨ b = false)
    (h : Draws P n id l S0 K rev S (o :: os)) : Draws P n id l S0 K rev S (o :: os) := h
end
attribute [irreducible] Draws

/-! ### The ways out -/
section
variable {next : AS → Prop} {K : Exit → AS → Prop} {S : AS} {id id' l : Nat}
theorem thenK.n (h : next S) : thenK next K .normal S := h
theorem thenK.r (h : K .ret S) : thenK next K .ret S := h
theorem thenK.e (h : K (.exit id) S) : thenK next K (.exit id) S := h
theorem thenK.g (h : K (.goto l) S) : thenK next K (.goto l) S := h
theorem blockK.n (h : K .normal S) : blockK id K .normal S := h
theorem blockK.r (h : K .ret S) : blockK id K .ret S := h
theorem blockK.g (h : K (.goto l) S) : blockK id K (.goto l) S := h
theorem blockK.eY (h : K .normal S) : blockK id K (.exit id) S := by
  show if id = id then K .normal S else K (.exit id) S
  rw [if_pos rfl]
  exact h
theorem blockK.eN (hne : (id' == id) = false) (h : K (.exit id') S) : blockK id K (.exit id') S := by
  show if id' = id then K .normal S else K (.exit id') S
  rw [if_neg (by intro e; subst e; simp at hne)]
  exact h
end

/-! ### Which judgement a goal is -/
section
variable {P : Program} {n : Nat} {S : AS} {ops : Array Oper} {l : List Oper}
theorem AOps.is {K : AS → Prop} (h : AOps P n ops l S K) : AOps P n ops l S K := h
theorem ACode.is {c : Code} {K : Exit → AS → Prop} (h : ACode P n c S K) : ACode P n c S K := h
theorem ACode.isR {id : Nat} {ops : Array Oper} {dr : Bool} {K : Exit → AS → Prop} (h : ACode P n (.region id ops dr) S K) : ACode P n (.region id ops dr) S K := h
theorem TChain.is {K : AS → Prop} (h : TChain P n K S l) : TChain P n K S l := h
end

end Go.Proofs.Ytjokcnajopfjhaa
