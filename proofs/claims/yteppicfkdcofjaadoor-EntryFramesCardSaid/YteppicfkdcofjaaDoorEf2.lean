/- For every rows of entries EntryFrames returns true, and leaves its argument as it was; tied to the program by the card. Conditions: none beyond the given statement's own. (Part 2 of 4.) -/
import Derived.Test.YteppicfkdcofjaaDoorEf1
/- More rules in the form that the walk takes; and functions whose results lie in cells, or are to be frozen. Generic over the program. -/
namespace Go.Proofs.YteppicfkdcofjaaDoor
set_option maxRecDepth 100000
set_option maxHeartbeats 16000000
open Go Go.RowKit
class BuildA (P : Program) (t : Nat) (pl : outParam (List (Nat × Nat))) : Prop where
  st : P.underlying t = some (.struct (P.fieldsOf t))
  pl : (P.fieldsOf t).toList.map (fun f => (P.info? f.type).map fun i => (f.offset, i.size)) = pl.map some
class EqA (P : Program) (t : Nat) (m : outParam Nat) : Prop where
  st : P.underlying t = some (.struct (P.fieldsOf t))
  held : P.stoodInHeld t = false
  guard : P.eqGuardType P.depth t = false
  flat : flatInts P (P.fieldsOf t).toList 0 = true
  len : (P.fieldsOf t).toList.length = m
theorem run_places {P : Program} {w : World} : ∀ (fs : List Field) (pl : List (Nat × Nat)), fs.map (fun f => (P.info? f.type).map fun i => (f.offset, i.size)) = pl.map some →
    (List.mapM (fun f => do pure (f.offset, ← sizeOf f.type)) fs : Sem (List (Nat × Nat))).run P w = .ok pl w
  | [], pl, h => by
    cases pl with
    | nil => simp
    | cons p r => simp at h
  | f :: fs, pl, h => by
    cases pl with
    | nil => simp at h
    | cons p r =>
      simp only [List.map_cons, List.cons.injEq] at h
      obtain ⟨h1, h2⟩ := h
      obtain ⟨i, hi, rfl⟩ := Option.map_eq_some_iff.1 h1
      have ih := run_places (P := P) (w := w) fs r h2
      have hs : (sizeOf f.type).run P w = .ok i.size w := by simp [sizeOf, typeInfo, hi]
      simp only [List.mapM_cons, Sem.run_bind, Sem.run_pure, hs, ih, Result.andThen_ok]
theorem run_build {P : Program} {t : Nat} {pl : List (Nat × Nat)} {z : Value} [hb : BuildA P t pl] [hz : ZeroA P t z] (parts : List (Nat × Value)) (w : World) (cells : Array Value) (h : Instr.fill (fun i => pl[i]?) z.cells.toList.toArray parts = some cells) :
    (Instr.build t parts.toArray).run P w = .ok (.agg cells) w := by
  have h1 := run_places (w := w) _ pl hb.pl
  have h2 : (Array.mapM (fun f => do pure (f.offset, ← sizeOf f.type)) (P.fieldsOf t) : Sem (Array (Nat × Nat))).run P w = .ok pl.toArray w := by
    rw [Array.mapM_eq_mapM_toList]
    simp only [Sem.run_map, h1]
    rfl
  unfold Instr.build
  simp only [Sem.run_bind, hz.h, Result.andThen_ok, run_underlying hb.st, h2]
  have e : (fun i : Nat => pl.toArray[i]?) = fun i : Nat => pl[i]? := by funext i; simp
  rw [Array.toArray_toList] at h
  rw [e, h]
  rfl
section
variable {P : Program} {n : Nat} {o : Oper} {S : AS} {d : Nat} {t : TypeId} {x y : Operand}
theorem xC {ps : Array (Nat × Operand)} {pl : List (Nat × Nat)} {z : Value} {zs : List AV} {cs : List PV} [hb : BuildA P t pl] [hz : ZeroA P t z] (ho : o.op = .build t ps) (h1 : z.cells.toList.all (fun u => u.oneCell') = true)
    (hk : ps.toList.all (fun p => (S.get p.2).partOK) = true)
    (hf : fillA (fun i => pl[i]?) (z.cells.toList.map fun u => .p (.val u)) (ps.toList.map fun p => (p.1, S.get p.2)) = some zs) (hp : pures zs = some cs) (hd : o.dst = some d) (hn : d < n) : zJ P n o S [] (.p (.agg cs)) none :=
  a_build ho (fun parts w cells h => run_build parts w cells h) (fun u hu => List.all_eq_true.1 h1 u hu) hk hf (pures_spec hp) hd hn
theorem zeros_eq (z : Array Value) (len : Nat) : ((Array.range len).map (z[· % z.size]!)) = ((List.range len).map (z[· % z.size]!)).toArray := by
  apply Array.ext'
  simp [Array.toList_range]
theorem w_buildSlice {ps : Array (Nat × Operand)} {len e sz by_ : Nat} {z : Value} {zs : List AV} [ht : Und P t (.slice e)] [hi : InfoA P e z sz by_] (ho : o.op = .buildSlice t len ps)
    (hl : len ≤ maxLen) (hsmall : ¬ len * sz > 2 ^ 24) (hpos : ¬ len * sz = 0) (hz : ((List.range (len * sz)).map (z.cells[· % z.cells.size]!)).all (fun u => u.oneCell') = true) (hk : ps.toList.all (fun p => (S.get p.2).partOK) = true)
    (hf : fillA (fun i => some (i * sz, sz)) (((List.range (len * sz)).map (z.cells[· % z.cells.size]!)).map fun u => .p (.val u)) (ps.toList.map fun p => (p.1, S.get p.2)) = some zs) (hlen : zs.length = len * sz) (hd : o.dst = some d) (hn : d < n) :
    zJ P n o S [] (.own d) (some (.row e sz len zs)) := by
  obtain ⟨i, hi1, hi2⟩ := Option.map_eq_some_iff.1 hi.h
  simp only [Prod.mk.injEq] at hi2
  obtain ⟨hzi, hisz, _⟩ := hi2
  subst hisz
  exact a_buildSlice ho (fun parts w cells h => run_buildSlice w t e len _ cells i z ht.h hi1 hzi hsmall hpos (by rw [zeros_eq]; exact h)) hl (fun u hu => List.all_eq_true.1 hz u hu) hk hf hlen hd hn
theorem xJ {id off m : Nat} {b : Blk} {av : AV} {agg : Bool} [h : TyA P t agg m] (ho : o.op = .store t x y) (hx : S.get x = .ptr id off) (hb : S.blk id = some b) (hy : S.get y = av) (hk : av.partOK = true)
    (hlen : av.yF.length = m) (hle : off + m ≤ b.xs.length) (hlb : b.lentB = false) (hd : o.dst = none) : Step P n o S { S with s := putL S.s id (b.setXs (splice b.xs off av.yF)) } :=
  s_store ho hx hb hy hk h.sz hlen hle hlb hd
theorem w_appendP {id e sz by_ m : Nat} {z : Value} {xs : List AV} {es : List PV} [ht : Und P t (.slice e)] [hi : InfoA P e z sz by_] (ho : o.op = .call { callee := .builtin .append, args := #[x, y], argTypes := #[t, t] }) (hx : S.get x = .own id) (hb : S.blk id = some (.row e sz m xs))
    (hy : S.get y = .p (.sl es)) (hes : ∀ e ∈ es, e.cells.length = sz) (hlim : (m + es.length) * by_ ≤ 140737488355328 ∧ m + es.length ≤ maxLen) (hzs : z.cells.size = sz) (hsz : 0 < sz) (hd : o.dst = some d) (hn : d < n) :
    Step P n o S ((S.create id (.row e sz (m + es.length) (xs ++ (flat es).map AV.p))).put d (.own id)) :=
  s_appendP ho hx hb hy hes ht.h hi.h hzs hsz hlim.2 hlim.1 hd hn
theorem w_appendO {id id2 e ty2 sz by_ m k : Nat} {z : Value} {xs news : List AV} [ht : Und P t (.slice e)] [hi : InfoA P e z sz by_] (ho : o.op = .call { callee := .builtin .append, args := #[x, y], argTypes := #[t, t] }) (hx : S.get x = .own id) (hb : S.blk id = some (.row e sz m xs))
    (hy : S.get y = .own id2) (hb2 : S.blk id2 = some (.row ty2 sz k news)) (hlim : (m + k) * by_ ≤ 140737488355328 ∧ m + k ≤ maxLen) (hzs : z.cells.size = sz) (hsz : 0 < sz) (hd : o.dst = some d) (hn : d < n) :
    Step P n o S ((S.create id (.row e sz (m + k) (xs ++ news))).put d (.own id)) :=
  s_appendO ho hx hb hy hb2 ht.h hi.h hzs hsz hlim.2 hlim.1 hd hn
theorem w_str {src dst e : TypeId} {bs : List Int} [hs : Und P src (.slice e)] [he : Und P e (.int .u8)] [ht : Und P dst .string] (ho : o.op = .convert src dst x) (hx : S.get x = .p (.sl (byts bs))) (hd : o.dst = some d) (hn : d < n) :
    zJ P n o S [] (.p (.val (.string (strOfNums bs)))) none := a_str ho hx hs.h he.h ht.h hd hn
theorem w_eqlT {xt yt m : TypeId} {ps qs : List PV} {la lb : List (IntKind × Int)} [h : EqA P xt m] (ho : o.op = .binOp .eql xt x y yt) (hx : S.get x = .p (.agg ps)) (hy : S.get y = .p (.agg qs)) (ha : y8 ps = some la) (hb : y8 qs = some lb) (hab : la.map Prod.fst = lb.map Prod.fst)
    (hlen : la.length = m) (hd : o.dst = some d) (hn : d < n) : zJ P n o S [] (.p (.val (.bool (decide (la = lb))))) none :=
  a_eqlT ho hx hy ha hb hab (hlen.trans h.len.symm) h.st h.held h.guard h.flat hd hn
end
theorem zY.known {P : Program} {n : Nat} {S : AS} {o : Oper} {ops : Array Oper} {rest : List Oper} {K : Exit → AS → Prop} {j t : Nat} {want b : Bool} (_hg : o.guard = some (j, want)) (_ht : (ops[j]?).bind (·.dst) = some t) (_hb : S.tmp t = .p (.val (.bool b))) (_hk : b = true ∨ b = false)
    (h : zY P n ops (o :: rest) S K) : zY P n ops (o :: rest) S K := h
/-! ### Rows of pure cells: as rows -/
inductive Alike : Blk → Blk → Prop
  | refl (b : Blk) : Alike b b
  | rp (t size n : Nat) (xs : List PV) : Alike (.row t size n (xs.map AV.p)) (.prow t size n xs)
  | pr (t size n : Nat) (xs : List PV) : Alike (.prow t size n xs) (.row t size n (xs.map AV.p))
theorem Alike.ok {b b' : Blk} (h : Alike b b') {M : Nat → Nat → Prop} {B : Nat} {ρ : Nat → Value} {w : World} {v : Value} (hb : yX M B ρ w v b) : yX M B ρ w v b' := by
  cases h <;> exact hb
theorem Alike.kill {b b' : Blk} (h : Alike b b') (id : Nat) : Alike (b.kill id) (b'.kill id) := by
  cases h with
  | refl => exact .refl _
  | rp t size n xs =>
    show Alike (.row t size n ((xs.map AV.p).map (AV.kill id))) _
    rw [y7]
    exact .rp _ _ _ _
  | pr t size n xs =>
    show Alike _ (.row t size n ((xs.map AV.p).map (AV.kill id)))
    rw [y7]
    exact .pr _ _ _ _
/-- The same frame, but for how rows are written. -/
structure yB (S S' : AS) : Prop where
  t : ∀ i, S'.tmp i = S.tmp i
  s : ∀ id, (S.blk id = none ∧ S'.blk id = none) ∨ ∃ b b', S.blk id = some b ∧ S'.blk id = some b' ∧ Alike b b'
theorem yB.refl (S : AS) : yB S S := ⟨fun _ => rfl, fun id => by
  cases h : S.blk id with
  | none => exact .inl ⟨rfl, rfl⟩
  | some b => exact .inr ⟨b, b, rfl, rfl, .refl b⟩⟩
theorem map_p_inj : ∀ {xs ys : List PV}, xs.map AV.p = ys.map AV.p → xs = ys
  | [], [], _ => rfl
  | [], _ :: _, h => by simp at h
  | _ :: _, [], h => by simp at h
  | x :: xs, y :: ys, h => by
    simp only [List.map_cons, List.cons.injEq, AV.p.injEq] at h
    rw [h.1, map_p_inj h.2]
theorem Alike.trans {a b c : Blk} (h : Alike a b) (h' : Alike b c) : Alike a c := by
  cases h with
  | refl => exact h'
  | rp t size n xs =>
    cases h' with
    | refl => exact .rp _ _ _ _
    | pr => exact .refl _
  | pr t size n xs =>
    generalize hb : Blk.row t size n (xs.map AV.p) = b at h'
    cases h' with
    | refl => subst hb; exact .pr _ _ _ _
    | rp t2 size2 n2 ys =>
      simp only [Blk.row.injEq] at hb
      obtain ⟨rfl, rfl, rfl, hxy⟩ := hb
      rw [map_p_inj hxy]
      exact .refl _
    | pr => cases hb
theorem yB.trans {S S1 S2 : AS} (h : yB S S1) (h' : yB S1 S2) : yB S S2 := ⟨fun i => (h'.t i).trans (h.t i), fun id => by
  rcases h.s id with ⟨h1, h2⟩ | ⟨b1, b2, h1, h2, ha⟩
  · rcases h'.s id with ⟨_, h3⟩ | ⟨b3, _, h3, _, _⟩
    · exact .inl ⟨h1, h3⟩
    · rw [h2] at h3; cases h3
  · rcases h'.s id with ⟨h3, _⟩ | ⟨b3, b4, h3, h4, hb⟩
    · rw [h2] at h3; cases h3
    · rw [h2] at h3
      obtain rfl := Option.some.inj h3
      exact .inr ⟨b1, b4, h1, h4, ha.trans hb⟩⟩
theorem yB.mut {S S' : AS} (h : yB S S') {M : Nat → Nat → Prop} {ρ : Nat → Value} {k c : Nat} (hk : Mut M S' ρ k c) : Mut M S ρ k c := by
  rcases hk with hk | ⟨id, b, hb, h2, ht⟩
  · exact .inl hk
  · rcases h.s id with ⟨_, h1⟩ | ⟨b1, b2, h1, h3, ha⟩
    · rw [h1] at hb; cases hb
    · rw [hb] at h3
      obtain rfl := Option.some.inj h3
      exact .inr ⟨id, b1, h1, h2, by cases ha <;> first | exact ht | trivial⟩
theorem yB.sat {S S' : AS} (h : yB S S') {M : Nat → Nat → Prop} {n : Nat} {w0 : Home} {w : World} {ρ : Nat → Value} {a : Act} (hs : Sat M n w0 S ρ a w) : Sat M n w0 S' ρ a w := by
  refine ⟨hs.below, hs.out, hs.tab, hs.size, hs.defers, fun i => ?_, fun id b hb => ?_, fun id b k hb hk => ?_, hs.fix, hs.free, fun i j bi bj k hi hj h1 h2 => ?_⟩
  · rw [h.t i]
    exact (hs.tmps i).mono fun _ _ _ hk => h.mut hk
  · rcases h.s id with ⟨_, h1⟩ | ⟨b1, b2, h1, h2, ha⟩
    · rw [h1] at hb; cases hb
    · rw [hb] at h2
      obtain rfl := Option.some.inj h2
      exact (ha.ok (hs.blks id b1 h1)).mono fun _ _ hk => h.mut hk
  · rcases h.s id with ⟨_, h1⟩ | ⟨b1, b2, h1, h2, ha⟩
    · rw [h1] at hb; cases hb
    · exact hs.mine id b1 k h1 hk
  · rcases h.s i with ⟨_, h3⟩ | ⟨b1, _, h3, _, _⟩
    · rw [h3] at hi; cases hi
    · rcases h.s j with ⟨_, h4⟩ | ⟨b2, _, h4, _, _⟩
      · rw [h4] at hj; cases hj
      · exact hs.dist i j b1 b2 k h3 h4 h1 h2
theorem yB.sub {S S' : AS} (h : yB S S') : Sub S S' := fun _ _ _ ρ _ _ hs => ⟨ρ, h.sat hs⟩
theorem yB.put {S S' : AS} (h : yB S S') (d : Nat) (x : AV) : yB (S.put d x) (S'.put d x) := ⟨fun i => by
  rw [AS.tmp_put, AS.tmp_put]
  split
  · rfl
  · exact h.t i, h.s⟩
theorem yB.create {S S' : AS} (h : yB S S') (id : Nat) {b b' : Blk} (hb : Alike b b') : yB (S.create id b) (S'.create id b') := ⟨fun i => by rw [AS.tmp_create, AS.tmp_create, h.t i], fun j => by
  rw [AS.yC, AS.yC]
  split
  · exact .inr ⟨_, _, rfl, rfl, hb.kill id⟩
  · rcases h.s j with ⟨h1, h2⟩ | ⟨b1, b2, h1, h2, ha⟩
    · exact .inl ⟨by rw [h1]; rfl, by rw [h2]; rfl⟩
    · exact .inr ⟨b1.kill id, b2.kill id, by rw [h1]; rfl, by rw [h2]; rfl, ha.kill id⟩⟩
theorem yB.drop {S S' : AS} (h : yB S S') (id : Nat) : yB (S.drop id) (S'.drop id) := ⟨fun i => by
  show (S'.kill id).tmp i = (S.kill id).tmp i
  rw [AS.tmp_kill, AS.tmp_kill, h.t i], fun j => by
  rw [AS.yQ, AS.yQ]
  split
  · exact .inl ⟨rfl, rfl⟩
  · rcases h.s j with ⟨h1, h2⟩ | ⟨b1, b2, h1, h2, ha⟩
    · exact .inl ⟨by rw [h1]; rfl, by rw [h2]; rfl⟩
    · exact .inr ⟨b1.kill id, b2.kill id, by rw [h1]; rfl, by rw [h2]; rfl, ha.kill id⟩⟩
def AS.tag (S : AS) (id : Nat) (b : Blk) : AS := { S with s := putL S.s id b }
theorem AS.yK (S : AS) (id : Nat) (b : Blk) (j : Nat) : (S.tag id b).blk j = if id = j then some b else S.blk j := rfl
theorem AS.xA (S : AS) (id : Nat) (b : Blk) (x : Operand) : (S.tag id b).get x = S.get x := by cases x <;> rfl
theorem xQ {S : AS} {id : Nat} {b b' : Blk} (hb : S.blk id = some b) (h : Alike b b') : yB S (S.tag id b') := ⟨fun _ => rfl, fun j => by
  rw [AS.yK]
  by_cases hj : id = j
  · subst hj
    rw [if_pos rfl]
    exact .inr ⟨b, b', hb, rfl, h⟩
  · rw [if_neg hj]
    exact (yB.refl S).s j⟩
theorem xZ {S : AS} {id : Nat} {b b' : Blk} (hb : S.blk id = some b) (h : Alike b' b) : yB (S.tag id b') S := ⟨fun _ => rfl, fun j => by
  rw [AS.yK]
  by_cases hj : id = j
  · subst hj
    rw [if_pos rfl]
    exact .inr ⟨b', b, rfl, hb, h⟩
  · rw [if_neg hj]
    exact (yB.refl S).s j⟩
theorem Step.same {P : Program} {n : Nat} {o : Oper} {S S1 T T1 : AS} (h : Step P n o S T) (h1 : yB S1 S) (h2 : yB T T1) : Step P n o S1 T1 :=
  fun M w0 ρ a w K Q hs hK => h M w0 ρ a w K Q (h1.sat hs) fun ρ' a' w' hs' => hK ρ' a' w' (h2.sat hs')
theorem zJ.nb {P : Program} {n : Nat} {o : Oper} {S : AS} {bs : List Nat} {av : AV} {b b' : Blk} (h : zJ P n o S bs av (some b)) (ha : Alike b b') : zJ P n o S bs av (some b') := by
  intro S2 hg hbl
  refine (h S2 hg hbl).same (yB.refl _) ?_
  cases o.dst with
  | none => exact yB.refl _
  | some d => exact ((yB.refl S2).create d ha).put d av
theorem zJ.tag {P : Program} {n : Nat} {o : Oper} {S : AS} {bs : List Nat} {av : AV} {id : Nat} {b b' : Blk} (hb : S.blk id = some b) (ha : Alike b b') (ha' : Alike b' b) (hin : id ∈ bs) (h : zJ P n o (S.tag id b') bs av none) : zJ P n o S bs av none := by
  intro S2 hg hbl
  have hb2 : S2.blk id = some b := (hbl id hin).trans hb
  refine (h (S2.tag id b') (fun x hx => by rw [AS.xA, AS.xA]; exact hg x hx) (fun j hj => ?_)).same (xQ hb2 ha) ?_
  · rw [AS.yK, AS.yK]
    split
    · rfl
    · exact hbl j hj
  · cases o.dst with
    | none => exact xZ hb2 ha'
    | some d => exact (xZ hb2 ha').put d av
/-! ### Rows of bytes -/
def bxs (bs : List Int) : List AV := (byts bs).map AV.p
def zM (e : Nat) (bs : List Int) : Blk := .prow e 1 bs.length (byts bs)
theorem yS (e : Nat) (bs : List Int) : Alike (.row e 1 bs.length (bxs bs)) (zM e bs) := .rp _ _ _ _
theorem rowB_alike' (e : Nat) (bs : List Int) : Alike (zM e bs) (.row e 1 bs.length (bxs bs)) := .pr _ _ _ _
def readB : List AV → Option (List Int)
  | [] => some []
  | .p (.val (.int .u8 b)) :: r => match readB r with
    | some l => some (b :: l)
    | none => none
  | _ => none
theorem readB_spec : ∀ {l : List AV} {bs : List Int}, readB l = some bs → l = bxs bs := by
  intro l
  induction l with
  | nil => intro bs h; simp only [readB, Option.some.injEq] at h; subst h; rfl
  | cons a r ih =>
    intro bs h
    unfold readB at h
    split at h
    · rename_i h0; cases h0
    · rename_i b r' h0
      injection h0 with h1 h2
      subst h1
      subst h2
      split at h
      · rename_i l2 hr
        obtain rfl := Option.some.inj h
        rw [ih hr]
        rfl
      · cases h
    · cases h
theorem byts_len (bs : List Int) : (byts bs).length = bs.length := by simp [byts]
theorem bxs_len (bs : List Int) : (bxs bs).length = bs.length := by simp [bxs, byts]
theorem byts_one (bs : List Int) : ∀ e ∈ byts bs, e.cells.length = 1 := fun e he => by
  simp only [byts, List.mem_map] at he
  obtain ⟨b, _, rfl⟩ := he
  rfl
theorem bxs_append (cs bs : List Int) : bxs cs ++ bxs bs = bxs (cs ++ bs) := by simp [bxs, byts]
section
variable {P : Program} {n : Nat} {o : Oper} {S : AS} {d : Nat} {t : TypeId} {x y : Operand}
theorem w_buildB {ps : Array (Nat × Operand)} {len e : Nat} {z : Value} {zs : List AV} {bs : List Int} [ht : Und P t (.slice e)] [hi : InfoA P e z 1 1] (ho : o.op = .buildSlice t len ps)
    (hl : len ≤ maxLen) (hsmall : ¬ len * 1 > 2 ^ 24) (hpos : ¬ len * 1 = 0) (hz : ((List.range (len * 1)).map (z.cells[· % z.cells.size]!)).all (fun u => u.oneCell') = true) (hk : ps.toList.all (fun p => (S.get p.2).partOK) = true)
    (hf : fillA (fun i => some (i * 1, 1)) (((List.range (len * 1)).map (z.cells[· % z.cells.size]!)).map fun u => .p (.val u)) (ps.toList.map fun p => (p.1, S.get p.2)) = some zs) (hlen : zs.length = len * 1) (hb : readB zs = some bs) (hd : o.dst = some d) (hn : d < n) :
    zJ P n o S [] (.own d) (some (zM e bs)) := by
  have h := w_buildSlice (P := P) (S := S) ho hl hsmall hpos hz hk hf hlen hd hn
  have e1 := readB_spec hb
  subst e1
  have e2 : bs.length = len := by rw [bxs_len, Nat.mul_one] at hlen; exact hlen
  subst e2
  exact h.nb (yS e bs)
theorem w_appB {id e : Nat} {z : Value} {cs bs : List Int} [ht : Und P t (.slice e)] [hi : InfoA P e z 1 1] (ho : o.op = .call { callee := .builtin .append, args := #[x, y], argTypes := #[t, t] }) (hx : S.get x = .own id) (hb : S.blk id = some (zM e cs))
    (hy : S.get y = .p (.sl (byts bs))) (hlim : cs.length + bs.length ≤ 140737488355328) (hzs : z.cells.size = 1) (hd : o.dst = some d) (hn : d < n) :
    Step P n o S ((S.create id (zM e (cs ++ bs))).put d (.own id)) := by
  have h := w_appendP (P := P) (by_ := 1) (sz := 1) (S := S.tag id (.row e 1 cs.length (bxs cs))) (o := o) (d := d) (by exact ho) (by rw [AS.xA]; exact hx) (by rw [AS.yK, if_pos rfl]) (by rw [AS.xA]; exact hy) (byts_one bs) (by rw [byts_len]; simp only [maxLen]; omega) hzs (by decide) hd hn
  have e1 : Blk.row e 1 (cs.length + (byts bs).length) (bxs cs ++ (flat (byts bs)).map AV.p) = .row e 1 (cs ++ bs).length (bxs (cs ++ bs)) := by
    rw [byts_flat, byts_len]
    show Blk.row e 1 (cs.length + bs.length) (bxs cs ++ bxs bs) = _
    rw [bxs_append]
    simp
  rw [e1] at h
  exact h.same (xQ hb (rowB_alike' e cs)) (((xZ hb (yS e cs)).create id (yS e (cs ++ bs))).put d _)
theorem w_appOB {id id2 e e2 : Nat} {z : Value} {cs bs : List Int} [ht : Und P t (.slice e)] [hi : InfoA P e z 1 1] (ho : o.op = .call { callee := .builtin .append, args := #[x, y], argTypes := #[t, t] }) (hx : S.get x = .own id) (hb : S.blk id = some (zM e cs))
    (hy : S.get y = .own id2) (hb2 : S.blk id2 = some (zM e2 bs)) (hlim : cs.length + bs.length ≤ 140737488355328) (hzs : z.cells.size = 1) (hd : o.dst = some d) (hn : d < n) :
    Step P n o S ((S.create id (zM e (cs ++ bs))).put d (.own id)) := by
  have hb3 : (S.tag id2 (.row e2 1 bs.length (bxs bs))).blk id = some (zM e cs) ∨ id = id2 ∧ e = e2 ∧ cs = bs := by
    by_cases h : id2 = id
    · subst h
      rw [hb2] at hb
      simp only [zM, Option.some.injEq, Blk.prow.injEq] at hb
      refine .inr ⟨rfl, hb.1.symm, ?_⟩
      have h3 := hb.2.2.2
      have inj : ∀ l m : List Int, byts l = byts m → l = m := by
        intro l
        induction l with
        | nil => intro m h; cases m with
          | nil => rfl
          | cons => simp [byts] at h
        | cons a r ih => intro m h; cases m with
          | nil => simp [byts] at h
          | cons c q =>
            simp only [byts, List.map_cons, List.cons.injEq, PV.val.injEq, Value.int.injEq, true_and] at h
            rw [h.1, ih q h.2]
      exact (inj _ _ h3).symm
    · left
      rw [AS.yK, if_neg h]
      exact hb
  have go : ∀ {S1 S0 : AS}, S1.get x = .own id → S1.blk id = some (.row e 1 cs.length (bxs cs)) → S1.get y = .own id2 → S1.blk id2 = some (.row e2 1 bs.length (bxs bs)) → yB S S1 → yB S1 S → Step P n o S ((S.create id (zM e (cs ++ bs))).put d (.own id)) := by
    intro S1 _ h1 h2 h3 h4 h5 h6
    have h := w_appendO (P := P) (by_ := 1) (sz := 1) (S := S1) ho h1 h2 h3 h4 (by simp only [maxLen]; omega) hzs (by decide) hd hn
    have e1 : Blk.row e 1 (cs.length + bs.length) (bxs cs ++ bxs bs) = .row e 1 (cs ++ bs).length (bxs (cs ++ bs)) := by
      rw [bxs_append]
      simp
    rw [e1] at h
    exact h.same h5 ((h6.create id (yS e (cs ++ bs))).put d _)
  rcases hb3 with hb3 | ⟨rfl, rfl, rfl⟩
  · have s1 := xQ hb2 (rowB_alike' e2 bs)
    have u1 := xZ hb2 (yS e2 bs)
    have s2 := xQ hb3 (rowB_alike' e cs)
    have u2 := xZ hb3 (yS e cs)
    by_cases hne : id = id2
    · subst hne
      rw [AS.yK, if_pos rfl] at hb3
      cases hb3
    · exact go (S0 := S) (by rw [AS.xA, AS.xA]; exact hx) (by rw [AS.yK, if_pos rfl]) (by rw [AS.xA, AS.xA]; exact hy) (by rw [AS.yK, if_neg hne, AS.yK, if_pos rfl]) (s1.trans s2) (u2.trans u1)
  · exact go (S0 := S) (by rw [AS.xA]; exact hx) (by rw [AS.yK, if_pos rfl]) (by rw [AS.xA]; exact hy) (by rw [AS.yK, if_pos rfl]) (xQ hb (rowB_alike' e cs)) (xZ hb (yS e cs))
theorem sub_freezeB {d id e : Nat} {bs : List Int} (hd : S.tmp d = .own id) (hb : S.blk id = some (zM e bs)) : Sub S ((S.drop id).put d (.p (.sl (byts bs)))) :=
  ((xQ hb (rowB_alike' e bs)).sub.trans (sub_freeze (S := S.tag id (.row e 1 bs.length (bxs bs))) (es := byts bs) hd (by rw [byts_flat, AS.yK, if_pos rfl]; rfl) (byts_len bs))).trans (((xZ hb (yS e bs)).drop id).put d _).sub
theorem w_indexB {ix : Operand} {e : Nat} {j : Int} {k : IntKind} {bs : List Int} {agg : Bool} [ht : Und P t (.slice e)] [he : TyA P e agg 1] (ho : o.op = .indexAddr t x ix) (hx : S.get x = .p (.sl (byts bs))) (hi : S.get ix = .p (.val (.int k j)))
    (hj : 0 ≤ j ∧ j < bs.length) (hd : o.dst = some d) (hn : d < n) : zJ P n o S [] (.pt [.val (.int .u8 (bs.getD j.toNat 0))]) none := by
  obtain ⟨m, rfl⟩ := Int.eq_ofNat_of_zero_le hj.1
  have hm : m < bs.length := by omega
  have hc : (byts bs)[m]? = some (.val (.int .u8 (bs.getD m 0))) := by simp [byts, hm, List.getD]
  exact w_indexS (P := P) (i := m) ho hx hi (byts_one bs) hc hd hn
/-- the address of an element of an own row -/
theorem w_indexO {ix : Operand} {id e ty sz m : Nat} {j : Int} {k : IntKind} {xs : List AV} {agg : Bool} [ht : Und P t (.slice e)] [he : TyA P e agg sz] (ho : o.op = .indexAddr t x ix) (hx : S.get x = .own id) (hb : S.blk id = some (.row ty sz m xs)) (hi : S.get ix = .p (.val (.int k j)))
    (hj : 0 ≤ j ∧ j < m) (hd : o.dst = some d) (hn : d < n) : zJ P n o S [id] (.ptr id (j.toNat * sz)) none :=
  zJ.pure hd hn fun S2 hg hbl M w0 ρ a w hs => by
    have h1 := hs.rep x
    rw [hg x (by rw [ho]; simp [Op.operands]), hx] at h1
    have h2 := hs.val ((hg ix (by rw [ho]; simp [Op.operands])).trans hi)
    have hv := own_eq h1
    obtain ⟨ys, hown, _⟩ := hs.blks id _ ((hbl id (by simp)).trans hb)
    rcases hown.2 with ⟨_, h⟩ | ⟨g, cap, cur, hr, _⟩
    · omega
    · refine ⟨.pointer (some ⟨g, j.toNat * sz, none⟩), w, ?_, Below.refl _ _, .ptr id _ g (by rw [hr]; rfl)⟩
      unfold execOp
      rw [ho]
      simp only [hv, hr, h2, Sem.run_bind]
      have : (Instr.indexAt t (.slice (some ⟨g, 0, none⟩) m cap) (.int k j)).run P w = .ok (.pointer (some ⟨g, j.toNat * sz, none⟩)) w := by
        have hel : P.elem t = e := by simp [Program.elem, ht.h]
        rw [run_indexAt_slice w t _ _ _ _ _ (by rw [hel]; exact ht.h), if_pos ⟨by omega, by omega⟩, hel, he.sz w]
        show Result.ok _ w = _
        rw [add_lit, Nat.zero_add]
      rw [this]
      rfl
theorem xV {t' : Nat} {bs : List Int} [ht : Und P t (.slice t')] (ho : o.op = .call { callee := .builtin .len, args := #[x], argTypes := #[t] }) (hx : S.get x = .p (.sl (byts bs))) (hd : o.dst = some d) (hn : d < n) : zJ P n o S [] (.p (.val (.int .i64 bs.length))) none := by
  have h := w_lenS (P := P) ho hx hd hn
  rw [byts_len] at h
  exact h
end
/-! ### What is said of a frame, anew and less -/
theorem look_mem {α : Type} {l : List (Nat × α)} {i : Nat} {x : α} (h : look l i = some x) : (i, x) ∈ l := by
  induction l with
  | nil => cases h
  | cons p r ih =>
    obtain ⟨k, y⟩ := p
    simp only [look] at h
    split at h
    · rename_i hk
      subst hk
      obtain rfl := Option.some.inj h
      exact List.mem_cons_self
    · exact List.mem_cons_of_mem _ (ih h)
theorem sub_less {S S' : AS} (ht : ∀ p ∈ S'.t, p.2 = S.tmp p.1) (hs : ∀ p ∈ S'.s, S.blk p.1 = some p.2) : Sub S S' :=
  fun M n w0 ρ a w h => by
    have hb : ∀ {id b}, S'.blk id = some b → S.blk id = some b := fun {id b} hb => hs (id, b) (look_mem hb)
    have hm : ∀ k c, k < w.heap.size → Mut M S' ρ k c → Mut M S ρ k c := fun k c _ hk => by
      rcases hk with hk | ⟨id, b, h1, h2⟩
      · exact .inl hk
      · exact .inr ⟨id, b, hb h1, h2⟩
    refine ⟨ρ, ⟨h.below, h.out, h.tab, h.size, h.defers, fun i => ?_, fun id b hbk => ?_, fun id b k hbk hk => h.mine id b k (hb hbk) hk, h.fix, h.free, fun i j bi bj k hi hj => h.dist i j bi bj k (hb hi) (hb hj)⟩⟩
    · show zG _ _ _ ((look S'.t i).getD .any) _
      cases hl : look S'.t i with
      | none => exact .any _
      | some x =>
        have e : x = S.tmp i := ht (i, x) (look_mem hl)
        rw [Option.getD_some, e]
        exact (h.tmps i).mono hm
    · have h1 := h.blks id b (hb hbk)
      cases b with
      | row t size m xs =>
        obtain ⟨ys, ho, hc⟩ := h1
        exact ⟨ys, ho, hc.mono hm⟩
      | prow t size m xs =>
        obtain ⟨ys, ho, hc⟩ := h1
        exact ⟨ys, ho, hc.mono hm⟩
      | box t xs =>
        obtain ⟨g, ys, hv, hg, hh, hc⟩ := h1
        exact ⟨g, ys, hv, hg, hh, hc.mono hm⟩
      | lent t size m xs =>
        obtain ⟨ys, ho, hc⟩ := h1
        exact ⟨ys, ho, hc.mono hm⟩
inductive zZ (S : AS) : List Nat → List (Nat × AV) → Prop
  | nil : zZ S [] []
  | p {i : Nat} {x : PV} {is : List Nat} {l : List (Nat × AV)} (h : S.tmp i = .p x) (t : zZ S is l) : zZ S (i :: is) ((i, .p x) :: l)
  | own {i id : Nat} {is : List Nat} {l : List (Nat × AV)} (h : S.tmp i = .own id) (t : zZ S is l) : zZ S (i :: is) ((i, .own id) :: l)
  | ptr {i id off : Nat} {is : List Nat} {l : List (Nat × AV)} (h : S.tmp i = .ptr id off) (t : zZ S is l) : zZ S (i :: is) ((i, .ptr id off) :: l)
  | pt {i : Nat} {xs : List PV} {is : List Nat} {l : List (Nat × AV)} (h : S.tmp i = .pt xs) (t : zZ S is l) : zZ S (i :: is) ((i, .pt xs) :: l)
  | tup {i : Nat} {xs : List AV} {is : List Nat} {l : List (Nat × AV)} (h : S.tmp i = .tup xs) (t : zZ S is l) : zZ S (i :: is) ((i, .tup xs) :: l)
  | clo {i f : Nat} {ks : List Nat} {is : List Nat} {l : List (Nat × AV)} (h : S.tmp i = .clo f ks) (t : zZ S is l) : zZ S (i :: is) ((i, .clo f ks) :: l)
  | skip {i : Nat} {is : List Nat} {l : List (Nat × AV)} (t : zZ S is l) : zZ S (i :: is) l
inductive zW (S : AS) : List Nat → List (Nat × Blk) → Prop
  | nil : zW S [] []
  | boxP {i ty : Nat} {xs : List AV} {cs : List PV} {is : List Nat} {l : List (Nat × Blk)} (h : S.blk i = some (.box ty xs)) (hp : pures xs = some cs) (t : zW S is l) : zW S (i :: is) ((i, .box ty (cs.map AV.p)) :: l)
  | zM {i e : Nat} {bs : List Int} {is : List Nat} {l : List (Nat × Blk)} (h : S.blk i = some (zM e bs)) (t : zW S is l) : zW S (i :: is) ((i, zM e bs) :: l)
  | some {i : Nat} {b : Blk} {is : List Nat} {l : List (Nat × Blk)} (h : S.blk i = some b) (t : zW S is l) : zW S (i :: is) ((i, b) :: l)
  | skip {i : Nat} {is : List Nat} {l : List (Nat × Blk)} (t : zW S is l) : zW S (i :: is) l
theorem zI {S : AS} {is js : List Nat} {l : List (Nat × AV)} {m : List (Nat × Blk)} (ht : zZ S is l) (hb : zW S js m) : Sub S { t := l, s := m } := by
  refine sub_less ?_ ?_
  · clear hb
    induction ht with
    | nil => intro p hp; cases hp
    | p h _ ih => intro p hp; rcases List.mem_cons.1 hp with rfl | hp; exact h.symm; exact ih p hp
    | own h _ ih => intro p hp; rcases List.mem_cons.1 hp with rfl | hp; exact h.symm; exact ih p hp
    | ptr h _ ih => intro p hp; rcases List.mem_cons.1 hp with rfl | hp; exact h.symm; exact ih p hp
    | pt h _ ih => intro p hp; rcases List.mem_cons.1 hp with rfl | hp; exact h.symm; exact ih p hp
    | tup h _ ih => intro p hp; rcases List.mem_cons.1 hp with rfl | hp; exact h.symm; exact ih p hp
    | clo h _ ih => intro p hp; rcases List.mem_cons.1 hp with rfl | hp; exact h.symm; exact ih p hp
    | skip _ ih => exact ih
  · clear ht
    induction hb with
    | nil => intro p hp; cases hp
    | boxP h hp _ ih =>
      intro p hp2
      rcases List.mem_cons.1 hp2 with rfl | hp2
      · rw [h, pures_spec hp]
      · exact ih p hp2
    | zM h _ ih => intro p hp; rcases List.mem_cons.1 hp with rfl | hp; exact h; exact ih p hp
    | some h _ ih => intro p hp; rcases List.mem_cons.1 hp with rfl | hp; exact h; exact ih p hp
    | skip _ ih => exact ih
theorem zX.zQ {P : Program} {n : Nat} {S : AS} {id : Nat} {ops : List Oper} {K : Exit → AS → Prop} (is js : List Nat) {l : List (Nat × AV)} {m : List (Nat × Blk)} (ht : zZ S is l) (hb : zW S js m)
    (h : zY P n ops.toArray ops { t := l, s := m } K) : zX P n (.region id ops.toArray false) S K := zX.sub (zI ht hb) (zX.region h)
theorem zX.regionD {P : Program} {n : Nat} {S : AS} {id : Nat} {ops : List Oper} {K : Exit → AS → Prop} (is js : List Nat) {l : List (Nat × AV)} {m : List (Nat × Blk)} (ht : zZ S is l) (hb : zW S js m)
    (h : zX P n (.region id ops.toArray true) { t := l, s := m } K) : zX P n (.region id ops.toArray true) S K := zX.sub (zI ht hb) h
/-! ### Functions whose results lie in cells -/
inductive ResV (P : Program) (S : AS) : ResultVar → PV → Prop
  | tmp {t : Nat} {x : PV} (h : S.tmp t = .p x) : ResV P S (.tmp t) x
  | cell1 {a t id off m : Nat} {b : Blk} {c : PV} [ht : TyA P t false m] (h : S.tmp a = .ptr id off) (hb : S.blk id = some b) (hc : b.xs[off]? = some (.p c)) : ResV P S (.cell a t) c
  | cellN {a t id off m : Nat} {b : Blk} {cs : List PV} [ht : TyA P t true m] (h : S.tmp a = .ptr id off) (hb : S.blk id = some b) (hc : pures ((b.xs.drop off).take m) = some cs) (hl : cs.length = m) : ResV P S (.cell a t) (.agg cs)
inductive ResVs (P : Program) (S : AS) : List ResultVar → List PV → Prop
  | nil : ResVs P S [] []
  | cons {r : ResultVar} {x : PV} {rs : List ResultVar} {xs : List PV} (h : ResV P S r x) (t : ResVs P S rs xs) : ResVs P S (r :: rs) (x :: xs)
inductive GivesV (P : Program) (fn : Func) (S : AS) : RV → Prop
  | p {r : ResultVar} {x : PV} (hr : fn.results = #[r]) (h : ResV P S r x) : GivesV P fn S (.p x)
  | tup {rs : List ResultVar} {l : List PV} (hr : fn.results = rs.toArray) (hl : rs.length ≠ 1) (h : ResVs P S rs l) : GivesV P fn S (.tup l)
  | row {t id ty size n : Nat} {xs : List PV} (hr : fn.results = #[.tmp t]) (ht : S.tmp t = .own id) (hb : S.blk id = some (.row ty size n (xs.map AV.p))) : GivesV P fn S (.row ty size n xs)
theorem GivesV.tupE {P : Program} {fn : Func} {S : AS} {rs : List ResultVar} {l l' : List PV} (hr : fn.results = rs.toArray) (hl : rs.length ≠ 1) (h : ResVs P S rs l) (e : l' = l) : GivesV P fn S (.tup l') := by
  subst e
  exact .tup hr hl h
def resOne (tmps : Array Value) : ResultVar → Sem Value
  | .tmp t => pure (tmps.getD t undef)
  | .cell a t => do loadVar t (← asAddr (tmps.getD a undef))
theorem res_oneM {P : Program} {M : Nat → Nat → Prop} {n : Nat} {w0 : Home} {w : World} {S : AS} {ρ : Nat → Value} {a : Act} (hs : Sat M n w0 S ρ a w) {r : ResultVar} {x : PV} (h : ResV P S r x) :
    ∃ v, (resOne a.tmps r).run P w = .ok v w ∧ Rep (Mut M S ρ) w x v := by
  cases h with
  | @tmp t _ h =>
    have h1 := hs.tmps t
    rw [h] at h1
    exact ⟨_, rfl, rep_p h1⟩
  | @cell1 p t id off m b c ht h hb hc =>
    have h1 := hs.tmps p
    rw [h] at h1
    obtain ⟨g, hgv, hv⟩ := rep_ptr h1
    obtain ⟨ys, hcs, hcell⟩ := (hs.blks id b hb).cells hgv
    have h0 : off < b.xs.length := (List.getElem?_eq_some_iff.1 hc).1
    have hy : ys[off]? = some (ys[off]'(by rw [hcs.len]; exact h0)) := List.getElem?_eq_getElem _
    refine ⟨_, ?_, rep_p (hcs.each off _ _ hc hy)⟩
    have := loadAt_one (P := P) (ht.ag w) (hcell off _ hy).1
    simp only [Instr.loadAt, Instr.sureAddr, Sem.run_bind, Sem.run_pure, Result.andThen_ok] at this
    simp only [resOne, hv, asAddr, Sem.run_bind, Sem.run_pure, Result.andThen_ok]
    exact this
  | @cellN p t id off m b cs ht h hb hc hl =>
    have h1 := hs.tmps p
    rw [h] at h1
    obtain ⟨g, hgv, hv⟩ := rep_ptr h1
    obtain ⟨ys, hcs, hcell⟩ := (hs.blks id b hb).cells hgv
    have hcm := pures_spec hc
    have hlen : ((b.xs.drop off).take m).length = m := by rw [hcm, List.length_map, hl]
    have hlen2 : ((ys.drop off).take m).length = m := by
      simp only [List.length_take, List.length_drop] at hlen ⊢
      rw [hcs.len]
      exact hlen
    have get : ∀ (j : Nat) y, ((ys.drop off).take m)[j]? = some y → j < m ∧ ys[off + j]? = some y := by
      intro j y hy
      rw [List.getElem?_take] at hy
      split at hy
      · rename_i hj
        rw [List.getElem?_drop] at hy
        exact ⟨hj, hy⟩
      · cases hy
    refine ⟨.agg ((ys.drop off).take m).toArray, ?_, .agg _ _ (by rw [hlen2, hl]) (fun i c v h1 h2 => ?_) (fun v hv => hcs.one v (List.mem_of_mem_drop (List.mem_of_mem_take hv)))⟩
    · have := loadAt_many (P := P) (w := w) (t := t) (g := g) (o := off) (ys := (ys.drop off).take m) (ht.ag w) (ht.sz w) hlen2 (fun j y hy => (hcell (off + j) y (get j y hy).2).1)
      simp only [Instr.loadAt, Instr.sureAddr, Sem.run_bind, Sem.run_pure, Result.andThen_ok] at this
      simp only [resOne, hv, asAddr, Sem.run_bind, Sem.run_pure, Result.andThen_ok]
      exact this
    · obtain ⟨hj, hy⟩ := get i v h2
      have h3 : b.xs[off + i]? = some (.p c) := by
        have h4 : ((b.xs.drop off).take m)[i]? = (cs.map AV.p)[i]? := by rw [hcm]
        rw [List.getElem?_take, if_pos hj, List.getElem?_drop, List.getElem?_map, h1] at h4
        exact h4
      exact rep_p (hcs.each (off + i) (.p c) v h3 hy)
theorem res_allM {P : Program} {M : Nat → Nat → Prop} {n : Nat} {w0 : Home} {w : World} {S : AS} {ρ : Nat → Value} {a : Act} (hs : Sat M n w0 S ρ a w) {rs : List ResultVar} {l : List PV} (h : ResVs P S rs l) :
    ∃ vs : List Value, (List.mapM (resOne a.tmps) rs).run P w = .ok vs w ∧ vs.length = l.length ∧ rs.length = l.length ∧ ∀ (i : Nat) x u, l[i]? = some x → vs[i]? = some u → Rep (Mut M S ρ) w x u := by
  induction h with
  | nil => exact ⟨[], by simp, rfl, rfl, fun i x u h => by simp at h⟩
  | @cons r x rs xs h _ ih =>
    obtain ⟨v, h1, h2⟩ := res_oneM hs h
    obtain ⟨vs, h3, h4, h6, h5⟩ := ih
    refine ⟨v :: vs, by simp only [List.mapM_cons, Sem.run_bind, Sem.run_pure, h1, h3, Result.andThen_ok], by simp [h4], by simp [h6], fun i y u hy hu => ?_⟩
    cases i with
    | zero => simp at hy hu; subst hy; subst hu; exact h2
    | succ i => exact h5 i y u (by simpa using hy) (by simpa using hu)
theorem res_one {P : Program} {M : Nat → Nat → Prop} {n : Nat} {w0 : Home} {w : World} {S : AS} {ρ : Nat → Value} {a : Act} (hs : Sat M n w0 S ρ a w) {r : ResultVar} {x : PV} (h : ResV P S r x) :
    ∃ v, (resOne a.tmps r).run P w = .ok v w ∧ Rep M w x v := by
  obtain ⟨v, h1, h2⟩ := res_oneM hs h
  exact ⟨v, h1, h2.outer⟩
theorem res_all {P : Program} {M : Nat → Nat → Prop} {n : Nat} {w0 : Home} {w : World} {S : AS} {ρ : Nat → Value} {a : Act} (hs : Sat M n w0 S ρ a w) {rs : List ResultVar} {l : List PV} (h : ResVs P S rs l) :
    ∃ vs : List Value, (List.mapM (resOne a.tmps) rs).run P w = .ok vs w ∧ vs.length = l.length ∧ rs.length = l.length ∧ ∀ (i : Nat) x u, l[i]? = some x → vs[i]? = some u → Rep M w x u := by
  obtain ⟨vs, h1, h2, h3, h4⟩ := res_allM hs h
  exact ⟨vs, h1, h2, h3, fun i x u hx hu => (h4 i x u hx hu).outer⟩
theorem results_run {P : Program} {w : World} (fn : Func) (tmps : Array Value) {rs : List ResultVar} {vs : List Value} (hr : fn.results = rs.toArray) (h : (List.mapM (resOne tmps) rs).run P w = .ok vs w) :
    (results fn tmps).run P w = .ok (if h : vs.toArray.size = 1 then vs.toArray[0] else .tuple vs.toArray) w := by
  have e : (fun (x : ResultVar) => match x with | .tmp t => pure (tmps.getD t undef) | .cell a t => do loadVar t (← asAddr (tmps.getD a undef))) = resOne tmps := by
    funext r
    cases r <;> rfl
  unfold results
  rw [hr]
  show Sem.run P (do let vs ← Array.mapM (fun (x : ResultVar) => match x with | .tmp t => pure (tmps.getD t undef) | .cell a t => do loadVar t (← asAddr (tmps.getD a undef))) rs.toArray; pure (if h : vs.size = 1 then vs[0] else .tuple vs)) w = _
  rw [e, List.mapM_toArray]
  simp only [Sem.run_bind, Sem.run_map, h]
  rfl
theorem fn_of2 {P : Program} {f : FuncId} {fn : Func} {c : Code} {args : List PV} {r : RV} {n : Nat} (hf : P.funcs[f]? = some fn) (hb : fn.body = some c) (hn : fn.ntmps = n) (hle : args.length ≤ n)
    (h : zX P n c (AS.entry args) (fun e S => (e = .ret ∨ e = .normal) ∧ ∃ S', Sub S S' ∧ GivesV P fn S' r)) : Fn P f args r := by
  intro M w vs hT hM hvl hvs
  refine calls_of_wp hf hb ?_
  have hsat : Sat M n (Home.plain w hT.1) (AS.entry args) (fun _ => undef) { tmps := vs.toArray ++ Array.replicate (fn.ntmps - vs.toArray.size) undef, defers := [] } w := by
    refine ⟨yV.refl (Home.plain w hT.1), (fun k c hk hh => by rcases hh with hh | hh; exact absurd (hM k c hk) (Nat.not_lt.2 hh); exact hh), hT.2, by simp; omega, rfl, fun i => ?_, (fun id b hb => by cases hb), (fun id b k hb => by cases hb), (fun k v hk => by cases hk), (fun _ _ => rfl), (fun i j bi bj k hi => by cases hi)⟩
    show zG _ _ _ ((look (zipArgs 0 args) i).getD .any) _
    rw [look_zipArgs]
    simp only [Nat.zero_le, if_true, Nat.sub_zero]
    cases hx : args[i]? with
    | none => exact .any _
    | some x =>
      have hi : i < vs.length := by rw [hvl]; exact (List.getElem?_eq_some_iff.1 hx).1
      have e : ({ tmps := vs.toArray ++ Array.replicate (fn.ntmps - vs.toArray.size) undef, defers := [] } : Act).tmps.getD i undef = vs[i] := by
        simp [Array.getD_eq_getD_getElem?, Array.getElem?_append, hi]
      rw [e]
      refine .p ((hvs i x vs[i] hx (List.getElem?_eq_getElem hi)).mono ?_)
      rintro k c _ (hk | ⟨id, b, hb, _⟩)
      · exact hk
      · cases hb
  refine h M (Home.plain w hT.1) _ _ w _ hsat ?_
  rintro e S0 ρ0 a' w' ⟨he, S', hsub, hg⟩ hs0
  obtain ⟨ρ', hs'⟩ := hsub M n (Home.plain w hT.1) ρ0 a' w' hs0
  have fin : a'.defers = [] ∧ ∃ v, (results fn a'.tmps).run P w' = .ok v w' ∧ (∃ v', Ending.returned v = .returned v' ∧ RepR M w w' r v' ∧ Below w.heap.size w w') := by
    refine ⟨hs'.defers, ?_⟩
    cases hg with
    | p hr hx =>
      obtain ⟨v, h1, h2⟩ := res_one hs' hx
      have h3 := results_run (P := P) (w := w') fn a'.tmps (rs := [_]) (vs := [v]) hr (by simp only [List.mapM_cons, List.mapM_nil, Sem.run_bind, Sem.run_pure, h1, Result.andThen_ok])
      exact ⟨v, h3, _, rfl, h2, hs'.below.plain⟩
    | tup hr hl hx =>
      obtain ⟨us, h1, h2, h4, h3⟩ := res_all hs' hx
      have h5 := results_run (P := P) (w := w') fn a'.tmps hr h1
      rw [dif_neg (by simp only [List.size_toArray]; omega)] at h5
      exact ⟨_, h5, _, rfl, ⟨us, rfl, h2, h3⟩, hs'.below.plain⟩
    | @row t id ty size m xs hr ht hblk =>
      have h1 := hs'.tmps t
      rw [ht] at h1
      refine ⟨_, results_tmp hr _ _ _, _, rfl, ?_, hs'.below.plain⟩
      have h2 := hs'.blks id _ hblk
      have e : a'.tmps.getD t undef = ρ' id := own_eq h1
      obtain ⟨ys, ho, hc⟩ := h2
      rw [e]
      refine ⟨ys, ownsRow_rebase ho (fun k hk => (hs'.mine id _ k hblk hk).elim (fun h => h) (fun h => h.elim)), by simpa using hc.len, fun i c v h3 h4 => ?_, hc.one⟩
      have h5 := hc.each i (.p c) v (by rw [List.getElem?_map, h3]; rfl) h4
      cases h5 with
      | p h6 =>
        refine h6.mono ?_
        rintro k c _ (hk | hk)
        · exact Or.inl hk
        · exact Or.inr ⟨id, _, hblk, hk, trivial⟩
  intro _
  cases e with
  | ret => exact fin
  | normal => exact fin
  | exit id => rcases he with h | h <;> cases h
  | goto l => rcases he with h | h <;> cases h
  | panic c => rcases he with h | h <;> cases h
  | outgrown => rcases he with h | h <;> cases h
/-! ### Regions that draw their order, walked forward -/
theorem AC.snoc {P : Program} {n : Nat} {l : List Oper} {S S' : AS} {o : Oper} {os tl tl' : List Oper} {xs : List AI} {x : AI} (h : AC P n l S os xs S' tl) (ht : tl = o :: tl') (hg : GStep P n l S' o x) : AC P n l S os (xs ++ [x]) (S'.out o.dst x.av x.nb) tl' := by
  induction h with
  | done S os => subst ht; exact .step hg (.done _ _)
  | step h1 _ ih => exact .step h1 (ih ht hg)
/-- A region that draws its order: these are done (the last one ahead), the frame is S, these are to come. -/
def Draws (P : Program) (n : Nat) (id : Nat) (l : List Oper) (S0 : AS) (K : Exit → AS → Prop) (rev : List AI) (S : AS) (os : List Oper) : Prop :=
  AC P n l S0 l rev.reverse S os → zX P n (.region id l.toArray true) S0 K
section
variable {P : Program} {n id : Nat} {l os : List Oper} {S0 S : AS} {K : Exit → AS → Prop} {rev : List AI} {o : Oper} {d : Nat}
theorem zX.draws {S : AS} (h : Draws P n id l S K [] S l) : zX P n (.region id l.toArray true) S K := h (.done _ _)
theorem Draws.is (h : Draws P n id l S0 K rev S os) : Draws P n id l S0 K rev S os := h
theorem Draws.step {x : AI} (hg : GStep P n l S o x) (h : Draws P n id l S0 K (x :: rev) (S.out o.dst x.av x.nb) os) : Draws P n id l S0 K rev S (o :: os) := fun hc => h (by
  rw [List.reverse_cons]
  exact hc.snoc rfl hg)
theorem Draws.done (hm : P.follows .mixedOrders = true) (hsch : schedB l rev.reverse.length (rev.reverse.map (·.bs)) = true) (hmade : madeB l rev.reverse S0 = true) (ht : zL P n K S os) : Draws P n id l S0 K rev S os :=
  fun hc => zX.draw2 hm hc hsch hmade ht
theorem Draws.v {bs : List Nat} {av : AV} (hg : o.guard = none) (hd : o.dst = some d) (ha : zJ P n o S bs av none) (h : Draws P n id l S0 K (⟨bs, av, none⟩ :: rev) (S.put d av) os) : Draws P n id l S0 K rev S (o :: os) :=
  .step (.inl ⟨hg, ha⟩) (by rw [hd]; exact h)
theorem Draws.m {bs : List Nat} {av : AV} {b : Blk} (hg : o.guard = none) (hd : o.dst = some d) (ha : zJ P n o S bs av (some b)) (h : Draws P n id l S0 K (⟨bs, av, some b⟩ :: rev) ((S.create d b).put d av) os) : Draws P n id l S0 K rev S (o :: os) :=
  .step (.inl ⟨hg, ha⟩) (by rw [hd]; exact h)
theorem Draws.gY {bs : List Nat} {av : AV} {j t : Nat} {want b : Bool} (hg : o.guard = some (j, want)) (ht : yG l j = some t) (htn : t < n) (hb : S.tmp t = .p (.val (.bool b))) (hbw : b = want) (hd : o.dst = some d) (ha : zJ P n o S bs av none) (h : Draws P n id l S0 K (⟨bs, av, none⟩ :: rev) (S.put d av) os) : Draws P n id l S0 K rev S (o :: os) :=
  .step (.inr ⟨j, want, t, _, hg, ht, htn, hb, .inl ⟨by simp [wantB, hbw], ha⟩⟩) (by rw [hd]; exact h)
theorem Draws.gNT {j t : Nat} {b : Bool} (hg : o.guard = some (j, true)) (ht : yG l j = some t) (htn : t < n) (hb : S.tmp t = .p (.val (.bool b))) (hbw : b = false) (hd : o.dst = some d) (hdn : d < n) (h : Draws P n id l S0 K (⟨[], yJ, none⟩ :: rev) (S.put d yJ) os) : Draws P n id l S0 K rev S (o :: os) :=
  .step (.inr ⟨j, true, t, _, hg, ht, htn, hb, .inr ⟨by simp [wantB, hbw], rfl, rfl, d, hd, hdn⟩⟩) (by rw [hd]; exact h)
theorem Draws.gNF {j t : Nat} {b : Bool} (hg : o.guard = some (j, false)) (ht : yG l j = some t) (htn : t < n) (hb : S.tmp t = .p (.val (.bool b))) (hbw : b = true) (hd : o.dst = some d) (hdn : d < n) (h : Draws P n id l S0 K (⟨[], yJ, none⟩ :: rev) (S.put d yJ) os) : Draws P n id l S0 K rev S (o :: os) :=
  .step (.inr ⟨j, false, t, _, hg, ht, htn, hb, .inr ⟨by simp [wantB, hbw], rfl, rfl, d, hd, hdn⟩⟩) (by rw [hd]; exact h)
theorem Draws.gU {j t : Nat} {want : Bool} (hg : o.guard = some (j, want)) (ht : yG l j = some t) (htn : t < n) (hb : S.tmp t = yJ) (hd : o.dst = some d) (hdn : d < n) (h : Draws P n id l S0 K (⟨[], yJ, none⟩ :: rev) (S.put d yJ) os) : Draws P n id l S0 K rev S (o :: os) :=
  .step (.inr ⟨j, want, t, _, hg, ht, htn, hb, .inr ⟨rfl, rfl, rfl, d, hd, hdn⟩⟩) (by rw [hd]; exact h)
theorem Draws.split {j t : Nat} {want b : Bool} (_hg : o.guard = some (j, want)) (_ht : yG l j = some t) (_hb : S.tmp t = .p (.val (.bool b)))
    (h1 : b = true → Draws P n id l S0 K rev S (o :: os)) (h2 : b = false → Draws P n id l S0 K rev S (o :: os)) : Draws P n id l S0 K rev S (o :: os) := by
  cases b
  · exact h2 rfl
  · exact h1 rfl
theorem Draws.known {j t : Nat} {want b : Bool} (_hg : o.guard = some (j, want)) (_ht : yG l j = some t) (_hb : S.tmp t = .p (.val (.bool b))) (_hk : b = true ∨ b = false)
    (h : Draws P n id l S0 K rev S (o :: os)) : Draws P n id l S0 K rev S (o :: os) := h
end
attribute [irreducible] Draws
/-! ### The ways out -/
section
variable {next : AS → Prop} {K : Exit → AS → Prop} {S : AS} {id id' l : Nat}
theorem zR.n (h : next S) : zR next K .normal S := h
theorem zR.r (h : K .ret S) : zR next K .ret S := h
theorem zR.e (h : K (.exit id) S) : zR next K (.exit id) S := h
theorem zR.g (h : K (.goto l) S) : zR next K (.goto l) S := h
theorem blockK.n (h : K .normal S) : blockK id K .normal S := h
theorem blockK.r (h : K .ret S) : blockK id K .ret S := h
theorem blockK.g (h : K (.goto l) S) : blockK id K (.goto l) S := h
end
/-! ### Which judgement a goal is -/
section
variable {P : Program} {n : Nat} {S : AS} {ops : Array Oper} {l : List Oper}
theorem zY.is {K : Exit → AS → Prop} (h : zY P n ops l S K) : zY P n ops l S K := h
theorem zX.is {c : Code} {K : Exit → AS → Prop} (h : zX P n c S K) : zX P n c S K := h
theorem zX.isR {id : Nat} {ops : Array Oper} {dr : Bool} {K : Exit → AS → Prop} (h : zX P n (.region id ops dr) S K) : zX P n (.region id ops dr) S K := h
theorem zL.is {K : Exit → AS → Prop} (h : zL P n K S l) : zL P n K S l := h
end
end Go.Proofs.YteppicfkdcofjaaDoor
/- More rules: comparisons whose answer is known; slices of slices; slice literals without elements; a byte laid into an own row. Generic over the program. -/
namespace Go.Proofs.YteppicfkdcofjaaDoor
set_option maxRecDepth 100000
set_option maxHeartbeats 16000000
open Go Go.RowKit
theorem bT {b : Bool} (h : b = true) : b = true := h
theorem bF {b : Bool} (h : b = false) : b = false := h
section
variable {P : Program} {n : Nat} {o : Oper} {S : AS} {d : Nat} {x y : Operand} {xt yt : TypeId} {k : IntKind} {a b : Int} {r : Bool}
theorem r_eql (ho : o.op = .binOp .eql xt x y yt) (hx : S.get x = .p (.val (.int k a))) (hy : S.get y = .p (.val (.int k b))) (hr : decide (a = b) = r) (hd : o.dst = some d) (hn : d < n) : zJ P n o S [] (.p (.val (.bool r))) none := hr ▸ a_eql ho hx hy hd hn
theorem r_neq (ho : o.op = .binOp .neq xt x y yt) (hx : S.get x = .p (.val (.int k a))) (hy : S.get y = .p (.val (.int k b))) (hr : (!decide (a = b)) = r) (hd : o.dst = some d) (hn : d < n) : zJ P n o S [] (.p (.val (.bool r))) none := hr ▸ a_neq ho hx hy hd hn
theorem yL (ho : o.op = .binOp .lss xt x y yt) (hx : S.get x = .p (.val (.int k a))) (hy : S.get y = .p (.val (.int k b))) (hr : decide (a < b) = r) (hd : o.dst = some d) (hn : d < n) : zJ P n o S [] (.p (.val (.bool r))) none := hr ▸ a_lss ho hx hy hd hn
theorem r_leq (ho : o.op = .binOp .leq xt x y yt) (hx : S.get x = .p (.val (.int k a))) (hy : S.get y = .p (.val (.int k b))) (hr : decide (a ≤ b) = r) (hd : o.dst = some d) (hn : d < n) : zJ P n o S [] (.p (.val (.bool r))) none := hr ▸ a_leq ho hx hy hd hn
theorem r_gtr (ho : o.op = .binOp .gtr xt x y yt) (hx : S.get x = .p (.val (.int k a))) (hy : S.get y = .p (.val (.int k b))) (hr : decide (b < a) = r) (hd : o.dst = some d) (hn : d < n) : zJ P n o S [] (.p (.val (.bool r))) none := hr ▸ a_gtr ho hx hy hd hn
theorem r_geq (ho : o.op = .binOp .geq xt x y yt) (hx : S.get x = .p (.val (.int k a))) (hy : S.get y = .p (.val (.int k b))) (hr : decide (b ≤ a) = r) (hd : o.dst = some d) (hn : d < n) : zJ P n o S [] (.p (.val (.bool r))) none := hr ▸ a_geq ho hx hy hd hn
theorem a_xor {z : Int} (ho : o.op = .binOp .xor xt x y yt) (hx : S.get x = .p (.val (.int k a))) (hy : S.get y = .p (.val (.int k b))) (hr : bits .xor k a b = z) (hd : o.dst = some d) (hn : d < n) : zJ P n o S [] (.p (.val (.int k z))) none :=
  yH ho hx hy hd hn fun w => by subst hr; simp [eqGuard, binOp, go_sem]
theorem a_cmpl {z : Int} (ho : o.op = .unOp .xor xt x) (hx : S.get x = .p (.val (.int k a))) (hu : k.signed = false) (hr : bits .xor k k.max a = z) (hd : o.dst = some d) (hn : d < n) : zJ P n o S [] (.p (.val (.int k z))) none :=
  a_unOp ho hx hd hn fun w => by subst hr; simp [unary_xor, hu, go_sem]
theorem r_eqlS {s u : ByteArray} (ho : o.op = .binOp .eql xt x y yt) (hx : S.get x = .p (.val (.string s))) (hy : S.get y = .p (.val (.string u))) (hr : (s.toList == u.toList) = r) (hd : o.dst = some d) (hn : d < n) : zJ P n o S [] (.p (.val (.bool r))) none := hr ▸ a_eqlS ho hx hy hd hn
theorem r_notB {u : Bool} (ho : o.op = .unOp .not xt x) (hx : S.get x = .p (.val (.bool u))) (hr : (!u) = r) (hd : o.dst = some d) (hn : d < n) : zJ P n o S [] (.p (.val (.bool r))) none := hr ▸ a_notB ho hx hd hn
theorem r_eqlT {m : TypeId} {ps qs : List PV} {la lb : List (IntKind × Int)} [h : EqA P xt m] (ho : o.op = .binOp .eql xt x y yt) (hx : S.get x = .p (.agg ps)) (hy : S.get y = .p (.agg qs)) (ha : y8 ps = some la) (hb : y8 qs = some lb) (hab : la.map Prod.fst = lb.map Prod.fst)
    (hlen : la.length = m) (hr : decide (la = lb) = r) (hd : o.dst = some d) (hn : d < n) : zJ P n o S [] (.p (.val (.bool r))) none := hr ▸ w_eqlT ho hx hy ha hb hab hlen hd hn
theorem r_neqT {m : TypeId} {ps qs : List PV} {la lb : List (IntKind × Int)} [h : EqA P xt m] (ho : o.op = .binOp .neq xt x y yt) (hx : S.get x = .p (.agg ps)) (hy : S.get y = .p (.agg qs)) (ha : y8 ps = some la) (hb : y8 qs = some lb) (hab : la.map Prod.fst = lb.map Prod.fst)
    (hlen : la.length = m) (hr : (!decide (la = lb)) = r) (hd : o.dst = some d) (hn : d < n) : zJ P n o S [] (.p (.val (.bool r))) none :=
  zJ.pure hd hn fun S2 hg _ M w0 ρ a w hs => by
    subst hr
    have r1 := yA hs ((hg x (by rw [ho]; simp [Op.operands])).trans hx)
    have r2 := yA hs ((hg y (by rw [ho]; simp [Op.operands])).trans hy)
    obtain ⟨vs, hva, hl, he⟩ := rep_agg r1
    obtain ⟨us, hvb, hl2, he2⟩ := rep_agg r2
    have h5 := intsOf_vals ha hl he
    have h6 := intsOf_vals hb hl2 he2
    subst h5
    subst h6
    refine ⟨_, w, ?_, Below.refl _ _, .p (.val _)⟩
    unfold execOp
    rw [ho]
    simp only [hva, hvb, Sem.run_bind, run_eqGuard_agg w _ xt x y _ _ h.guard, Result.andThen_ok, run_neq_struct, run_equalIn_agg w 9999 xt _ _ h.st h.held]
    rw [eqFields_ints w 9998 _ 0 _ la lb h.flat rfl hab.symm (by simpa using hlen.trans h.len.symm)]
    rfl
/-! ### Slices of slices -/
theorem flat_drop_take {sz : Nat} : ∀ (es : List PV) (l c : Nat), (∀ e ∈ es, e.cells.length = sz) → flat ((es.drop l).take c) = ((flat es).drop (l * sz)).take (c * sz) := by
  have tk : ∀ (es : List PV) (c : Nat), (∀ e ∈ es, e.cells.length = sz) → flat (es.take c) = (flat es).take (c * sz) := by
    intro es
    induction es with
    | nil => intro c _; simp [flat]
    | cons e r ih =>
      intro c h
      cases c with
      | zero => simp [flat]
      | succ c =>
        have he := h e (by simp)
        have h1 := ih c fun e he => h e (by simp [he])
        simp only [flat, List.take_succ_cons, List.flatMap_cons] at h1 ⊢
        rw [h1, List.take_append, he]
        have e1 : (c + 1) * sz - sz = c * sz := by rw [Nat.add_mul, Nat.one_mul, Nat.add_sub_cancel]
        rw [e1, List.take_of_length_le (i := (c + 1) * sz) (l := e.cells) (by rw [he, Nat.add_mul]; omega)]
  have dr : ∀ (es : List PV) (l : Nat), (∀ e ∈ es, e.cells.length = sz) → flat (es.drop l) = (flat es).drop (l * sz) := by
    intro es
    induction es with
    | nil => intro l _; simp [flat]
    | cons e r ih =>
      intro l h
      cases l with
      | zero => simp
      | succ l =>
        have he := h e (by simp)
        have h1 := ih l fun e he => h e (by simp [he])
        simp only [flat, List.drop_succ_cons, List.flatMap_cons] at h1 ⊢
        rw [h1, List.drop_append, he]
        have e1 : (l + 1) * sz - sz = l * sz := by rw [Nat.add_mul, Nat.one_mul, Nat.add_sub_cancel]
        rw [e1, List.drop_of_length_le (i := (l + 1) * sz) (l := e.cells) (by rw [he, Nat.add_mul]; omega)]
        rfl
  intro es l c h
  rw [tk _ c fun e he => h e (List.mem_of_mem_drop he), dr es l h]
theorem rep_slice {M : Nat → Nat → Prop} {w : World} {es : List PV} {sz : Nat} (hes : ∀ e ∈ es, e.cells.length = sz) {g off cap : Nat} {ys : List Value} (hl : RepL M w (flat es) ys) (hcell : ∀ (j : Nat) y, ys[j]? = some y → w.cell? ⟨g, off + j, none⟩ = some y) (hM : ∀ j, j < ys.length → ¬ M g (off + j)) (hgl : g < w.heap.size) (hcap : es.length ≤ cap) (hm : cap ≤ maxLen)
    (l h : Nat) (h1 : l ≤ h) (h2 : h ≤ es.length) : Rep M w (.sl ((es.drop l).take (h - l))) (sliced (some ⟨g, off, none⟩) l h cap sz) := by
  have hlen : ((es.drop l).take (h - l)).length = h - l := by rw [List.length_take, List.length_drop]; omega
  have hy : RepL M w (flat ((es.drop l).take (h - l))) ((ys.drop (l * sz)).take ((h - l) * sz)) := by
    rw [flat_drop_take es l (h - l) hes]
    refine ⟨by simp only [List.length_take, List.length_drop, hl.len], fun i c v hc hv => ?_, fun v hv => hl.one v (List.mem_of_mem_drop (List.mem_of_mem_take hv))⟩
    rw [List.getElem?_take] at hc hv
    split at hc
    · rename_i hi
      rw [if_pos hi] at hv
      rw [List.getElem?_drop] at hc hv
      exact hl.each _ c v hc hv
    · cases hc
  have hc : ∀ (j : Nat) y, ((ys.drop (l * sz)).take ((h - l) * sz))[j]? = some y → w.cell? ⟨g, off + l * sz + j, none⟩ = some y := fun j y hj => by
    rw [List.getElem?_take] at hj
    split at hj
    · rw [List.getElem?_drop] at hj
      have := hcell _ y hj
      rw [← Nat.add_assoc] at this
      exact this
    · cases hj
  unfold sliced
  by_cases hcl : cap = l
  · rw [if_pos hcl]
    have e0 : h - l = 0 := by omega
    rw [e0] at hy hc ⊢
    simp only [List.take_zero] at hy ⊢
    have : flat ([] : List PV) = [] := rfl
    exact .sl [] g off 0 (cap - l) [] rfl rfl (fun j y hj => by cases hj) (fun j c y hj => by cases hj) (fun v hv => by cases hv) (fun j hj => by simp at hj) hgl (Nat.zero_le _) (by omega)
  · rw [if_neg hcl]
    have ea : (some (⟨g, off, none⟩ : Addr)).map (·.add (l * sz)) = some ⟨g, off + l * sz, none⟩ := by rw [Option.map_some, add_lit]
    rw [ea]
    exact .sl _ g (off + l * sz) (h - l) (cap - l) _ hlen.symm hy.len hc hy.each hy.one (fun j hj => by rw [Nat.add_assoc]; exact hM (l * sz + j) (by rw [List.length_take, List.length_drop] at hj; omega)) hgl (by omega) (by omega)
theorem a_sliceLH {t : TypeId} {e sz : Nat} {es : List PV} {l h : Int} {k k2 : IntKind} {agg : Bool} {xl xh : Operand} [ht : Und P t (.slice e)] [he : TyA P e agg sz] (ho : o.op = .slice t x (some xl) (some xh) none) (hx : S.get x = .p (.sl es)) (hes : ∀ e ∈ es, e.cells.length = sz)
    (hl : S.get xl = .p (.val (.int k l))) (hh : S.get xh = .p (.val (.int k2 h))) (hb : 0 ≤ l ∧ l ≤ h ∧ h ≤ es.length) (hd : o.dst = some d) (hn : d < n) : zJ P n o S [] (.p (.sl ((es.drop l.toNat).take (h.toNat - l.toNat)))) none :=
  zJ.pure hd hn fun S2 hg _ M w0 ρ a w hs => by
    have r1 := yA hs ((hg x (by rw [ho]; simp [Op.operands])).trans hx)
    have r2 := hs.val ((hg xl (by rw [ho]; simp [Op.operands])).trans hl)
    have r3 := hs.val ((hg xh (by rw [ho]; simp [Op.operands])).trans hh)
    have hel : P.elem t = e := by simp [Program.elem, ht.h]
    have ht2 : P.underlying t = some (.slice (P.elem t)) := by rw [hel]; exact ht.h
    rcases rep_sl r1 with ⟨hv, h0⟩ | ⟨g, off, cap, ys, hv, hly, hcell, hM, hgl, hcap, hm⟩
    · subst h0
      have e1 : l = 0 := by have := hb.2.2; simp at this; omega
      have e2 : h = 0 := by have := hb.2.2; simp at this; omega
      subst e1
      subst e2
      refine ⟨_, w, ?_, Below.refl _ _, .p .nil⟩
      unfold execOp
      rw [ho]
      simp only [Option.map_some, Option.map_none, hv, r2, r3, Sem.run_bind, run_sliceAt_slice w t _ _ _ _ ht2, run_slice_lh w t none 0 0 ht2 k k2 0 0 (by omega) (by omega) (by omega)]
      rw [hel, he.sz w]
      rfl
    · refine ⟨_, w, ?_, Below.refl _ _, .p (rep_slice hes hly hcell hM hgl hcap hm l.toNat h.toNat (by omega) (by omega))⟩
      unfold execOp
      rw [ho]
      simp only [Option.map_some, Option.map_none, hv, r2, r3, Sem.run_bind, run_sliceAt_slice w t _ _ _ _ ht2, run_slice_lh w t (some ⟨g, off, none⟩) es.length cap ht2 k k2 l h hb.1 hb.2.1 (by omega)]
      rw [hel, he.sz w]
      rfl
theorem byts_drop (bs : List Int) (l : Nat) : (byts bs).drop l = byts (bs.drop l) := by simp [byts, List.map_drop]
theorem byts_take (bs : List Int) (l : Nat) : (byts bs).take l = byts (bs.take l) := by simp [byts, List.map_take]
theorem xY {t : TypeId} {e : Nat} {bs : List Int} {l h : Int} {k k2 : IntKind} {agg : Bool} {xl xh : Operand} [ht : Und P t (.slice e)] [he : TyA P e agg 1] (ho : o.op = .slice t x (some xl) (some xh) none) (hx : S.get x = .p (.sl (byts bs)))
    (hl : S.get xl = .p (.val (.int k l))) (hh : S.get xh = .p (.val (.int k2 h))) (hb : 0 ≤ l ∧ l ≤ h ∧ h ≤ bs.length) (hd : o.dst = some d) (hn : d < n) : zJ P n o S [] (.p (.sl (byts ((bs.drop l.toNat).take (h.toNat - l.toNat))))) none := by
  have := a_sliceLH (P := P) (S := S) ho hx (byts_one bs) hl hh (by rw [byts_len]; exact hb) hd hn
  rw [byts_drop, byts_take] at this
  exact this
/-! ### A package-level table -/
theorem w_indexG {t : TypeId} {ix : Operand} {g : Nat} {j : Int} {xs : List (IntKind × Int)} {p : IntKind × Int} {agg : Bool} {m e : Nat} [ht : Und P t (.array m e)] [he : TyA P e agg 1] (ho : o.op = .indexAddr t x ix) (hx : S.get x = .glob g) (hi : S.get ix = .p (.val (.int k j)))
    (hg : seatTbl g = some xs) (hm : xs.length = m) (hj : 0 ≤ j) (hp : xs[j.toNat]? = some p) (hd : o.dst = some d) (hn : d < n) : zJ P n o S [] (.pt [.val (.int p.1 p.2)]) none :=
  zJ.pure hd hn fun S2 hgt _ M w0 ρ a w hs => by
    have h1 := hs.rep x
    rw [hgt x (by rw [ho]; simp [Op.operands]), hx] at h1
    have h2 := hs.val ((hgt ix (by rw [ho]; simp [Op.operands])).trans hi)
    obtain ⟨t1, t2, t3⟩ := hs.tbl hg
    generalize hv : a.eval x = v at h1
    cases h1
    have hlt : j.toNat < xs.length := (List.getElem?_eq_some_iff.1 hp).1
    refine ⟨.pointer (some ⟨g, j.toNat, none⟩), w, ?_, Below.refl _ _, .pt [.val (.int p.1 p.2)] g j.toNat [.int p.1 p.2] ⟨rfl, (fun i c v h3 h4 => by
      cases i with
      | zero => simp at h3 h4; subst h3; subst h4; exact .val _
      | succ i => simp at h3), (fun v h3 => by simp at h3; subst h3; rfl)⟩ (fun i y hy => by
      cases i with
      | zero => simp at hy; subst hy; exact t3 j.toNat p hp
      | succ i => simp at hy) (fun i _ => t1 _) t2⟩
    unfold execOp
    rw [ho]
    have hel : P.elem t = e := by simp [Program.elem, ht.h]
    have hal : P.arrayLen t = m := by simp [Program.arrayLen, ht.h]
    simp only [hv, h2, Sem.run_bind]
    rw [run_indexAt_array w t _ _ _ (by rw [hel, hal]; exact ht.h), hal, if_pos ⟨hj, by omega⟩, hel, he.sz w]
    show (Result.ok (Value.pointer (some (Addr.add ⟨g, 0, none⟩ (j.toNat * 1)))) w).andThen _ = _
    rw [add_lit, Nat.mul_one, Nat.zero_add]
    rfl
/-! ### A slice literal without elements -/
theorem w_build0 {t e : TypeId} {z : Value} {sz by_ : Nat} [ht : Und P t (.slice e)] [hi : InfoA P e z sz by_] (ho : o.op = .buildSlice t 0 #[]) (hd : o.dst = some d) (hn : d < n) : zJ P n o S [] (.own d) (some (.row e sz 0 [])) :=
  zJ.made hd hn fun S2 hg _ M w0 ρ a w hs => by
    obtain ⟨i, hi1, hi2⟩ := Option.map_eq_some_iff.1 hi.h
    simp only [Prod.mk.injEq] at hi2
    obtain ⟨hzi, hisz, _⟩ := hi2
    refine ⟨.slice (some ⟨w.heap.size, 0, none⟩) 0 0, w.alloc (.cells #[] e), ?_, World.grownBy_alloc w _ none, fun k hk => ?_, ⟨[], ⟨by simp, .inr ⟨w.heap.size, 0, #[], rfl, Nat.zero_le _, by rw [heap_alloc_new], Nat.le_refl _, by decide, by simp, by simp⟩⟩, ⟨rfl, (fun i c v h => by simp at h), (fun v h => by simp at h)⟩⟩, .inl rfl⟩
    · unfold execOp
      rw [ho]
      simp [Instr.buildSlice, run_underlying ht.h, sizeOf, typeInfo, hi1, Instr.fill, newRow]
      have e0 : Array.range 0 = #[] := Array.ext' (by rw [Array.toList_range]; rfl)
      rw [e0, Array.map_empty]
    · simp only [zC, Option.some.injEq] at hk; omega
theorem w_build0B {t e : TypeId} {z : Value} [ht : Und P t (.slice e)] [hi : InfoA P e z 1 1] (ho : o.op = .buildSlice t 0 #[]) (hd : o.dst = some d) (hn : d < n) : zJ P n o S [] (.own d) (some (zM e [])) :=
  (w_build0 (P := P) (sz := 1) (by_ := 1) ho hd hn).nb (yS e [])
end
/-! ### Parts of values; interface values; slice literals that nobody turns -/
class FieldT (P : Program) (s f : Nat) (ft off : outParam Nat) : Prop where
  st : P.underlying s = some (.struct (P.fieldsOf s))
  at_ : ((P.fieldsOf s)[f]?).map (fun fl => (fl.type, fl.offset)) = some (ft, off)
section
variable {P : Program} {n : Nat} {o : Oper} {S : AS} {d : Nat} {x : Operand}
/-- cells as elements -/
def groupP (sz : Nat) : Nat → List PV → List PV
  | 0, _ => []
  | m + 1, cs => (if sz = 1 then (cs.getD 0 (.sl [])) else .agg (cs.take sz)) :: groupP sz m (cs.drop sz)
theorem w_buildSl {t e sz by_ len : Nat} {ps : Array (Nat × Operand)} {z : Value} {zs : List AV} {cs es : List PV} [ht : Und P t (.slice e)] [hi : InfoA P e z sz by_] (ho : o.op = .buildSlice t len ps)
    (hl : len ≤ maxLen) (hsmall : ¬ len * sz > 2 ^ 24) (hpos : ¬ len * sz = 0) (hz : ((List.range (len * sz)).map (z.cells[· % z.cells.size]!)).all (fun u => u.oneCell') = true) (hk : ps.toList.all (fun p => (S.get p.2).partOK) = true)
    (hf : fillA (fun i => some (i * sz, sz)) (((List.range (len * sz)).map (z.cells[· % z.cells.size]!)).map fun u => .p (.val u)) (ps.toList.map fun p => (p.1, S.get p.2)) = some zs) (hp : pures zs = some cs) (hes : groupP sz len cs = es) (hfl : flat es = cs) (hel : es.length = len) (hlen : cs.length = len * sz) (hd : o.dst = some d) (hn : d < n) :
    zJ P n o S [] (.p (.sl es)) none :=
  zJ.pure hd hn fun S2 hg _ M w0 ρ a w hs => by
    obtain ⟨i, hi1, hi2⟩ := Option.map_eq_some_iff.1 hi.h
    simp only [Prod.mk.injEq] at hi2
    obtain ⟨hzi, hisz, _⟩ := hi2
    subst hisz
    have hargs : ∀ p ∈ ps.toList, S2.get p.2 = S.get p.2 := fun p hp => hg p.2 (by rw [ho]; simp only [Op.operands, List.mem_map]; exact ⟨p, hp, rfl⟩)
    obtain ⟨us, h1, h2⟩ := fill_rep (fun j => some (j * i.size, i.size)) S.get a.eval ps.toList _ zs _ (parts_ok hs hargs hk) hf (zerosA (fun u hu => List.all_eq_true.1 hz u hu))
    have hcs := pures_spec hp
    have hul : us.length = len * i.size := by rw [h2.len, hcs, List.length_map, hlen]
    have hb : Below w.heap.size w (w.alloc (.cells us.toArray e)) := (Below.refl _ _).alloc (Nat.le_refl _) _
    refine ⟨.slice (some ⟨w.heap.size, 0, none⟩) len len, w.alloc (.cells us.toArray e), ?_, hb, .p (.sl es w.heap.size 0 len len us hel.symm (by rw [hfl, hul, hlen]) (fun j y hy => ?_) (fun j c y hcj hy => ?_) h2.one (fun _ _ hm => Nat.lt_irrefl _ (Mut.lt hs hm)) ?_ (Nat.le_refl _) hl)⟩
    · unfold execOp
      rw [ho]
      have e1 : (ps.map fun (j, x) => (j, a.eval x)) = (ps.toList.map fun p => (p.1, a.eval p.2)).toArray := by apply Array.ext'; simp
      have hrun := run_buildSlice w t e len (ps.toList.map fun p => (p.1, a.eval p.2)).toArray us.toArray i z ht.h hi1 hzi hsmall hpos (by rw [zeros_eq]; exact h1)
      simp only [e1, Sem.run_bind, hrun]
      rfl
    · rw [Nat.zero_add]
      exact cell_at (by rw [heap_alloc_new]) hy
    · rw [hfl] at hcj
      have h3 := h2.each j (.p c) y (by rw [hcs, List.getElem?_map, hcj]; rfl) hy
      exact (rep_p h3).keep (.of_below _ hb)
    · exact (Array.getElem?_eq_some_iff.1 (heap_alloc_new w (.cells us.toArray e))).1
end
end Go.Proofs.YteppicfkdcofjaaDoor
/- The closed facts on the types and the functions of this seat's translation, as instances. Written by inst.py. -/
namespace Go.Proofs.YteppicfkdcofjaaDoor
set_option maxRecDepth 100000
set_option maxHeartbeats 16000000
open Go Go.RowKit
set_option maxRecDepth 100000
instance ty2 : TyA Tryd.prog 2 false 1 := ⟨fun _ => by kernel_rfl, fun _ => by kernel_rfl⟩
instance un2 : Und Tryd.prog 2 (.int .i64) := ⟨Tryd.underlying2⟩
instance ze2 : ZeroA Tryd.prog 2 (Value.int .i64 0) := ⟨fun _ => by kernel_rfl⟩
instance in2 : InfoA Tryd.prog 2 (Value.int .i64 0) 1 8 := ⟨by kernel_rfl⟩
instance ty3 : TyA Tryd.prog 3 false 1 := ⟨fun _ => by kernel_rfl, fun _ => by kernel_rfl⟩
instance un3 : Und Tryd.prog 3 (.int .i64) := ⟨Tryd.underlying3⟩
instance ze3 : ZeroA Tryd.prog 3 (Value.int .i64 0) := ⟨fun _ => by kernel_rfl⟩
instance in3 : InfoA Tryd.prog 3 (Value.int .i64 0) 1 8 := ⟨by kernel_rfl⟩
instance ty4 : TyA Tryd.prog 4 false 1 := ⟨fun _ => by kernel_rfl, fun _ => by kernel_rfl⟩
instance un4 : Und Tryd.prog 4 (.bool) := ⟨Tryd.underlying4⟩
instance ze4 : ZeroA Tryd.prog 4 (Value.bool false) := ⟨fun _ => by kernel_rfl⟩
instance in4 : InfoA Tryd.prog 4 (Value.bool false) 1 1 := ⟨by kernel_rfl⟩
instance ty5 : TyA Tryd.prog 5 false 1 := ⟨fun _ => by kernel_rfl, fun _ => by kernel_rfl⟩
instance un5 : Und Tryd.prog 5 (.int .u8) := ⟨Tryd.underlying5⟩
instance ze5 : ZeroA Tryd.prog 5 (Value.int .u8 0) := ⟨fun _ => by kernel_rfl⟩
instance in5 : InfoA Tryd.prog 5 (Value.int .u8 0) 1 1 := ⟨by kernel_rfl⟩
instance ty6 : TyA Tryd.prog 6 false 1 := ⟨fun _ => by kernel_rfl, fun _ => by kernel_rfl⟩
instance un6 : Und Tryd.prog 6 (.int .u8) := ⟨Tryd.underlying6⟩
instance ze6 : ZeroA Tryd.prog 6 (Value.int .u8 0) := ⟨fun _ => by kernel_rfl⟩
instance in6 : InfoA Tryd.prog 6 (Value.int .u8 0) 1 1 := ⟨by kernel_rfl⟩
instance ty7 : TyA Tryd.prog 7 true 4 := ⟨fun _ => by kernel_rfl, fun _ => by kernel_rfl⟩
instance bu7 : BuildA Tryd.prog 7 [(0, 1), (1, 1), (2, 1), (3, 1)] := ⟨by kernel_rfl, by kernel_rfl⟩
instance fv7_0 : FieldT Tryd.prog 7 0 2 0 := ⟨by kernel_rfl, by kernel_rfl⟩
instance fv7_1 : FieldT Tryd.prog 7 1 3 1 := ⟨by kernel_rfl, by kernel_rfl⟩
instance fv7_2 : FieldT Tryd.prog 7 2 4 2 := ⟨by kernel_rfl, by kernel_rfl⟩
instance fv7_3 : FieldT Tryd.prog 7 3 6 3 := ⟨by kernel_rfl, by kernel_rfl⟩
instance fi7_0 : FieldA Tryd.prog 7 0 0 := ⟨fun _ _ _ => by kernel_rfl⟩
instance fi7_1 : FieldA Tryd.prog 7 1 1 := ⟨fun _ _ _ => by kernel_rfl⟩
instance fi7_2 : FieldA Tryd.prog 7 2 2 := ⟨fun _ _ _ => by kernel_rfl⟩
instance fi7_3 : FieldA Tryd.prog 7 3 3 := ⟨fun _ _ _ => by kernel_rfl⟩
instance ze7 : ZeroA Tryd.prog 7 (Value.agg #[Value.int .i64 0, Value.int .i64 0, Value.bool false, Value.int .u8 0]) := ⟨fun _ => by kernel_rfl⟩
instance in7 : InfoA Tryd.prog 7 (Value.agg #[Value.int .i64 0, Value.int .i64 0, Value.bool false, Value.int .u8 0]) 4 24 := ⟨by kernel_rfl⟩
instance ty8 : TyA Tryd.prog 8 true 4 := ⟨fun _ => by kernel_rfl, fun _ => by kernel_rfl⟩
instance bu8 : BuildA Tryd.prog 8 [(0, 1), (1, 1), (2, 1), (3, 1)] := ⟨by kernel_rfl, by kernel_rfl⟩
instance fv8_0 : FieldT Tryd.prog 8 0 2 0 := ⟨by kernel_rfl, by kernel_rfl⟩
instance fv8_1 : FieldT Tryd.prog 8 1 3 1 := ⟨by kernel_rfl, by kernel_rfl⟩
instance fv8_2 : FieldT Tryd.prog 8 2 4 2 := ⟨by kernel_rfl, by kernel_rfl⟩
instance fv8_3 : FieldT Tryd.prog 8 3 6 3 := ⟨by kernel_rfl, by kernel_rfl⟩
instance fi8_0 : FieldA Tryd.prog 8 0 0 := ⟨fun _ _ _ => by kernel_rfl⟩
instance fi8_1 : FieldA Tryd.prog 8 1 1 := ⟨fun _ _ _ => by kernel_rfl⟩
instance fi8_2 : FieldA Tryd.prog 8 2 2 := ⟨fun _ _ _ => by kernel_rfl⟩
instance fi8_3 : FieldA Tryd.prog 8 3 3 := ⟨fun _ _ _ => by kernel_rfl⟩
instance ze8 : ZeroA Tryd.prog 8 (Value.agg #[Value.int .i64 0, Value.int .i64 0, Value.bool false, Value.int .u8 0]) := ⟨fun _ => by kernel_rfl⟩
instance in8 : InfoA Tryd.prog 8 (Value.agg #[Value.int .i64 0, Value.int .i64 0, Value.bool false, Value.int .u8 0]) 4 24 := ⟨by kernel_rfl⟩
instance ty9 : TyA Tryd.prog 9 false 1 := ⟨fun _ => by kernel_rfl, fun _ => by kernel_rfl⟩
instance un9 : Und Tryd.prog 9 (.string) := ⟨Tryd.underlying9⟩
instance ze9 : ZeroA Tryd.prog 9 (Value.string ⟨#[]⟩) := ⟨fun _ => by kernel_rfl⟩
instance in9 : InfoA Tryd.prog 9 (Value.string ⟨#[]⟩) 1 16 := ⟨by kernel_rfl⟩
instance ty10 : TyA Tryd.prog 10 false 1 := ⟨fun _ => by kernel_rfl, fun _ => by kernel_rfl⟩
instance un10 : Und Tryd.prog 10 (.string) := ⟨Tryd.underlying10⟩
instance ze10 : ZeroA Tryd.prog 10 (Value.string ⟨#[]⟩) := ⟨fun _ => by kernel_rfl⟩
instance in10 : InfoA Tryd.prog 10 (Value.string ⟨#[]⟩) 1 16 := ⟨by kernel_rfl⟩
instance ty11 : TyA Tryd.prog 11 false 1 := ⟨fun _ => by kernel_rfl, fun _ => by kernel_rfl⟩
instance un11 : Und Tryd.prog 11 (.string) := ⟨Tryd.underlying11⟩
instance ze11 : ZeroA Tryd.prog 11 (Value.string ⟨#[]⟩) := ⟨fun _ => by kernel_rfl⟩
instance in11 : InfoA Tryd.prog 11 (Value.string ⟨#[]⟩) 1 16 := ⟨by kernel_rfl⟩
instance ty12 : TyA Tryd.prog 12 false 1 := ⟨fun _ => by kernel_rfl, fun _ => by kernel_rfl⟩
instance un12 : Und Tryd.prog 12 (.int .u64) := ⟨Tryd.underlying12⟩
instance ze12 : ZeroA Tryd.prog 12 (Value.int .u64 0) := ⟨fun _ => by kernel_rfl⟩
instance in12 : InfoA Tryd.prog 12 (Value.int .u64 0) 1 8 := ⟨by kernel_rfl⟩
instance ty13 : TyA Tryd.prog 13 true 2 := ⟨fun _ => by kernel_rfl, fun _ => by kernel_rfl⟩
instance bu13 : BuildA Tryd.prog 13 [(0, 1), (1, 1)] := ⟨by kernel_rfl, by kernel_rfl⟩
instance fv13_0 : FieldT Tryd.prog 13 0 9 0 := ⟨by kernel_rfl, by kernel_rfl⟩
instance fv13_1 : FieldT Tryd.prog 13 1 12 1 := ⟨by kernel_rfl, by kernel_rfl⟩
instance fi13_0 : FieldA Tryd.prog 13 0 0 := ⟨fun _ _ _ => by kernel_rfl⟩
instance fi13_1 : FieldA Tryd.prog 13 1 1 := ⟨fun _ _ _ => by kernel_rfl⟩
instance ze13 : ZeroA Tryd.prog 13 (Value.agg #[Value.string ⟨#[]⟩, Value.int .u64 0]) := ⟨fun _ => by kernel_rfl⟩
instance in13 : InfoA Tryd.prog 13 (Value.agg #[Value.string ⟨#[]⟩, Value.int .u64 0]) 2 24 := ⟨by kernel_rfl⟩
instance ty14 : TyA Tryd.prog 14 true 2 := ⟨fun _ => by kernel_rfl, fun _ => by kernel_rfl⟩
instance bu14 : BuildA Tryd.prog 14 [(0, 1), (1, 1)] := ⟨by kernel_rfl, by kernel_rfl⟩
instance fv14_0 : FieldT Tryd.prog 14 0 9 0 := ⟨by kernel_rfl, by kernel_rfl⟩
instance fv14_1 : FieldT Tryd.prog 14 1 12 1 := ⟨by kernel_rfl, by kernel_rfl⟩
instance fi14_0 : FieldA Tryd.prog 14 0 0 := ⟨fun _ _ _ => by kernel_rfl⟩
instance fi14_1 : FieldA Tryd.prog 14 1 1 := ⟨fun _ _ _ => by kernel_rfl⟩
instance ze14 : ZeroA Tryd.prog 14 (Value.agg #[Value.string ⟨#[]⟩, Value.int .u64 0]) := ⟨fun _ => by kernel_rfl⟩
instance in14 : InfoA Tryd.prog 14 (Value.agg #[Value.string ⟨#[]⟩, Value.int .u64 0]) 2 24 := ⟨by kernel_rfl⟩
instance ty15 : TyA Tryd.prog 15 false 1 := ⟨fun _ => by kernel_rfl, fun _ => by kernel_rfl⟩
instance un15 : Und Tryd.prog 15 (.pointer 64) := ⟨Tryd.underlying15⟩
instance ze15 : ZeroA Tryd.prog 15 (Value.pointer none) := ⟨fun _ => by kernel_rfl⟩
instance in15 : InfoA Tryd.prog 15 (Value.pointer none) 1 8 := ⟨by kernel_rfl⟩
instance ty16 : TyA Tryd.prog 16 false 1 := ⟨fun _ => by kernel_rfl, fun _ => by kernel_rfl⟩
instance un16 : Und Tryd.prog 16 (.pointer 67) := ⟨Tryd.underlying16⟩
instance ze16 : ZeroA Tryd.prog 16 (Value.pointer none) := ⟨fun _ => by kernel_rfl⟩
instance in16 : InfoA Tryd.prog 16 (Value.pointer none) 1 8 := ⟨by kernel_rfl⟩
instance ty17 : TyA Tryd.prog 17 false 1 := ⟨fun _ => by kernel_rfl, fun _ => by kernel_rfl⟩
instance un17 : Und Tryd.prog 17 (.pointer 76) := ⟨Tryd.underlying17⟩
instance ze17 : ZeroA Tryd.prog 17 (Value.pointer none) := ⟨fun _ => by kernel_rfl⟩
instance in17 : InfoA Tryd.prog 17 (Value.pointer none) 1 8 := ⟨by kernel_rfl⟩
instance ty18 : TyA Tryd.prog 18 true 1 := ⟨fun _ => by kernel_rfl, fun _ => by kernel_rfl⟩
instance bu18 : BuildA Tryd.prog 18 [(0, 1)] := ⟨by kernel_rfl, by kernel_rfl⟩
instance fv18_0 : FieldT Tryd.prog 18 0 17 0 := ⟨by kernel_rfl, by kernel_rfl⟩
instance fi18_0 : FieldA Tryd.prog 18 0 0 := ⟨fun _ _ _ => by kernel_rfl⟩
instance ze18 : ZeroA Tryd.prog 18 (Value.agg #[Value.pointer none]) := ⟨fun _ => by kernel_rfl⟩
instance in18 : InfoA Tryd.prog 18 (Value.agg #[Value.pointer none]) 1 8 := ⟨by kernel_rfl⟩
instance ty19 : TyA Tryd.prog 19 true 1 := ⟨fun _ => by kernel_rfl, fun _ => by kernel_rfl⟩
instance bu19 : BuildA Tryd.prog 19 [(0, 1)] := ⟨by kernel_rfl, by kernel_rfl⟩
instance fv19_0 : FieldT Tryd.prog 19 0 17 0 := ⟨by kernel_rfl, by kernel_rfl⟩
instance fi19_0 : FieldA Tryd.prog 19 0 0 := ⟨fun _ _ _ => by kernel_rfl⟩
instance ze19 : ZeroA Tryd.prog 19 (Value.agg #[Value.pointer none]) := ⟨fun _ => by kernel_rfl⟩
instance in19 : InfoA Tryd.prog 19 (Value.agg #[Value.pointer none]) 1 8 := ⟨by kernel_rfl⟩
instance ty21 : TyA Tryd.prog 21 false 1 := ⟨fun _ => by kernel_rfl, fun _ => by kernel_rfl⟩
instance un21 : Und Tryd.prog 21 (.int .i32) := ⟨Tryd.underlying21⟩
instance ze21 : ZeroA Tryd.prog 21 (Value.int .i32 0) := ⟨fun _ => by kernel_rfl⟩
instance in21 : InfoA Tryd.prog 21 (Value.int .i32 0) 1 4 := ⟨by kernel_rfl⟩
instance ty22 : TyA Tryd.prog 22 false 1 := ⟨fun _ => by kernel_rfl, fun _ => by kernel_rfl⟩
instance un22 : Und Tryd.prog 22 (.slice 28) := ⟨Tryd.underlying22⟩
instance ze22 : ZeroA Tryd.prog 22 (Value.slice none 0 0) := ⟨fun _ => by kernel_rfl⟩
instance in22 : InfoA Tryd.prog 22 (Value.slice none 0 0) 1 24 := ⟨by kernel_rfl⟩
instance ty24 : TyA Tryd.prog 24 false 1 := ⟨fun _ => by kernel_rfl, fun _ => by kernel_rfl⟩
instance un24 : Und Tryd.prog 24 (.slice 5) := ⟨Tryd.underlying24⟩
instance ze24 : ZeroA Tryd.prog 24 (Value.slice none 0 0) := ⟨fun _ => by kernel_rfl⟩
instance in24 : InfoA Tryd.prog 24 (Value.slice none 0 0) 1 24 := ⟨by kernel_rfl⟩
instance ty26 : TyA Tryd.prog 26 false 1 := ⟨fun _ => by kernel_rfl, fun _ => by kernel_rfl⟩
instance un26 : Und Tryd.prog 26 (.int .u64) := ⟨Tryd.underlying26⟩
instance ze26 : ZeroA Tryd.prog 26 (Value.int .u64 0) := ⟨fun _ => by kernel_rfl⟩
instance in26 : InfoA Tryd.prog 26 (Value.int .u64 0) 1 8 := ⟨by kernel_rfl⟩
instance ty27 : TyA Tryd.prog 27 true 6 := ⟨fun _ => by kernel_rfl, fun _ => by kernel_rfl⟩
instance bu27 : BuildA Tryd.prog 27 [(0, 1), (1, 1), (2, 1), (3, 1), (4, 1), (5, 1)] := ⟨by kernel_rfl, by kernel_rfl⟩
instance eq27 : EqA Tryd.prog 27 6 := ⟨by kernel_rfl, by kernel_rfl, by kernel_rfl, by kernel_rfl, by kernel_rfl⟩
instance fv27_0 : FieldT Tryd.prog 27 0 3 0 := ⟨by kernel_rfl, by kernel_rfl⟩
instance fv27_1 : FieldT Tryd.prog 27 1 26 1 := ⟨by kernel_rfl, by kernel_rfl⟩
instance fv27_2 : FieldT Tryd.prog 27 2 26 2 := ⟨by kernel_rfl, by kernel_rfl⟩
instance fv27_3 : FieldT Tryd.prog 27 3 26 3 := ⟨by kernel_rfl, by kernel_rfl⟩
instance fv27_4 : FieldT Tryd.prog 27 4 26 4 := ⟨by kernel_rfl, by kernel_rfl⟩
instance fv27_5 : FieldT Tryd.prog 27 5 26 5 := ⟨by kernel_rfl, by kernel_rfl⟩
instance fi27_0 : FieldA Tryd.prog 27 0 0 := ⟨fun _ _ _ => by kernel_rfl⟩
instance fi27_1 : FieldA Tryd.prog 27 1 1 := ⟨fun _ _ _ => by kernel_rfl⟩
instance fi27_2 : FieldA Tryd.prog 27 2 2 := ⟨fun _ _ _ => by kernel_rfl⟩
instance fi27_3 : FieldA Tryd.prog 27 3 3 := ⟨fun _ _ _ => by kernel_rfl⟩
instance fi27_4 : FieldA Tryd.prog 27 4 4 := ⟨fun _ _ _ => by kernel_rfl⟩
instance fi27_5 : FieldA Tryd.prog 27 5 5 := ⟨fun _ _ _ => by kernel_rfl⟩
instance ze27 : ZeroA Tryd.prog 27 (Value.agg #[Value.int .i64 0, Value.int .u64 0, Value.int .u64 0, Value.int .u64 0, Value.int .u64 0, Value.int .u64 0]) := ⟨fun _ => by kernel_rfl⟩
instance in27 : InfoA Tryd.prog 27 (Value.agg #[Value.int .i64 0, Value.int .u64 0, Value.int .u64 0, Value.int .u64 0, Value.int .u64 0, Value.int .u64 0]) 6 48 := ⟨by kernel_rfl⟩
instance ty28 : TyA Tryd.prog 28 true 6 := ⟨fun _ => by kernel_rfl, fun _ => by kernel_rfl⟩
instance bu28 : BuildA Tryd.prog 28 [(0, 1), (1, 1), (2, 1), (3, 1), (4, 1), (5, 1)] := ⟨by kernel_rfl, by kernel_rfl⟩
instance eq28 : EqA Tryd.prog 28 6 := ⟨by kernel_rfl, by kernel_rfl, by kernel_rfl, by kernel_rfl, by kernel_rfl⟩
instance fv28_0 : FieldT Tryd.prog 28 0 3 0 := ⟨by kernel_rfl, by kernel_rfl⟩
instance fv28_1 : FieldT Tryd.prog 28 1 26 1 := ⟨by kernel_rfl, by kernel_rfl⟩
instance fv28_2 : FieldT Tryd.prog 28 2 26 2 := ⟨by kernel_rfl, by kernel_rfl⟩
instance fv28_3 : FieldT Tryd.prog 28 3 26 3 := ⟨by kernel_rfl, by kernel_rfl⟩
instance fv28_4 : FieldT Tryd.prog 28 4 26 4 := ⟨by kernel_rfl, by kernel_rfl⟩
instance fv28_5 : FieldT Tryd.prog 28 5 26 5 := ⟨by kernel_rfl, by kernel_rfl⟩
instance fi28_0 : FieldA Tryd.prog 28 0 0 := ⟨fun _ _ _ => by kernel_rfl⟩
instance fi28_1 : FieldA Tryd.prog 28 1 1 := ⟨fun _ _ _ => by kernel_rfl⟩
instance fi28_2 : FieldA Tryd.prog 28 2 2 := ⟨fun _ _ _ => by kernel_rfl⟩
instance fi28_3 : FieldA Tryd.prog 28 3 3 := ⟨fun _ _ _ => by kernel_rfl⟩
instance fi28_4 : FieldA Tryd.prog 28 4 4 := ⟨fun _ _ _ => by kernel_rfl⟩
instance fi28_5 : FieldA Tryd.prog 28 5 5 := ⟨fun _ _ _ => by kernel_rfl⟩
instance ze28 : ZeroA Tryd.prog 28 (Value.agg #[Value.int .i64 0, Value.int .u64 0, Value.int .u64 0, Value.int .u64 0, Value.int .u64 0, Value.int .u64 0]) := ⟨fun _ => by kernel_rfl⟩
instance in28 : InfoA Tryd.prog 28 (Value.agg #[Value.int .i64 0, Value.int .u64 0, Value.int .u64 0, Value.int .u64 0, Value.int .u64 0, Value.int .u64 0]) 6 48 := ⟨by kernel_rfl⟩
instance ty29 : TyA Tryd.prog 29 false 1 := ⟨fun _ => by kernel_rfl, fun _ => by kernel_rfl⟩
instance un29 : Und Tryd.prog 29 (.int .i64) := ⟨Tryd.underlying29⟩
instance ze29 : ZeroA Tryd.prog 29 (Value.int .i64 0) := ⟨fun _ => by kernel_rfl⟩
instance in29 : InfoA Tryd.prog 29 (Value.int .i64 0) 1 8 := ⟨by kernel_rfl⟩
instance ty33 : TyA Tryd.prog 33 false 1 := ⟨fun _ => by kernel_rfl, fun _ => by kernel_rfl⟩
instance un33 : Und Tryd.prog 33 (.slice 24) := ⟨Tryd.underlying33⟩
instance ze33 : ZeroA Tryd.prog 33 (Value.slice none 0 0) := ⟨fun _ => by kernel_rfl⟩
instance in33 : InfoA Tryd.prog 33 (Value.slice none 0 0) 1 24 := ⟨by kernel_rfl⟩
instance ty40 : TyA Tryd.prog 40 false 1 := ⟨fun _ => by kernel_rfl, fun _ => by kernel_rfl⟩
instance un40 : Und Tryd.prog 40 (.slice 43) := ⟨Tryd.underlying40⟩
instance ze40 : ZeroA Tryd.prog 40 (Value.slice none 0 0) := ⟨fun _ => by kernel_rfl⟩
instance in40 : InfoA Tryd.prog 40 (Value.slice none 0 0) 1 24 := ⟨by kernel_rfl⟩
instance ty42 : TyA Tryd.prog 42 false 1 := ⟨fun _ => by kernel_rfl, fun _ => by kernel_rfl⟩
instance un42 : Und Tryd.prog 42 (.pointer 28) := ⟨Tryd.underlying42⟩
instance ze42 : ZeroA Tryd.prog 42 (Value.pointer none) := ⟨fun _ => by kernel_rfl⟩
instance in42 : InfoA Tryd.prog 42 (Value.pointer none) 1 8 := ⟨by kernel_rfl⟩
instance ty43 : TyA Tryd.prog 43 false 1 := ⟨fun _ => by kernel_rfl, fun _ => by kernel_rfl⟩
instance un43 : Und Tryd.prog 43 (.pointer 26) := ⟨Tryd.underlying43⟩
instance ze43 : ZeroA Tryd.prog 43 (Value.pointer none) := ⟨fun _ => by kernel_rfl⟩
instance in43 : InfoA Tryd.prog 43 (Value.pointer none) 1 8 := ⟨by kernel_rfl⟩
instance ty45 : TyA Tryd.prog 45 false 1 := ⟨fun _ => by kernel_rfl, fun _ => by kernel_rfl⟩
instance un45 : Und Tryd.prog 45 (.int .u32) := ⟨Tryd.underlying45⟩
instance ze45 : ZeroA Tryd.prog 45 (Value.int .u32 0) := ⟨fun _ => by kernel_rfl⟩
instance in45 : InfoA Tryd.prog 45 (Value.int .u32 0) 1 4 := ⟨by kernel_rfl⟩
instance ty48 : TyA Tryd.prog 48 false 1 := ⟨fun _ => by kernel_rfl, fun _ => by kernel_rfl⟩
instance ze48 : ZeroA Tryd.prog 48 (Value.nilFunc) := ⟨fun _ => by kernel_rfl⟩
instance in48 : InfoA Tryd.prog 48 (Value.nilFunc) 1 8 := ⟨by kernel_rfl⟩
instance ty57 : TyA Tryd.prog 57 false 1 := ⟨fun _ => by kernel_rfl, fun _ => by kernel_rfl⟩
instance un57 : Und Tryd.prog 57 (.int .u64) := ⟨Tryd.underlying57⟩
instance ze57 : ZeroA Tryd.prog 57 (Value.int .u64 0) := ⟨fun _ => by kernel_rfl⟩
instance in57 : InfoA Tryd.prog 57 (Value.int .u64 0) 1 8 := ⟨by kernel_rfl⟩
instance ty60 : TyA Tryd.prog 60 true 16 := ⟨fun _ => by kernel_rfl, fun _ => by kernel_rfl⟩
instance un60 : Und Tryd.prog 60 (.array 16 45) := ⟨Tryd.underlying60⟩
instance ze60 : ZeroA Tryd.prog 60 (Value.agg #[Value.int .u32 0, Value.int .u32 0, Value.int .u32 0, Value.int .u32 0, Value.int .u32 0, Value.int .u32 0, Value.int .u32 0, Value.int .u32 0, Value.int .u32 0, Value.int .u32 0, Value.int .u32 0, Value.int .u32 0, Value.int .u32 0, Value.int .u32 0, Value.int .u32 0, Value.int .u32 0]) := ⟨fun _ => by kernel_rfl⟩
instance in60 : InfoA Tryd.prog 60 (Value.agg #[Value.int .u32 0, Value.int .u32 0, Value.int .u32 0, Value.int .u32 0, Value.int .u32 0, Value.int .u32 0, Value.int .u32 0, Value.int .u32 0, Value.int .u32 0, Value.int .u32 0, Value.int .u32 0, Value.int .u32 0, Value.int .u32 0, Value.int .u32 0, Value.int .u32 0, Value.int .u32 0]) 16 64 := ⟨by kernel_rfl⟩
instance ty63 : TyA Tryd.prog 63 true 4 := ⟨fun _ => by kernel_rfl, fun _ => by kernel_rfl⟩
instance bu63 : BuildA Tryd.prog 63 [(0, 1), (1, 1), (2, 1), (3, 1)] := ⟨by kernel_rfl, by kernel_rfl⟩
instance fv63_0 : FieldT Tryd.prog 63 0 17 0 := ⟨by kernel_rfl, by kernel_rfl⟩
instance fv63_1 : FieldT Tryd.prog 63 1 17 1 := ⟨by kernel_rfl, by kernel_rfl⟩
instance fv63_2 : FieldT Tryd.prog 63 2 17 2 := ⟨by kernel_rfl, by kernel_rfl⟩
instance fv63_3 : FieldT Tryd.prog 63 3 9 3 := ⟨by kernel_rfl, by kernel_rfl⟩
instance fi63_0 : FieldA Tryd.prog 63 0 0 := ⟨fun _ _ _ => by kernel_rfl⟩
instance fi63_1 : FieldA Tryd.prog 63 1 1 := ⟨fun _ _ _ => by kernel_rfl⟩
instance fi63_2 : FieldA Tryd.prog 63 2 2 := ⟨fun _ _ _ => by kernel_rfl⟩
instance fi63_3 : FieldA Tryd.prog 63 3 3 := ⟨fun _ _ _ => by kernel_rfl⟩
instance ze63 : ZeroA Tryd.prog 63 (Value.agg #[Value.pointer none, Value.pointer none, Value.pointer none, Value.string ⟨#[]⟩]) := ⟨fun _ => by kernel_rfl⟩
instance in63 : InfoA Tryd.prog 63 (Value.agg #[Value.pointer none, Value.pointer none, Value.pointer none, Value.string ⟨#[]⟩]) 4 40 := ⟨by kernel_rfl⟩
instance ty64 : TyA Tryd.prog 64 true 4 := ⟨fun _ => by kernel_rfl, fun _ => by kernel_rfl⟩
instance bu64 : BuildA Tryd.prog 64 [(0, 1), (1, 1), (2, 1), (3, 1)] := ⟨by kernel_rfl, by kernel_rfl⟩
instance fv64_0 : FieldT Tryd.prog 64 0 17 0 := ⟨by kernel_rfl, by kernel_rfl⟩
instance fv64_1 : FieldT Tryd.prog 64 1 17 1 := ⟨by kernel_rfl, by kernel_rfl⟩
instance fv64_2 : FieldT Tryd.prog 64 2 17 2 := ⟨by kernel_rfl, by kernel_rfl⟩
instance fv64_3 : FieldT Tryd.prog 64 3 9 3 := ⟨by kernel_rfl, by kernel_rfl⟩
instance fi64_0 : FieldA Tryd.prog 64 0 0 := ⟨fun _ _ _ => by kernel_rfl⟩
instance fi64_1 : FieldA Tryd.prog 64 1 1 := ⟨fun _ _ _ => by kernel_rfl⟩
instance fi64_2 : FieldA Tryd.prog 64 2 2 := ⟨fun _ _ _ => by kernel_rfl⟩
instance fi64_3 : FieldA Tryd.prog 64 3 3 := ⟨fun _ _ _ => by kernel_rfl⟩
instance ze64 : ZeroA Tryd.prog 64 (Value.agg #[Value.pointer none, Value.pointer none, Value.pointer none, Value.string ⟨#[]⟩]) := ⟨fun _ => by kernel_rfl⟩
instance in64 : InfoA Tryd.prog 64 (Value.agg #[Value.pointer none, Value.pointer none, Value.pointer none, Value.string ⟨#[]⟩]) 4 40 := ⟨by kernel_rfl⟩
instance ty69 : TyA Tryd.prog 69 false 1 := ⟨fun _ => by kernel_rfl, fun _ => by kernel_rfl⟩
instance un69 : Und Tryd.prog 69 (.int .u8) := ⟨Tryd.underlying69⟩
instance ze69 : ZeroA Tryd.prog 69 (Value.int .u8 0) := ⟨fun _ => by kernel_rfl⟩
instance in69 : InfoA Tryd.prog 69 (Value.int .u8 0) 1 1 := ⟨by kernel_rfl⟩
instance ty70 : TyA Tryd.prog 70 false 1 := ⟨fun _ => by kernel_rfl, fun _ => by kernel_rfl⟩
instance un70 : Und Tryd.prog 70 (.int .u8) := ⟨Tryd.underlying70⟩
instance ze70 : ZeroA Tryd.prog 70 (Value.int .u8 0) := ⟨fun _ => by kernel_rfl⟩
instance in70 : InfoA Tryd.prog 70 (Value.int .u8 0) 1 1 := ⟨by kernel_rfl⟩
instance ty72 : TyA Tryd.prog 72 false 1 := ⟨fun _ => by kernel_rfl, fun _ => by kernel_rfl⟩
instance un72 : Und Tryd.prog 72 (.pointer 5) := ⟨Tryd.underlying72⟩
instance ze72 : ZeroA Tryd.prog 72 (Value.pointer none) := ⟨fun _ => by kernel_rfl⟩
instance in72 : InfoA Tryd.prog 72 (Value.pointer none) 1 8 := ⟨by kernel_rfl⟩
instance ty73 : TyA Tryd.prog 73 false 1 := ⟨fun _ => by kernel_rfl, fun _ => by kernel_rfl⟩
instance un73 : Und Tryd.prog 73 (.int .i32) := ⟨Tryd.underlying73⟩
instance ze73 : ZeroA Tryd.prog 73 (Value.int .i32 0) := ⟨fun _ => by kernel_rfl⟩
instance in73 : InfoA Tryd.prog 73 (Value.int .i32 0) 1 4 := ⟨by kernel_rfl⟩
instance ty74 : TyA Tryd.prog 74 false 1 := ⟨fun _ => by kernel_rfl, fun _ => by kernel_rfl⟩
instance un74 : Und Tryd.prog 74 (.int .i32) := ⟨Tryd.underlying74⟩
instance ze74 : ZeroA Tryd.prog 74 (Value.int .i32 0) := ⟨fun _ => by kernel_rfl⟩
instance in74 : InfoA Tryd.prog 74 (Value.int .i32 0) 1 4 := ⟨by kernel_rfl⟩
instance ty75 : TyA Tryd.prog 75 true 11 := ⟨fun _ => by kernel_rfl, fun _ => by kernel_rfl⟩
instance fv75_0 : FieldT Tryd.prog 75 0 12 0 := ⟨by kernel_rfl, by kernel_rfl⟩
instance fv75_1 : FieldT Tryd.prog 75 1 12 1 := ⟨by kernel_rfl, by kernel_rfl⟩
instance fv75_2 : FieldT Tryd.prog 75 2 45 2 := ⟨by kernel_rfl, by kernel_rfl⟩
instance fv75_3 : FieldT Tryd.prog 75 3 69 3 := ⟨by kernel_rfl, by kernel_rfl⟩
instance fv75_4 : FieldT Tryd.prog 75 4 5 4 := ⟨by kernel_rfl, by kernel_rfl⟩
instance fv75_5 : FieldT Tryd.prog 75 5 5 5 := ⟨by kernel_rfl, by kernel_rfl⟩
instance fv75_6 : FieldT Tryd.prog 75 6 70 6 := ⟨by kernel_rfl, by kernel_rfl⟩
instance fv75_7 : FieldT Tryd.prog 75 7 71 7 := ⟨by kernel_rfl, by kernel_rfl⟩
instance fv75_8 : FieldT Tryd.prog 75 8 72 8 := ⟨by kernel_rfl, by kernel_rfl⟩
instance fv75_9 : FieldT Tryd.prog 75 9 73 9 := ⟨by kernel_rfl, by kernel_rfl⟩
instance fv75_10 : FieldT Tryd.prog 75 10 74 10 := ⟨by kernel_rfl, by kernel_rfl⟩
instance fi75_0 : FieldA Tryd.prog 75 0 0 := ⟨fun _ _ _ => by kernel_rfl⟩
instance fi75_1 : FieldA Tryd.prog 75 1 1 := ⟨fun _ _ _ => by kernel_rfl⟩
instance fi75_2 : FieldA Tryd.prog 75 2 2 := ⟨fun _ _ _ => by kernel_rfl⟩
instance fi75_3 : FieldA Tryd.prog 75 3 3 := ⟨fun _ _ _ => by kernel_rfl⟩
instance fi75_4 : FieldA Tryd.prog 75 4 4 := ⟨fun _ _ _ => by kernel_rfl⟩
instance fi75_5 : FieldA Tryd.prog 75 5 5 := ⟨fun _ _ _ => by kernel_rfl⟩
instance fi75_6 : FieldA Tryd.prog 75 6 6 := ⟨fun _ _ _ => by kernel_rfl⟩
instance fi75_7 : FieldA Tryd.prog 75 7 7 := ⟨fun _ _ _ => by kernel_rfl⟩
instance fi75_8 : FieldA Tryd.prog 75 8 8 := ⟨fun _ _ _ => by kernel_rfl⟩
instance fi75_9 : FieldA Tryd.prog 75 9 9 := ⟨fun _ _ _ => by kernel_rfl⟩
instance fi75_10 : FieldA Tryd.prog 75 10 10 := ⟨fun _ _ _ => by kernel_rfl⟩
instance ze75 : ZeroA Tryd.prog 75 (Value.agg #[Value.int .u64 0, Value.int .u64 0, Value.int .u32 0, Value.int .u8 0, Value.int .u8 0, Value.int .u8 0, Value.int .u8 0, Value.nilFunc, Value.pointer none, Value.int .i32 0, Value.int .i32 0]) := ⟨fun _ => by kernel_rfl⟩
instance in75 : InfoA Tryd.prog 75 (Value.agg #[Value.int .u64 0, Value.int .u64 0, Value.int .u32 0, Value.int .u8 0, Value.int .u8 0, Value.int .u8 0, Value.int .u8 0, Value.nilFunc, Value.pointer none, Value.int .i32 0, Value.int .i32 0]) 11 48 := ⟨by kernel_rfl⟩
instance ty76 : TyA Tryd.prog 76 true 11 := ⟨fun _ => by kernel_rfl, fun _ => by kernel_rfl⟩
instance fv76_0 : FieldT Tryd.prog 76 0 12 0 := ⟨by kernel_rfl, by kernel_rfl⟩
instance fv76_1 : FieldT Tryd.prog 76 1 12 1 := ⟨by kernel_rfl, by kernel_rfl⟩
instance fv76_2 : FieldT Tryd.prog 76 2 45 2 := ⟨by kernel_rfl, by kernel_rfl⟩
instance fv76_3 : FieldT Tryd.prog 76 3 69 3 := ⟨by kernel_rfl, by kernel_rfl⟩
instance fv76_4 : FieldT Tryd.prog 76 4 5 4 := ⟨by kernel_rfl, by kernel_rfl⟩
instance fv76_5 : FieldT Tryd.prog 76 5 5 5 := ⟨by kernel_rfl, by kernel_rfl⟩
instance fv76_6 : FieldT Tryd.prog 76 6 70 6 := ⟨by kernel_rfl, by kernel_rfl⟩
instance fv76_7 : FieldT Tryd.prog 76 7 71 7 := ⟨by kernel_rfl, by kernel_rfl⟩
instance fv76_8 : FieldT Tryd.prog 76 8 72 8 := ⟨by kernel_rfl, by kernel_rfl⟩
instance fv76_9 : FieldT Tryd.prog 76 9 73 9 := ⟨by kernel_rfl, by kernel_rfl⟩
instance fv76_10 : FieldT Tryd.prog 76 10 74 10 := ⟨by kernel_rfl, by kernel_rfl⟩
instance fi76_0 : FieldA Tryd.prog 76 0 0 := ⟨fun _ _ _ => by kernel_rfl⟩
instance fi76_1 : FieldA Tryd.prog 76 1 1 := ⟨fun _ _ _ => by kernel_rfl⟩
instance fi76_2 : FieldA Tryd.prog 76 2 2 := ⟨fun _ _ _ => by kernel_rfl⟩
instance fi76_3 : FieldA Tryd.prog 76 3 3 := ⟨fun _ _ _ => by kernel_rfl⟩
instance fi76_4 : FieldA Tryd.prog 76 4 4 := ⟨fun _ _ _ => by kernel_rfl⟩
instance fi76_5 : FieldA Tryd.prog 76 5 5 := ⟨fun _ _ _ => by kernel_rfl⟩
instance fi76_6 : FieldA Tryd.prog 76 6 6 := ⟨fun _ _ _ => by kernel_rfl⟩
instance fi76_7 : FieldA Tryd.prog 76 7 7 := ⟨fun _ _ _ => by kernel_rfl⟩
instance fi76_8 : FieldA Tryd.prog 76 8 8 := ⟨fun _ _ _ => by kernel_rfl⟩
instance fi76_9 : FieldA Tryd.prog 76 9 9 := ⟨fun _ _ _ => by kernel_rfl⟩
instance fi76_10 : FieldA Tryd.prog 76 10 10 := ⟨fun _ _ _ => by kernel_rfl⟩
instance ze76 : ZeroA Tryd.prog 76 (Value.agg #[Value.int .u64 0, Value.int .u64 0, Value.int .u32 0, Value.int .u8 0, Value.int .u8 0, Value.int .u8 0, Value.int .u8 0, Value.nilFunc, Value.pointer none, Value.int .i32 0, Value.int .i32 0]) := ⟨fun _ => by kernel_rfl⟩
instance in76 : InfoA Tryd.prog 76 (Value.agg #[Value.int .u64 0, Value.int .u64 0, Value.int .u32 0, Value.int .u8 0, Value.int .u8 0, Value.int .u8 0, Value.int .u8 0, Value.nilFunc, Value.pointer none, Value.int .i32 0, Value.int .i32 0]) 11 48 := ⟨by kernel_rfl⟩
instance hf3 : HasFn Tryd.prog 3 := ⟨fun _ _ => by kernel_rfl⟩
instance hf4 : HasFn Tryd.prog 4 := ⟨fun _ _ => by kernel_rfl⟩
instance hf5 : HasFn Tryd.prog 5 := ⟨fun _ _ => by kernel_rfl⟩
instance hf6 : HasFn Tryd.prog 6 := ⟨fun _ _ => by kernel_rfl⟩
instance hf7 : HasFn Tryd.prog 7 := ⟨fun _ _ => by kernel_rfl⟩
instance hf8 : HasFn Tryd.prog 8 := ⟨fun _ _ => by kernel_rfl⟩
instance hf9 : HasFn Tryd.prog 9 := ⟨fun _ _ => by kernel_rfl⟩
instance hf10 : HasFn Tryd.prog 10 := ⟨fun _ _ => by kernel_rfl⟩
instance hf11 : HasFn Tryd.prog 11 := ⟨fun _ _ => by kernel_rfl⟩
instance hf12 : HasFn Tryd.prog 12 := ⟨fun _ _ => by kernel_rfl⟩
instance hf13 : HasFn Tryd.prog 13 := ⟨fun _ _ => by kernel_rfl⟩
instance hf14 : HasFn Tryd.prog 14 := ⟨fun _ _ => by kernel_rfl⟩
instance hf15 : HasFn Tryd.prog 15 := ⟨fun _ _ => by kernel_rfl⟩
instance hf16 : HasFn Tryd.prog 16 := ⟨fun _ _ => by kernel_rfl⟩
instance hf17 : HasFn Tryd.prog 17 := ⟨fun _ _ => by kernel_rfl⟩
instance hf18 : HasFn Tryd.prog 18 := ⟨fun _ _ => by kernel_rfl⟩
instance hf19 : HasFn Tryd.prog 19 := ⟨fun _ _ => by kernel_rfl⟩
instance hf20 : HasFn Tryd.prog 20 := ⟨fun _ _ => by kernel_rfl⟩
instance hf21 : HasFn Tryd.prog 21 := ⟨fun _ _ => by kernel_rfl⟩
instance hf22 : HasFn Tryd.prog 22 := ⟨fun _ _ => by kernel_rfl⟩
instance hf23 : HasFn Tryd.prog 23 := ⟨fun _ _ => by kernel_rfl⟩
instance hf24 : HasFn Tryd.prog 24 := ⟨fun _ _ => by kernel_rfl⟩
instance hf26 : HasFn Tryd.prog 26 := ⟨fun _ _ => by kernel_rfl⟩
instance hf27 : HasFn Tryd.prog 27 := ⟨fun _ _ => by kernel_rfl⟩
instance hf28 : HasFn Tryd.prog 28 := ⟨fun _ _ => by kernel_rfl⟩
instance hf48 : HasFn Tryd.prog 48 := ⟨fun _ _ => by kernel_rfl⟩
end Go.Proofs.YteppicfkdcofjaaDoor
/- The check of bytes, the program's and the document's: contracts. -/
namespace Go.Proofs.YteppicfkdcofjaaDoor
set_option maxRecDepth 100000
set_option maxHeartbeats 16000000
open Go Go.RowKit
set_option linter.unusedSimpArgs false
attribute [local irreducible] zY zX Step zJ Sub zL Fn
theorem wrapU32 (x : Int) (h0 : 0 ≤ x) (h1 : x < 4294967296) : IntKind.u32.wrap x = x := wrap_u32 _ (by omega)
theorem getB {b : List Int} (hb : ∀ x ∈ b, 0 ≤ x ∧ x < 256) (i : Nat) : 0 ≤ b.getD i 0 ∧ b.getD i 0 < 256 := by
  by_cases h : i < b.length
  · simpa [List.getD, h] using hb b[i] (List.getElem_mem h)
  · simp [List.getD, h]
/-- frame of More's loop -/
def moreS (b : List Int) (s : Nat) (i : Nat) : AS :=
  { t := [(4, .p (.val (.int .u32 0))), (5, .p (.val (.int .u32 (s : Int)))), (10, .p (.sl (byts b))), (11, .p (.val (.int .i64 b.length))), (12, .p (.val (.int .i64 i)))], s := [] }
theorem more_fn (sum : Nat) (b : List Int) (hs : sum < 4294967296) (h64 : b.length ≤ 9223372036854775807) (hb : ∀ x ∈ b, 0 ≤ x ∧ x < 256) :
    Fn Tryd.prog 21 [.val (.int .u32 sum), .sl (byts b)] (.p (.val (.int .u32 (yN sum b)))) := by
  have g0 := xor_max sum hs
  refine fn_of Tryd.func21 rfl Tryd.ntmps21 (Nat.le_of_ble_eq_true rfl) ?_
  repeat' ((refine zX.is ?_; first | refine zX.seq ?_ | (refine zX.isR (id := 0) ?_; refine zX.zQ [0, 1] [] (by repeat' first | exact zZ.nil | apply zZ.p rfl) (by repeat' exact zW.nil) ?_; (refine zY.v rfl rfl (zK rfl rfl rfl (by decide)) ?_); refine zY.nil ?_) | (refine zX.isR (id := 1) ?_; refine zX.zQ [0, 1, 4] [] (by repeat' first | exact zZ.nil | apply zZ.p rfl) (by repeat' exact zW.nil) ?_; (refine zY.v rfl rfl (zV rfl rfl rfl (by decide)) ?_); (refine zY.v rfl rfl (by exact a_cmpl rfl rfl rfl (by exact g0) rfl (by decide)) ?_); (refine zY.v rfl rfl (zK rfl rfl rfl (by decide)) ?_); refine zY.nil ?_) | (refine zX.isR (id := 2) ?_; refine zX.zQ [1, 4, 5] [] (by repeat' first | exact zZ.nil | apply zZ.p rfl) (by repeat' exact zW.nil) ?_; (refine zY.v rfl rfl (zV rfl rfl rfl (by decide)) ?_); (refine zY.v rfl rfl (xV rfl rfl rfl (by decide)) ?_); (refine zY.v rfl rfl (zV rfl rfl rfl (by decide)) ?_); refine zY.nil ?_) | refine zX.block ?_))
  refine zX.loop (fun i => moreS b (crcN (4294967295 - sum) (b.take i)) i) (fun i => i ≤ b.length) (fun i => b.length - i) 0 ?h0 (Nat.zero_le _) ?rd
  case h0 =>
    refine zI (is := [4, 5, 10, 11, 12]) (js := []) ?_ ?_
    repeat' first | exact zZ.nil | apply zZ.p rfl | apply zZ.ptr rfl | apply zZ.own rfl | apply zZ.clo rfl | apply zZ.pt rfl | apply zZ.tup rfl | apply zZ.skip
    repeat' first | exact zW.nil | apply zW.boxP rfl rfl | apply zW.zM rfl | apply zW.some rfl | apply zW.skip
  case rd =>
    intro i hi
    have hlt := crc_lt (b.take i) (fun x hx => hb x (List.mem_of_mem_take hx)) (4294967295 - sum) (by omega)
    generalize hst : crcN (4294967295 - sum) (b.take i) = st at *
    by_cases hc : i < b.length
    · have hdec : decide ((i : Int) < (b.length : Int)) = true := by simpa using hc
      have hB := getB hb i
      have hst2 := crc_take (4294967295 - sum) b i hc
      rw [hst] at hst2
      generalize hcc : b.getD i 0 = c at *
      have hcN : c = ((c.toNat : Nat) : Int) := by omega
      have s1 : st ^^^ c.toNat < 4294967296 := Nat.xor_lt_two_pow (n := 32) hlt (by omega)
      have g1 : IntKind.u32.wrap (b.getD (i : Int).toNat 0) = ((c.toNat : Nat) : Int) := by
        rw [Int.toNat_natCast, hcc, wrapU32 c (by omega) (by omega)]
        exact hcN
      have g2 : bits .xor .u32 (st : Int) ((c.toNat : Nat) : Int) = ((st ^^^ c.toNat : Nat) : Int) := u32_xor_nat st c.toNat hlt (by omega)
      have sh : ∀ s : Nat, (s : Int) / 2 ^ (4 : Int).toNat = ((s / 16 : Nat) : Int) := fun s => by show (s : Int) / 16 = _; omega
      have an : ∀ s : Nat, s < 4294967296 → bits .and .u32 (s : Int) 15 = ((s % 16 : Nat) : Int) := fun s h => by
        rw [show (15 : Int) = ((15 : Nat) : Int) from rfl, u32_and_nat s 15 h (by decide)]
        have : s &&& 15 = s % 16 := Nat.and_two_pow_sub_one_eq_mod s 4
        rw [this]
      have tb : ∀ s : Nat, tbl0[((s % 16 : Nat) : Int).toNat]? = some (.u32, ((tblN (s % 16) : Nat) : Int)) := fun s => by
        rw [Int.toNat_natCast]
        have : ∀ j, j < 16 → tbl0[j]? = some (.u32, ((tblN j : Nat) : Int)) := by decide +kernel
        exact this _ (by omega)
      have xr : ∀ s : Nat, s < 4294967296 → bits .xor .u32 ((s / 16 : Nat) : Int) ((tblN (s % 16) : Nat) : Int) = ((nibN s : Nat) : Int) := fun s h => u32_xor_nat _ _ (by omega) (tblN_lt _ (by omega))
      have g3 := sh (st ^^^ c.toNat)
      have g4 := an _ s1
      have g5 := tb (st ^^^ c.toNat)
      have g6 := xr _ s1
      have s2 := nib_lt s1
      have g7 := sh (nibN (st ^^^ c.toNat))
      have g8 := an _ s2
      have g9 := tb (nibN (st ^^^ c.toNat))
      have g10 := xr _ s2
      clear sh an tb xr
      repeat' (first | (refine zX.is ?_; first | refine zX.seq ?_ | (refine zX.isR (id := 3) ?_; refine zX.zQ [4, 5, 7, 10, 11, 12, 13] [] (by repeat' first | exact zZ.nil | apply zZ.p rfl | apply zZ.skip) (by repeat' exact zW.nil) ?_; (refine zY.v rfl rfl (yL rfl rfl rfl (by rfl) rfl (by decide)) ?_); refine zY.nil ?_) | (refine zX.isR (id := 4) ?_; refine zX.zQ [4, 5, 7, 10, 11, 12, 13] [] (by repeat' first | exact zZ.nil | apply zZ.p rfl | apply zZ.skip) (by repeat' exact zW.nil) ?_; (refine zY.v rfl rfl (by exact w_indexB rfl rfl rfl (by omega) rfl (by decide)) ?_); (refine zY.v rfl rfl (zT rfl rfl rfl rfl (by decide)) ?_); (refine zY.v rfl rfl (zK rfl rfl rfl (by decide)) ?_); refine zY.nil ?_) | (refine zX.isR (id := 5) ?_; refine zX.zQ [4, 5, 7, 10, 11, 12, 13] [] (by repeat' first | exact zZ.nil | apply zZ.p rfl) (by repeat' exact zW.nil) ?_; (refine zY.v rfl rfl (zV rfl rfl rfl (by decide)) ?_); (refine zY.v rfl rfl (zV rfl rfl rfl (by decide)) ?_); (refine zY.v rfl rfl (by exact y9 rfl rfl (by exact g1) rfl (by decide)) ?_); (refine zY.v rfl rfl (by exact a_xor rfl rfl rfl (by exact g2) rfl (by decide)) ?_); (refine zY.v rfl rfl (zK rfl rfl rfl (by decide)) ?_); refine zY.nil ?_) | (refine zX.isR (id := 6) ?_; refine zX.zQ [4, 5, 7, 10, 11, 12, 13] [] (by repeat' first | exact zZ.nil | apply zZ.p rfl) (by repeat' exact zW.nil) ?_; (refine zY.v rfl rfl (zV rfl rfl rfl (by decide)) ?_); (refine zY.v rfl rfl (by exact a_shr rfl rfl rfl (by decide) (by decide) (by exact g3) rfl (by decide)) ?_); (refine zY.v rfl rfl (zV rfl rfl rfl (by decide)) ?_); (refine zY.v rfl rfl (by exact a_and rfl rfl rfl (by exact g4) rfl (by decide)) ?_); (refine zY.v rfl rfl (by exact w_indexG rfl rfl rfl rfl rfl (by omega) (by exact g5) rfl (by decide)) ?_); (refine zY.v rfl rfl (zT rfl rfl rfl rfl (by decide)) ?_); (refine zY.v rfl rfl (by exact a_xor rfl rfl rfl (by exact g6) rfl (by decide)) ?_); (refine zY.v rfl rfl (zK rfl rfl rfl (by decide)) ?_); refine zY.nil ?_) | (refine zX.isR (id := 7) ?_; refine zX.zQ [4, 5, 7, 10, 11, 12, 13] [] (by repeat' first | exact zZ.nil | apply zZ.p rfl) (by repeat' exact zW.nil) ?_; (refine zY.v rfl rfl (zV rfl rfl rfl (by decide)) ?_); (refine zY.v rfl rfl (by exact a_shr rfl rfl rfl (by decide) (by decide) (by exact g7) rfl (by decide)) ?_); (refine zY.v rfl rfl (zV rfl rfl rfl (by decide)) ?_); (refine zY.v rfl rfl (by exact a_and rfl rfl rfl (by exact g8) rfl (by decide)) ?_); (refine zY.v rfl rfl (by exact w_indexG rfl rfl rfl rfl rfl (by omega) (by exact g9) rfl (by decide)) ?_); (refine zY.v rfl rfl (zT rfl rfl rfl rfl (by decide)) ?_); (refine zY.v rfl rfl (by exact a_xor rfl rfl rfl (by exact g10) rfl (by decide)) ?_); (refine zY.v rfl rfl (zK rfl rfl rfl (by decide)) ?_); refine zY.nil ?_) | (refine zX.isR (id := 8) ?_; refine zX.zQ [4, 5, 7, 10, 11, 12, 13] [] (by repeat' first | exact zZ.nil | apply zZ.p rfl) (by repeat' exact zW.nil) ?_; (refine zY.v rfl rfl (by exact yT rfl rfl rfl (by exact wrap_i64 _ (by omega)) rfl (by decide)) ?_); (refine zY.v rfl rfl (zV rfl rfl rfl (by decide)) ?_); refine zY.nil ?_) | refine zX.condY rfl (by assumption) ?_ | refine zX.skip ?_ | refine zX.block ?_) | refine zR.n ?_)
      refine ⟨i + 1, ?_, by omega, by omega⟩
      show Sub _ (moreS b (crcN (4294967295 - sum) (b.take (i + 1))) (i + 1))
      rw [hst2]
      refine zI (is := [4, 5, 10, 11, 12]) (js := []) ?_ ?_
      repeat' first | exact zZ.nil | apply zZ.p rfl | apply zZ.ptr rfl | apply zZ.own rfl | apply zZ.clo rfl | apply zZ.pt rfl | apply zZ.tup rfl | apply zZ.skip
      repeat' first | exact zW.nil | apply zW.boxP rfl rfl | apply zW.zM rfl | apply zW.some rfl | apply zW.skip
    · have hdec : decide ((i : Int) < (b.length : Int)) = false := by simpa using hc
      have hl : b.take i = b := List.take_of_length_le (by omega)
      have g1 : bits .xor .u32 (IntKind.max .u32) (st : Int) = ((yN sum b : Nat) : Int) := by
        rw [xor_max st hlt]
        unfold yN
        rw [← hst, hl]
      repeat' ((refine zX.is ?_; first | refine zX.seq ?_ | (refine zX.isR (id := 3) ?_; refine zX.zQ [4, 5, 7, 10, 11, 12, 13] [] (by repeat' first | exact zZ.nil | apply zZ.p rfl | apply zZ.skip) (by repeat' exact zW.nil) ?_; (refine zY.v rfl rfl (yL rfl rfl rfl (by rfl) rfl (by decide)) ?_); refine zY.nil ?_) | (refine zX.isR (id := 9) ?_; refine zX.zQ [4, 5] [] (by repeat' first | exact zZ.nil | apply zZ.p rfl) (by repeat' exact zW.nil) ?_; (refine zY.v rfl rfl (zV rfl rfl rfl (by decide)) ?_); (refine zY.v rfl rfl (by exact a_cmpl rfl rfl rfl (by exact g1) rfl (by decide)) ?_); (refine zY.v rfl rfl (zK rfl rfl rfl (by decide)) ?_); refine zY.nil ?_) | refine zX.condN rfl (by assumption) ?_ | refine zX.exit ?_ | refine zX.ret ?_))
      all_goals exact ⟨.inl rfl, gives1 rfl rfl rfl⟩
theorem sum_fn (b : List Int) (h64 : b.length ≤ 9223372036854775807) (hb : ∀ x ∈ b, 0 ≤ x ∧ x < 256) : Fn Tryd.prog 15 [.sl (byts b)] (.p (.val (.int .u32 (yN 0 b)))) := by
  have c1 := more_fn 0 b (by decide) h64 hb
  refine fn_of Tryd.func15 rfl Tryd.ntmps15 (Nat.le_of_ble_eq_true rfl) ?_
  repeat' ((refine zX.is ?_; first | refine zX.seq ?_ | (refine zX.isR (id := 0) ?_; refine zX.zQ [0] [] (by repeat' first | exact zZ.nil | apply zZ.p rfl) (by repeat' exact zW.nil) ?_; (refine zY.v rfl rfl (zK rfl rfl rfl (by decide)) ?_); refine zY.nil ?_) | (refine zX.isR (id := 1) ?_; refine zX.zQ [0, 2] [] (by repeat' first | exact zZ.nil | apply zZ.p rfl) (by repeat' exact zW.nil) ?_; (refine zY.v rfl rfl (zV rfl rfl rfl (by decide)) ?_); (refine zY.v rfl rfl (by exact zU (c1) rfl rfl rfl (by decide)) ?_); (refine zY.v rfl rfl (zK rfl rfl rfl (by decide)) ?_); refine zY.nil ?_) | refine zX.ret ?_))
  all_goals exact ⟨.inl rfl, gives1 rfl rfl rfl⟩
/-- frames of the reference's loops -/
def moreR (b : List Int) (s : Nat) (i : Nat) : AS :=
  { t := [(1, .p (.sl (byts b))), (4, .p (.val (.int .u32 0))), (5, .p (.val (.int .u32 (s : Int)))), (6, .p (.val (.int .i64 i)))], s := [] }
def moreRI (b : List Int) (s : Nat) (i k : Nat) : AS :=
  { t := [(1, .p (.sl (byts b))), (4, .p (.val (.int .u32 0))), (5, .p (.val (.int .u32 (bitsN k s : Int)))), (6, .p (.val (.int .i64 i))), (7, .p (.val (.int .i64 k)))], s := [] }
end Go.Proofs.YteppicfkdcofjaaDoor
/- Calls of functions that turn the caller's variables, and that may panic; closures. Generic over the program. -/
namespace Go.Proofs.YteppicfkdcofjaaDoor
set_option maxRecDepth 100000
set_option maxHeartbeats 16000000
open Go Go.RowKit
/-! ### Names: a contract's variables are numbered from 1000 on -/
def AV.ren (σ : Nat → Nat) : AV → AV
  | .own k => .own (σ k)
  | .ptr k o => .ptr (σ k) o
  | .clo f ks => .clo f (ks.map σ)
  | .tup vs => .tup (vs.map fun x => match x with
    | .p y => .p y
    | _ => .any)
  | x => x
def Blk.ren (σ : Nat → Nat) : Blk → Blk
  | .row t s n xs => .row t s n (xs.map (AV.ren σ))
  | .prow t s n xs => .prow t s n xs
  | .box t xs => .box t (xs.map (AV.ren σ))
  | .lent t s n xs => .lent t s n xs
/-- what is said goes by the first m variables alone -/
def AV.okE (m : Nat) : AV → Bool
  | .own k => decide (1000 ≤ k ∧ k < 1000 + m)
  | .ptr k _ => decide (1000 ≤ k ∧ k < 1000 + m)
  | .clo _ ks => ks.all fun k => decide (1000 ≤ k ∧ k < 1000 + m)
  | .tup vs => vs.all fun x => match x with
    | .p _ => true
    | _ => false
  | _ => true
def Blk.okE (m : Nat) : Blk → Bool
  | .box _ xs => xs.all (AV.okE m)
  | _ => false
def numB : Nat → List Blk → List (Nat × Blk)
  | _, [] => []
  | i, b :: r => (i, b) :: numB (i + 1) r
theorem look_numB : ∀ (B : List Blk) (i j : Nat), look (numB i B) j = if i ≤ j then B[j - i]? else none := by
  intro B
  induction B with
  | nil => intro i j; simp [numB, look]
  | cons b r ih =>
    intro i j
    simp only [numB, look]
    by_cases h1 : i = j
    · subst h1
      simp
    · rw [if_neg h1, ih (i + 1) j]
      by_cases h2 : i ≤ j
      · have e : j - i = (j - (i + 1)) + 1 := by omega
        rw [if_pos h2, if_pos (by omega), e, List.getElem?_cons_succ]
      · rw [if_neg h2, if_neg (by omega)]
/-- the names at a call: the contract's variable 1000 + i is the caller's ids[i] -/
def sig (ids : List Nat) (k : Nat) : Nat := ids.getD (k - 1000) 0
def noAct : Act := { tmps := #[], defers := [] }
def asB (B : List Blk) : AS := { t := [], s := numB 1000 B }
structure Handed (h : Home) (B : List Blk) (ρ : Nat → Value) : Prop where
  r : ∀ i, i < B.length → h.r (1000 + i) = some (ρ (1000 + i))
  t : ∀ k, h.t k → ∃ i, i < B.length ∧ zC (ρ (1000 + i)) = some k
/-- how a call ends -/
inductive EV where
  | ret (x : AV)
  | pan (x : AV)
def EvOK (M : Nat → Nat → Prop) (ρ : Nat → Value) (w : World) : EV → Ending → Prop
  | .ret x, e => ∃ v, e = .returned v ∧ zG M ρ w x v
  | .pan x, e => ∃ v, e = .panicked [{ v := v, recovered := false }] ∧ zG M ρ w x v
/-- What function f does: of such arguments, and such variables of its callers'. -/
def FnE (P : Program) (f : FuncId) (args : List AV) (B : List Blk) (ev : EV) (B' : List Blk) : Prop :=
  ∀ (M : Nat → Nat → Prop) (h : Home) (ρ : Nat → Value) (vs : List Value), Handed h B ρ → Sat M 0 h (asB B) ρ noAct h.w → vs.length = args.length →
    (∀ (i : Nat) x v, args[i]? = some x → vs[i]? = some v → zG (Mut M (asB B) ρ) ρ h.w x v) →
    Calls P f vs.toArray h.w fun e w' => ∃ ρ', Sat M 0 h (asB B') ρ' noAct w' ∧ EvOK (Mut M (asB B') ρ') ρ' w' ev e
section
variable {M : Nat → Nat → Prop} {n : Nat} {w0 : Home} {w : World} {S : AS} {ρ : Nat → Value} {a : Act}
theorem asB_blk (B : List Blk) (i : Nat) : (asB B).blk (1000 + i) = B[i]? := by
  show look (numB 1000 B) (1000 + i) = _
  have e : 1000 + i - 1000 = i := by omega
  rw [look_numB, if_pos (by omega), e]
theorem yD {B : List Blk} {id : Nat} {b : Blk} (h : (asB B).blk id = some b) : ∃ i, id = 1000 + i ∧ B[i]? = some b := by
  have h1 : look (numB 1000 B) id = some b := h
  rw [look_numB] at h1
  split at h1
  · exact ⟨id - 1000, by omega, h1⟩
  · cases h1
/-- from the caller's names to the contract's -/
theorem zG.inn {M M' : Nat → Nat → Prop} {ids : List Nat} {m : Nat} {ρ : Nat → Value} {w : World} {x : AV} {v : Value} (h : zG M ρ w (x.ren (sig ids)) v) (hk : x.okE m = true) (hM : ∀ k c, k < w.heap.size → M' k c → M k c) : zG M' (fun k => ρ (sig ids k)) w x v := by
  cases x with
  | any => exact .any _
  | p x => cases h with | p h => exact .p (h.mono hM)
  | own k =>
    have h1 := own_eq h
    rw [h1]
    exact .own (ρ := fun k => ρ (sig ids k)) k
  | ptr k o =>
    cases h with
    | ptr _ _ g h => exact .ptr k o g h
  | pt xs =>
    cases h with
    | pt _ g o ys h hc hM2 hg => exact .pt xs g o ys (h.mono hM) hc (fun j hj h1 => hM2 j hj (hM g _ hg h1)) hg
  | tup vs =>
    have h0 : zG M ρ w (.tup _) v := h
    cases h0 with
    | tup _ us hl h1 =>
      refine .tup _ us (by simpa using hl) fun i c u hc hu => ?_
      have hp := List.all_eq_true.1 hk c (List.mem_of_getElem? hc)
      cases c with
      | p y =>
        have h2 := h1 i (.p y) u (by rw [List.getElem?_map, hc]; rfl) hu
        cases h2 with
        | p h3 => exact .p (h3.mono hM)
      | _ => cases hp
  | clo f ks =>
    have h0 : zG M ρ w (.clo f (ks.map (sig ids))) v := h
    cases h0 with
    | clo _ _ vs hl h1 =>
      refine .clo f ks vs (by simpa using hl) fun i k v hk hv => ?_
      exact h1 i (sig ids k) v (by rw [List.getElem?_map, hk]; rfl) hv
  | glob g =>
    have h0 : zG M ρ w (.glob g) v := h
    cases h0
    exact .glob g
/-- and back -/
theorem zG.outw {M M' : Nat → Nat → Prop} {ids : List Nat} {m : Nat} {ρ ρ2 : Nat → Value} {w : World} {x : AV} {v : Value} (h : zG M ρ2 w x v) (hk : x.okE m = true) (hM : ∀ k c, k < w.heap.size → M' k c → M k c)
    (hρ : ∀ k, 1000 ≤ k → k < 1000 + m → ρ2 k = ρ (sig ids k)) : zG M' ρ w (x.ren (sig ids)) v := by
  cases x with
  | any => exact .any _
  | p x => cases h with | p h => exact .p (h.mono hM)
  | own k =>
    have h1 := own_eq h
    simp only [AV.okE, decide_eq_true_eq] at hk
    rw [h1, hρ k hk.1 hk.2]
    exact .own _
  | ptr k o =>
    simp only [AV.okE, decide_eq_true_eq] at hk
    cases h with
    | ptr _ _ g h =>
      rw [hρ k hk.1 hk.2] at h
      exact .ptr _ o g h
  | pt xs =>
    cases h with
    | pt _ g o ys h hc hM2 hg => exact .pt xs g o ys (h.mono hM) hc (fun j hj h1 => hM2 j hj (hM g _ hg h1)) hg
  | tup vs =>
    cases h with
    | tup _ us hl h1 =>
      refine .tup _ us (by simpa using hl) fun i c u hc hu => ?_
      rw [List.getElem?_map, Option.map_eq_some_iff] at hc
      obtain ⟨c', hc', rfl⟩ := hc
      have hp := List.all_eq_true.1 hk c' (List.mem_of_getElem? hc')
      cases c' with
      | p y =>
        have h2 := h1 i (.p y) u hc' hu
        cases h2 with
        | p h3 => exact .p (h3.mono hM)
      | _ => cases hp
  | clo f ks =>
    cases h with
    | clo _ _ vs hl h1 =>
      refine .clo f (ks.map (sig ids)) vs (by simpa using hl) fun i k v hk2 hv => ?_
      rw [List.getElem?_map, Option.map_eq_some_iff] at hk2
      obtain ⟨k', hk', rfl⟩ := hk2
      have hok := List.all_eq_true.1 hk k' (List.mem_of_getElem? hk')
      simp only [decide_eq_true_eq] at hok
      rw [← hρ k' hok.1 hok.2]
      exact h1 i k' v hk' hv
  | glob g =>
    cases h
    exact .glob g
theorem zD.inn {M M' : Nat → Nat → Prop} {ids : List Nat} {m : Nat} {ρ : Nat → Value} {w : World} {xs : List AV} {ys : List Value} (h : zD M ρ w (xs.map (AV.ren (sig ids))) ys) (hk : xs.all (AV.okE m) = true) (hM : ∀ k c, k < w.heap.size → M' k c → M k c) :
    zD M' (fun k => ρ (sig ids k)) w xs ys :=
  ⟨by simpa using h.len, fun i c v hc hv => zG.inn (h.each i _ v (by rw [List.getElem?_map, hc]; rfl) hv) (List.all_eq_true.1 hk c (List.mem_of_getElem? hc)) hM, h.one⟩
theorem zD.outw {M M' : Nat → Nat → Prop} {ids : List Nat} {m : Nat} {ρ ρ2 : Nat → Value} {w : World} {xs : List AV} {ys : List Value} (h : zD M ρ2 w xs ys) (hk : xs.all (AV.okE m) = true) (hM : ∀ k c, k < w.heap.size → M' k c → M k c)
    (hρ : ∀ k, 1000 ≤ k → k < 1000 + m → ρ2 k = ρ (sig ids k)) : zD M' ρ w (xs.map (AV.ren (sig ids))) ys :=
  ⟨by simpa using h.len, fun i c v hc hv => by
    rw [List.getElem?_map, Option.map_eq_some_iff] at hc
    obtain ⟨c', hc', rfl⟩ := hc
    exact zG.outw (h.each i c' v hc' hv) (List.all_eq_true.1 hk c' (List.mem_of_getElem? hc')) hM hρ, h.one⟩
/-- the frame behind a call: the variables ids hold what the contract says -/
def putBs : List Nat → List Blk → List (Nat × Blk) → List (Nat × Blk)
  | id :: is, b :: bs, s => putL (putBs is bs s) id b
  | _, _, s => s
def AS.after (S : AS) (ids : List Nat) (B : List Blk) : AS := { S with s := putBs ids (B.map (Blk.ren (sig ids))) S.s }
theorem nodup_inj : ∀ {l : List Nat}, l.Nodup → ∀ {i j x : Nat}, l[i]? = some x → l[j]? = some x → i = j
  | [], _, i, j, x, hi, _ => by simp at hi
  | a :: r, h, i, j, x, hi, hj => by
    rw [List.nodup_cons] at h
    cases i with
    | zero =>
      cases j with
      | zero => rfl
      | succ j =>
        simp at hi
        subst hi
        exact absurd (List.mem_of_getElem? (by simpa using hj)) h.1
    | succ i =>
      cases j with
      | zero =>
        simp at hj
        subst hj
        exact absurd (List.mem_of_getElem? (by simpa using hi)) h.1
      | succ j => exact congrArg (· + 1) (nodup_inj h.2 (i := i) (j := j) (x := x) (by simpa using hi) (by simpa using hj))
theorem look_putBs : ∀ (ids : List Nat) (B : List Blk) (s : List (Nat × Blk)) (j : Nat), ids.length = B.length → ids.Nodup → look (putBs ids B s) j = if j ∈ ids then B[ids.idxOf j]? else look s j := by
  intro ids
  induction ids with
  | nil => intro B s j hl hn; match B, hl with
    | [], _ => simp [putBs]
  | cons id r ih =>
    intro B s j hl hn
    match B, hl with
    | b :: bs, hl =>
      simp only [putBs, look_putL]
      rw [List.nodup_cons] at hn
      by_cases h1 : id = j
      · subst h1
        simp
      · rw [if_neg h1, ih bs s j (by simpa using hl) hn.2]
        have h2 : j ≠ id := fun e => h1 e.symm
        by_cases h3 : j ∈ r
        · have e : List.idxOf j (id :: r) = List.idxOf j r + 1 := by
            have hb : (id == j) = false := by simpa using h1
            rw [List.idxOf_cons, hb]
            rfl
          rw [if_pos h3, if_pos (List.mem_cons_of_mem _ h3), e, List.getElem?_cons_succ]
        · rw [if_neg h3, if_neg (by simp [h2, h3])]
end
section
variable {P : Program} {n : Nat} {o : Oper} {S : AS} {d : Nat}
/-- What a caller must show of the variables that it hands over. -/
structure Hands (S : AS) (ids : List Nat) (B : List Blk) : Prop where
  len : ids.length = B.length
  nodup : ids.Nodup
  ok : B.all (Blk.okE B.length) = true
  at_ : ∀ (i : Nat) id b, ids[i]? = some id → B[i]? = some b → S.blk id = some (b.ren (sig ids))
theorem sig_at {ids : List Nat} {i id : Nat} (h : ids[i]? = some id) : sig ids (1000 + i) = id := by
  unfold sig
  have e : 1000 + i - 1000 = i := by omega
  rw [e]
  simp [List.getD, h]
def EvOut (m : Nat) (σ : Nat → Nat) (Mu : Nat → Nat → Prop) (ρ : Nat → Value) (w : World) : EV → Ending → Prop
  | .ret x, e => x.okE m = true → ∃ v, e = .returned v ∧ zG Mu ρ w (x.ren σ) v
  | .pan x, e => x.okE m = true → ∃ v, e = .panicked [{ v := v, recovered := false }] ∧ zG Mu ρ w (x.ren σ) v
theorem Blk.okE_turns {b : Blk} {m : Nat} (h : b.okE m = true) (c : Nat) : b.turns c := by
  cases b with
  | lent t s n xs => cases h
  | _ => trivial
theorem Blk.ren_turns {b : Blk} {σ : Nat → Nat} (c : Nat) : (b.ren σ).turns c ↔ b.turns c := by cases b <;> exact Iff.rfl
end
/-! ### Rules -/
section
variable {P : Program} {n : Nat} {o : Oper} {S : AS} {d : Nat} {t : TypeId} {x y : Operand} {ops : Array Oper} {rest : List Oper} {K : Exit → AS → Prop}
theorem a_assignC {f : Nat} {ids : List Nat} (ho : o.op = .assign x) (hx : S.get x = .clo f ids) (hd : o.dst = some d) (hn : d < n) : zJ P n o S [] (.clo f ids) none := hx ▸ a_move (.inr ho) hd hn
/-- a closure is made -/
theorem w_makeFunc {f : Nat} {cs : Array Operand} {ids : List Nat} (ho : o.op = .makeFunc (.func f) #[] cs) (hc : cs.toList.map S.get = ids.map fun i => .ptr i 0) (hd : o.dst = some d) (hn : d < n) : zJ P n o S [] (.clo f ids) none :=
  zJ.pure hd hn fun S2 hg _ M w0 ρ a w hs => by
    refine ⟨.func (.func f) #[] (cs.toList.map a.eval).toArray, w, ?_, Below.refl _ _, .clo f ids _ ?_ fun i k v hk hv => ?_⟩
    · unfold execOp
      rw [ho]
      have e : cs.map a.eval = (cs.toList.map a.eval).toArray := by apply Array.ext'; simp
      simp [Instr.makeFunc, e]
    · have := congrArg List.length hc
      simpa using this
    · rw [List.getElem?_map, Option.map_eq_some_iff] at hv
      obtain ⟨z, hz, rfl⟩ := hv
      have h3 : S.get z = .ptr k 0 := by
        have h4 : (cs.toList.map S.get)[i]? = (ids.map fun i => AV.ptr i 0)[i]? := by rw [hc]
        rw [List.getElem?_map, List.getElem?_map, hz, hk] at h4
        simpa using h4
      have h5 := hs.rep z
      rw [hg z (by rw [ho]; simp only [Op.operands]; simp; exact Array.mem_def.2 (List.mem_of_getElem? hz)), h3] at h5
      obtain ⟨g, h6, h7⟩ := rep_ptr h5
      exact ⟨g, h6, h7⟩
/-- the variables that a closure holds -/
def readIds : List AV → Option (List Nat)
  | [] => some []
  | .ptr i 0 :: r => match readIds r with
    | some l => some (i :: l)
    | none => none
  | _ => none
theorem readIds_spec : ∀ {l : List AV} {ids : List Nat}, readIds l = some ids → l = ids.map fun i => .ptr i 0
  | [], ids, h => by simp only [readIds, Option.some.injEq] at h; subst h; rfl
  | x :: r, ids, h => by
    unfold readIds at h
    split at h
    · rename_i h0; cases h0
    · rename_i i r' h0
      injection h0 with h1 h2
      subst h1
      subst h2
      split at h
      · rename_i l hl
        obtain rfl := Option.some.inj h
        rw [readIds_spec hl]
        rfl
      · cases h
    · cases h
theorem w_mkFunc {f : Nat} {cs : Array Operand} {ids : List Nat} (ho : o.op = .makeFunc (.func f) #[] cs) (hc : readIds (cs.toList.map S.get) = some ids) (hd : o.dst = some d) (hn : d < n) : zJ P n o S [] (.clo f ids) none := w_makeFunc ho (readIds_spec hc) hd hn
/-- what is handed over, variable by variable -/
def AtB (S : AS) (ids : List Nat) : List Nat → List Blk → Prop
  | [], [] => True
  | i :: is, b :: bs => S.blk i = some (b.ren (sig ids)) ∧ AtB S ids is bs
  | _, _ => False
theorem hands_of {ids : List Nat} {B : List Blk} (hn : ids.Nodup) (hok : B.all (Blk.okE B.length) = true) (h : AtB S ids ids B) : Hands S ids B := by
  have key : ∀ (is : List Nat) (bs : List Blk), AtB S ids is bs → is.length = bs.length ∧ ∀ (i : Nat) id b, is[i]? = some id → bs[i]? = some b → S.blk id = some (b.ren (sig ids)) := by
    intro is
    induction is with
    | nil => intro bs h; cases bs with
      | nil => exact ⟨rfl, fun i id b h => by simp at h⟩
      | cons => exact h.elim
    | cons x r ih => intro bs h; cases bs with
      | nil => exact h.elim
      | cons b q =>
        obtain ⟨h1, h2⟩ := ih q h.2
        refine ⟨by simp [h1], fun i id c hi hc => ?_⟩
        cases i with
        | zero => simp at hi hc; subst hi; subst hc; exact h.1
        | succ i => exact h2 i id c (by simpa using hi) (by simpa using hc)
  obtain ⟨h1, h2⟩ := key ids B h
  exact ⟨h1, hn, hok, h2⟩
/-- An operation that is a call, of function f, of such arguments. -/
def Enters (P : Program) (o : Oper) (S : AS) (f : FuncId) (avs : List AV) : Prop :=
  ∀ (M : Nat → Nat → Prop) (n : Nat) (w0 : Home) (ρ : Nat → Value) (a : Act) (w : World), Sat M n w0 S ρ a w → ∃ vs : List Value, (execOp a.eval o).run P w = .ok (.enter f vs.toArray) w ∧ vs.length = avs.length ∧
    ∀ (i : Nat) x v, avs[i]? = some x → vs[i]? = some v → zG (Mut M S ρ) ρ w x v
theorem reps_get {M : Nat → Nat → Prop} {n : Nat} {w0 : Home} {ρ : Nat → Value} {a : Act} {w : World} (hs : Sat M n w0 S ρ a w) (args : List Operand) : ∀ (i : Nat) x v, (args.map S.get)[i]? = some x → (args.map a.eval)[i]? = some v → zG (Mut M S ρ) ρ w x v := by
  intro i x v hx hv
  rw [List.getElem?_map, Option.map_eq_some_iff] at hx hv
  obtain ⟨y, hy, rfl⟩ := hx
  obtain ⟨z, hz, rfl⟩ := hv
  rw [hy] at hz
  obtain rfl := Option.some.inj hz
  exact hs.rep y
theorem enters_fn {f : FuncId} {args : Array Operand} {ts : Array TypeId} [hc : HasFn P f] (ho : o.op = .call { callee := .value (.func f), args := args, argTypes := ts }) : Enters P o S f (args.toList.map S.get) :=
  fun M n w0 ρ a w hs => by
    refine ⟨args.toList.map a.eval, ?_, by simp, reps_get hs args.toList⟩
    have e : (args.toList.map a.eval).toArray = args.map a.eval := by apply Array.ext'; simp
    unfold execOp
    rw [ho, e]
    simp [resolve, Deferred.ofValue, Act.eval, invoke, hc.h]
theorem reps_ren {M : Nat → Nat → Prop} {ρ : Nat → Value} {w : World} {xs avs : List AV} {ids : List Nat} {vs : List Value} (hx : avs = xs.map (AV.ren (sig ids))) (h : ∀ (i : Nat) x v, avs[i]? = some x → vs[i]? = some v → zG M ρ w x v) :
    ∀ (i : Nat) x v, xs[i]? = some x → vs[i]? = some v → zG M ρ w (x.ren (sig ids)) v := fun i x v h1 h2 => h i _ v (by rw [hx, List.getElem?_map, h1]; rfl) h2
theorem zY.ofT (hg : o.guard = none) (h : TStep P n o S K (fun S1 => zY P n ops rest S1 K)) : zY P n ops (o :: rest) S K := by
  intro M w0 ρ a w Q hs hK
  unfold wpList
  rw [if_pos (by simp [Region.wanted, hg])]
  exact .inl (h M w0 ρ a w _ Q hs (fun S1 ρ' a' w' hN hs' => hN M w0 ρ' a' w' Q hs' hK) hK)
theorem zL.ofT (hg : o.guard = none) (h : TStep P n o S K (fun S1 => zL P n K S1 rest)) : zL P n K S (o :: rest) := ⟨hg, h⟩
/-- 'panic(x)' -/
theorem TStep.panic {t : Nat} {y : PV} {N : AS → Prop} (ho : o.op = .panic x) (hx : S.get x = .p (.ifc t y)) (hr : K (.panic []) { S with x := .p (.ifc t y) }) : TStep P n o S K N := by
  intro M w0 ρ a w KK Q hs _ hK
  have h1 := hs.rep x
  rw [hx] at h1
  have h2 := rep_p h1
  obtain ⟨u, hu⟩ : ∃ u, a.eval x = .iface t u := by
    generalize a.eval x = v at h2
    cases h2 with
    | ifc _ _ u h => exact ⟨u, rfl⟩
  have h3 : (execOp a.eval o).run P w = .halt (.panic (a.eval x)) w := by
    unfold execOp
    rw [ho]
    simp only [hu]
    rfl
  unfold Oper.wp
  rw [h3, Oper.upon_panic]
  exact hK (.panic _) _ ρ a w hr ⟨hs.below, hs.out, hs.tab, hs.size, hs.defers, hs.tmps, hs.blks, hs.mine, hs.fix, hs.free, hs.dist⟩ ⟨_, rfl, h1⟩
/-! ### A function's contract out of its body -/
def zipA : Nat → List AV → List (Nat × AV)
  | _, [] => []
  | i, x :: r => (i, x) :: zipA (i + 1) r
theorem look_zipA : ∀ (xs : List AV) (i j : Nat), look (zipA i xs) j = if i ≤ j then xs[j - i]? else none := by
  intro xs
  induction xs with
  | nil => intro i j; simp [zipA, look]
  | cons b r ih =>
    intro i j
    simp only [zipA, look]
    by_cases h1 : i = j
    · subst h1
      simp
    · rw [if_neg h1, ih (i + 1) j]
      by_cases h2 : i ≤ j
      · have e : j - i = (j - (i + 1)) + 1 := by omega
        rw [if_pos h2, if_pos (by omega), e, List.getElem?_cons_succ]
      · rw [if_neg h2, if_neg (by omega)]
inductive GivesA (P : Program) (fn : Func) (S : AS) : AV → Prop
  | none (hr : fn.results = #[]) : GivesA P fn S .any
  | one {t : Nat} {x : AV} (hr : fn.results = #[.tmp t]) (h : S.tmp t = x) : GivesA P fn S x
  | p {r : ResultVar} {x : PV} (hr : fn.results = #[r]) (h : ResV P S r x) : GivesA P fn S (.p x)
  | tup {rs : List ResultVar} {l : List PV} (hr : fn.results = rs.toArray) (hl : rs.length ≠ 1) (h : ResVs P S rs l) : GivesA P fn S (.tup (l.map AV.p))
def HasB (S : AS) (B : List Blk) : Prop := ∀ (i : Nat) b, B[i]? = some b → S.blk (1000 + i) = some b
def EndE (P : Program) (fn : Func) (ev : EV) (B' : List Blk) (e : Exit) (S : AS) : Prop :=
  match ev with
  | .ret x => (e = .ret ∨ e = .normal) ∧ ∃ S', Sub S S' ∧ GivesA P fn S' x ∧ HasB S' B'
  | .pan x => e = .panic [] ∧ S.x = x ∧ HasB S B'
def hasL (S : AS) : Nat → List Blk → Prop
  | _, [] => True
  | i, b :: r => S.blk i = some b ∧ hasL S (i + 1) r
theorem Sat.asB {M : Nat → Nat → Prop} {w0 : Home} {ρ : Nat → Value} {a : Act} {w : World} {B : List Blk} (hs : Sat M n w0 S ρ a w) (hd : w0.d = []) (hb : HasB S B) : Sat M 0 w0 (asB B) ρ noAct w ∧ ∀ k c, Mut M (Proofs.YteppicfkdcofjaaDoor.asB B) ρ k c → Mut M S ρ k c := by
  have hm : ∀ k c, Mut M (Proofs.YteppicfkdcofjaaDoor.asB B) ρ k c → Mut M S ρ k c := by
    rintro k c (hk | ⟨id, b, hb1, hk⟩)
    · exact .inl hk
    · obtain ⟨i, rfl, h1⟩ := yD hb1
      exact .inr ⟨_, b, hb i b h1, hk⟩
  refine ⟨⟨hs.below, hs.out, hs.tab, rfl, hd.symm, fun i => .any _, fun id b hb1 => ?_, fun id b k hb1 hk => ?_, hs.fix, fun k hk => by omega, fun i j bi bj k hi hj h1 h2 => ?_⟩, hm⟩
  · obtain ⟨i, rfl, h1⟩ := yD hb1
    exact (hs.blks _ b (hb i b h1)).mono hm
  · obtain ⟨i, rfl, h1⟩ := yD hb1
    exact hs.mine _ b k (hb i b h1) hk
  · obtain ⟨i', rfl, h3⟩ := yD hi
    obtain ⟨j', rfl, h4⟩ := yD hj
    exact hs.dist _ _ bi bj k (hb i' bi h3) (hb j' bj h4) h1 h2
end
end Go.Proofs.YteppicfkdcofjaaDoor
/- Functions that take an own row, append to it, and hand it back. Generic over the program. -/
namespace Go.Proofs.YteppicfkdcofjaaDoor
set_option maxRecDepth 100000
set_option maxHeartbeats 16000000
open Go Go.RowKit
def asR (b : Blk) : AS := { t := [], s := [(1000, b)] }
/-- Function f, of an own row (its first argument) and pure values: it hands back the row, as b'. -/
def FnR (P : Program) (f : FuncId) (rest : List PV) (b b' : Blk) : Prop :=
  ∀ (M : Nat → Nat → Prop) (h : Home) (ρ : Nat → Value) (vs : List Value), (∀ k, h.t k → zC (ρ 1000) = some k) → (∀ k, h.r k = none) → Sat M 0 h (asR b) ρ noAct h.w → vs.length = rest.length →
    (∀ (i : Nat) x v, rest[i]? = some x → vs[i]? = some v → Rep (Mut M (asR b) ρ) h.w x v) →
    Calls P f (ρ 1000 :: vs).toArray h.w fun e w' => ∃ ρ', e = .returned (ρ' 1000) ∧ Sat M 0 h (asR b') ρ' noAct w'
theorem asR_blk {b c : Blk} {id : Nat} (h : (asR b).blk id = some c) : id = 1000 ∧ c = b := by
  have h1 : (if 1000 = id then some b else none) = some c := h
  split at h1
  · rename_i h2; exact ⟨h2.symm, (Option.some.inj h1).symm⟩
  · cases h1
section
variable {P : Program} {n : Nat} {o : Oper} {S : AS} {d : Nat}
theorem fn_ofR {f : FuncId} {fn : Func} {c : Code} {rest : List PV} {b b' : Blk} {t : Nat} (hf : P.funcs[f]? = some fn) (hb : fn.body = some c) (hn : fn.ntmps = n) (hle : rest.length + 1 ≤ n) (hr : fn.results = #[.tmp t])
    (h : zX P n c { t := zipA 0 (.own 1000 :: rest.map AV.p), s := [(1000, b)] } (fun e S => (e = .ret ∨ e = .normal) ∧ ∃ S', Sub S S' ∧ S'.tmp t = .own 1000 ∧ S'.blk 1000 = some b')) : FnR P f rest b b' := by
  intro M hh ρ vs hT hR hs0 hvl hvs
  refine calls_of_wp hf hb ?_
  have hsat : Sat M n hh { t := zipA 0 (.own 1000 :: rest.map AV.p), s := [(1000, b)] } ρ { tmps := (ρ 1000 :: vs).toArray ++ Array.replicate (fn.ntmps - (ρ 1000 :: vs).toArray.size) undef, defers := [] } hh.w := by
    refine ⟨hs0.below, hs0.out, hs0.tab, by simp; omega, hs0.defers, fun i => ?_, hs0.blks, hs0.mine, hs0.fix, fun k _ => hR k, hs0.dist⟩
    show zG _ _ _ ((look (zipA 0 (.own 1000 :: rest.map AV.p)) i).getD .any) _
    rw [look_zipA]
    simp only [Nat.zero_le, if_true, Nat.sub_zero]
    cases i with
    | zero =>
      have e : ({ tmps := (ρ 1000 :: vs).toArray ++ Array.replicate (fn.ntmps - (ρ 1000 :: vs).toArray.size) undef, defers := [] } : Act).tmps.getD 0 undef = ρ 1000 := by
        simp [Array.getD_eq_getD_getElem?, Array.getElem?_append]
      rw [e]
      exact .own 1000
    | succ i =>
      rw [List.getElem?_cons_succ, List.getElem?_map]
      cases hx : rest[i]? with
      | none => exact .any _
      | some x =>
        have hi : i < vs.length := by rw [hvl]; exact (List.getElem?_eq_some_iff.1 hx).1
        have e : ({ tmps := (ρ 1000 :: vs).toArray ++ Array.replicate (fn.ntmps - (ρ 1000 :: vs).toArray.size) undef, defers := [] } : Act).tmps.getD (i + 1) undef = vs[i] := by
          simp [Array.getD_eq_getD_getElem?, Array.getElem?_append, hi]
        rw [e]
        exact .p (hvs i x vs[i] hx (List.getElem?_eq_getElem hi))
  refine h M hh ρ _ hh.w _ hsat ?_
  rintro e S0 ρ0 a' w' ⟨he, S', hsub, ht, hblk⟩ hs1 _
  obtain ⟨ρ', hs'⟩ := hsub M n hh ρ0 a' w' hs1
  have hv : a'.tmps.getD t undef = ρ' 1000 := by
    have := hs'.tmps t
    rw [ht] at this
    exact own_eq this
  have hm : ∀ k c, Mut M (asR b') ρ' k c → Mut M S' ρ' k c := by
    rintro k c (hk | ⟨id, b1, hb1, hk⟩)
    · exact .inl hk
    · obtain ⟨rfl, rfl⟩ := asR_blk hb1
      exact .inr ⟨1000, _, hblk, hk⟩
  have fin : a'.defers = [] ∧ ∃ v, (results fn a'.tmps).run P w' = .ok v w' ∧ (∃ ρ', Ending.returned v = .returned (ρ' 1000) ∧ Sat M 0 hh (asR b') ρ' noAct w') := by
    refine ⟨hs'.defers.trans hs0.defers.symm, _, results_tmp hr _ _ _, ρ', by rw [hv], ⟨hs'.below, hs'.out, hs'.tab, rfl, hs0.defers, fun i => .any _, fun id b1 hb1 => ?_, fun id b1 k hb1 hk => ?_, hs'.fix, fun k _ => hR k, fun i j bi bj k hi hj h1 h2 => ?_⟩⟩
    · obtain ⟨rfl, rfl⟩ := asR_blk hb1
      exact (hs'.blks 1000 _ hblk).mono hm
    · obtain ⟨rfl, rfl⟩ := asR_blk hb1
      exact hs'.mine 1000 _ k hblk hk
    · rw [(asR_blk hi).1, (asR_blk hj).1]
  cases e with
  | ret => exact fin
  | normal => exact fin
  | exit id => rcases he with h | h <;> cases h
  | goto l => rcases he with h | h <;> cases h
  | panic c => rcases he with h | h <;> cases h
  | outgrown => rcases he with h | h <;> cases h
/-- where an own row lies -/
theorem row_blk {M : Nat → Nat → Prop} {B : Nat} {ρ : Nat → Value} {w : World} {v : Value} {t sz m : Nat} {cs : List PV} (h : yX M B ρ w v (.prow t sz m cs)) : zC v = v.ownBlock := by
  obtain ⟨ys, ho, _⟩ := h
  exact own_slice ho
/-- The call, run, of a row's value v0: what holds behind it. -/
theorem call_row {f : FuncId} {rest : List PV} {t sz m t' sz' m' : Nat} {cs cs' : List PV} (hf : FnR P f rest (.prow t sz m cs) (.prow t' sz' m' cs')) (hval : ∀ c ∈ cs', ∃ v, c = .val v) {M : Nat → Nat → Prop} {w0 : Home} {ρ : Nat → Value} {a : Act} {w : World} (hs : Sat M n w0 S ρ a w) {v0 : Value} {vs : List Value}
    (hrow : ∀ k c, v0.ownBlock = some k → Mut M S ρ k c) (hown : yX (Mut M S ρ) 0 ρ w v0 (.prow t sz m cs)) (hvl : vs.length = rest.length) (hvs : ∀ (i : Nat) x v, rest[i]? = some x → vs[i]? = some v → Rep (Mut M S ρ) w x v) :
    Calls P f (v0 :: vs).toArray w fun e w' => ∃ v', e = .returned v' ∧ w.grownBy w' v0.ownBlock ∧ (∀ k, zC v' = some k → w.heap.size ≤ k ∨ v0.ownBlock = some k) ∧ yX (fun k c => Mut M S ρ k c ∨ (zC v' = some k ∧ (Blk.prow t' sz' m' cs').turns c)) 0 ρ w' v' (.prow t' sz' m' cs') := by
  have hb0 := row_blk hown
  let T : Nat → Prop := fun k => zC v0 = some k
  have T_mut : ∀ k c, T k → Mut M S ρ k c := fun k c hk => hrow k c (hb0 ▸ hk)
  let M' : Nat → Nat → Prop := fun k c => Mut M S ρ k c ∧ ¬ T k
  let h : Home := ⟨w, T, hs.lays, (fun g hg ht => hs.tabs g 0 hg (T_mut g 0 ht)), (fun _ => none), (fun _ _ h => by cases h), (fun _ _ => rfl), []⟩
  have mutc : ∀ k c, Mut M' (asR (.prow t sz m cs)) (fun _ => v0) k c → Mut M S ρ k c := by
    rintro k c (hk | ⟨id, b, hb, hk, _⟩)
    · exact hk.1
    · exact T_mut k c hk
  have cells : ∀ {ρ1 ρ2 : Nat → Value} {M1 M2 : Nat → Nat → Prop} {w1 : World} {xs : List PV} {ys : List Value}, zD M1 ρ1 w1 (xs.map AV.p) ys → (∀ k c, k < w1.heap.size → M2 k c → M1 k c) → zD M2 ρ2 w1 (xs.map AV.p) ys := by
    intro ρ1 ρ2 M1 M2 w1 xs ys hc hM
    refine ⟨hc.len, fun i c v h1 h2 => ?_, hc.one⟩
    have h3 := hc.each i c v h1 h2
    rw [List.getElem?_map, Option.map_eq_some_iff] at h1
    obtain ⟨y, _, rfl⟩ := h1
    cases h3 with
    | p h4 => exact .p (h4.mono hM)
  have hsat : Sat M' 0 h (asR (.prow t sz m cs)) (fun _ => v0) noAct h.w := by
    refine ⟨yV.refl h, fun k c hk hh2 => ?_, fun g c hg hk => hs.tabs g c hg hk.1, rfl, rfl, fun i => .any _, fun id b hb => ?_, fun id b k hb hk => .inr hk, (fun k v hk => by cases hk), (fun k hk => by omega), (fun i j bi bj k hi hj h1 h2 => by rw [(asR_blk hi).1, (asR_blk hj).1])⟩
    · rcases hh2 with hh2 | hh2
      · exact absurd (Mut.lt hs hk.1) (Nat.not_lt.2 hh2)
      · exact hk.2 hh2
    · obtain ⟨rfl, rfl⟩ := asR_blk hb
      obtain ⟨ys, ho, hc⟩ := hown
      exact ⟨ys, ho, cells hc fun k c _ hk => mutc k c hk⟩
  refine (hf M' h (fun _ => v0) vs (fun k hk => hk) (fun _ => rfl) hsat hvl fun i x v h1 h2 => (hvs i x v h1 h2).mono fun k c _ hk => mutc k c hk).mono ?_
  rintro e w' ⟨ρ2, rfl, hs2⟩
  have hg : w.grownBy w' v0.ownBlock := ⟨hs2.below.os, hs2.below.tape, hs2.below.output, hs2.below.size, fun k hk hne => hs2.below.block k hk (fun ht => hne (by rw [← hb0]; exact ht.symm))⟩
  have hblk : (asR (.prow t' sz' m' cs')).blk 1000 = some (.prow t' sz' m' cs') := rfl
  refine ⟨ρ2 1000, rfl, hg, fun k hk => ?_, ?_⟩
  · rcases hs2.mine 1000 _ k hblk hk with h1 | h1
    · exact .inl h1
    · exact .inr (by rw [← hb0]; exact h1)
  · obtain ⟨ys, ho, hc⟩ := hs2.blks 1000 _ hblk
    refine ⟨ys, ho, hc.len, fun i c v h1 h2 => ?_, hc.one⟩
    have h3 := hc.each i c v h1 h2
    rw [List.getElem?_map, Option.map_eq_some_iff] at h1
    obtain ⟨y, hy, rfl⟩ := h1
    obtain ⟨u, rfl⟩ := hval y (List.mem_of_getElem? hy)
    cases h3 with
    | p h4 => cases h4; exact .p (.val _)
/-- the operands of a call by a contract on a row -/
def rowArgs (S : AS) (args : Array Operand) (x : Operand) (rest : List PV) : Prop := ∃ r, args.toList = x :: r ∧ r.map S.get = rest.map AV.p
theorem reps_rest {M : Nat → Nat → Prop} {w0 : Home} {ρ : Nat → Value} {a : Act} {w : World} (hs : Sat M n w0 S ρ a w) {r : List Operand} {rest : List PV} (h : r.map S.get = rest.map AV.p) : ∀ (i : Nat) x v, rest[i]? = some x → (r.map a.eval)[i]? = some v → Rep (Mut M S ρ) w x v := by
  intro i x v hx hv
  rw [List.getElem?_map, Option.map_eq_some_iff] at hv
  obtain ⟨y, hy, rfl⟩ := hv
  have h3 : S.get y = .p x := by
    have h4 : (r.map S.get)[i]? = (rest.map AV.p)[i]? := by rw [h]
    rw [List.getElem?_map, List.getElem?_map, hy, hx] at h4
    simpa using h4
  exact yA hs h3
/-- The call with an own row. -/
theorem s_callR {f : FuncId} {args : Array Operand} {ts : Array TypeId} {x : Operand} {id : Nat} {rest : List PV} {t sz m t' sz' m' : Nat} {cs cs' : List PV} [hc : HasFn P f] (hf : FnR P f rest (.prow t sz m cs) (.prow t' sz' m' cs')) (hval : ∀ c ∈ cs', ∃ v, c = .val v)
    (ho : o.op = .call { callee := .value (.func f), args := args, argTypes := ts }) (ha : rowArgs S args x rest) (hx : S.get x = .own id) (hb : S.blk id = some (.prow t sz m cs)) (hd : o.dst = some d) (hn : d < n) :
    Step P n o S ((S.create id (.prow t' sz' m' cs')).put d (.own id)) := by
  intro M w0 ρ a w K Q hs hK
  obtain ⟨r, har, hr⟩ := ha
  have h1 := hs.rep x
  rw [hx] at h1
  have hv0 := own_eq h1
  have hown := hs.blks id _ hb
  have hb0 := row_blk hown
  have hrun : (execOp a.eval o).run P w = .ok (.enter f (ρ id :: r.map a.eval).toArray) w := by
    have e : (args.map a.eval) = (ρ id :: r.map a.eval).toArray := by
      apply Array.ext'
      rw [Array.toList_map, har, List.map_cons, hv0]
    unfold execOp
    rw [ho, ← e]
    simp [resolve, Deferred.ofValue, Act.eval, invoke, hc.h]
  unfold Oper.wp
  rw [hrun, Oper.upon_enter]
  refine (call_row hf hval hs (fun k c hk => .inr ⟨id, _, hb, by rw [hb0]; exact hk, trivial⟩) hown (by simpa using congrArg List.length hr) (reps_rest hs hr)).mono ?_
  rintro e w' ⟨v', rfl, hg, hnew, hok⟩
  show K (a.put o.dst v') w'
  rw [hd]
  have hfree : w0.r id = none := by
    obtain ⟨ys, ho2, _⟩ := hown
    exact row_free hs ho2
  have hs' := hs.change id (.prow t' sz' m' cs') v' (ρ id).ownBlock hfree hg (fun k hk => ⟨_, hb, by rw [hb0]; exact hk, fun _ _ => trivial, fun _ h => (h trivial).elim⟩) hnew hok
  refine hK _ _ w' (hs'.put hn ?_)
  have := zG.own (M := Mut M (S.create id (.prow t' sz' m' cs')) (upd ρ id v')) (ρ := upd ρ id v') (w := w') id
  simpa [upd] using this
/-- The call with nil: a row of the frame's own is made. -/
theorem s_callRnil {f : FuncId} {args : Array Operand} {ts : Array TypeId} {x : Operand} {rest : List PV} {t sz t' sz' m' : Nat} {cs' : List PV} [hc : HasFn P f] (hf : FnR P f rest (.prow t sz 0 []) (.prow t' sz' m' cs')) (hval : ∀ c ∈ cs', ∃ v, c = .val v)
    (ho : o.op = .call { callee := .value (.func f), args := args, argTypes := ts }) (ha : rowArgs S args x rest) (hx : S.get x = .p (.val (.slice none 0 0))) (hd : o.dst = some d) (hn : d < n) :
    Step P n o S ((S.create d (.prow t' sz' m' cs')).put d (.own d)) := by
  intro M w0 ρ a w K Q hs hK
  obtain ⟨r, har, hr⟩ := ha
  have hv0 := hs.val hx
  have hown : yX (Mut M S ρ) 0 ρ w (.slice none 0 0) (.prow t sz 0 []) := ⟨[], World.ownsRow_nil w _ t sz, rfl, (fun i c v h => by simp at h), (fun v h => by simp at h)⟩
  have hrun : (execOp a.eval o).run P w = .ok (.enter f (.slice none 0 0 :: r.map a.eval).toArray) w := by
    have e : (args.map a.eval) = (Value.slice none 0 0 :: r.map a.eval).toArray := by
      apply Array.ext'
      rw [Array.toList_map, har, List.map_cons, hv0]
    unfold execOp
    rw [ho, ← e]
    simp [resolve, Deferred.ofValue, Act.eval, invoke, hc.h]
  unfold Oper.wp
  rw [hrun, Oper.upon_enter]
  refine (call_row hf hval hs (fun k c hk => by cases hk) hown (by simpa using congrArg List.length hr) (reps_rest hs hr)).mono ?_
  rintro e w' ⟨v', rfl, hg, hnew, hok⟩
  show K (a.put o.dst v') w'
  rw [hd]
  have hs' := hs.change d (.prow t' sz' m' cs') v' none (hs.free d hn) ⟨hg.os, hg.tape, hg.output, hg.size, fun k hk _ => hg.block k hk (fun e => by cases e)⟩ (fun k hk => by cases hk) (fun k hk => (hnew k hk).elim .inl (fun e => by cases e)) hok
  refine hK _ _ w' (hs'.put hn ?_)
  have := zG.own (M := Mut M (S.create d (.prow t' sz' m' cs')) (upd ρ d v')) (ρ := upd ρ d v') (w := w') d
  simpa [upd] using this
end
end Go.Proofs.YteppicfkdcofjaaDoor
/- Contracts of the leaf functions: keys and stamps. -/
namespace Go.Proofs.YteppicfkdcofjaaDoor
set_option maxRecDepth 100000
set_option maxHeartbeats 16000000
open Go.RowKit
def stampB (n : Int) : Bool := decide (0 < n ∧ n < 4611686018427387904)
def rightB (k : Int) : Bool := decide (k / 2147483648 < 1073741824 ∧ k % 2147483648 ≤ 1073741824)
theorem and_mask31 (n : Int) (h0 : 0 ≤ n) (h1 : n < 18446744073709551616) : bits .and .u64 n 2147483647 = n % 2147483648 := by
  obtain ⟨k, rfl⟩ := Int.eq_ofNat_of_zero_le h0
  have h := bits_and_u64_nat k 2147483647 (by omega) (by omega)
  have e : k &&& 2147483647 = k % 2147483648 := Nat.and_two_pow_sub_one_eq_mod k 31
  rw [e] at h
  exact h
theorem stampB_yes {n : Int} (h : 0 < n) : stampB n = decide (n < 4611686018427387904) := by simp [stampB, h]
theorem stampB_yes' {n : Int} (h : 1 ≤ n) : stampB n = decide (n ≤ 4611686018427387903) := by
  unfold stampB
  rw [decide_eq_decide]
  omega
theorem stampB_no {n : Int} (h : n ≤ 0) : stampB n = false := by
  unfold stampB
  rw [decide_eq_false_iff_not]
  omega
theorem rightB_yes {n : Int} (h : n / 2147483648 < 1073741824) : rightB n = decide (n % 2147483648 ≤ 1073741824) := by simp [rightB, h]
theorem rightB_no {n : Int} (h : 1073741824 ≤ n / 2147483648) : rightB n = false := by
  unfold rightB
  rw [decide_eq_false_iff_not]
  omega
end Go.Proofs.YteppicfkdcofjaaDoor
/- trial -/
namespace Go.Proofs.YteppicfkdcofjaaDoor
set_option maxRecDepth 100000
set_option maxHeartbeats 16000000
open Go Go.RowKit
attribute [local irreducible] zY zX Step zJ Sub zL Fn
theorem eqB {a b : Bool} (h : a = b) : PV.val (.bool a) = PV.val (.bool b) := by rw [h]
theorem stamp_fn (n : Int) : Fn Tryd.prog 17 [.val (.int .u64 n)] (.p (.val (.bool (stampB n)))) := by
  refine fn_of Tryd.func17 rfl Tryd.ntmps17 (Nat.le_of_ble_eq_true rfl) ?_
  repeat' ((refine zX.is ?_; first | refine zX.seq ?_ | (refine zX.isR (id := 0) ?_; refine zX.zQ [0] [] (by repeat' first | exact zZ.nil | apply zZ.p rfl) (by repeat' exact zW.nil) ?_; (refine zY.v rfl rfl (zK rfl rfl rfl (by decide)) ?_); refine zY.nil ?_) | (refine zX.isR (id := 1) ?_; refine zX.zQ [0, 2] [] (by repeat' first | exact zZ.nil | apply zZ.p rfl) (by repeat' exact zW.nil) ?_; all_goals (refine zY.v rfl rfl (zV rfl rfl rfl (by decide)) ?_); all_goals (refine zY.v rfl rfl (r_gtr rfl rfl rfl (by rfl) rfl (by decide)) ?_); all_goals (refine zY.v rfl rfl (zV rfl rfl rfl (by decide)) ?_); all_goals (((fail_if_success refine zY.known rfl rfl rfl (by fail) ?_); refine zY.split rfl rfl rfl (fun h => ?_) (fun h => ?_) <;> first | refine zY.gY rfl rfl (by decide) rfl (by assumption) rfl (by decide) (zV rfl rfl rfl (by decide)) ?_ | refine zY.gnT rfl rfl (by decide) rfl (by assumption) rfl (by decide) ?_)); all_goals (first | refine zY.gY rfl rfl (by decide) rfl (by assumption) rfl (by decide) (yL rfl rfl rfl (by rfl) rfl (by decide)) ?_ | refine zY.gnT rfl rfl (by decide) rfl (by assumption) rfl (by decide) ?_); all_goals (refine zY.v rfl rfl (by first | exact zN rfl rfl (by assumption) rfl rfl (by decide) | exact zP rfl rfl (by assumption) rfl rfl (by decide)) ?_); all_goals (refine zY.v rfl rfl (zK rfl rfl rfl (by decide)) ?_); all_goals (refine zY.nil ?_)) | refine zX.ret ?_))
  all_goals refine ⟨.inl rfl, gives1 rfl rfl (eqB ?_)⟩
  all_goals simp only [decide_eq_true_eq, decide_eq_false_iff_not] at *
  · exact (stampB_yes (by omega)).symm
  · exact (stampB_no (by omega)).symm
theorem stampRef_fn (n : Int) : Fn Tryd.prog 12 [.val (.int .u64 n)] (.p (.val (.bool (stampB n)))) := by
  refine fn_of Tryd.func12 rfl Tryd.ntmps12 (Nat.le_of_ble_eq_true rfl) ?_
  repeat' ((refine zX.is ?_; first | refine zX.seq ?_ | (refine zX.isR (id := 0) ?_; refine zX.zQ [0] [] (by repeat' first | exact zZ.nil | apply zZ.p rfl) (by repeat' exact zW.nil) ?_; (refine zY.v rfl rfl (zK rfl rfl rfl (by decide)) ?_); refine zY.nil ?_) | (refine zX.isR (id := 1) ?_; refine zX.zQ [0, 2] [] (by repeat' first | exact zZ.nil | apply zZ.p rfl) (by repeat' exact zW.nil) ?_; all_goals (refine zY.v rfl rfl (zV rfl rfl rfl (by decide)) ?_); all_goals (refine zY.v rfl rfl (r_geq rfl rfl rfl (by rfl) rfl (by decide)) ?_); all_goals (refine zY.v rfl rfl (zV rfl rfl rfl (by decide)) ?_); all_goals (((fail_if_success refine zY.known rfl rfl rfl (by fail) ?_); refine zY.split rfl rfl rfl (fun h => ?_) (fun h => ?_) <;> first | refine zY.gY rfl rfl (by decide) rfl (by assumption) rfl (by decide) (zV rfl rfl rfl (by decide)) ?_ | refine zY.gnT rfl rfl (by decide) rfl (by assumption) rfl (by decide) ?_)); all_goals (first | refine zY.gY rfl rfl (by decide) rfl (by assumption) rfl (by decide) (r_leq rfl rfl rfl (by rfl) rfl (by decide)) ?_ | refine zY.gnT rfl rfl (by decide) rfl (by assumption) rfl (by decide) ?_); all_goals (refine zY.v rfl rfl (by first | exact zN rfl rfl (by assumption) rfl rfl (by decide) | exact zP rfl rfl (by assumption) rfl rfl (by decide)) ?_); all_goals (refine zY.v rfl rfl (zK rfl rfl rfl (by decide)) ?_); all_goals (refine zY.nil ?_)) | refine zX.ret ?_))
  all_goals refine ⟨.inl rfl, gives1 rfl rfl (eqB ?_)⟩
  all_goals simp only [decide_eq_true_eq, decide_eq_false_iff_not] at *
  · exact (stampB_yes' (by omega)).symm
  · exact (stampB_no (by omega)).symm
theorem right_fn (n : Int) (h0 : 0 ≤ n) (h1 : n < 18446744073709551616) : Fn Tryd.prog 18 [.val (.int .u64 n)] (.p (.val (.bool (rightB n)))) := by
  have hm := and_mask31 n h0 h1
  refine fn_of Tryd.func18 rfl Tryd.ntmps18 (Nat.le_of_ble_eq_true rfl) ?_
  repeat' ((refine zX.is ?_; first | refine zX.seq ?_ | (refine zX.isR (id := 0) ?_; refine zX.zQ [0] [] (by repeat' first | exact zZ.nil | apply zZ.p rfl) (by repeat' exact zW.nil) ?_; (refine zY.v rfl rfl (zK rfl rfl rfl (by decide)) ?_); refine zY.nil ?_) | (refine zX.isR (id := 1) ?_; refine zX.zQ [0, 2] [] (by repeat' first | exact zZ.nil | apply zZ.p rfl) (by repeat' exact zW.nil) ?_; all_goals (refine zY.v rfl rfl (zV rfl rfl rfl (by decide)) ?_); all_goals (refine zY.v rfl rfl (by exact a_shr rfl rfl rfl (by decide) (by decide) (by (simp only [Int.reduceToNat, Int.reducePow]; rfl)) rfl (by decide)) ?_); all_goals (refine zY.v rfl rfl (yL rfl rfl rfl (by rfl) rfl (by decide)) ?_); all_goals (refine zY.v rfl rfl (zV rfl rfl rfl (by decide)) ?_); all_goals (((fail_if_success refine zY.known rfl rfl rfl (by fail) ?_); refine zY.split rfl rfl rfl (fun h => ?_) (fun h => ?_) <;> first | refine zY.gY rfl rfl (by decide) rfl (by assumption) rfl (by decide) (zV rfl rfl rfl (by decide)) ?_ | refine zY.gnT rfl rfl (by decide) rfl (by assumption) rfl (by decide) ?_)); all_goals (first | refine zY.gY rfl rfl (by decide) rfl (by assumption) rfl (by decide) (by exact a_and rfl rfl rfl (by exact hm) rfl (by decide)) ?_ | refine zY.gnT rfl rfl (by decide) rfl (by assumption) rfl (by decide) ?_); all_goals (first | refine zY.gY rfl rfl (by decide) rfl (by assumption) rfl (by decide) (r_leq rfl rfl rfl (by rfl) rfl (by decide)) ?_ | refine zY.gnT rfl rfl (by decide) rfl (by assumption) rfl (by decide) ?_); all_goals (refine zY.v rfl rfl (by first | exact zN rfl rfl (by assumption) rfl rfl (by decide) | exact zP rfl rfl (by assumption) rfl rfl (by decide)) ?_); all_goals (refine zY.v rfl rfl (zK rfl rfl rfl (by decide)) ?_); all_goals (refine zY.nil ?_)) | refine zX.ret ?_))
  all_goals refine ⟨.inl rfl, gives1 rfl rfl (eqB ?_)⟩
  all_goals simp only [decide_eq_true_eq, decide_eq_false_iff_not] at *
  · exact (rightB_yes (by omega)).symm
  · exact (rightB_no (by omega)).symm
theorem split_fn (n : Int) (h0 : 0 ≤ n) (h1 : n < 18446744073709551616) : Fn Tryd.prog 19 [.val (.int .u64 n)] (.tup [.val (.int .i64 (n / 2147483648)), .val (.int .i64 (n % 2147483648 - 1))]) := by
  have hm := and_mask31 n h0 h1
  refine fn_of Tryd.func19 rfl Tryd.ntmps19 (Nat.le_of_ble_eq_true rfl) ?_
  repeat' ((refine zX.is ?_; first | refine zX.seq ?_ | (refine zX.isR (id := 0) ?_; refine zX.zQ [0] [] (by repeat' first | exact zZ.nil | apply zZ.p rfl) (by repeat' exact zW.nil) ?_; (refine zY.v rfl rfl (zK rfl rfl rfl (by decide)) ?_); (refine zY.v rfl rfl (zK rfl rfl rfl (by decide)) ?_); refine zY.nil ?_) | (refine zX.isR (id := 1) ?_; refine zX.zQ [0, 2, 3] [] (by repeat' first | exact zZ.nil | apply zZ.p rfl) (by repeat' exact zW.nil) ?_; (refine zY.v rfl rfl (zV rfl rfl rfl (by decide)) ?_); (refine zY.v rfl rfl (by exact a_shr rfl rfl rfl (by decide) (by decide) (by (simp only [Int.reduceToNat, Int.reducePow]; rfl)) rfl (by decide)) ?_); (refine zY.v rfl rfl (by exact y9 rfl rfl (by exact wrap_i64 _ (by omega)) rfl (by decide)) ?_); (refine zY.v rfl rfl (zV rfl rfl rfl (by decide)) ?_); (refine zY.v rfl rfl (by exact a_and rfl rfl rfl (by exact hm) rfl (by decide)) ?_); (refine zY.v rfl rfl (by exact y9 rfl rfl (by exact wrap_i64 _ (by omega)) rfl (by decide)) ?_); (refine zY.v rfl rfl (by exact a_sub rfl rfl rfl (by exact wrap_i64 _ (by omega)) rfl (by decide)) ?_); (refine zY.v rfl rfl (zK rfl rfl rfl (by decide)) ?_); (refine zY.v rfl rfl (zK rfl rfl rfl (by decide)) ?_); refine zY.nil ?_) | refine zX.ret ?_))
  all_goals refine ⟨.inl rfl, givesT (ts := [2, 3]) rfl (by decide) rfl⟩
theorem rightRef_fn (n : Int) (h0 : 0 ≤ n) (h1 : n < 18446744073709551616) : Fn Tryd.prog 11 [.val (.int .u64 n)] (.p (.val (.bool (rightB n)))) := by
  have hq : n.tdiv 2147483648 = n / 2147483648 := Int.tdiv_eq_ediv_of_nonneg h0
  have hr : n.tmod 2147483648 = n % 2147483648 := Int.tmod_eq_emod_of_nonneg h0
  have hw : IntKind.u64.wrap (n.tdiv 2147483648) = n / 2147483648 := by rw [hq]; exact wrap_u64 _ (by omega)
  refine fn_of Tryd.func11 rfl Tryd.ntmps11 (Nat.le_of_ble_eq_true rfl) ?_
  repeat' ((refine zX.is ?_; first | refine zX.seq ?_ | (refine zX.isR (id := 0) ?_; refine zX.zQ [0] [] (by repeat' first | exact zZ.nil | apply zZ.p rfl) (by repeat' exact zW.nil) ?_; (refine zY.v rfl rfl (zK rfl rfl rfl (by decide)) ?_); refine zY.nil ?_) | (refine zX.isR (id := 1) ?_; refine zX.zQ [0, 2] [] (by repeat' first | exact zZ.nil | apply zZ.p rfl) (by repeat' exact zW.nil) ?_; all_goals (refine zY.v rfl rfl (zV rfl rfl rfl (by decide)) ?_); all_goals (refine zY.v rfl rfl (by exact a_quo rfl rfl rfl (by decide) (by exact hw) rfl (by decide)) ?_); all_goals (refine zY.v rfl rfl (r_leq rfl rfl rfl (by rfl) rfl (by decide)) ?_); all_goals (refine zY.v rfl rfl (zV rfl rfl rfl (by decide)) ?_); all_goals (((fail_if_success refine zY.known rfl rfl rfl (by fail) ?_); refine zY.split rfl rfl rfl (fun h => ?_) (fun h => ?_) <;> first | refine zY.gY rfl rfl (by decide) rfl (by assumption) rfl (by decide) (zV rfl rfl rfl (by decide)) ?_ | refine zY.gnT rfl rfl (by decide) rfl (by assumption) rfl (by decide) ?_)); all_goals (first | refine zY.gY rfl rfl (by decide) rfl (by assumption) rfl (by decide) (by exact a_rem rfl rfl rfl (by decide) (by exact hr) rfl (by decide)) ?_ | refine zY.gnT rfl rfl (by decide) rfl (by assumption) rfl (by decide) ?_); all_goals (first | refine zY.gY rfl rfl (by decide) rfl (by assumption) rfl (by decide) (r_leq rfl rfl rfl (by rfl) rfl (by decide)) ?_ | refine zY.gnT rfl rfl (by decide) rfl (by assumption) rfl (by decide) ?_); all_goals (refine zY.v rfl rfl (by first | exact zN rfl rfl (by assumption) rfl rfl (by decide) | exact zP rfl rfl (by assumption) rfl rfl (by decide)) ?_); all_goals (refine zY.v rfl rfl (zK rfl rfl rfl (by decide)) ?_); all_goals (refine zY.nil ?_)) | refine zX.ret ?_))
  all_goals refine ⟨.inl rfl, gives1 rfl rfl (eqB ?_)⟩
  all_goals simp only [decide_eq_true_eq, decide_eq_false_iff_not] at *
  · exact (rightB_yes (by omega)).symm
  · exact (rightB_no (by omega)).symm
end Go.Proofs.YteppicfkdcofjaaDoor
/- Contracts of May, both: which entries may be. -/
namespace Go.Proofs.YteppicfkdcofjaaDoor
set_option maxRecDepth 100000
set_option maxHeartbeats 16000000
open Go.RowKit
def xB (k s y u v x : Int) : Bool :=
  if k = 1 then stampB s && rightB y && (if y % 2147483648 = 0 then decide (u = 0 ∧ v = 0) else stampB u && stampB v)
  else if k = 2 then stampB s && decide (y = 0 ∧ u = 0 ∧ v = 0 ∧ x = 0)
  else if k = 3 then decide (s ≤ 65536) && decide (y = 0 ∧ u = 0 ∧ v = 0 ∧ x = 0)
  else false
end Go.Proofs.YteppicfkdcofjaaDoor
/- May, both, as contracts. -/
namespace Go.Proofs.YteppicfkdcofjaaDoor
set_option maxRecDepth 100000
set_option maxHeartbeats 16000000
open Go Go.RowKit
attribute [local irreducible] zY zX Step zJ Sub zL Fn
/-- an entry, as it is passed -/
def entV (k s y u v x : Int) : PV := .agg [.val (.int .i64 k), .val (.int .u64 s), .val (.int .u64 y), .val (.int .u64 u), .val (.int .u64 v), .val (.int .u64 x)]
theorem may_fn (k s y u v x : Int) (h0 : 0 ≤ y) (h1 : y < 18446744073709551616) : Fn Tryd.prog 10 [entV k s y u v x] (.p (.val (.bool (xB k s y u v x)))) := by
  refine fn_of Tryd.func10 rfl Tryd.ntmps10 (Nat.le_of_ble_eq_true rfl) ?_
  repeat' (first | (refine zX.is ?_; first | refine zX.seq ?_ | (refine zX.isR (id := 0) ?_; refine zX.zQ [0] [1] (by repeat' first | exact zZ.nil | apply zZ.p rfl) (by repeat' first | exact zW.nil | apply zW.skip) ?_; (refine zY.m rfl rfl (w_boxA rfl rfl rfl (by decide)) ?_); (refine zY.v rfl rfl (zK rfl rfl rfl (by decide)) ?_); refine zY.nil ?_) | (refine zX.isR (id := 1) ?_; refine zX.zQ [1, 2] [1] (by repeat' first | exact zZ.nil | apply zZ.p rfl | apply zZ.ptr rfl) (by repeat' first | exact zW.nil | apply zW.boxP rfl rfl) ?_; (refine zY.v rfl rfl (zH rfl rfl rfl (by decide)) ?_); (refine zY.v rfl rfl (zB rfl rfl rfl rfl rfl (by decide)) ?_); refine zY.nil ?_) | (refine zX.isR (id := 2) ?_; refine zX.zQ [1, 2, 6] [1] (by repeat' first | exact zZ.nil | apply zZ.p rfl | apply zZ.ptr rfl) (by repeat' first | exact zW.nil | apply zW.boxP rfl rfl) ?_; (refine zY.v rfl rfl (r_eql rfl rfl rfl (by rfl) rfl (by decide)) ?_); (refine zY.v rfl rfl (zK rfl rfl rfl (by decide)) ?_); refine zY.nil ?_) | (refine zX.isR (id := 3) ?_; refine zX.zQ [1, 2, 6] [1] (by repeat' first | exact zZ.nil | apply zZ.p rfl | apply zZ.ptr rfl) (by repeat' first | exact zW.nil | apply zW.boxP rfl rfl) ?_; all_goals (refine zY.v rfl rfl (zH rfl rfl rfl (by decide)) ?_); all_goals (refine zY.v rfl rfl (zB rfl rfl rfl rfl rfl (by decide)) ?_); all_goals (refine zY.v rfl rfl (by exact zU (stamp_fn _) rfl rfl rfl (by decide)) ?_); all_goals (refine zY.v rfl rfl (r_notB rfl rfl (by rfl) rfl (by decide)) ?_); all_goals (refine zY.v rfl rfl (zV rfl rfl rfl (by decide)) ?_); all_goals (((fail_if_success refine zY.known rfl rfl rfl (by fail) ?_); refine zY.split rfl rfl rfl (fun h => ?_) (fun h => ?_) <;> first | refine zY.gY rfl rfl (by decide) rfl (by assumption) rfl (by decide) (zH rfl rfl rfl (by decide)) ?_ | refine zY.gnF rfl rfl (by decide) rfl (by assumption) rfl (by decide) ?_)); all_goals (first | refine zY.gY rfl rfl (by decide) rfl (by assumption) rfl (by decide) (zB rfl rfl rfl rfl rfl (by decide)) ?_ | refine zY.gnF rfl rfl (by decide) rfl (by assumption) rfl (by decide) ?_); all_goals (first | refine zY.gY rfl rfl (by decide) rfl (by assumption) rfl (by decide) (by exact zU (right_fn _ h0 h1) rfl rfl rfl (by decide)) ?_ | refine zY.gnF rfl rfl (by decide) rfl (by assumption) rfl (by decide) ?_); all_goals (first | refine zY.gY rfl rfl (by decide) rfl (by assumption) rfl (by decide) (r_notB rfl rfl (by rfl) rfl (by decide)) ?_ | refine zY.gnF rfl rfl (by decide) rfl (by assumption) rfl (by decide) ?_); all_goals (refine zY.v rfl rfl (by first | exact zN rfl rfl (by assumption) rfl rfl (by decide) | exact zP rfl rfl (by assumption) rfl rfl (by decide)) ?_); all_goals (refine zY.nil ?_)) | (refine zX.isR (id := 4) ?_; refine zX.zQ [1, 2, 6] [1] (by repeat' first | exact zZ.nil | apply zZ.p rfl | apply zZ.ptr rfl) (by repeat' first | exact zW.nil | apply zW.boxP rfl rfl) ?_; (refine zY.v rfl rfl (zK rfl rfl rfl (by decide)) ?_); refine zY.nil ?_) | (refine zX.isR (id := 5) ?_; refine zX.zQ [1, 2, 6] [1] (by repeat' first | exact zZ.nil | apply zZ.p rfl | apply zZ.ptr rfl) (by repeat' first | exact zW.nil | apply zW.boxP rfl rfl) ?_; (refine zY.v rfl rfl (zH rfl rfl rfl (by decide)) ?_); (refine zY.v rfl rfl (zB rfl rfl rfl rfl rfl (by decide)) ?_); (refine zY.v rfl rfl (by exact w_callT (split_fn _ h0 h1) rfl rfl rfl (by decide)) ?_); (refine zY.v rfl rfl (a_moveT rfl rfl rfl (by decide)) ?_); (refine zY.v rfl rfl (zO rfl rfl rfl rfl (by decide)) ?_); (refine zY.v rfl rfl (zO rfl rfl rfl rfl (by decide)) ?_); (refine zY.v rfl rfl (zK rfl rfl rfl (by decide)) ?_); (refine zY.v rfl rfl (zK rfl rfl rfl (by decide)) ?_); refine zY.nil ?_) | (refine zX.isR (id := 6) ?_; refine zX.zQ [1, 2, 4, 6] [1] (by repeat' first | exact zZ.nil | apply zZ.p rfl | apply zZ.ptr rfl) (by repeat' first | exact zW.nil | apply zW.boxP rfl rfl) ?_; (refine zY.v rfl rfl (zV rfl rfl rfl (by decide)) ?_); (refine zY.v rfl rfl (yL rfl rfl rfl (by rfl) rfl (by decide)) ?_); refine zY.nil ?_) | (refine zX.isR (id := 7) ?_; refine zX.zQ [1, 2, 6] [1] (by repeat' first | exact zZ.nil | apply zZ.p rfl | apply zZ.ptr rfl) (by repeat' first | exact zW.nil | apply zW.boxP rfl rfl) ?_; all_goals (refine zY.v rfl rfl (zH rfl rfl rfl (by decide)) ?_); all_goals (refine zY.v rfl rfl (zB rfl rfl rfl rfl rfl (by decide)) ?_); all_goals (refine zY.v rfl rfl (r_eql rfl rfl rfl (by rfl) rfl (by decide)) ?_); all_goals (refine zY.v rfl rfl (zV rfl rfl rfl (by decide)) ?_); all_goals (((fail_if_success refine zY.known rfl rfl rfl (by fail) ?_); refine zY.split rfl rfl rfl (fun h => ?_) (fun h => ?_) <;> first | refine zY.gY rfl rfl (by decide) rfl (by assumption) rfl (by decide) (zH rfl rfl rfl (by decide)) ?_ | refine zY.gnT rfl rfl (by decide) rfl (by assumption) rfl (by decide) ?_)); all_goals (first | refine zY.gY rfl rfl (by decide) rfl (by assumption) rfl (by decide) (zB rfl rfl rfl rfl rfl (by decide)) ?_ | refine zY.gnT rfl rfl (by decide) rfl (by assumption) rfl (by decide) ?_); all_goals (first | refine zY.gY rfl rfl (by decide) rfl (by assumption) rfl (by decide) (r_eql rfl rfl rfl (by rfl) rfl (by decide)) ?_ | refine zY.gnT rfl rfl (by decide) rfl (by assumption) rfl (by decide) ?_); all_goals (refine zY.v rfl rfl (by first | exact zN rfl rfl (by assumption) rfl rfl (by decide) | exact zP rfl rfl (by assumption) rfl rfl (by decide)) ?_); all_goals (refine zY.v rfl rfl (zK rfl rfl rfl (by decide)) ?_); all_goals (refine zY.nil ?_)) | (refine zX.isR (id := 8) ?_; refine zX.zQ [1, 2, 6] [1] (by repeat' first | exact zZ.nil | apply zZ.p rfl | apply zZ.ptr rfl) (by repeat' first | exact zW.nil | apply zW.boxP rfl rfl) ?_; all_goals (refine zY.v rfl rfl (zH rfl rfl rfl (by decide)) ?_); all_goals (refine zY.v rfl rfl (zB rfl rfl rfl rfl rfl (by decide)) ?_); all_goals (refine zY.v rfl rfl (by exact zU (stamp_fn _) rfl rfl rfl (by decide)) ?_); all_goals (refine zY.v rfl rfl (zV rfl rfl rfl (by decide)) ?_); all_goals (((fail_if_success refine zY.known rfl rfl rfl (by fail) ?_); refine zY.split rfl rfl rfl (fun h => ?_) (fun h => ?_) <;> first | refine zY.gY rfl rfl (by decide) rfl (by assumption) rfl (by decide) (zH rfl rfl rfl (by decide)) ?_ | refine zY.gnT rfl rfl (by decide) rfl (by assumption) rfl (by decide) ?_)); all_goals (first | refine zY.gY rfl rfl (by decide) rfl (by assumption) rfl (by decide) (zB rfl rfl rfl rfl rfl (by decide)) ?_ | refine zY.gnT rfl rfl (by decide) rfl (by assumption) rfl (by decide) ?_); all_goals (first | refine zY.gY rfl rfl (by decide) rfl (by assumption) rfl (by decide) (by exact zU (stamp_fn _) rfl rfl rfl (by decide)) ?_ | refine zY.gnT rfl rfl (by decide) rfl (by assumption) rfl (by decide) ?_); all_goals (refine zY.v rfl rfl (by first | exact zN rfl rfl (by assumption) rfl rfl (by decide) | exact zP rfl rfl (by assumption) rfl rfl (by decide)) ?_); all_goals (refine zY.v rfl rfl (zK rfl rfl rfl (by decide)) ?_); all_goals (refine zY.nil ?_)) | (refine zX.isR (id := 9) ?_; refine zX.zQ [1, 2, 6] [1] (by repeat' first | exact zZ.nil | apply zZ.p rfl | apply zZ.ptr rfl) (by repeat' first | exact zW.nil | apply zW.boxP rfl rfl) ?_; (refine zY.v rfl rfl (r_eql rfl rfl rfl (by rfl) rfl (by decide)) ?_); (refine zY.v rfl rfl (zK rfl rfl rfl (by decide)) ?_); refine zY.nil ?_) | (refine zX.isR (id := 10) ?_; refine zX.zQ [1, 2, 6] [1] (by repeat' first | exact zZ.nil | apply zZ.p rfl | apply zZ.ptr rfl) (by repeat' first | exact zW.nil | apply zW.boxP rfl rfl) ?_; all_goals (refine zY.v rfl rfl (zH rfl rfl rfl (by decide)) ?_); all_goals (refine zY.v rfl rfl (zB rfl rfl rfl rfl rfl (by decide)) ?_); all_goals (refine zY.v rfl rfl (by exact zU (stamp_fn _) rfl rfl rfl (by decide)) ?_); all_goals (refine zY.v rfl rfl (zV rfl rfl rfl (by decide)) ?_); all_goals (((fail_if_success refine zY.known rfl rfl rfl (by fail) ?_); refine zY.split rfl rfl rfl (fun h => ?_) (fun h => ?_) <;> first | refine zY.gY rfl rfl (by decide) rfl (by assumption) rfl (by decide) (w_loadRN rfl rfl rfl (by rfl) (by rfl) rfl (by decide)) ?_ | refine zY.gnT rfl rfl (by decide) rfl (by assumption) rfl (by decide) ?_)); all_goals (first | refine zY.gY rfl rfl (by decide) rfl (by assumption) rfl (by decide) (zH rfl rfl rfl (by decide)) ?_ | refine zY.gnT rfl rfl (by decide) rfl (by assumption) rfl (by decide) ?_); all_goals (first | refine zY.gY rfl rfl (by decide) rfl (by assumption) rfl (by decide) (zB rfl rfl rfl rfl rfl (by decide)) ?_ | refine zY.gnT rfl rfl (by decide) rfl (by assumption) rfl (by decide) ?_); all_goals (first | refine zY.gY rfl rfl (by decide) rfl (by assumption) rfl (by decide) (zH rfl rfl rfl (by decide)) ?_ | refine zY.gnT rfl rfl (by decide) rfl (by assumption) rfl (by decide) ?_); all_goals (first | refine zY.gY rfl rfl (by decide) rfl (by assumption) rfl (by decide) (zB rfl rfl rfl rfl rfl (by decide)) ?_ | refine zY.gnT rfl rfl (by decide) rfl (by assumption) rfl (by decide) ?_); all_goals (first | refine zY.gY rfl rfl (by decide) rfl (by assumption) rfl (by decide) (xC rfl (by rfl) (by rfl) (by rfl) (by rfl) rfl (by decide)) ?_ | refine zY.gnT rfl rfl (by decide) rfl (by assumption) rfl (by decide) ?_); all_goals (first | refine zY.gY rfl rfl (by decide) rfl (by assumption) rfl (by decide) (r_eqlT rfl rfl rfl rfl rfl rfl (by rfl) (by rfl) rfl (by decide)) ?_ | refine zY.gnT rfl rfl (by decide) rfl (by assumption) rfl (by decide) ?_); all_goals (refine zY.v rfl rfl (by first | exact zN rfl rfl (by assumption) rfl rfl (by decide) | exact zP rfl rfl (by assumption) rfl rfl (by decide)) ?_); all_goals (refine zY.v rfl rfl (zK rfl rfl rfl (by decide)) ?_); all_goals (refine zY.nil ?_)) | (refine zX.isR (id := 11) ?_; refine zX.zQ [1, 2, 6] [1] (by repeat' first | exact zZ.nil | apply zZ.p rfl | apply zZ.ptr rfl) (by repeat' first | exact zW.nil | apply zW.boxP rfl rfl) ?_; (refine zY.v rfl rfl (r_eql rfl rfl rfl (by rfl) rfl (by decide)) ?_); (refine zY.v rfl rfl (zK rfl rfl rfl (by decide)) ?_); refine zY.nil ?_) | (refine zX.isR (id := 12) ?_; refine zX.zQ [1, 2] [1] (by repeat' first | exact zZ.nil | apply zZ.p rfl | apply zZ.ptr rfl) (by repeat' first | exact zW.nil | apply zW.boxP rfl rfl) ?_; all_goals (refine zY.v rfl rfl (zH rfl rfl rfl (by decide)) ?_); all_goals (refine zY.v rfl rfl (zB rfl rfl rfl rfl rfl (by decide)) ?_); all_goals (refine zY.v rfl rfl (r_leq rfl rfl rfl (by rfl) rfl (by decide)) ?_); all_goals (refine zY.v rfl rfl (zV rfl rfl rfl (by decide)) ?_); all_goals (((fail_if_success refine zY.known rfl rfl rfl (by fail) ?_); refine zY.split rfl rfl rfl (fun h => ?_) (fun h => ?_) <;> first | refine zY.gY rfl rfl (by decide) rfl (by assumption) rfl (by decide) (w_loadRN rfl rfl rfl (by rfl) (by rfl) rfl (by decide)) ?_ | refine zY.gnT rfl rfl (by decide) rfl (by assumption) rfl (by decide) ?_)); all_goals (first | refine zY.gY rfl rfl (by decide) rfl (by assumption) rfl (by decide) (zH rfl rfl rfl (by decide)) ?_ | refine zY.gnT rfl rfl (by decide) rfl (by assumption) rfl (by decide) ?_); all_goals (first | refine zY.gY rfl rfl (by decide) rfl (by assumption) rfl (by decide) (zB rfl rfl rfl rfl rfl (by decide)) ?_ | refine zY.gnT rfl rfl (by decide) rfl (by assumption) rfl (by decide) ?_); all_goals (first | refine zY.gY rfl rfl (by decide) rfl (by assumption) rfl (by decide) (zH rfl rfl rfl (by decide)) ?_ | refine zY.gnT rfl rfl (by decide) rfl (by assumption) rfl (by decide) ?_); all_goals (first | refine zY.gY rfl rfl (by decide) rfl (by assumption) rfl (by decide) (zB rfl rfl rfl rfl rfl (by decide)) ?_ | refine zY.gnT rfl rfl (by decide) rfl (by assumption) rfl (by decide) ?_); all_goals (first | refine zY.gY rfl rfl (by decide) rfl (by assumption) rfl (by decide) (xC rfl (by rfl) (by rfl) (by rfl) (by rfl) rfl (by decide)) ?_ | refine zY.gnT rfl rfl (by decide) rfl (by assumption) rfl (by decide) ?_); all_goals (first | refine zY.gY rfl rfl (by decide) rfl (by assumption) rfl (by decide) (r_eqlT rfl rfl rfl rfl rfl rfl (by rfl) (by rfl) rfl (by decide)) ?_ | refine zY.gnT rfl rfl (by decide) rfl (by assumption) rfl (by decide) ?_); all_goals (refine zY.v rfl rfl (by first | exact zN rfl rfl (by assumption) rfl rfl (by decide) | exact zP rfl rfl (by assumption) rfl rfl (by decide)) ?_); all_goals (refine zY.v rfl rfl (zK rfl rfl rfl (by decide)) ?_); all_goals (refine zY.nil ?_)) | (refine zX.isR (id := 13) ?_; refine zX.zQ [2] [1] (by repeat' first | exact zZ.nil | apply zZ.p rfl) (by repeat' first | exact zW.nil | apply zW.boxP rfl rfl) ?_; (refine zY.v rfl rfl (zK rfl rfl rfl (by decide)) ?_); refine zY.nil ?_) | refine zX.condY rfl (by first | assumption | with_reducible rfl) ?_ | refine zX.cond rfl (fun h => ?_) (fun h => ?_) | refine zX.skip ?_ | refine zX.block ?_ | refine zX.ret ?_) | refine zR.r ?_ | refine blockK.r ?_)
  all_goals refine ⟨.inl rfl, gives1 rfl rfl (eqB ?_)⟩
  all_goals simp only [decide_eq_true_eq, decide_eq_false_iff_not, Bool.not_eq_true', Bool.not_eq_false'] at *
  all_goals try subst k
  all_goals try (have hq : y % 2147483648 = 0 := by omega)
  all_goals try (have hq : ¬ y % 2147483648 = 0 := by omega)
  all_goals (unfold xB; (simp [*]; done))
theorem mayRef_fn (k s y u v x : Int) (h0 : 0 ≤ y) (h1 : y < 18446744073709551616) : Fn Tryd.prog 5 [entV k s y u v x] (.p (.val (.bool (xB k s y u v x)))) := by
  refine fn_of Tryd.func5 rfl Tryd.ntmps5 (Nat.le_of_ble_eq_true rfl) ?_
  have hr : y.tmod 2147483648 = y % 2147483648 := Int.tmod_eq_emod_of_nonneg h0
  repeat' (first | (refine zX.is ?_; first | refine zX.seq ?_ | (refine zX.isR (id := 0) ?_; refine zX.zQ [0] [1] (by repeat' first | exact zZ.nil | apply zZ.p rfl) (by repeat' first | exact zW.nil | apply zW.skip) ?_; (refine zY.m rfl rfl (w_boxA rfl rfl rfl (by decide)) ?_); (refine zY.v rfl rfl (zK rfl rfl rfl (by decide)) ?_); refine zY.nil ?_) | (refine zX.isR (id := 1) ?_; refine zX.zQ [1, 2] [1] (by repeat' first | exact zZ.nil | apply zZ.p rfl | apply zZ.ptr rfl) (by repeat' first | exact zW.nil | apply zW.boxP rfl rfl) ?_; (refine zY.v rfl rfl (zH rfl rfl rfl (by decide)) ?_); (refine zY.v rfl rfl (zB rfl rfl rfl (by rfl) rfl (by decide)) ?_); (refine zY.v rfl rfl (r_eql rfl rfl rfl (by rfl) rfl (by decide)) ?_); refine zY.nil ?_) | (refine zX.isR (id := 2) ?_; refine zX.zQ [1, 2] [1] (by repeat' first | exact zZ.nil | apply zZ.p rfl | apply zZ.ptr rfl) (by repeat' first | exact zW.nil | apply zW.boxP rfl rfl) ?_; (refine zY.v rfl rfl (zH rfl rfl rfl (by decide)) ?_); (refine zY.v rfl rfl (zB rfl rfl rfl (by rfl) rfl (by decide)) ?_); (refine zY.v rfl rfl (by exact zU (rightRef_fn _ h0 h1) rfl rfl rfl (by decide)) ?_); (refine zY.v rfl rfl (zK rfl rfl rfl (by decide)) ?_); refine zY.nil ?_) | (refine zX.isR (id := 3) ?_; refine zX.zQ [1, 2, 3] [1] (by repeat' first | exact zZ.nil | apply zZ.p rfl | apply zZ.ptr rfl) (by repeat' first | exact zW.nil | apply zW.boxP rfl rfl) ?_; all_goals (refine zY.v rfl rfl (zV rfl rfl rfl (by decide)) ?_); all_goals (refine zY.v rfl rfl (r_notB rfl rfl (by rfl) rfl (by decide)) ?_); all_goals (refine zY.v rfl rfl (zV rfl rfl rfl (by decide)) ?_); all_goals (((fail_if_success refine zY.known rfl rfl rfl (by fail) ?_); refine zY.split rfl rfl rfl (fun h => ?_) (fun h => ?_) <;> first | refine zY.gY rfl rfl (by decide) rfl (by assumption) rfl (by decide) (zH rfl rfl rfl (by decide)) ?_ | refine zY.gnF rfl rfl (by decide) rfl (by assumption) rfl (by decide) ?_)); all_goals (first | refine zY.gY rfl rfl (by decide) rfl (by assumption) rfl (by decide) (zB rfl rfl rfl (by rfl) rfl (by decide)) ?_ | refine zY.gnF rfl rfl (by decide) rfl (by assumption) rfl (by decide) ?_); all_goals (first | refine zY.gY rfl rfl (by decide) rfl (by assumption) rfl (by decide) (by exact zU (stampRef_fn _) rfl rfl rfl (by decide)) ?_ | refine zY.gnF rfl rfl (by decide) rfl (by assumption) rfl (by decide) ?_); all_goals (first | refine zY.gY rfl rfl (by decide) rfl (by assumption) rfl (by decide) (r_notB rfl rfl (by rfl) rfl (by decide)) ?_ | refine zY.gnF rfl rfl (by decide) rfl (by assumption) rfl (by decide) ?_); all_goals (refine zY.v rfl rfl (by first | exact zN rfl rfl (by assumption) rfl rfl (by decide) | exact zP rfl rfl (by assumption) rfl rfl (by decide)) ?_); all_goals (refine zY.nil ?_)) | (refine zX.isR (id := 4) ?_; refine zX.zQ [1, 2] [1] (by repeat' first | exact zZ.nil | apply zZ.p rfl | apply zZ.ptr rfl) (by repeat' first | exact zW.nil | apply zW.boxP rfl rfl) ?_; (refine zY.v rfl rfl (zK rfl rfl rfl (by decide)) ?_); refine zY.nil ?_) | (refine zX.isR (id := 5) ?_; refine zX.zQ [1, 2] [1] (by repeat' first | exact zZ.nil | apply zZ.p rfl | apply zZ.ptr rfl) (by repeat' first | exact zW.nil | apply zW.boxP rfl rfl) ?_; (refine zY.v rfl rfl (zH rfl rfl rfl (by decide)) ?_); (refine zY.v rfl rfl (zB rfl rfl rfl (by rfl) rfl (by decide)) ?_); (refine zY.v rfl rfl (by exact a_rem rfl rfl rfl (by decide) (by exact hr) rfl (by decide)) ?_); (refine zY.v rfl rfl (r_eql rfl rfl rfl (by rfl) rfl (by decide)) ?_); refine zY.nil ?_) | (refine zX.isR (id := 6) ?_; refine zX.zQ [1, 2] [1] (by repeat' first | exact zZ.nil | apply zZ.p rfl | apply zZ.ptr rfl) (by repeat' first | exact zW.nil | apply zW.boxP rfl rfl) ?_; all_goals (refine zY.v rfl rfl (zH rfl rfl rfl (by decide)) ?_); all_goals (refine zY.v rfl rfl (zB rfl rfl rfl (by rfl) rfl (by decide)) ?_); all_goals (refine zY.v rfl rfl (r_eql rfl rfl rfl (by rfl) rfl (by decide)) ?_); all_goals (refine zY.v rfl rfl (zV rfl rfl rfl (by decide)) ?_); all_goals (((fail_if_success refine zY.known rfl rfl rfl (by fail) ?_); refine zY.split rfl rfl rfl (fun h => ?_) (fun h => ?_) <;> first | refine zY.gY rfl rfl (by decide) rfl (by assumption) rfl (by decide) (zH rfl rfl rfl (by decide)) ?_ | refine zY.gnT rfl rfl (by decide) rfl (by assumption) rfl (by decide) ?_)); all_goals (first | refine zY.gY rfl rfl (by decide) rfl (by assumption) rfl (by decide) (zB rfl rfl rfl (by rfl) rfl (by decide)) ?_ | refine zY.gnT rfl rfl (by decide) rfl (by assumption) rfl (by decide) ?_); all_goals (first | refine zY.gY rfl rfl (by decide) rfl (by assumption) rfl (by decide) (r_eql rfl rfl rfl (by rfl) rfl (by decide)) ?_ | refine zY.gnT rfl rfl (by decide) rfl (by assumption) rfl (by decide) ?_); all_goals (refine zY.v rfl rfl (by first | exact zN rfl rfl (by assumption) rfl rfl (by decide) | exact zP rfl rfl (by assumption) rfl rfl (by decide)) ?_); all_goals (refine zY.v rfl rfl (zK rfl rfl rfl (by decide)) ?_); all_goals (refine zY.nil ?_)) | (refine zX.isR (id := 7) ?_; refine zX.zQ [1, 2] [1] (by repeat' first | exact zZ.nil | apply zZ.p rfl | apply zZ.ptr rfl) (by repeat' first | exact zW.nil | apply zW.boxP rfl rfl) ?_; all_goals (refine zY.v rfl rfl (zH rfl rfl rfl (by decide)) ?_); all_goals (refine zY.v rfl rfl (zB rfl rfl rfl (by rfl) rfl (by decide)) ?_); all_goals (refine zY.v rfl rfl (by exact zU (stampRef_fn _) rfl rfl rfl (by decide)) ?_); all_goals (refine zY.v rfl rfl (zV rfl rfl rfl (by decide)) ?_); all_goals (((fail_if_success refine zY.known rfl rfl rfl (by fail) ?_); refine zY.split rfl rfl rfl (fun h => ?_) (fun h => ?_) <;> first | refine zY.gY rfl rfl (by decide) rfl (by assumption) rfl (by decide) (zH rfl rfl rfl (by decide)) ?_ | refine zY.gnT rfl rfl (by decide) rfl (by assumption) rfl (by decide) ?_)); all_goals (first | refine zY.gY rfl rfl (by decide) rfl (by assumption) rfl (by decide) (zB rfl rfl rfl (by rfl) rfl (by decide)) ?_ | refine zY.gnT rfl rfl (by decide) rfl (by assumption) rfl (by decide) ?_); all_goals (first | refine zY.gY rfl rfl (by decide) rfl (by assumption) rfl (by decide) (by exact zU (stampRef_fn _) rfl rfl rfl (by decide)) ?_ | refine zY.gnT rfl rfl (by decide) rfl (by assumption) rfl (by decide) ?_); all_goals (refine zY.v rfl rfl (by first | exact zN rfl rfl (by assumption) rfl rfl (by decide) | exact zP rfl rfl (by assumption) rfl rfl (by decide)) ?_); all_goals (refine zY.v rfl rfl (zK rfl rfl rfl (by decide)) ?_); all_goals (refine zY.nil ?_)) | (refine zX.isR (id := 8) ?_; refine zX.zQ [1, 2] [1] (by repeat' first | exact zZ.nil | apply zZ.p rfl | apply zZ.ptr rfl) (by repeat' first | exact zW.nil | apply zW.boxP rfl rfl) ?_; all_goals (refine zY.v rfl rfl (zH rfl rfl rfl (by decide)) ?_); all_goals (refine zY.v rfl rfl (zB rfl rfl rfl (by rfl) rfl (by decide)) ?_); all_goals (refine zY.v rfl rfl (r_neq rfl rfl rfl (by rfl) rfl (by decide)) ?_); all_goals (refine zY.v rfl rfl (zV rfl rfl rfl (by decide)) ?_); all_goals (((fail_if_success refine zY.known rfl rfl rfl (by fail) ?_); refine zY.split rfl rfl rfl (fun h => ?_) (fun h => ?_) <;> first | refine zY.gY rfl rfl (by decide) rfl (by assumption) rfl (by decide) (zH rfl rfl rfl (by decide)) ?_ | refine zY.gnF rfl rfl (by decide) rfl (by assumption) rfl (by decide) ?_)); all_goals (first | refine zY.gY rfl rfl (by decide) rfl (by assumption) rfl (by decide) (zB rfl rfl rfl (by rfl) rfl (by decide)) ?_ | refine zY.gnF rfl rfl (by decide) rfl (by assumption) rfl (by decide) ?_); all_goals (first | refine zY.gY rfl rfl (by decide) rfl (by assumption) rfl (by decide) (r_neq rfl rfl rfl (by rfl) rfl (by decide)) ?_ | refine zY.gnF rfl rfl (by decide) rfl (by assumption) rfl (by decide) ?_); all_goals (refine zY.v rfl rfl (by first | exact zN rfl rfl (by assumption) rfl rfl (by decide) | exact zP rfl rfl (by assumption) rfl rfl (by decide)) ?_); all_goals (refine zY.v rfl rfl (zV rfl rfl rfl (by decide)) ?_); all_goals (first | refine zY.gnF rfl rfl (by decide) rfl (by with_reducible rfl) rfl (by decide) ?_ | ((fail_if_success refine zY.known rfl rfl rfl (by fail) ?_); refine zY.split rfl rfl rfl (fun h => ?_) (fun h => ?_) <;> first | refine zY.gY rfl rfl (by decide) rfl (by assumption) rfl (by decide) (zH rfl rfl rfl (by decide)) ?_ | refine zY.gnF rfl rfl (by decide) rfl (by assumption) rfl (by decide) ?_)); all_goals (first | refine zY.gY rfl rfl (by decide) rfl (by assumption) rfl (by decide) (zB rfl rfl rfl (by rfl) rfl (by decide)) ?_ | refine zY.gnF rfl rfl (by decide) rfl (by first | assumption | with_reducible rfl) rfl (by decide) ?_); all_goals (first | refine zY.gY rfl rfl (by decide) rfl (by assumption) rfl (by decide) (r_neq rfl rfl rfl (by rfl) rfl (by decide)) ?_ | refine zY.gnF rfl rfl (by decide) rfl (by first | assumption | with_reducible rfl) rfl (by decide) ?_); all_goals (refine zY.v rfl rfl (by first | exact zN rfl rfl (by first | assumption | with_reducible rfl) rfl rfl (by decide) | exact zP rfl rfl (by assumption) rfl rfl (by decide)) ?_); all_goals (refine zY.v rfl rfl (zV rfl rfl rfl (by decide)) ?_); all_goals (first | refine zY.gnF rfl rfl (by decide) rfl (by with_reducible rfl) rfl (by decide) ?_ | ((fail_if_success refine zY.known rfl rfl rfl (by fail) ?_); refine zY.split rfl rfl rfl (fun h => ?_) (fun h => ?_) <;> first | refine zY.gY rfl rfl (by decide) rfl (by assumption) rfl (by decide) (zH rfl rfl rfl (by decide)) ?_ | refine zY.gnF rfl rfl (by decide) rfl (by assumption) rfl (by decide) ?_)); all_goals (first | refine zY.gY rfl rfl (by decide) rfl (by assumption) rfl (by decide) (zB rfl rfl rfl (by rfl) rfl (by decide)) ?_ | refine zY.gnF rfl rfl (by decide) rfl (by first | assumption | with_reducible rfl) rfl (by decide) ?_); all_goals (first | refine zY.gY rfl rfl (by decide) rfl (by assumption) rfl (by decide) (r_neq rfl rfl rfl (by rfl) rfl (by decide)) ?_ | refine zY.gnF rfl rfl (by decide) rfl (by first | assumption | with_reducible rfl) rfl (by decide) ?_); all_goals (refine zY.v rfl rfl (by first | exact zN rfl rfl (by first | assumption | with_reducible rfl) rfl rfl (by decide) | exact zP rfl rfl (by assumption) rfl rfl (by decide)) ?_); all_goals (refine zY.nil ?_)) | (refine zX.isR (id := 9) ?_; refine zX.zQ [1, 2] [1] (by repeat' first | exact zZ.nil | apply zZ.p rfl | apply zZ.ptr rfl) (by repeat' first | exact zW.nil | apply zW.boxP rfl rfl) ?_; (refine zY.v rfl rfl (zK rfl rfl rfl (by decide)) ?_); refine zY.nil ?_) | (refine zX.isR (id := 10) ?_; refine zX.zQ [1, 2] [1] (by repeat' first | exact zZ.nil | apply zZ.p rfl | apply zZ.ptr rfl) (by repeat' first | exact zW.nil | apply zW.boxP rfl rfl) ?_; all_goals (refine zY.v rfl rfl (zH rfl rfl rfl (by decide)) ?_); all_goals (refine zY.v rfl rfl (zB rfl rfl rfl (by rfl) rfl (by decide)) ?_); all_goals (refine zY.v rfl rfl (r_eql rfl rfl rfl (by rfl) rfl (by decide)) ?_); all_goals (refine zY.v rfl rfl (zV rfl rfl rfl (by decide)) ?_); all_goals (((fail_if_success refine zY.known rfl rfl rfl (by fail) ?_); refine zY.split rfl rfl rfl (fun h => ?_) (fun h => ?_) <;> first | refine zY.gY rfl rfl (by decide) rfl (by assumption) rfl (by decide) (zH rfl rfl rfl (by decide)) ?_ | refine zY.gnT rfl rfl (by decide) rfl (by assumption) rfl (by decide) ?_)); all_goals (first | refine zY.gY rfl rfl (by decide) rfl (by assumption) rfl (by decide) (zB rfl rfl rfl (by rfl) rfl (by decide)) ?_ | refine zY.gnT rfl rfl (by decide) rfl (by assumption) rfl (by decide) ?_); all_goals (first | refine zY.gY rfl rfl (by decide) rfl (by assumption) rfl (by decide) (by exact zU (stampRef_fn _) rfl rfl rfl (by decide)) ?_ | refine zY.gnT rfl rfl (by decide) rfl (by assumption) rfl (by decide) ?_); all_goals (refine zY.v rfl rfl (by first | exact zN rfl rfl (by assumption) rfl rfl (by decide) | exact zP rfl rfl (by assumption) rfl rfl (by decide)) ?_); all_goals (refine zY.v rfl rfl (zV rfl rfl rfl (by decide)) ?_); all_goals (first | refine zY.gY rfl rfl (by decide) rfl (by with_reducible rfl) rfl (by decide) (zH rfl rfl rfl (by decide)) ?_ | ((fail_if_success refine zY.known rfl rfl rfl (by fail) ?_); refine zY.split rfl rfl rfl (fun h => ?_) (fun h => ?_) <;> first | refine zY.gY rfl rfl (by decide) rfl (by assumption) rfl (by decide) (zH rfl rfl rfl (by decide)) ?_ | refine zY.gnF rfl rfl (by decide) rfl (by assumption) rfl (by decide) ?_)); all_goals (first | refine zY.gY rfl rfl (by decide) rfl (by first | assumption | with_reducible rfl) rfl (by decide) (zB rfl rfl rfl (by rfl) rfl (by decide)) ?_ | refine zY.gnF rfl rfl (by decide) rfl (by assumption) rfl (by decide) ?_); all_goals (first | refine zY.gY rfl rfl (by decide) rfl (by first | assumption | with_reducible rfl) rfl (by decide) (r_eql rfl rfl rfl (by rfl) rfl (by decide)) ?_ | refine zY.gnF rfl rfl (by decide) rfl (by assumption) rfl (by decide) ?_); all_goals (first | refine zY.gY rfl rfl (by decide) rfl (by first | assumption | with_reducible rfl) rfl (by decide) (zV rfl rfl rfl (by decide)) ?_ | refine zY.gnF rfl rfl (by decide) rfl (by assumption) rfl (by decide) ?_); all_goals (first | refine zY.gU rfl rfl (by decide) (by rfl) rfl (by decide) ?_ | ((fail_if_success refine zY.known rfl rfl rfl (by fail) ?_); refine zY.split rfl rfl rfl (fun h => ?_) (fun h => ?_) <;> first | refine zY.gY rfl rfl (by decide) rfl (by assumption) rfl (by decide) (zH rfl rfl rfl (by decide)) ?_ | refine zY.gnT rfl rfl (by decide) rfl (by assumption) rfl (by decide) ?_)); all_goals (first | refine zY.gU rfl rfl (by decide) (by rfl) rfl (by decide) ?_ | refine zY.gY rfl rfl (by decide) rfl (by assumption) rfl (by decide) (zB rfl rfl rfl (by rfl) rfl (by decide)) ?_ | refine zY.gnT rfl rfl (by decide) rfl (by assumption) rfl (by decide) ?_); all_goals (first | refine zY.gU rfl rfl (by decide) (by rfl) rfl (by decide) ?_ | refine zY.gY rfl rfl (by decide) rfl (by assumption) rfl (by decide) (r_leq rfl rfl rfl (by rfl) rfl (by decide)) ?_ | refine zY.gnT rfl rfl (by decide) rfl (by assumption) rfl (by decide) ?_); all_goals (first | refine zY.gY rfl rfl (by decide) rfl (by first | assumption | with_reducible rfl) rfl (by decide) (by first | exact zN rfl rfl (by assumption) rfl rfl (by decide) | exact zP rfl rfl (by assumption) rfl rfl (by decide)) ?_ | refine zY.gnF rfl rfl (by decide) rfl (by assumption) rfl (by decide) ?_); all_goals (refine zY.v rfl rfl (by first | exact zN rfl rfl (by assumption) rfl rfl (by decide) | exact zP rfl rfl (by first | assumption | with_reducible rfl) rfl rfl (by decide)) ?_); all_goals (refine zY.v rfl rfl (zK rfl rfl rfl (by decide)) ?_); all_goals (refine zY.nil ?_)) | refine zX.condY rfl (by first | assumption | with_reducible rfl) ?_ | refine zX.cond rfl (fun h => ?_) (fun h => ?_) | refine zX.skip ?_ | refine zX.ret ?_) | refine zR.r ?_)
  all_goals refine ⟨.inl rfl, gives1 rfl rfl (eqB ?_)⟩
  all_goals simp only [decide_eq_true_eq, decide_eq_false_iff_not, Bool.not_eq_true', Bool.not_eq_false'] at *
  all_goals try subst k
  all_goals (unfold xB; first | (simp [*]; done) | (simp [*]; omega))
end Go.Proofs.YteppicfkdcofjaaDoor
/- Contracts of eight and number (the reference's). -/
namespace Go.Proofs.YteppicfkdcofjaaDoor
set_option maxRecDepth 100000
set_option maxHeartbeats 16000000
open Go.RowKit
/-- the k lowest bytes of a number -/
def bytesOf : Nat → Int → List Int
  | 0, _ => []
  | k + 1, n => n % 256 :: bytesOf k (n / 256)
theorem pow256_pos (k : Nat) : (0 : Int) < 256 ^ k := by
  induction k with
  | zero => decide
  | succ k ih => rw [Int.pow_succ]; omega
theorem bytesOf_length (k : Nat) (n : Int) : (bytesOf k n).length = k := by
  induction k generalizing n with
  | zero => rfl
  | succ k ih => simp [bytesOf, ih]
theorem bytesOf_snoc (k : Nat) (n : Int) : bytesOf (k + 1) n = bytesOf k n ++ [n / 256 ^ k % 256] := by
  induction k generalizing n with
  | zero => simp [bytesOf]
  | succ k ih =>
    rw [bytesOf, ih (n / 256)]
    simp only [bytesOf, List.cons_append]
    rw [Int.ediv_ediv_of_nonneg (by omega), Int.pow_succ, Int.mul_comm]
end Go.Proofs.YteppicfkdcofjaaDoor
/- eight and number, as contracts over abstract frames. -/
namespace Go.Proofs.YteppicfkdcofjaaDoor
set_option maxRecDepth 100000
set_option maxHeartbeats 16000000
open Go Go.RowKit
end Go.Proofs.YteppicfkdcofjaaDoor
/- Encode, the reference's, as a contract. -/
namespace Go.Proofs.YteppicfkdcofjaaDoor
set_option maxRecDepth 100000
set_option maxHeartbeats 16000000
open Go Go.RowKit
set_option linter.unusedSimpArgs false
attribute [local irreducible] zY zX Step zJ Sub zL Fn
/-- an entry's bytes -/
def y5 (k s y u v x : Int) : List Int := (k % 256 :: bytesOf 8 s) ++ (if k = 1 then bytesOf 8 y ++ bytesOf 8 u ++ bytesOf 8 v ++ bytesOf 8 x else [])
end Go.Proofs.YteppicfkdcofjaaDoor
/- Contracts of slices.Insert at the two places where it is used, and of fields. -/
namespace Go.Proofs.YteppicfkdcofjaaDoor
set_option maxRecDepth 100000
set_option maxHeartbeats 16000000
open Go.RowKit
theorem Tryd.infoPtr : (Tryd.prog.info? 43).map (fun i => (i.zero, i.size, i.bytes)) = some (some (.pointer none), 1, 8) := by kernel_rfl
theorem Tryd.sizePtr : (Tryd.prog.info? 43).map (·.size) = some 1 := by kernel_rfl
/-- A row that is known whole is owned. -/
theorem ownsRow_of_heap {w : World} {base g n cap : Nat} {e : TypeId} {cur : List Value} {xs : List Value} (hg : w.heap[g]? = some (.cells cur.toArray e (0, 0))) (hb : base ≤ g)
    (hc : cur.length = cap) (hn : n ≤ cap) (hm : cap ≤ maxLen) (ht : cur.take n = xs) (hx : xs.length = n) : w.ownsRow base e 1 (.slice (some ⟨g, 0, none⟩) n cap) n xs :=
  ⟨by simpa using hx, .inr ⟨g, cap, cur.toArray, rfl, hb, hg, hn, hm, by simpa using hc, by simpa using ht⟩⟩
theorem cells_four {w : World} {b : Nat} {q0 q1 q2 q3 : Value} (h0 : w.cell? ⟨b, 0, none⟩ = some q0) (h1 : w.cell? ⟨b, 1, none⟩ = some q1) (h2 : w.cell? ⟨b, 2, none⟩ = some q2) (h3 : w.cell? ⟨b, 3, none⟩ = some q3) :
    ∀ (j : Nat) v, [q0, q1, q2, q3][j]? = some v → w.cell? ((⟨b, 0, none⟩ : Addr).add j) = some v := by
  intro j v hv
  match j, hv with
  | 0, hv => simp at hv; subst hv; exact h0
  | 1, hv => simp at hv; subst hv; exact h1
  | 2, hv => simp at hv; subst hv; exact h2
  | 3, hv => simp at hv; subst hv; exact h3
  | j + 4, hv => simp at hv
theorem insert_nil (g : Nat) (p : Value) (w : World) (hp : w.cell? ⟨g, 0, none⟩ = some p) (h1 : p.oneCell' = true) :
    Calls Tryd.prog 20 #[.slice none 0 0, .int .i64 0, .slice (some ⟨g, 0, none⟩) 1 1] w fun e w' =>
      ∃ v, e = .returned v ∧ w'.ownsRow w.heap.size 43 1 v 1 [p] ∧ Below w.heap.size w w' := by
  obtain ⟨i0, hi, hz0, hz1, hz2⟩ := info_parts Tryd.infoPtr
  go_enter Tryd.func20, Tryd.ntmps20
  go_wp2_with (at_builtin; refine wpList_append_own _ rfl _ _ 40 rfl w.heap.size 43 i0 (.pointer none) 1 8 Tryd.underlying40 hi hz0 hz1 hz2 rfl (by decide) _ _ _ rfl (World.ownsRow_nil _ _ _ _) ⟨g, 0, none⟩ 1 1 [p] rfl rfl ?c1 ?c2 ?c3 ?c4 ?c5 ?_)
  case c1 => exact cells_one hp
  case c2 => simpa using h1
  case c3 => simp [maxLen]
  case c4 => decide
  case c5 => exact Nat.le_refl _
  intro v' w1 hown' hgrow _
  go_wp2
  go_ret
  exact ⟨_, rfl, hown', (Below.refl _ _).grown hgrow (Nat.le_refl _) (by simp [Value.ownBlock])⟩
theorem insert_four (b g : Nat) (p q0 q1 q2 q3 : Value) (w : World) (hp : w.cell? ⟨g, 0, none⟩ = some p) (h1 : p.oneCell' = true)
   (hq0 : w.cell? ⟨b, 0, none⟩ = some q0) (hq1 : w.cell? ⟨b, 1, none⟩ = some q1) (hq2 : w.cell? ⟨b, 2, none⟩ = some q2) (hq3 : w.cell? ⟨b, 3, none⟩ = some q3)
   (hq : ∀ v ∈ [q0, q1, q2, q3], v.oneCell' = true) (hbw : b < w.heap.size) (hgw : g < w.heap.size) :
    Calls Tryd.prog 20 #[.slice (some ⟨b, 0, none⟩) 4 4, .int .i64 0, .slice (some ⟨g, 0, none⟩) 1 1] w fun e w' =>
      ∃ v, e = .returned v ∧ w'.ownsRow w.heap.size 43 1 v 5 [p, q0, q1, q2, q3] ∧ Below w.heap.size w w' := by
  obtain ⟨i0, hi, hz0, hz1, hz2⟩ := info_parts Tryd.infoPtr
  go_enter Tryd.func20, Tryd.ntmps20
  go_wp2_with (at_builtin; refine wpList_append_zeros rfl (.tmp 34) (.tmp 39) 40 3 rfl 43 i0 (.pointer none) (.pointer none) Tryd.underlying40 Tryd.underlying3 hi hz0 rfl hz1 ⟨b, 0, none⟩ 4 5 rfl rfl (by decide) (by simp [maxLen]) (by rw [hz2]; decide) (by rw [hz2]; decide) ?_)
  intro cap Z w1 HZ H1 hb1 hc1 hc2
  have hp1 : w1.cell? ⟨g, 0, none⟩ = some p := (hb1.cell (p := ⟨g, 0, none⟩) hgw).trans hp
  have hc1' : ¬ cap = 1 := by omega
  have hc1'' : ¬ cap = 0 := by omega
  have hl : Hid (Z.length = cap) := by show Z.length = cap; rw [HZ.out]; simp
  have D1 : 0 < [p].length → some (⟨w.heap.size, 0, none⟩ : Addr) = some ⟨w.heap.size, 0, none⟩ ∧ ∃ ad, some (⟨g, 0, none⟩ : Addr) = some ad ∧ ∀ (j : Nat) v, [p][j]? = some v → w1.cell? (ad.add j) = some v :=
    fun _ => ⟨rfl, _, rfl, cells_one hp1⟩
  have D2 : 0 + [p].length ≤ Z.length := by rw [hl.out]; simp; omega
  have D3 : ∀ v ∈ [p], v.oneCell' = true := by simpa using h1
  have H1' := Lib.hid D1
  have H2' := Lib.hid D2
  have H3' := Lib.hid D3
  clear D1 D2 D3
  go_wp2_with (with_reducible refine wpList_copy_splice rfl (.tmp 43) (.tmp 44) 40 40 rfl 43 Tryd.underlying40 Tryd.sizePtr (some ⟨w.heap.size, 0, none⟩) (some ⟨g, 0, none⟩) 5 cap 1 1 rfl rfl w.heap.size 0 Z 43 H1.out [p] rfl H1'.out H2'.out H3'.out w.heap.size w hb1 (Nat.le_refl _) ?_)
  intro w2 H2 hb2
  have hr0 : w2.cell? ⟨b, 0, none⟩ = some q0 := (hb2.cell (p := ⟨b, 0, none⟩) hbw).trans hq0
  have hr1 : w2.cell? ⟨b, 1, none⟩ = some q1 := (hb2.cell (p := ⟨b, 1, none⟩) hbw).trans hq1
  have hr2 : w2.cell? ⟨b, 2, none⟩ = some q2 := (hb2.cell (p := ⟨b, 2, none⟩) hbw).trans hq2
  have hr3 : w2.cell? ⟨b, 3, none⟩ = some q3 := (hb2.cell (p := ⟨b, 3, none⟩) hbw).trans hq3
  have hw1 : IntKind.i64.wrap 1 = 1 := by decide
  go_wp2
  go_still_tail 8, (by kernel_rfl)
  change wpList _ _ _ _ _ w2.drew
  refine wpList_copy_splice rfl (.tmp 50) (.tmp 53) 40 40 rfl 43 Tryd.underlying40 Tryd.sizePtr (some ⟨w.heap.size, 1, none⟩) (some ⟨b, 0, none⟩) 4 (cap - 1) 4 4 rfl rfl w.heap.size 1 (Go.splice Z 0 [p]) 43 H2.out [q0, q1, q2, q3] rfl ?e1 ?e2 hq w.heap.size w hb2.drew (Nat.le_refl _) ?_
  case e1 => exact fun _ => ⟨rfl, _, rfl, cells_four hr0 hr1 hr2 hr3⟩
  case e2 => have := hl.out; simp [Go.splice]; omega
  intro w3 H3 hb3
  go_wp2
  go_ret
  refine ⟨_, rfl, ownsRow_of_heap H3.out (Nat.le_refl _) ?_ hc1 hc2 ?_ rfl, hb3⟩
  · have := hl.out; simp [Go.splice]; omega
  · simp [Go.splice]
/-- What fields hands back, of an entry of kind k in block b. -/
def fieldsOf (b : Nat) (k : Int) : List Value :=
  if k = 1 then [.pointer (some ⟨b, 1, none⟩), .pointer (some ⟨b, 2, none⟩), .pointer (some ⟨b, 3, none⟩), .pointer (some ⟨b, 4, none⟩), .pointer (some ⟨b, 5, none⟩)]
  else if k = 2 ∨ k = 3 then [.pointer (some ⟨b, 1, none⟩)] else []
theorem fields_any (b : Nat) (k : Int) (w : World) (hp : w.cell? ⟨b, 0, none⟩ = some (.int .i64 k)) :
    Calls Tryd.prog 13 #[.pointer (some ⟨b, 0, none⟩)] w fun e w' =>
      ∃ v, e = .returned v ∧ w'.ownsRow w.heap.size 43 1 v (fieldsOf b k).length (fieldsOf b k) ∧ Below w.heap.size w w' := by
  by_cases h1 : k = 1
  · subst h1
    go_enter Tryd.func13, Tryd.ntmps13
    go_wp2_with fail
    go_still_tail 12, (by kernel_rfl)
    change wpList _ _ _ _ _ w.drew
    go_wp2_with fail
    refine (insert_four w.heap.size (w.heap.size + 1) (.pointer (some ⟨b, 1, none⟩)) (.pointer (some ⟨b, 2, none⟩)) (.pointer (some ⟨b, 3, none⟩)) (.pointer (some ⟨b, 4, none⟩)) (.pointer (some ⟨b, 5, none⟩)) _ (by go_simp) rfl (by go_simp) (by go_simp) (by go_simp) (by go_simp) (by simp [Value.oneCell']) (by simp <;> omega) (by simp <;> omega)).mono ?_
    rintro e w' ⟨v, rfl, hown, hb⟩
    go_wp2
    go_ret
    exact ⟨_, rfl, ownsRow_base hown (by simp <;> omega), ((((Below.refl _ _).alloc (Nat.le_refl _) _).alloc (by simp) _).drew).trans (hb.mono (by simp <;> omega))⟩
  by_cases h2 : k = 2
  · subst h2
    go_enter Tryd.func13, Tryd.ntmps13
    go_wp2_with fail
    refine (insert_nil w.heap.size (.pointer (some ⟨b, 1, none⟩)) _ (by simp) rfl).mono ?_
    rintro e w' ⟨v, rfl, hown, hb⟩
    go_wp2
    go_ret
    exact ⟨_, rfl, ownsRow_base hown (by simp <;> omega), ((Below.refl _ _).alloc (Nat.le_refl _) _).trans (hb.mono (by simp <;> omega))⟩
  by_cases h3 : k = 3
  · subst h3
    go_enter Tryd.func13, Tryd.ntmps13
    go_wp2_with fail
    refine (insert_nil w.heap.size (.pointer (some ⟨b, 1, none⟩)) _ (by simp) rfl).mono ?_
    rintro e w' ⟨v, rfl, hown, hb⟩
    go_wp2
    go_ret
    exact ⟨_, rfl, ownsRow_base hown (by simp <;> omega), ((Below.refl _ _).alloc (Nat.le_refl _) _).trans (hb.mono (by simp <;> omega))⟩
  have e2 : (k == 1) = false := by simpa using h1
  have e3 : (k == 2) = false := by simpa using h2
  have e4 : (k == 3) = false := by simpa using h3
  have hf : Hid (fieldsOf b k = []) := by show fieldsOf b k = []; simp [fieldsOf, h1, h2, h3]
  go_enter Tryd.func13, Tryd.ntmps13
  go_wp2_with fail
  go_ret
  exact ⟨_, rfl, by rw [hf.out]; exact World.ownsRow_nil _ _ _ _, Below.refl _ _⟩
end Go.Proofs.YteppicfkdcofjaaDoor
