/- For every input SaveNext returns true, and leaves its argument as it was; tied: Rows.SaveNextCardSaid. Conditions: none beyond the given statement's own. (Part 2 of 8.) -/
import Derived.Test.YtlfkofkdigmnpaaGreatDoorJn1
import Derived.Laws.OwnMore
import Derived.ArgAppend
import Derived.Laws.Cover3
/- More rules in the form that the walk takes; and functions whose results lie in cells, or are to be frozen. Generic over the program. -/
namespace Go.Proofs.YtlfkofkdigmnpaaGreatDoor
set_option maxRecDepth 100000
set_option maxHeartbeats 16000000
open Go Go.RowKit
class BuildA (P : Program) (t : Nat) (pl : outParam (List (Nat × Nat))) : Prop where
  st : P.underlying t = some (.struct (P.fieldsOf t))
  pl : (P.fieldsOf t).toList.map (fun f => (P.info? f.type).map fun i => (f.offset, i.size)) = pl.map some
class EqA (P : Program) (t : Nat) (m : outParam Nat) : Prop where
  st : P.underlying t = some (.struct (P.fieldsOf t))
  held : P.stoodInHeld t = false
  guard : P.eqGuardType P.depth t = false
  flat : flatInts P (P.fieldsOf t).toList 0 = true
  len : (P.fieldsOf t).toList.length = m
theorem run_places {P : Program} {w : World} : ∀ (fs : List Field) (pl : List (Nat × Nat)), fs.map (fun f => (P.info? f.type).map fun i => (f.offset, i.size)) = pl.map some →
    (List.mapM (fun f => do pure (f.offset, ← sizeOf f.type)) fs : Sem (List (Nat × Nat))).run P w = .ok pl w
  | [], pl, h => by
    cases pl with
    | nil => simp
    | cons p r => simp at h
  | f :: fs, pl, h => by
    cases pl with
    | nil => simp at h
    | cons p r =>
      simp only [List.map_cons, List.cons.injEq] at h
      obtain ⟨h1, h2⟩ := h
      obtain ⟨i, hi, rfl⟩ := Option.map_eq_some_iff.1 h1
      have ih := run_places (P := P) (w := w) fs r h2
      have hs : (sizeOf f.type).run P w = .ok i.size w := by simp [sizeOf, typeInfo, hi]
      simp only [List.mapM_cons, Sem.run_bind, Sem.run_pure, hs, ih, Result.andThen_ok]
theorem run_build {P : Program} {t : Nat} {pl : List (Nat × Nat)} {z : Value} [hb : BuildA P t pl] [hz : ZeroA P t z] (parts : List (Nat × Value)) (w : World) (cells : Array Value) (h : Instr.fill (fun i => pl[i]?) z.cells.toList.toArray parts = some cells) :
    (Instr.build t parts.toArray).run P w = .ok (.agg cells) w := by
  have h1 := run_places (w := w) _ pl hb.pl
  have h2 : (Array.mapM (fun f => do pure (f.offset, ← sizeOf f.type)) (P.fieldsOf t) : Sem (Array (Nat × Nat))).run P w = .ok pl.toArray w := by
    rw [Array.mapM_eq_mapM_toList]
    simp only [Sem.run_map, h1]
    rfl
  unfold Instr.build
  simp only [Sem.run_bind, hz.h, Result.andThen_ok, run_underlying hb.st, h2]
  have e : (fun i : Nat => pl.toArray[i]?) = fun i : Nat => pl[i]? := by funext i; simp
  rw [Array.toArray_toList] at h
  rw [e, h]
  rfl
section
variable {P : Program} {n : Nat} {o : Oper} {S : AS} {d : Nat} {t : TypeId} {x y : Operand}
theorem zS {ps : Array (Nat × Operand)} {pl : List (Nat × Nat)} {z : Value} {zs : List AV} {cs : List PV} [hb : BuildA P t pl] [hz : ZeroA P t z] (ho : o.op = .build t ps) (h1 : z.cells.toList.all (fun u => u.oneCell') = true)
    (hk : ps.toList.all (fun p => (S.get p.2).vP) = true)
    (hf : fillA (fun i => pl[i]?) (z.cells.toList.map fun u => .p (.val u)) (ps.toList.map fun p => (p.1, S.get p.2)) = some zs) (hp : pures zs = some cs) (hd : o.dst = some d) (hn : d < n) : zG P n o S [] (.p (.agg cs)) none :=
  a_build ho (fun parts w cells h => run_build parts w cells h) (fun u hu => List.all_eq_true.1 h1 u hu) hk hf (vG hp) hd hn
theorem zeros_eq (z : Array Value) (len : Nat) : ((Array.range len).map (z[· % z.size]!)) = ((List.range len).map (z[· % z.size]!)).toArray := by
  apply Array.ext'
  simp [Array.toList_range]
theorem w_buildSlice {ps : Array (Nat × Operand)} {len e sz by_ : Nat} {z : Value} {zs : List AV} [ht : Und P t (.slice e)] [hi : InfoA P e z sz by_] (ho : o.op = .buildSlice t len ps)
    (hl : len ≤ maxLen) (hsmall : ¬ len * sz > 2 ^ 24) (hpos : ¬ len * sz = 0) (hz : ((List.range (len * sz)).map (z.cells[· % z.cells.size]!)).all (fun u => u.oneCell') = true) (hk : ps.toList.all (fun p => (S.get p.2).vP) = true)
    (hf : fillA (fun i => some (i * sz, sz)) (((List.range (len * sz)).map (z.cells[· % z.cells.size]!)).map fun u => .p (.val u)) (ps.toList.map fun p => (p.1, S.get p.2)) = some zs) (hlen : zs.length = len * sz) (hd : o.dst = some d) (hn : d < n) :
    zG P n o S [] (.own d) (some (.row e sz len zs)) := by
  obtain ⟨i, hi1, hi2⟩ := Option.map_eq_some_iff.1 hi.h
  simp only [Prod.mk.injEq] at hi2
  obtain ⟨hzi, hisz, _⟩ := hi2
  subst hisz
  exact a_buildSlice ho (fun parts w cells h => run_buildSlice w t e len _ cells i z ht.h hi1 hzi hsmall hpos (by rw [zeros_eq]; exact h)) hl (fun u hu => List.all_eq_true.1 hz u hu) hk hf hlen hd hn
theorem zB {id off m : Nat} {b : Blk} {av : AV} {agg : Bool} [h : TyA P t agg m] (ho : o.op = .store t x y) (hx : S.get x = .ptr id off) (hb : S.blk id = some b) (hy : S.get y = av) (hk : av.vP = true)
    (hlen : av.xJ.length = m) (hle : off + m ≤ b.xs.length) (hlb : b.lentB = false) (hd : o.dst = none) : Step P n o S { S with s := putL S.s id (b.setXs (splice b.xs off av.xJ)) } :=
  s_store ho hx hb hy hk h.sz hlen hle hlb hd
theorem w_appendP {id e sz by_ m : Nat} {z : Value} {xs : List AV} {es : List PV} [ht : Und P t (.slice e)] [hi : InfoA P e z sz by_] (ho : o.op = .call { callee := .builtin .append, args := #[x, y], argTypes := #[t, t] }) (hx : S.get x = .own id) (hb : S.blk id = some (.row e sz m xs))
    (hy : S.get y = .p (.sl es)) (hes : ∀ e ∈ es, e.cells.length = sz) (hlim : (m + es.length) * by_ ≤ 140737488355328 ∧ m + es.length ≤ maxLen) (hzs : z.cells.size = sz) (hsz : 0 < sz) (hd : o.dst = some d) (hn : d < n) :
    Step P n o S ((S.create id (.row e sz (m + es.length) (xs ++ (flat es).map AV.p))).put d (.own id)) :=
  s_appendP ho hx hb hy hes ht.h hi.h hzs hsz hlim.2 hlim.1 hd hn
theorem w_appendO {id id2 e ty2 sz by_ m k : Nat} {z : Value} {xs news : List AV} [ht : Und P t (.slice e)] [hi : InfoA P e z sz by_] (ho : o.op = .call { callee := .builtin .append, args := #[x, y], argTypes := #[t, t] }) (hx : S.get x = .own id) (hb : S.blk id = some (.row e sz m xs))
    (hy : S.get y = .own id2) (hb2 : S.blk id2 = some (.row ty2 sz k news)) (hlim : (m + k) * by_ ≤ 140737488355328 ∧ m + k ≤ maxLen) (hzs : z.cells.size = sz) (hsz : 0 < sz) (hd : o.dst = some d) (hn : d < n) :
    Step P n o S ((S.create id (.row e sz (m + k) (xs ++ news))).put d (.own id)) :=
  s_appendO ho hx hb hy hb2 ht.h hi.h hzs hsz hlim.2 hlim.1 hd hn
theorem w_str {src dst e : TypeId} {bs : List Int} [hs : Und P src (.slice e)] [he : Und P e (.int .u8)] [ht : Und P dst .string] (ho : o.op = .convert src dst x) (hx : S.get x = .p (.sl (byts bs))) (hd : o.dst = some d) (hn : d < n) :
    zG P n o S [] (.p (.val (.string (strOfNums bs)))) none := a_str ho hx hs.h he.h ht.h hd hn
theorem w_eqlT {xt yt m : TypeId} {ps qs : List PV} {la lb : List (IntKind × Int)} [h : EqA P xt m] (ho : o.op = .binOp .eql xt x y yt) (hx : S.get x = .p (.agg ps)) (hy : S.get y = .p (.agg qs)) (ha : vF ps = some la) (hb : vF qs = some lb) (hab : la.map Prod.fst = lb.map Prod.fst)
    (hlen : la.length = m) (hd : o.dst = some d) (hn : d < n) : zG P n o S [] (.p (.val (.bool (decide (la = lb))))) none :=
  a_eqlT ho hx hy ha hb hab (hlen.trans h.len.symm) h.st h.held h.guard h.flat hd hn
end
theorem zZ.known {P : Program} {n : Nat} {S : AS} {o : Oper} {ops : Array Oper} {rest : List Oper} {K : Exit → AS → Prop} {j t : Nat} {want b : Bool} (_hg : o.guard = some (j, want)) (_ht : (ops[j]?).bind (·.dst) = some t) (_hb : S.tmp t = .p (.val (.bool b))) (_hk : b = true ∨ b = false)
    (h : zZ P n ops (o :: rest) S K) : zZ P n ops (o :: rest) S K := h
/-! ### Rows of pure cells: as rows -/
inductive Alike : Blk → Blk → Prop
  | refl (b : Blk) : Alike b b
  | rp (t size n : Nat) (xs : List PV) : Alike (.row t size n (xs.map AV.p)) (.prow t size n xs)
  | pr (t size n : Nat) (xs : List PV) : Alike (.prow t size n xs) (.row t size n (xs.map AV.p))
theorem Alike.ok {b b' : Blk} (h : Alike b b') {M : Nat → Nat → Prop} {B : Nat} {ρ : Nat → Value} {w : World} {v : Value} (hb : wD M B ρ w v b) : wD M B ρ w v b' := by
  cases h <;> exact hb
theorem Alike.kill {b b' : Blk} (h : Alike b b') (id : Nat) : Alike (b.kill id) (b'.kill id) := by
  cases h with
  | refl => exact .refl _
  | rp t size n xs =>
    show Alike (.row t size n ((xs.map AV.p).map (AV.kill id))) _
    rw [kill_pures]
    exact .rp _ _ _ _
  | pr t size n xs =>
    show Alike _ (.row t size n ((xs.map AV.p).map (AV.kill id)))
    rw [kill_pures]
    exact .pr _ _ _ _
/-- The same frame, but for how rows are written. -/
structure xO (S S' : AS) : Prop where
  t : ∀ i, S'.tmp i = S.tmp i
  s : ∀ id, (S.blk id = none ∧ S'.blk id = none) ∨ ∃ b b', S.blk id = some b ∧ S'.blk id = some b' ∧ Alike b b'
theorem xO.refl (S : AS) : xO S S := ⟨fun _ => rfl, fun id => by
  cases h : S.blk id with
  | none => exact .inl ⟨rfl, rfl⟩
  | some b => exact .inr ⟨b, b, rfl, rfl, .refl b⟩⟩
theorem map_p_inj : ∀ {xs ys : List PV}, xs.map AV.p = ys.map AV.p → xs = ys
  | [], [], _ => rfl
  | [], _ :: _, h => by simp at h
  | _ :: _, [], h => by simp at h
  | x :: xs, y :: ys, h => by
    simp only [List.map_cons, List.cons.injEq, AV.p.injEq] at h
    rw [h.1, map_p_inj h.2]
theorem Alike.trans {a b c : Blk} (h : Alike a b) (h' : Alike b c) : Alike a c := by
  cases h with
  | refl => exact h'
  | rp t size n xs =>
    cases h' with
    | refl => exact .rp _ _ _ _
    | pr => exact .refl _
  | pr t size n xs =>
    generalize hb : Blk.row t size n (xs.map AV.p) = b at h'
    cases h' with
    | refl => subst hb; exact .pr _ _ _ _
    | rp t2 size2 n2 ys =>
      simp only [Blk.row.injEq] at hb
      obtain ⟨rfl, rfl, rfl, hxy⟩ := hb
      rw [map_p_inj hxy]
      exact .refl _
    | pr => cases hb
theorem xO.trans {S S1 S2 : AS} (h : xO S S1) (h' : xO S1 S2) : xO S S2 := ⟨fun i => (h'.t i).trans (h.t i), fun id => by
  rcases h.s id with ⟨h1, h2⟩ | ⟨b1, b2, h1, h2, ha⟩
  · rcases h'.s id with ⟨_, h3⟩ | ⟨b3, _, h3, _, _⟩
    · exact .inl ⟨h1, h3⟩
    · rw [h2] at h3; cases h3
  · rcases h'.s id with ⟨h3, _⟩ | ⟨b3, b4, h3, h4, hb⟩
    · rw [h2] at h3; cases h3
    · rw [h2] at h3
      obtain rfl := Option.some.inj h3
      exact .inr ⟨b1, b4, h1, h4, ha.trans hb⟩⟩
theorem xO.mut {S S' : AS} (h : xO S S') {M : Nat → Nat → Prop} {ρ : Nat → Value} {k c : Nat} (hk : Mut M S' ρ k c) : Mut M S ρ k c := by
  rcases hk with hk | ⟨id, b, hb, h2, ht⟩
  · exact .inl hk
  · rcases h.s id with ⟨_, h1⟩ | ⟨b1, b2, h1, h3, ha⟩
    · rw [h1] at hb; cases hb
    · rw [hb] at h3
      obtain rfl := Option.some.inj h3
      exact .inr ⟨id, b1, h1, h2, by cases ha <;> first | exact ht | trivial⟩
theorem xO.sat {S S' : AS} (h : xO S S') {M : Nat → Nat → Prop} {n : Nat} {w0 : Home} {w : World} {ρ : Nat → Value} {a : Act} (hs : Sat M n w0 S ρ a w) : Sat M n w0 S' ρ a w := by
  refine ⟨hs.below, hs.out, hs.tab, hs.size, hs.defers, fun i => ?_, fun id b hb => ?_, fun id b k hb hk => ?_, hs.fix, hs.free, fun i j bi bj k hi hj h1 h2 => ?_⟩
  · rw [h.t i]
    exact (hs.tmps i).mono fun _ _ _ hk => h.mut hk
  · rcases h.s id with ⟨_, h1⟩ | ⟨b1, b2, h1, h2, ha⟩
    · rw [h1] at hb; cases hb
    · rw [hb] at h2
      obtain rfl := Option.some.inj h2
      exact (ha.ok (hs.blks id b1 h1)).mono fun _ _ hk => h.mut hk
  · rcases h.s id with ⟨_, h1⟩ | ⟨b1, b2, h1, h2, ha⟩
    · rw [h1] at hb; cases hb
    · exact hs.mine id b1 k h1 hk
  · rcases h.s i with ⟨_, h3⟩ | ⟨b1, _, h3, _, _⟩
    · rw [h3] at hi; cases hi
    · rcases h.s j with ⟨_, h4⟩ | ⟨b2, _, h4, _, _⟩
      · rw [h4] at hj; cases hj
      · exact hs.dist i j b1 b2 k h3 h4 h1 h2
theorem xO.sub {S S' : AS} (h : xO S S') : Sub S S' := fun _ _ _ ρ _ _ hs => ⟨ρ, h.sat hs⟩
theorem xO.put {S S' : AS} (h : xO S S') (d : Nat) (x : AV) : xO (S.put d x) (S'.put d x) := ⟨fun i => by
  rw [AS.tmp_put, AS.tmp_put]
  split
  · rfl
  · exact h.t i, h.s⟩
theorem xO.create {S S' : AS} (h : xO S S') (id : Nat) {b b' : Blk} (hb : Alike b b') : xO (S.create id b) (S'.create id b') := ⟨fun i => by rw [AS.tmp_create, AS.tmp_create, h.t i], fun j => by
  rw [AS.wS, AS.wS]
  split
  · exact .inr ⟨_, _, rfl, rfl, hb.kill id⟩
  · rcases h.s j with ⟨h1, h2⟩ | ⟨b1, b2, h1, h2, ha⟩
    · exact .inl ⟨by rw [h1]; rfl, by rw [h2]; rfl⟩
    · exact .inr ⟨b1.kill id, b2.kill id, by rw [h1]; rfl, by rw [h2]; rfl, ha.kill id⟩⟩
theorem xO.drop {S S' : AS} (h : xO S S') (id : Nat) : xO (S.drop id) (S'.drop id) := ⟨fun i => by
  show (S'.kill id).tmp i = (S.kill id).tmp i
  rw [AS.tmp_kill, AS.tmp_kill, h.t i], fun j => by
  rw [AS.vK, AS.vK]
  split
  · exact .inl ⟨rfl, rfl⟩
  · rcases h.s j with ⟨h1, h2⟩ | ⟨b1, b2, h1, h2, ha⟩
    · exact .inl ⟨by rw [h1]; rfl, by rw [h2]; rfl⟩
    · exact .inr ⟨b1.kill id, b2.kill id, by rw [h1]; rfl, by rw [h2]; rfl, ha.kill id⟩⟩
def AS.tag (S : AS) (id : Nat) (b : Blk) : AS := { S with s := putL S.s id b }
theorem AS.xD (S : AS) (id : Nat) (b : Blk) (j : Nat) : (S.tag id b).blk j = if id = j then some b else S.blk j := rfl
theorem AS.wF (S : AS) (id : Nat) (b : Blk) (x : Operand) : (S.tag id b).get x = S.get x := by cases x <;> rfl
theorem wT {S : AS} {id : Nat} {b b' : Blk} (hb : S.blk id = some b) (h : Alike b b') : xO S (S.tag id b') := ⟨fun _ => rfl, fun j => by
  rw [AS.xD]
  by_cases hj : id = j
  · subst hj
    rw [if_pos rfl]
    exact .inr ⟨b, b', hb, rfl, h⟩
  · rw [if_neg hj]
    exact (xO.refl S).s j⟩
theorem wU {S : AS} {id : Nat} {b b' : Blk} (hb : S.blk id = some b) (h : Alike b' b) : xO (S.tag id b') S := ⟨fun _ => rfl, fun j => by
  rw [AS.xD]
  by_cases hj : id = j
  · subst hj
    rw [if_pos rfl]
    exact .inr ⟨b', b, rfl, hb, h⟩
  · rw [if_neg hj]
    exact (xO.refl S).s j⟩
theorem Step.same {P : Program} {n : Nat} {o : Oper} {S S1 T T1 : AS} (h : Step P n o S T) (h1 : xO S1 S) (h2 : xO T T1) : Step P n o S1 T1 :=
  fun M w0 ρ a w K Q hs hK => h M w0 ρ a w K Q (h1.sat hs) fun ρ' a' w' hs' => hK ρ' a' w' (h2.sat hs')
theorem zG.nb {P : Program} {n : Nat} {o : Oper} {S : AS} {bs : List Nat} {av : AV} {b b' : Blk} (h : zG P n o S bs av (some b)) (ha : Alike b b') : zG P n o S bs av (some b') := by
  intro S2 hg hbl
  refine (h S2 hg hbl).same (xO.refl _) ?_
  cases o.dst with
  | none => exact xO.refl _
  | some d => exact ((xO.refl S2).create d ha).put d av
theorem zG.tag {P : Program} {n : Nat} {o : Oper} {S : AS} {bs : List Nat} {av : AV} {id : Nat} {b b' : Blk} (hb : S.blk id = some b) (ha : Alike b b') (ha' : Alike b' b) (hin : id ∈ bs) (h : zG P n o (S.tag id b') bs av none) : zG P n o S bs av none := by
  intro S2 hg hbl
  have hb2 : S2.blk id = some b := (hbl id hin).trans hb
  refine (h (S2.tag id b') (fun x hx => by rw [AS.wF, AS.wF]; exact hg x hx) (fun j hj => ?_)).same (wT hb2 ha) ?_
  · rw [AS.xD, AS.xD]
    split
    · rfl
    · exact hbl j hj
  · cases o.dst with
    | none => exact wU hb2 ha'
    | some d => exact (wU hb2 ha').put d av
/-! ### Rows of bytes -/
def bxs (bs : List Int) : List AV := (byts bs).map AV.p
def yH (e : Nat) (bs : List Int) : Blk := .prow e 1 bs.length (byts bs)
theorem wI (e : Nat) (bs : List Int) : Alike (.row e 1 bs.length (bxs bs)) (yH e bs) := .rp _ _ _ _
theorem rowB_alike' (e : Nat) (bs : List Int) : Alike (yH e bs) (.row e 1 bs.length (bxs bs)) := .pr _ _ _ _
def readB : List AV → Option (List Int)
  | [] => some []
  | .p (.val (.int .u8 b)) :: r => match readB r with
    | some l => some (b :: l)
    | none => none
  | _ => none
theorem readB_spec : ∀ {l : List AV} {bs : List Int}, readB l = some bs → l = bxs bs := by
  intro l
  induction l with
  | nil => intro bs h; simp only [readB, Option.some.injEq] at h; subst h; rfl
  | cons a r ih =>
    intro bs h
    unfold readB at h
    split at h
    · rename_i h0; cases h0
    · rename_i b r' h0
      injection h0 with h1 h2
      subst h1
      subst h2
      split at h
      · rename_i l2 hr
        obtain rfl := Option.some.inj h
        rw [ih hr]
        rfl
      · cases h
    · cases h
theorem wM (bs : List Int) : (byts bs).length = bs.length := by simp [byts]
theorem bxs_len (bs : List Int) : (bxs bs).length = bs.length := by simp [bxs, byts]
theorem byts_one (bs : List Int) : ∀ e ∈ byts bs, e.cells.length = 1 := fun e he => by
  simp only [byts, List.mem_map] at he
  obtain ⟨b, _, rfl⟩ := he
  rfl
theorem bxs_append (cs bs : List Int) : bxs cs ++ bxs bs = bxs (cs ++ bs) := by simp [bxs, byts]
section
variable {P : Program} {n : Nat} {o : Oper} {S : AS} {d : Nat} {t : TypeId} {x y : Operand}
theorem w_buildB {ps : Array (Nat × Operand)} {len e : Nat} {z : Value} {zs : List AV} {bs : List Int} [ht : Und P t (.slice e)] [hi : InfoA P e z 1 1] (ho : o.op = .buildSlice t len ps)
    (hl : len ≤ maxLen) (hsmall : ¬ len * 1 > 2 ^ 24) (hpos : ¬ len * 1 = 0) (hz : ((List.range (len * 1)).map (z.cells[· % z.cells.size]!)).all (fun u => u.oneCell') = true) (hk : ps.toList.all (fun p => (S.get p.2).vP) = true)
    (hf : fillA (fun i => some (i * 1, 1)) (((List.range (len * 1)).map (z.cells[· % z.cells.size]!)).map fun u => .p (.val u)) (ps.toList.map fun p => (p.1, S.get p.2)) = some zs) (hlen : zs.length = len * 1) (hb : readB zs = some bs) (hd : o.dst = some d) (hn : d < n) :
    zG P n o S [] (.own d) (some (yH e bs)) := by
  have h := w_buildSlice (P := P) (S := S) ho hl hsmall hpos hz hk hf hlen hd hn
  have e1 := readB_spec hb
  subst e1
  have e2 : bs.length = len := by rw [bxs_len, Nat.mul_one] at hlen; exact hlen
  subst e2
  exact h.nb (wI e bs)
theorem w_appB {id e : Nat} {z : Value} {cs bs : List Int} [ht : Und P t (.slice e)] [hi : InfoA P e z 1 1] (ho : o.op = .call { callee := .builtin .append, args := #[x, y], argTypes := #[t, t] }) (hx : S.get x = .own id) (hb : S.blk id = some (yH e cs))
    (hy : S.get y = .p (.sl (byts bs))) (hlim : cs.length + bs.length ≤ 140737488355328) (hzs : z.cells.size = 1) (hd : o.dst = some d) (hn : d < n) :
    Step P n o S ((S.create id (yH e (cs ++ bs))).put d (.own id)) := by
  have h := w_appendP (P := P) (by_ := 1) (sz := 1) (S := S.tag id (.row e 1 cs.length (bxs cs))) (o := o) (d := d) (by exact ho) (by rw [AS.wF]; exact hx) (by rw [AS.xD, if_pos rfl]) (by rw [AS.wF]; exact hy) (byts_one bs) (by rw [wM]; simp only [maxLen]; omega) hzs (by decide) hd hn
  have e1 : Blk.row e 1 (cs.length + (byts bs).length) (bxs cs ++ (flat (byts bs)).map AV.p) = .row e 1 (cs ++ bs).length (bxs (cs ++ bs)) := by
    rw [byts_flat, wM]
    show Blk.row e 1 (cs.length + bs.length) (bxs cs ++ bxs bs) = _
    rw [bxs_append]
    simp
  rw [e1] at h
  exact h.same (wT hb (rowB_alike' e cs)) (((wU hb (wI e cs)).create id (wI e (cs ++ bs))).put d _)
theorem w_appOB {id id2 e e2 : Nat} {z : Value} {cs bs : List Int} [ht : Und P t (.slice e)] [hi : InfoA P e z 1 1] (ho : o.op = .call { callee := .builtin .append, args := #[x, y], argTypes := #[t, t] }) (hx : S.get x = .own id) (hb : S.blk id = some (yH e cs))
    (hy : S.get y = .own id2) (hb2 : S.blk id2 = some (yH e2 bs)) (hlim : cs.length + bs.length ≤ 140737488355328) (hzs : z.cells.size = 1) (hd : o.dst = some d) (hn : d < n) :
    Step P n o S ((S.create id (yH e (cs ++ bs))).put d (.own id)) := by
  have hb3 : (S.tag id2 (.row e2 1 bs.length (bxs bs))).blk id = some (yH e cs) ∨ id = id2 ∧ e = e2 ∧ cs = bs := by
    by_cases h : id2 = id
    · subst h
      rw [hb2] at hb
      simp only [yH, Option.some.injEq, Blk.prow.injEq] at hb
      refine .inr ⟨rfl, hb.1.symm, ?_⟩
      have h3 := hb.2.2.2
      have inj : ∀ l m : List Int, byts l = byts m → l = m := by
        intro l
        induction l with
        | nil => intro m h; cases m with
          | nil => rfl
          | cons => simp [byts] at h
        | cons a r ih => intro m h; cases m with
          | nil => simp [byts] at h
          | cons c q =>
            simp only [byts, List.map_cons, List.cons.injEq, PV.val.injEq, Value.int.injEq, true_and] at h
            rw [h.1, ih q h.2]
      exact (inj _ _ h3).symm
    · left
      rw [AS.xD, if_neg h]
      exact hb
  have go : ∀ {S1 S0 : AS}, S1.get x = .own id → S1.blk id = some (.row e 1 cs.length (bxs cs)) → S1.get y = .own id2 → S1.blk id2 = some (.row e2 1 bs.length (bxs bs)) → xO S S1 → xO S1 S → Step P n o S ((S.create id (yH e (cs ++ bs))).put d (.own id)) := by
    intro S1 _ h1 h2 h3 h4 h5 h6
    have h := w_appendO (P := P) (by_ := 1) (sz := 1) (S := S1) ho h1 h2 h3 h4 (by simp only [maxLen]; omega) hzs (by decide) hd hn
    have e1 : Blk.row e 1 (cs.length + bs.length) (bxs cs ++ bxs bs) = .row e 1 (cs ++ bs).length (bxs (cs ++ bs)) := by
      rw [bxs_append]
      simp
    rw [e1] at h
    exact h.same h5 ((h6.create id (wI e (cs ++ bs))).put d _)
  rcases hb3 with hb3 | ⟨rfl, rfl, rfl⟩
  · have s1 := wT hb2 (rowB_alike' e2 bs)
    have u1 := wU hb2 (wI e2 bs)
    have s2 := wT hb3 (rowB_alike' e cs)
    have u2 := wU hb3 (wI e cs)
    by_cases hne : id = id2
    · subst hne
      rw [AS.xD, if_pos rfl] at hb3
      cases hb3
    · exact go (S0 := S) (by rw [AS.wF, AS.wF]; exact hx) (by rw [AS.xD, if_pos rfl]) (by rw [AS.wF, AS.wF]; exact hy) (by rw [AS.xD, if_neg hne, AS.xD, if_pos rfl]) (s1.trans s2) (u2.trans u1)
  · exact go (S0 := S) (by rw [AS.wF]; exact hx) (by rw [AS.xD, if_pos rfl]) (by rw [AS.wF]; exact hy) (by rw [AS.xD, if_pos rfl]) (wT hb (rowB_alike' e cs)) (wU hb (wI e cs))
theorem sub_freezeB {d id e : Nat} {bs : List Int} (hd : S.tmp d = .own id) (hb : S.blk id = some (yH e bs)) : Sub S ((S.drop id).put d (.p (.sl (byts bs)))) :=
  ((wT hb (rowB_alike' e bs)).sub.trans (sub_freeze (S := S.tag id (.row e 1 bs.length (bxs bs))) (es := byts bs) hd (by rw [byts_flat, AS.xD, if_pos rfl]; rfl) (wM bs))).trans (((wU hb (wI e bs)).drop id).put d _).sub
theorem w_indexB {ix : Operand} {e : Nat} {j : Int} {k : IntKind} {bs : List Int} {agg : Bool} [ht : Und P t (.slice e)] [he : TyA P e agg 1] (ho : o.op = .indexAddr t x ix) (hx : S.get x = .p (.sl (byts bs))) (hi : S.get ix = .p (.val (.int k j)))
    (hj : 0 ≤ j ∧ j < bs.length) (hd : o.dst = some d) (hn : d < n) : zG P n o S [] (.pt [.val (.int .u8 (bs.getD j.toNat 0))]) none := by
  obtain ⟨m, rfl⟩ := Int.eq_ofNat_of_zero_le hj.1
  have hm : m < bs.length := by omega
  have hc : (byts bs)[m]? = some (.val (.int .u8 (bs.getD m 0))) := by simp [byts, hm, List.getD]
  exact y8 (P := P) (i := m) ho hx hi (byts_one bs) hc hd hn
/-- the address of an element of an own row -/
theorem w_indexO {ix : Operand} {id e ty sz m : Nat} {j : Int} {k : IntKind} {xs : List AV} {agg : Bool} [ht : Und P t (.slice e)] [he : TyA P e agg sz] (ho : o.op = .indexAddr t x ix) (hx : S.get x = .own id) (hb : S.blk id = some (.row ty sz m xs)) (hi : S.get ix = .p (.val (.int k j)))
    (hj : 0 ≤ j ∧ j < m) (hd : o.dst = some d) (hn : d < n) : zG P n o S [id] (.ptr id (j.toNat * sz)) none :=
  zG.pure hd hn fun S2 hg hbl M w0 ρ a w hs => by
    have h1 := hs.rep x
    rw [hg x (by rw [ho]; simp [Op.operands]), hx] at h1
    have h2 := hs.val ((hg ix (by rw [ho]; simp [Op.operands])).trans hi)
    have hv := vN h1
    obtain ⟨ys, hown, _⟩ := hs.blks id _ ((hbl id (by simp)).trans hb)
    rcases hown.2 with ⟨_, h⟩ | ⟨g, cap, cur, hr, _⟩
    · omega
    · refine ⟨.pointer (some ⟨g, j.toNat * sz, none⟩), w, ?_, Below.refl _ _, .ptr id _ g (by rw [hr]; rfl)⟩
      unfold execOp
      rw [ho]
      simp only [hv, hr, h2, Sem.run_bind]
      have : (Instr.indexAt t (.slice (some ⟨g, 0, none⟩) m cap) (.int k j)).run P w = .ok (.pointer (some ⟨g, j.toNat * sz, none⟩)) w := by
        have hel : P.elem t = e := by simp [Program.elem, ht.h]
        rw [run_indexAt_slice w t _ _ _ _ _ (by rw [hel]; exact ht.h), if_pos ⟨by omega, by omega⟩, hel, he.sz w]
        show Result.ok _ w = _
        rw [add_lit, Nat.zero_add]
      rw [this]
      rfl
theorem vV {t' : Nat} {bs : List Int} [ht : Und P t (.slice t')] (ho : o.op = .call { callee := .builtin .len, args := #[x], argTypes := #[t] }) (hx : S.get x = .p (.sl (byts bs))) (hd : o.dst = some d) (hn : d < n) : zG P n o S [] (.p (.val (.int .i64 bs.length))) none := by
  have h := xE (P := P) ho hx hd hn
  rw [wM] at h
  exact h
end
/-! ### What is said of a frame, anew and less -/
theorem look_mem {α : Type} {l : List (Nat × α)} {i : Nat} {x : α} (h : look l i = some x) : (i, x) ∈ l := by
  induction l with
  | nil => cases h
  | cons p r ih =>
    obtain ⟨k, y⟩ := p
    simp only [look] at h
    split at h
    · rename_i hk
      subst hk
      obtain rfl := Option.some.inj h
      exact List.mem_cons_self
    · exact List.mem_cons_of_mem _ (ih h)
theorem sub_less {S S' : AS} (ht : ∀ p ∈ S'.t, p.2 = S.tmp p.1) (hs : ∀ p ∈ S'.s, S.blk p.1 = some p.2) : Sub S S' :=
  fun M n w0 ρ a w h => by
    have hb : ∀ {id b}, S'.blk id = some b → S.blk id = some b := fun {id b} hb => hs (id, b) (look_mem hb)
    have hm : ∀ k c, k < w.heap.size → Mut M S' ρ k c → Mut M S ρ k c := fun k c _ hk => by
      rcases hk with hk | ⟨id, b, h1, h2⟩
      · exact .inl hk
      · exact .inr ⟨id, b, hb h1, h2⟩
    refine ⟨ρ, ⟨h.below, h.out, h.tab, h.size, h.defers, fun i => ?_, fun id b hbk => ?_, fun id b k hbk hk => h.mine id b k (hb hbk) hk, h.fix, h.free, fun i j bi bj k hi hj => h.dist i j bi bj k (hb hi) (hb hj)⟩⟩
    · show yN _ _ _ ((look S'.t i).getD .any) _
      cases hl : look S'.t i with
      | none => exact .any _
      | some x =>
        have e : x = S.tmp i := ht (i, x) (look_mem hl)
        rw [Option.getD_some, e]
        exact (h.tmps i).mono hm
    · have h1 := h.blks id b (hb hbk)
      cases b with
      | row t size m xs =>
        obtain ⟨ys, ho, hc⟩ := h1
        exact ⟨ys, ho, hc.mono hm⟩
      | prow t size m xs =>
        obtain ⟨ys, ho, hc⟩ := h1
        exact ⟨ys, ho, hc.mono hm⟩
      | box t xs =>
        obtain ⟨g, ys, hv, hg, hh, hc⟩ := h1
        exact ⟨g, ys, hv, hg, hh, hc.mono hm⟩
      | lent t size m xs =>
        obtain ⟨ys, ho, hc⟩ := h1
        exact ⟨ys, ho, hc.mono hm⟩
inductive zY (S : AS) : List Nat → List (Nat × AV) → Prop
  | nil : zY S [] []
  | p {i : Nat} {x : PV} {is : List Nat} {l : List (Nat × AV)} (h : S.tmp i = .p x) (t : zY S is l) : zY S (i :: is) ((i, .p x) :: l)
  | own {i id : Nat} {is : List Nat} {l : List (Nat × AV)} (h : S.tmp i = .own id) (t : zY S is l) : zY S (i :: is) ((i, .own id) :: l)
  | ptr {i id off : Nat} {is : List Nat} {l : List (Nat × AV)} (h : S.tmp i = .ptr id off) (t : zY S is l) : zY S (i :: is) ((i, .ptr id off) :: l)
  | pt {i : Nat} {xs : List PV} {is : List Nat} {l : List (Nat × AV)} (h : S.tmp i = .pt xs) (t : zY S is l) : zY S (i :: is) ((i, .pt xs) :: l)
  | tup {i : Nat} {xs : List AV} {is : List Nat} {l : List (Nat × AV)} (h : S.tmp i = .tup xs) (t : zY S is l) : zY S (i :: is) ((i, .tup xs) :: l)
  | clo {i f : Nat} {ks : List Nat} {is : List Nat} {l : List (Nat × AV)} (h : S.tmp i = .clo f ks) (t : zY S is l) : zY S (i :: is) ((i, .clo f ks) :: l)
  | skip {i : Nat} {is : List Nat} {l : List (Nat × AV)} (t : zY S is l) : zY S (i :: is) l
inductive zW (S : AS) : List Nat → List (Nat × Blk) → Prop
  | nil : zW S [] []
  | boxP {i ty : Nat} {xs : List AV} {cs : List PV} {is : List Nat} {l : List (Nat × Blk)} (h : S.blk i = some (.box ty xs)) (hp : pures xs = some cs) (t : zW S is l) : zW S (i :: is) ((i, .box ty (cs.map AV.p)) :: l)
  | yH {i e : Nat} {bs : List Int} {is : List Nat} {l : List (Nat × Blk)} (h : S.blk i = some (yH e bs)) (t : zW S is l) : zW S (i :: is) ((i, yH e bs) :: l)
  | some {i : Nat} {b : Blk} {is : List Nat} {l : List (Nat × Blk)} (h : S.blk i = some b) (t : zW S is l) : zW S (i :: is) ((i, b) :: l)
  | skip {i : Nat} {is : List Nat} {l : List (Nat × Blk)} (t : zW S is l) : zW S (i :: is) l
theorem yY {S : AS} {is js : List Nat} {l : List (Nat × AV)} {m : List (Nat × Blk)} (ht : zY S is l) (hb : zW S js m) : Sub S { t := l, s := m } := by
  refine sub_less ?_ ?_
  · clear hb
    induction ht with
    | nil => intro p hp; cases hp
    | p h _ ih => intro p hp; rcases List.mem_cons.1 hp with rfl | hp; exact h.symm; exact ih p hp
    | own h _ ih => intro p hp; rcases List.mem_cons.1 hp with rfl | hp; exact h.symm; exact ih p hp
    | ptr h _ ih => intro p hp; rcases List.mem_cons.1 hp with rfl | hp; exact h.symm; exact ih p hp
    | pt h _ ih => intro p hp; rcases List.mem_cons.1 hp with rfl | hp; exact h.symm; exact ih p hp
    | tup h _ ih => intro p hp; rcases List.mem_cons.1 hp with rfl | hp; exact h.symm; exact ih p hp
    | clo h _ ih => intro p hp; rcases List.mem_cons.1 hp with rfl | hp; exact h.symm; exact ih p hp
    | skip _ ih => exact ih
  · clear ht
    induction hb with
    | nil => intro p hp; cases hp
    | boxP h hp _ ih =>
      intro p hp2
      rcases List.mem_cons.1 hp2 with rfl | hp2
      · rw [h, vG hp]
      · exact ih p hp2
    | yH h _ ih => intro p hp; rcases List.mem_cons.1 hp with rfl | hp; exact h; exact ih p hp
    | some h _ ih => intro p hp; rcases List.mem_cons.1 hp with rfl | hp; exact h; exact ih p hp
    | skip _ ih => exact ih
theorem zX.zV {P : Program} {n : Nat} {S : AS} {id : Nat} {ops : List Oper} {K : Exit → AS → Prop} (is js : List Nat) {l : List (Nat × AV)} {m : List (Nat × Blk)} (ht : zY S is l) (hb : zW S js m)
    (h : zZ P n ops.toArray ops { t := l, s := m } K) : zX P n (.region id ops.toArray false) S K := zX.sub (yY ht hb) (zX.region h)
theorem zX.yA {P : Program} {n : Nat} {S : AS} {id : Nat} {ops : List Oper} {K : Exit → AS → Prop} (is js : List Nat) {l : List (Nat × AV)} {m : List (Nat × Blk)} (ht : zY S is l) (hb : zW S js m)
    (h : zX P n (.region id ops.toArray true) { t := l, s := m } K) : zX P n (.region id ops.toArray true) S K := zX.sub (yY ht hb) h
/-! ### Functions whose results lie in cells -/
inductive ResV (P : Program) (S : AS) : ResultVar → PV → Prop
  | tmp {t : Nat} {x : PV} (h : S.tmp t = .p x) : ResV P S (.tmp t) x
  | cell1 {a t id off m : Nat} {b : Blk} {c : PV} [ht : TyA P t false m] (h : S.tmp a = .ptr id off) (hb : S.blk id = some b) (hc : b.xs[off]? = some (.p c)) : ResV P S (.cell a t) c
  | cellN {a t id off m : Nat} {b : Blk} {cs : List PV} [ht : TyA P t true m] (h : S.tmp a = .ptr id off) (hb : S.blk id = some b) (hc : pures ((b.xs.drop off).take m) = some cs) (hl : cs.length = m) : ResV P S (.cell a t) (.agg cs)
inductive ResVs (P : Program) (S : AS) : List ResultVar → List PV → Prop
  | nil : ResVs P S [] []
  | cons {r : ResultVar} {x : PV} {rs : List ResultVar} {xs : List PV} (h : ResV P S r x) (t : ResVs P S rs xs) : ResVs P S (r :: rs) (x :: xs)
inductive GivesV (P : Program) (fn : Func) (S : AS) : RV → Prop
  | p {r : ResultVar} {x : PV} (hr : fn.results = #[r]) (h : ResV P S r x) : GivesV P fn S (.p x)
  | tup {rs : List ResultVar} {l : List PV} (hr : fn.results = rs.toArray) (hl : rs.length ≠ 1) (h : ResVs P S rs l) : GivesV P fn S (.tup l)
  | row {t id ty size n : Nat} {xs : List PV} (hr : fn.results = #[.tmp t]) (ht : S.tmp t = .own id) (hb : S.blk id = some (.row ty size n (xs.map AV.p))) : GivesV P fn S (.row ty size n xs)
theorem GivesV.tupE {P : Program} {fn : Func} {S : AS} {rs : List ResultVar} {l l' : List PV} (hr : fn.results = rs.toArray) (hl : rs.length ≠ 1) (h : ResVs P S rs l) (e : l' = l) : GivesV P fn S (.tup l') := by
  subst e
  exact .tup hr hl h
def resOne (tmps : Array Value) : ResultVar → Sem Value
  | .tmp t => pure (tmps.getD t undef)
  | .cell a t => do loadVar t (← asAddr (tmps.getD a undef))
theorem res_oneM {P : Program} {M : Nat → Nat → Prop} {n : Nat} {w0 : Home} {w : World} {S : AS} {ρ : Nat → Value} {a : Act} (hs : Sat M n w0 S ρ a w) {r : ResultVar} {x : PV} (h : ResV P S r x) :
    ∃ v, (resOne a.tmps r).run P w = .ok v w ∧ Rep (Mut M S ρ) w x v := by
  cases h with
  | @tmp t _ h =>
    have h1 := hs.tmps t
    rw [h] at h1
    exact ⟨_, rfl, rep_p h1⟩
  | @cell1 p t id off m b c ht h hb hc =>
    have h1 := hs.tmps p
    rw [h] at h1
    obtain ⟨g, hgv, hv⟩ := vO h1
    obtain ⟨ys, hcs, hcell⟩ := (hs.blks id b hb).cells hgv
    have h0 : off < b.xs.length := (List.getElem?_eq_some_iff.1 hc).1
    have hy : ys[off]? = some (ys[off]'(by rw [hcs.len]; exact h0)) := List.getElem?_eq_getElem _
    refine ⟨_, ?_, rep_p (hcs.each off _ _ hc hy)⟩
    have := loadAt_one (P := P) (ht.ag w) (hcell off _ hy).1
    simp only [Instr.loadAt, Instr.sureAddr, Sem.run_bind, Sem.run_pure, Result.andThen_ok] at this
    simp only [resOne, hv, asAddr, Sem.run_bind, Sem.run_pure, Result.andThen_ok]
    exact this
  | @cellN p t id off m b cs ht h hb hc hl =>
    have h1 := hs.tmps p
    rw [h] at h1
    obtain ⟨g, hgv, hv⟩ := vO h1
    obtain ⟨ys, hcs, hcell⟩ := (hs.blks id b hb).cells hgv
    have hcm := vG hc
    have hlen : ((b.xs.drop off).take m).length = m := by rw [hcm, List.length_map, hl]
    have hlen2 : ((ys.drop off).take m).length = m := by
      simp only [List.length_take, List.length_drop] at hlen ⊢
      rw [hcs.len]
      exact hlen
    have get : ∀ (j : Nat) y, ((ys.drop off).take m)[j]? = some y → j < m ∧ ys[off + j]? = some y := by
      intro j y hy
      rw [List.getElem?_take] at hy
      split at hy
      · rename_i hj
        rw [List.getElem?_drop] at hy
        exact ⟨hj, hy⟩
      · cases hy
    refine ⟨.agg ((ys.drop off).take m).toArray, ?_, .agg _ _ (by rw [hlen2, hl]) (fun i c v h1 h2 => ?_) (fun v hv => hcs.one v (List.mem_of_mem_drop (List.mem_of_mem_take hv)))⟩
    · have := loadAt_many (P := P) (w := w) (t := t) (g := g) (o := off) (ys := (ys.drop off).take m) (ht.ag w) (ht.sz w) hlen2 (fun j y hy => (hcell (off + j) y (get j y hy).2).1)
      simp only [Instr.loadAt, Instr.sureAddr, Sem.run_bind, Sem.run_pure, Result.andThen_ok] at this
      simp only [resOne, hv, asAddr, Sem.run_bind, Sem.run_pure, Result.andThen_ok]
      exact this
    · obtain ⟨hj, hy⟩ := get i v h2
      have h3 : b.xs[off + i]? = some (.p c) := by
        have h4 : ((b.xs.drop off).take m)[i]? = (cs.map AV.p)[i]? := by rw [hcm]
        rw [List.getElem?_take, if_pos hj, List.getElem?_drop, List.getElem?_map, h1] at h4
        exact h4
      exact rep_p (hcs.each (off + i) (.p c) v h3 hy)
theorem res_allM {P : Program} {M : Nat → Nat → Prop} {n : Nat} {w0 : Home} {w : World} {S : AS} {ρ : Nat → Value} {a : Act} (hs : Sat M n w0 S ρ a w) {rs : List ResultVar} {l : List PV} (h : ResVs P S rs l) :
    ∃ vs : List Value, (List.mapM (resOne a.tmps) rs).run P w = .ok vs w ∧ vs.length = l.length ∧ rs.length = l.length ∧ ∀ (i : Nat) x u, l[i]? = some x → vs[i]? = some u → Rep (Mut M S ρ) w x u := by
  induction h with
  | nil => exact ⟨[], by simp, rfl, rfl, fun i x u h => by simp at h⟩
  | @cons r x rs xs h _ ih =>
    obtain ⟨v, h1, h2⟩ := res_oneM hs h
    obtain ⟨vs, h3, h4, h6, h5⟩ := ih
    refine ⟨v :: vs, by simp only [List.mapM_cons, Sem.run_bind, Sem.run_pure, h1, h3, Result.andThen_ok], by simp [h4], by simp [h6], fun i y u hy hu => ?_⟩
    cases i with
    | zero => simp at hy hu; subst hy; subst hu; exact h2
    | succ i => exact h5 i y u (by simpa using hy) (by simpa using hu)
theorem res_one {P : Program} {M : Nat → Nat → Prop} {n : Nat} {w0 : Home} {w : World} {S : AS} {ρ : Nat → Value} {a : Act} (hs : Sat M n w0 S ρ a w) {r : ResultVar} {x : PV} (h : ResV P S r x) :
    ∃ v, (resOne a.tmps r).run P w = .ok v w ∧ Rep M w x v := by
  obtain ⟨v, h1, h2⟩ := res_oneM hs h
  exact ⟨v, h1, h2.outer⟩
theorem res_all {P : Program} {M : Nat → Nat → Prop} {n : Nat} {w0 : Home} {w : World} {S : AS} {ρ : Nat → Value} {a : Act} (hs : Sat M n w0 S ρ a w) {rs : List ResultVar} {l : List PV} (h : ResVs P S rs l) :
    ∃ vs : List Value, (List.mapM (resOne a.tmps) rs).run P w = .ok vs w ∧ vs.length = l.length ∧ rs.length = l.length ∧ ∀ (i : Nat) x u, l[i]? = some x → vs[i]? = some u → Rep M w x u := by
  obtain ⟨vs, h1, h2, h3, h4⟩ := res_allM hs h
  exact ⟨vs, h1, h2, h3, fun i x u hx hu => (h4 i x u hx hu).outer⟩
theorem vI {P : Program} {w : World} (fn : Func) (tmps : Array Value) {rs : List ResultVar} {vs : List Value} (hr : fn.results = rs.toArray) (h : (List.mapM (resOne tmps) rs).run P w = .ok vs w) :
    (results fn tmps).run P w = .ok (if h : vs.toArray.size = 1 then vs.toArray[0] else .tuple vs.toArray) w := by
  have e : (fun (x : ResultVar) => match x with | .tmp t => pure (tmps.getD t undef) | .cell a t => do loadVar t (← asAddr (tmps.getD a undef))) = resOne tmps := by
    funext r
    cases r <;> rfl
  unfold results
  rw [hr]
  show Sem.run P (do let vs ← Array.mapM (fun (x : ResultVar) => match x with | .tmp t => pure (tmps.getD t undef) | .cell a t => do loadVar t (← asAddr (tmps.getD a undef))) rs.toArray; pure (if h : vs.size = 1 then vs[0] else .tuple vs)) w = _
  rw [e, List.mapM_toArray]
  simp only [Sem.run_bind, Sem.run_map, h]
  rfl
theorem yI {P : Program} {f : FuncId} {fn : Func} {c : Code} {args : List PV} {r : RV} {n : Nat} (hf : P.funcs[f]? = some fn) (hb : fn.body = some c) (hn : fn.ntmps = n) (hle : args.length ≤ n)
    (h : zX P n c (AS.entry args) (fun e S => (e = .ret ∨ e = .normal) ∧ ∃ S', Sub S S' ∧ GivesV P fn S' r)) : Fn P f args r := by
  intro M w vs hT hM hvl hvs
  refine calls_of_wp hf hb ?_
  have hsat : Sat M n (Home.plain w hT.1) (AS.entry args) (fun _ => undef) { tmps := vs.toArray ++ Array.replicate (fn.ntmps - vs.toArray.size) undef, defers := [] } w := by
    refine ⟨wZ.refl (Home.plain w hT.1), (fun k c hk hh => by rcases hh with hh | hh; exact absurd (hM k c hk) (Nat.not_lt.2 hh); exact hh), hT.2, by simp; omega, rfl, fun i => ?_, (fun id b hb => by cases hb), (fun id b k hb => by cases hb), (fun k v hk => by cases hk), (fun _ _ => rfl), (fun i j bi bj k hi => by cases hi)⟩
    show yN _ _ _ ((look (zipArgs 0 args) i).getD .any) _
    rw [look_zipArgs]
    simp only [Nat.zero_le, if_true, Nat.sub_zero]
    cases hx : args[i]? with
    | none => exact .any _
    | some x =>
      have hi : i < vs.length := by rw [hvl]; exact (List.getElem?_eq_some_iff.1 hx).1
      have e : ({ tmps := vs.toArray ++ Array.replicate (fn.ntmps - vs.toArray.size) undef, defers := [] } : Act).tmps.getD i undef = vs[i] := by
        simp [Array.getD_eq_getD_getElem?, Array.getElem?_append, hi]
      rw [e]
      refine .p ((hvs i x vs[i] hx (List.getElem?_eq_getElem hi)).mono ?_)
      rintro k c _ (hk | ⟨id, b, hb, _⟩)
      · exact hk
      · cases hb
  refine h M (Home.plain w hT.1) _ _ w _ hsat ?_
  rintro e S0 ρ0 a' w' ⟨he, S', hsub, hg⟩ hs0
  obtain ⟨ρ', hs'⟩ := hsub M n (Home.plain w hT.1) ρ0 a' w' hs0
  have fin : a'.defers = [] ∧ ∃ v, (results fn a'.tmps).run P w' = .ok v w' ∧ (∃ v', Ending.returned v = .returned v' ∧ RepR M w w' r v' ∧ Below w.heap.size w w') := by
    refine ⟨hs'.defers, ?_⟩
    cases hg with
    | p hr hx =>
      obtain ⟨v, h1, h2⟩ := res_one hs' hx
      have h3 := vI (P := P) (w := w') fn a'.tmps (rs := [_]) (vs := [v]) hr (by simp only [List.mapM_cons, List.mapM_nil, Sem.run_bind, Sem.run_pure, h1, Result.andThen_ok])
      exact ⟨v, h3, _, rfl, h2, hs'.below.plain⟩
    | tup hr hl hx =>
      obtain ⟨us, h1, h2, h4, h3⟩ := res_all hs' hx
      have h5 := vI (P := P) (w := w') fn a'.tmps hr h1
      rw [dif_neg (by simp only [List.size_toArray]; omega)] at h5
      exact ⟨_, h5, _, rfl, ⟨us, rfl, h2, h3⟩, hs'.below.plain⟩
    | @row t id ty size m xs hr ht hblk =>
      have h1 := hs'.tmps t
      rw [ht] at h1
      refine ⟨_, results_tmp hr _ _ _, _, rfl, ?_, hs'.below.plain⟩
      have h2 := hs'.blks id _ hblk
      have e : a'.tmps.getD t undef = ρ' id := vN h1
      obtain ⟨ys, ho, hc⟩ := h2
      rw [e]
      refine ⟨ys, ownsRow_rebase ho (fun k hk => (hs'.mine id _ k hblk hk).elim (fun h => h) (fun h => h.elim)), by simpa using hc.len, fun i c v h3 h4 => ?_, hc.one⟩
      have h5 := hc.each i (.p c) v (by rw [List.getElem?_map, h3]; rfl) h4
      cases h5 with
      | p h6 =>
        refine h6.mono ?_
        rintro k c _ (hk | hk)
        · exact Or.inl hk
        · exact Or.inr ⟨id, _, hblk, hk, trivial⟩
  intro _
  cases e with
  | ret => exact fin
  | normal => exact fin
  | exit id => rcases he with h | h <;> cases h
  | goto l => rcases he with h | h <;> cases h
  | panic c => rcases he with h | h <;> cases h
  | outgrown => rcases he with h | h <;> cases h
/-! ### Regions that draw their order, walked forward -/
theorem AC.snoc {P : Program} {n : Nat} {l : List Oper} {S S' : AS} {o : Oper} {os tl tl' : List Oper} {xs : List AI} {x : AI} (h : AC P n l S os xs S' tl) (ht : tl = o :: tl') (hg : GStep P n l S' o x) : AC P n l S os (xs ++ [x]) (S'.out o.dst x.av x.nb) tl' := by
  induction h with
  | done S os => subst ht; exact .step hg (.done _ _)
  | step h1 _ ih => exact .step h1 (ih ht hg)
/-- A region that draws its order: these are done (the last one ahead), the frame is S, these are to come. -/
def Draws (P : Program) (n : Nat) (id : Nat) (l : List Oper) (S0 : AS) (K : Exit → AS → Prop) (rev : List AI) (S : AS) (os : List Oper) : Prop :=
  AC P n l S0 l rev.reverse S os → zX P n (.region id l.toArray true) S0 K
section
variable {P : Program} {n id : Nat} {l os : List Oper} {S0 S : AS} {K : Exit → AS → Prop} {rev : List AI} {o : Oper} {d : Nat}
theorem zX.draws {S : AS} (h : Draws P n id l S K [] S l) : zX P n (.region id l.toArray true) S K := h (.done _ _)
theorem Draws.is (h : Draws P n id l S0 K rev S os) : Draws P n id l S0 K rev S os := h
theorem Draws.step {x : AI} (hg : GStep P n l S o x) (h : Draws P n id l S0 K (x :: rev) (S.out o.dst x.av x.nb) os) : Draws P n id l S0 K rev S (o :: os) := fun hc => h (by
  rw [List.reverse_cons]
  exact hc.snoc rfl hg)
theorem Draws.done (hm : P.follows .mixedOrders = true) (hsch : schedB l rev.reverse.length (rev.reverse.map (·.bs)) = true) (hmade : madeB l rev.reverse S0 = true) (ht : zP P n K S os) : Draws P n id l S0 K rev S os :=
  fun hc => zX.draw2 hm hc hsch hmade ht
theorem Draws.v {bs : List Nat} {av : AV} (hg : o.guard = none) (hd : o.dst = some d) (ha : zG P n o S bs av none) (h : Draws P n id l S0 K (⟨bs, av, none⟩ :: rev) (S.put d av) os) : Draws P n id l S0 K rev S (o :: os) :=
  .step (.inl ⟨hg, ha⟩) (by rw [hd]; exact h)
theorem Draws.m {bs : List Nat} {av : AV} {b : Blk} (hg : o.guard = none) (hd : o.dst = some d) (ha : zG P n o S bs av (some b)) (h : Draws P n id l S0 K (⟨bs, av, some b⟩ :: rev) ((S.create d b).put d av) os) : Draws P n id l S0 K rev S (o :: os) :=
  .step (.inl ⟨hg, ha⟩) (by rw [hd]; exact h)
theorem Draws.gY {bs : List Nat} {av : AV} {j t : Nat} {want b : Bool} (hg : o.guard = some (j, want)) (ht : y9 l j = some t) (htn : t < n) (hb : S.tmp t = .p (.val (.bool b))) (hbw : b = want) (hd : o.dst = some d) (ha : zG P n o S bs av none) (h : Draws P n id l S0 K (⟨bs, av, none⟩ :: rev) (S.put d av) os) : Draws P n id l S0 K rev S (o :: os) :=
  .step (.inr ⟨j, want, t, _, hg, ht, htn, hb, .inl ⟨by simp [wantB, hbw], ha⟩⟩) (by rw [hd]; exact h)
theorem Draws.gNT {j t : Nat} {b : Bool} (hg : o.guard = some (j, true)) (ht : y9 l j = some t) (htn : t < n) (hb : S.tmp t = .p (.val (.bool b))) (hbw : b = false) (hd : o.dst = some d) (hdn : d < n) (h : Draws P n id l S0 K (⟨[], xI, none⟩ :: rev) (S.put d xI) os) : Draws P n id l S0 K rev S (o :: os) :=
  .step (.inr ⟨j, true, t, _, hg, ht, htn, hb, .inr ⟨by simp [wantB, hbw], rfl, rfl, d, hd, hdn⟩⟩) (by rw [hd]; exact h)
theorem Draws.gNF {j t : Nat} {b : Bool} (hg : o.guard = some (j, false)) (ht : y9 l j = some t) (htn : t < n) (hb : S.tmp t = .p (.val (.bool b))) (hbw : b = true) (hd : o.dst = some d) (hdn : d < n) (h : Draws P n id l S0 K (⟨[], xI, none⟩ :: rev) (S.put d xI) os) : Draws P n id l S0 K rev S (o :: os) :=
  .step (.inr ⟨j, false, t, _, hg, ht, htn, hb, .inr ⟨by simp [wantB, hbw], rfl, rfl, d, hd, hdn⟩⟩) (by rw [hd]; exact h)
theorem Draws.gU {j t : Nat} {want : Bool} (hg : o.guard = some (j, want)) (ht : y9 l j = some t) (htn : t < n) (hb : S.tmp t = xI) (hd : o.dst = some d) (hdn : d < n) (h : Draws P n id l S0 K (⟨[], xI, none⟩ :: rev) (S.put d xI) os) : Draws P n id l S0 K rev S (o :: os) :=
  .step (.inr ⟨j, want, t, _, hg, ht, htn, hb, .inr ⟨rfl, rfl, rfl, d, hd, hdn⟩⟩) (by rw [hd]; exact h)
theorem Draws.split {j t : Nat} {want b : Bool} (_hg : o.guard = some (j, want)) (_ht : y9 l j = some t) (_hb : S.tmp t = .p (.val (.bool b)))
    (h1 : b = true → Draws P n id l S0 K rev S (o :: os)) (h2 : b = false → Draws P n id l S0 K rev S (o :: os)) : Draws P n id l S0 K rev S (o :: os) := by
  cases b
  · exact h2 rfl
  · exact h1 rfl
theorem Draws.known {j t : Nat} {want b : Bool} (_hg : o.guard = some (j, want)) (_ht : y9 l j = some t) (_hb : S.tmp t = .p (.val (.bool b))) (_hk : b = true ∨ b = false)
    (h : Draws P n id l S0 K rev S (o :: os)) : Draws P n id l S0 K rev S (o :: os) := h
end
attribute [irreducible] Draws
/-! ### The ways out -/
section
variable {next : AS → Prop} {K : Exit → AS → Prop} {S : AS} {id id' l : Nat}
theorem yJ.n (h : next S) : yJ next K .normal S := h
theorem yJ.r (h : K .ret S) : yJ next K .ret S := h
theorem yJ.e (h : K (.exit id) S) : yJ next K (.exit id) S := h
theorem yJ.g (h : K (.goto l) S) : yJ next K (.goto l) S := h
theorem xV.n (h : K .normal S) : xV id K .normal S := h
theorem xV.r (h : K .ret S) : xV id K .ret S := h
theorem xV.g (h : K (.goto l) S) : xV id K (.goto l) S := h
theorem xV.eY (h : K .normal S) : xV id K (.exit id) S := by
  show if id = id then K .normal S else K (.exit id) S
  rw [if_pos rfl]
  exact h
end
/-! ### Which judgement a goal is -/
section
variable {P : Program} {n : Nat} {S : AS} {ops : Array Oper} {l : List Oper}
theorem zZ.is {K : Exit → AS → Prop} (h : zZ P n ops l S K) : zZ P n ops l S K := h
theorem zX.is {c : Code} {K : Exit → AS → Prop} (h : zX P n c S K) : zX P n c S K := h
theorem zX.isR {id : Nat} {ops : Array Oper} {dr : Bool} {K : Exit → AS → Prop} (h : zX P n (.region id ops dr) S K) : zX P n (.region id ops dr) S K := h
theorem zP.is {K : Exit → AS → Prop} (h : zP P n K S l) : zP P n K S l := h
end
end Go.Proofs.YtlfkofkdigmnpaaGreatDoor
/- More rules: comparisons whose answer is known; slices of slices; slice literals without elements; a byte laid into an own row. Generic over the program. -/
namespace Go.Proofs.YtlfkofkdigmnpaaGreatDoor
set_option maxRecDepth 100000
set_option maxHeartbeats 16000000
open Go Go.RowKit
theorem bT {b : Bool} (h : b = true) : b = true := h
theorem bF {b : Bool} (h : b = false) : b = false := h
section
variable {P : Program} {n : Nat} {o : Oper} {S : AS} {d : Nat} {x y : Operand} {xt yt : TypeId} {k : IntKind} {a b : Int} {r : Bool}
theorem yQ (ho : o.op = .binOp .eql xt x y yt) (hx : S.get x = .p (.val (.int k a))) (hy : S.get y = .p (.val (.int k b))) (hr : decide (a = b) = r) (hd : o.dst = some d) (hn : d < n) : zG P n o S [] (.p (.val (.bool r))) none := hr ▸ a_eql ho hx hy hd hn
theorem xW (ho : o.op = .binOp .neq xt x y yt) (hx : S.get x = .p (.val (.int k a))) (hy : S.get y = .p (.val (.int k b))) (hr : (!decide (a = b)) = r) (hd : o.dst = some d) (hn : d < n) : zG P n o S [] (.p (.val (.bool r))) none := hr ▸ a_neq ho hx hy hd hn
theorem yL (ho : o.op = .binOp .lss xt x y yt) (hx : S.get x = .p (.val (.int k a))) (hy : S.get y = .p (.val (.int k b))) (hr : decide (a < b) = r) (hd : o.dst = some d) (hn : d < n) : zG P n o S [] (.p (.val (.bool r))) none := hr ▸ a_lss ho hx hy hd hn
theorem r_leq (ho : o.op = .binOp .leq xt x y yt) (hx : S.get x = .p (.val (.int k a))) (hy : S.get y = .p (.val (.int k b))) (hr : decide (a ≤ b) = r) (hd : o.dst = some d) (hn : d < n) : zG P n o S [] (.p (.val (.bool r))) none := hr ▸ a_leq ho hx hy hd hn
theorem r_gtr (ho : o.op = .binOp .gtr xt x y yt) (hx : S.get x = .p (.val (.int k a))) (hy : S.get y = .p (.val (.int k b))) (hr : decide (b < a) = r) (hd : o.dst = some d) (hn : d < n) : zG P n o S [] (.p (.val (.bool r))) none := hr ▸ a_gtr ho hx hy hd hn
theorem r_geq (ho : o.op = .binOp .geq xt x y yt) (hx : S.get x = .p (.val (.int k a))) (hy : S.get y = .p (.val (.int k b))) (hr : decide (b ≤ a) = r) (hd : o.dst = some d) (hn : d < n) : zG P n o S [] (.p (.val (.bool r))) none := hr ▸ a_geq ho hx hy hd hn
theorem a_xor {z : Int} (ho : o.op = .binOp .xor xt x y yt) (hx : S.get x = .p (.val (.int k a))) (hy : S.get y = .p (.val (.int k b))) (hr : bits .xor k a b = z) (hd : o.dst = some d) (hn : d < n) : zG P n o S [] (.p (.val (.int k z))) none :=
  xS ho hx hy hd hn fun w => by subst hr; simp [eqGuard, binOp, go_sem]
theorem a_cmpl {z : Int} (ho : o.op = .unOp .xor xt x) (hx : S.get x = .p (.val (.int k a))) (hu : k.signed = false) (hr : bits .xor k k.max a = z) (hd : o.dst = some d) (hn : d < n) : zG P n o S [] (.p (.val (.int k z))) none :=
  a_unOp ho hx hd hn fun w => by subst hr; simp [unary_xor, hu, go_sem]
theorem r_eqlB {u v : Bool} [ht : Und P xt .bool] (ho : o.op = .binOp .eql xt x y yt) (hx : S.get x = .p (.val (.bool u))) (hy : S.get y = .p (.val (.bool v))) (hr : (u == v) = r) (hd : o.dst = some d) (hn : d < n) : zG P n o S [] (.p (.val (.bool r))) none := hr ▸ w_eqlB ho hx hy hd hn
theorem r_neqB {u v : Bool} [ht : Und P xt .bool] (ho : o.op = .binOp .neq xt x y yt) (hx : S.get x = .p (.val (.bool u))) (hy : S.get y = .p (.val (.bool v))) (hr : (!(u == v)) = r) (hd : o.dst = some d) (hn : d < n) : zG P n o S [] (.p (.val (.bool r))) none := hr ▸ w_neqB ho hx hy hd hn
theorem xL {u : Bool} (ho : o.op = .unOp .not xt x) (hx : S.get x = .p (.val (.bool u))) (hr : (!u) = r) (hd : o.dst = some d) (hn : d < n) : zG P n o S [] (.p (.val (.bool r))) none := hr ▸ a_notB ho hx hd hn
theorem r_eqlT {m : TypeId} {ps qs : List PV} {la lb : List (IntKind × Int)} [h : EqA P xt m] (ho : o.op = .binOp .eql xt x y yt) (hx : S.get x = .p (.agg ps)) (hy : S.get y = .p (.agg qs)) (ha : vF ps = some la) (hb : vF qs = some lb) (hab : la.map Prod.fst = lb.map Prod.fst)
    (hlen : la.length = m) (hr : decide (la = lb) = r) (hd : o.dst = some d) (hn : d < n) : zG P n o S [] (.p (.val (.bool r))) none := hr ▸ w_eqlT ho hx hy ha hb hab hlen hd hn
/-! ### Slices of slices -/
theorem flat_drop_take {sz : Nat} : ∀ (es : List PV) (l c : Nat), (∀ e ∈ es, e.cells.length = sz) → flat ((es.drop l).take c) = ((flat es).drop (l * sz)).take (c * sz) := by
  have tk : ∀ (es : List PV) (c : Nat), (∀ e ∈ es, e.cells.length = sz) → flat (es.take c) = (flat es).take (c * sz) := by
    intro es
    induction es with
    | nil => intro c _; simp [flat]
    | cons e r ih =>
      intro c h
      cases c with
      | zero => simp [flat]
      | succ c =>
        have he := h e (by simp)
        have h1 := ih c fun e he => h e (by simp [he])
        simp only [flat, List.take_succ_cons, List.flatMap_cons] at h1 ⊢
        rw [h1, List.take_append, he]
        have e1 : (c + 1) * sz - sz = c * sz := by rw [Nat.add_mul, Nat.one_mul, Nat.add_sub_cancel]
        rw [e1, List.take_of_length_le (i := (c + 1) * sz) (l := e.cells) (by rw [he, Nat.add_mul]; omega)]
  have dr : ∀ (es : List PV) (l : Nat), (∀ e ∈ es, e.cells.length = sz) → flat (es.drop l) = (flat es).drop (l * sz) := by
    intro es
    induction es with
    | nil => intro l _; simp [flat]
    | cons e r ih =>
      intro l h
      cases l with
      | zero => simp
      | succ l =>
        have he := h e (by simp)
        have h1 := ih l fun e he => h e (by simp [he])
        simp only [flat, List.drop_succ_cons, List.flatMap_cons] at h1 ⊢
        rw [h1, List.drop_append, he]
        have e1 : (l + 1) * sz - sz = l * sz := by rw [Nat.add_mul, Nat.one_mul, Nat.add_sub_cancel]
        rw [e1, List.drop_of_length_le (i := (l + 1) * sz) (l := e.cells) (by rw [he, Nat.add_mul]; omega)]
        rfl
  intro es l c h
  rw [tk _ c fun e he => h e (List.mem_of_mem_drop he), dr es l h]
theorem rep_slice {M : Nat → Nat → Prop} {w : World} {es : List PV} {sz : Nat} (hes : ∀ e ∈ es, e.cells.length = sz) {g off cap : Nat} {ys : List Value} (hl : RepL M w (flat es) ys) (hcell : ∀ (j : Nat) y, ys[j]? = some y → w.cell? ⟨g, off + j, none⟩ = some y) (hM : ∀ j, j < ys.length → ¬ M g (off + j)) (hgl : g < w.heap.size) (hcap : es.length ≤ cap) (hm : cap ≤ maxLen)
    (l h : Nat) (h1 : l ≤ h) (h2 : h ≤ es.length) : Rep M w (.sl ((es.drop l).take (h - l))) (sliced (some ⟨g, off, none⟩) l h cap sz) := by
  have hlen : ((es.drop l).take (h - l)).length = h - l := by rw [List.length_take, List.length_drop]; omega
  have hy : RepL M w (flat ((es.drop l).take (h - l))) ((ys.drop (l * sz)).take ((h - l) * sz)) := by
    rw [flat_drop_take es l (h - l) hes]
    refine ⟨by simp only [List.length_take, List.length_drop, hl.len], fun i c v hc hv => ?_, fun v hv => hl.one v (List.mem_of_mem_drop (List.mem_of_mem_take hv))⟩
    rw [List.getElem?_take] at hc hv
    split at hc
    · rename_i hi
      rw [if_pos hi] at hv
      rw [List.getElem?_drop] at hc hv
      exact hl.each _ c v hc hv
    · cases hc
  have hc : ∀ (j : Nat) y, ((ys.drop (l * sz)).take ((h - l) * sz))[j]? = some y → w.cell? ⟨g, off + l * sz + j, none⟩ = some y := fun j y hj => by
    rw [List.getElem?_take] at hj
    split at hj
    · rw [List.getElem?_drop] at hj
      have := hcell _ y hj
      rw [← Nat.add_assoc] at this
      exact this
    · cases hj
  unfold sliced
  by_cases hcl : cap = l
  · rw [if_pos hcl]
    have e0 : h - l = 0 := by omega
    rw [e0] at hy hc ⊢
    simp only [List.take_zero] at hy ⊢
    have : flat ([] : List PV) = [] := rfl
    exact .sl [] g off 0 (cap - l) [] rfl rfl (fun j y hj => by cases hj) (fun j c y hj => by cases hj) (fun v hv => by cases hv) (fun j hj => by simp at hj) hgl (Nat.zero_le _) (by omega)
  · rw [if_neg hcl]
    have ea : (some (⟨g, off, none⟩ : Addr)).map (·.add (l * sz)) = some ⟨g, off + l * sz, none⟩ := by rw [Option.map_some, add_lit]
    rw [ea]
    exact .sl _ g (off + l * sz) (h - l) (cap - l) _ hlen.symm hy.len hc hy.each hy.one (fun j hj => by rw [Nat.add_assoc]; exact hM (l * sz + j) (by rw [List.length_take, List.length_drop] at hj; omega)) hgl (by omega) (by omega)
theorem a_sliceLH {t : TypeId} {e sz : Nat} {es : List PV} {l h : Int} {k k2 : IntKind} {agg : Bool} {xl xh : Operand} [ht : Und P t (.slice e)] [he : TyA P e agg sz] (ho : o.op = .slice t x (some xl) (some xh) none) (hx : S.get x = .p (.sl es)) (hes : ∀ e ∈ es, e.cells.length = sz)
    (hl : S.get xl = .p (.val (.int k l))) (hh : S.get xh = .p (.val (.int k2 h))) (hb : 0 ≤ l ∧ l ≤ h ∧ h ≤ es.length) (hd : o.dst = some d) (hn : d < n) : zG P n o S [] (.p (.sl ((es.drop l.toNat).take (h.toNat - l.toNat)))) none :=
  zG.pure hd hn fun S2 hg _ M w0 ρ a w hs => by
    have r1 := yT hs ((hg x (by rw [ho]; simp [Op.operands])).trans hx)
    have r2 := hs.val ((hg xl (by rw [ho]; simp [Op.operands])).trans hl)
    have r3 := hs.val ((hg xh (by rw [ho]; simp [Op.operands])).trans hh)
    have hel : P.elem t = e := by simp [Program.elem, ht.h]
    have ht2 : P.underlying t = some (.slice (P.elem t)) := by rw [hel]; exact ht.h
    rcases rep_sl r1 with ⟨hv, h0⟩ | ⟨g, off, cap, ys, hv, hly, hcell, hM, hgl, hcap, hm⟩
    · subst h0
      have e1 : l = 0 := by have := hb.2.2; simp at this; omega
      have e2 : h = 0 := by have := hb.2.2; simp at this; omega
      subst e1
      subst e2
      refine ⟨_, w, ?_, Below.refl _ _, .p .nil⟩
      unfold execOp
      rw [ho]
      simp only [Option.map_some, Option.map_none, hv, r2, r3, Sem.run_bind, run_sliceAt_slice w t _ _ _ _ ht2, run_slice_lh w t none 0 0 ht2 k k2 0 0 (by omega) (by omega) (by omega)]
      rw [hel, he.sz w]
      rfl
    · refine ⟨_, w, ?_, Below.refl _ _, .p (rep_slice hes hly hcell hM hgl hcap hm l.toNat h.toNat (by omega) (by omega))⟩
      unfold execOp
      rw [ho]
      simp only [Option.map_some, Option.map_none, hv, r2, r3, Sem.run_bind, run_sliceAt_slice w t _ _ _ _ ht2, run_slice_lh w t (some ⟨g, off, none⟩) es.length cap ht2 k k2 l h hb.1 hb.2.1 (by omega)]
      rw [hel, he.sz w]
      rfl
theorem byts_drop (bs : List Int) (l : Nat) : (byts bs).drop l = byts (bs.drop l) := by simp [byts, List.map_drop]
theorem byts_take (bs : List Int) (l : Nat) : (byts bs).take l = byts (bs.take l) := by simp [byts, List.map_take]
theorem w_sliceLHB {t : TypeId} {e : Nat} {bs : List Int} {l h : Int} {k k2 : IntKind} {agg : Bool} {xl xh : Operand} [ht : Und P t (.slice e)] [he : TyA P e agg 1] (ho : o.op = .slice t x (some xl) (some xh) none) (hx : S.get x = .p (.sl (byts bs)))
    (hl : S.get xl = .p (.val (.int k l))) (hh : S.get xh = .p (.val (.int k2 h))) (hb : 0 ≤ l ∧ l ≤ h ∧ h ≤ bs.length) (hd : o.dst = some d) (hn : d < n) : zG P n o S [] (.p (.sl (byts ((bs.drop l.toNat).take (h.toNat - l.toNat))))) none := by
  have := a_sliceLH (P := P) (S := S) ho hx (byts_one bs) hl hh (by rw [wM]; exact hb) hd hn
  rw [byts_drop, byts_take] at this
  exact this
/-! ### A package-level table -/
theorem w_indexG {t : TypeId} {ix : Operand} {g : Nat} {j : Int} {xs : List (IntKind × Int)} {p : IntKind × Int} {agg : Bool} {m e : Nat} [ht : Und P t (.array m e)] [he : TyA P e agg 1] (ho : o.op = .indexAddr t x ix) (hx : S.get x = .glob g) (hi : S.get ix = .p (.val (.int k j)))
    (hg : seatTbl g = some xs) (hm : xs.length = m) (hj : 0 ≤ j) (hp : xs[j.toNat]? = some p) (hd : o.dst = some d) (hn : d < n) : zG P n o S [] (.pt [.val (.int p.1 p.2)]) none :=
  zG.pure hd hn fun S2 hgt _ M w0 ρ a w hs => by
    have h1 := hs.rep x
    rw [hgt x (by rw [ho]; simp [Op.operands]), hx] at h1
    have h2 := hs.val ((hgt ix (by rw [ho]; simp [Op.operands])).trans hi)
    obtain ⟨t1, t2, t3⟩ := hs.tbl hg
    generalize hv : a.eval x = v at h1
    cases h1
    have hlt : j.toNat < xs.length := (List.getElem?_eq_some_iff.1 hp).1
    refine ⟨.pointer (some ⟨g, j.toNat, none⟩), w, ?_, Below.refl _ _, .pt [.val (.int p.1 p.2)] g j.toNat [.int p.1 p.2] ⟨rfl, (fun i c v h3 h4 => by
      cases i with
      | zero => simp at h3 h4; subst h3; subst h4; exact .val _
      | succ i => simp at h3), (fun v h3 => by simp at h3; subst h3; rfl)⟩ (fun i y hy => by
      cases i with
      | zero => simp at hy; subst hy; exact t3 j.toNat p hp
      | succ i => simp at hy) (fun i _ => t1 _) t2⟩
    unfold execOp
    rw [ho]
    have hel : P.elem t = e := by simp [Program.elem, ht.h]
    have hal : P.arrayLen t = m := by simp [Program.arrayLen, ht.h]
    simp only [hv, h2, Sem.run_bind]
    rw [run_indexAt_array w t _ _ _ (by rw [hel, hal]; exact ht.h), hal, if_pos ⟨hj, by omega⟩, hel, he.sz w]
    show (Result.ok (Value.pointer (some (Addr.add ⟨g, 0, none⟩ (j.toNat * 1)))) w).andThen _ = _
    rw [add_lit, Nat.mul_one, Nat.zero_add]
    rfl
/-! ### A slice literal without elements -/
theorem w_build0 {t e : TypeId} {z : Value} {sz by_ : Nat} [ht : Und P t (.slice e)] [hi : InfoA P e z sz by_] (ho : o.op = .buildSlice t 0 #[]) (hd : o.dst = some d) (hn : d < n) : zG P n o S [] (.own d) (some (.row e sz 0 [])) :=
  zG.made hd hn fun S2 hg _ M w0 ρ a w hs => by
    obtain ⟨i, hi1, hi2⟩ := Option.map_eq_some_iff.1 hi.h
    simp only [Prod.mk.injEq] at hi2
    obtain ⟨hzi, hisz, _⟩ := hi2
    refine ⟨.slice (some ⟨w.heap.size, 0, none⟩) 0 0, w.alloc (.cells #[] e), ?_, World.grownBy_alloc w _ none, fun k hk => ?_, ⟨[], ⟨by simp, .inr ⟨w.heap.size, 0, #[], rfl, Nat.zero_le _, by rw [heap_alloc_new], Nat.le_refl _, by decide, by simp, by simp⟩⟩, ⟨rfl, (fun i c v h => by simp at h), (fun v h => by simp at h)⟩⟩, .inl rfl⟩
    · unfold execOp
      rw [ho]
      simp [Instr.buildSlice, run_underlying ht.h, sizeOf, typeInfo, hi1, Instr.fill, newRow]
      have e0 : Array.range 0 = #[] := Array.ext' (by rw [Array.toList_range]; rfl)
      rw [e0, Array.map_empty]
    · simp only [yK, Option.some.injEq] at hk; omega
theorem w_build0B {t e : TypeId} {z : Value} [ht : Und P t (.slice e)] [hi : InfoA P e z 1 1] (ho : o.op = .buildSlice t 0 #[]) (hd : o.dst = some d) (hn : d < n) : zG P n o S [] (.own d) (some (yH e [])) :=
  (w_build0 (P := P) (sz := 1) (by_ := 1) ho hd hn).nb (wI e [])
end
/-! ### Parts of values; interface values; slice literals that nobody turns -/
class FieldT (P : Program) (s f : Nat) (ft off : outParam Nat) : Prop where
  st : P.underlying s = some (.struct (P.fieldsOf s))
  at_ : ((P.fieldsOf s)[f]?).map (fun fl => (fl.type, fl.offset)) = some (ft, off)
section
variable {P : Program} {n : Nat} {o : Oper} {S : AS} {d : Nat} {x : Operand}
theorem part_one {M : Nat → Nat → Prop} {w : World} {e : TypeId} {m : Nat} (he : TyA P e false m) {cs : List PV} {vs : List Value} (hl : vs.length = cs.length) (h : ∀ (i : Nat) c v, cs[i]? = some c → vs[i]? = some v → Rep M w c v) {off : Nat} {c : PV} (hc : cs[off]? = some c) :
    ∃ v, (part e vs.toArray off).run P w = .ok v w ∧ Rep M w c v := by
  have hlt : off < cs.length := (List.getElem?_eq_some_iff.1 hc).1
  have hv : vs[off]? = some (vs[off]'(by omega)) := List.getElem?_eq_getElem _
  refine ⟨_, ?_, h off c _ hc hv⟩
  unfold part
  simp only [Sem.run_bind, he.ag w, Result.andThen_ok, Bool.false_eq_true, if_false]
  simp [hv]
theorem part_many {M : Nat → Nat → Prop} {w : World} {e : TypeId} {m : Nat} (he : TyA P e true m) {cs : List PV} {vs : List Value} (hl : vs.length = cs.length) (h : ∀ (i : Nat) c v, cs[i]? = some c → vs[i]? = some v → Rep M w c v) (h1 : ∀ v ∈ vs, v.oneCell' = true) (off : Nat) :
    ∃ v, (part e vs.toArray off).run P w = .ok v w ∧ Rep M w (.agg ((cs.drop off).take m)) v := by
  refine ⟨.agg ((vs.drop off).take m).toArray, ?_, .agg _ _ (by simp [hl]) (fun i c v hc hv => ?_) (fun v hv => h1 v (List.mem_of_mem_drop (List.mem_of_mem_take hv)))⟩
  · unfold part
    simp only [Sem.run_bind, he.ag w, he.sz w, Result.andThen_ok, if_true]
    have e2 : vs.toArray.extract off (off + m) = ((vs.drop off).take m).toArray := by
      apply Array.ext'
      simp [List.extract_eq_take_drop]
    rw [e2]
    rfl
  · rw [List.getElem?_take] at hc hv
    split at hc
    · rename_i hi
      rw [if_pos hi] at hv
      rw [List.getElem?_drop] at hc hv
      exact h _ c v hc hv
    · cases hc
theorem rep_agg' {M : Nat → Nat → Prop} {w : World} {cs : List PV} {v : Value} (h : Rep M w (.agg cs) v) : ∃ vs : List Value, v = .agg vs.toArray ∧ vs.length = cs.length ∧ (∀ (i : Nat) c u, cs[i]? = some c → vs[i]? = some u → Rep M w c u) ∧ ∀ v ∈ vs, v.oneCell' = true := by
  cases h with
  | agg _ vs hl h h1 => exact ⟨vs, rfl, hl, h, h1⟩
theorem w_field1 {s f ft off m : Nat} {cs : List PV} {c : PV} [hf : FieldT P s f ft off] [he : TyA P ft false m] (ho : o.op = .field s x f) (hx : S.get x = .p (.agg cs)) (hc : cs[off]? = some c) (hd : o.dst = some d) (hn : d < n) : zG P n o S [] (.p c) none :=
  zG.pure hd hn fun S2 hg _ M w0 ρ a w hs => by
    have h1 := yT hs ((hg x (by rw [ho]; simp [Op.operands])).trans hx)
    obtain ⟨vs, hv, hl, h2, h3⟩ := rep_agg' h1
    obtain ⟨v, h4, h5⟩ := part_one he hl h2 hc
    obtain ⟨fl, hfl, hfe⟩ := Option.map_eq_some_iff.1 hf.at_
    simp only [Prod.mk.injEq] at hfe
    refine ⟨v, w, ?_, Below.refl _ _, .p h5⟩
    unfold execOp
    rw [ho]
    simp only [hv, Instr.field, Sem.run_bind, run_underlying hf.st, Result.andThen_ok, hfl, asAgg, Sem.run_pure, hfe.1, hfe.2, h4]
/-- an element of an array's value -/
theorem w_idxN {t e m sz : Nat} {ix : Operand} {k : IntKind} {j : Int} {cs : List PV} [ht : Und P t (.array m e)] [he : TyA P e true sz] (ho : o.op = .index t x ix) (hx : S.get x = .p (.agg cs)) (hi : S.get ix = .p (.val (.int k j))) (hj : 0 ≤ j ∧ j < m) (hd : o.dst = some d) (hn : d < n) :
    zG P n o S [] (.p (.agg ((cs.drop (j.toNat * sz)).take sz))) none :=
  zG.pure hd hn fun S2 hg _ M w0 ρ a w hs => by
    have h1 := yT hs ((hg x (by rw [ho]; simp [Op.operands])).trans hx)
    have h0 := hs.val ((hg ix (by rw [ho]; simp [Op.operands])).trans hi)
    obtain ⟨vs, hv, hl, h2, h3⟩ := rep_agg' h1
    obtain ⟨v, h4, h5⟩ := part_many he hl h2 h3 (j.toNat * sz)
    refine ⟨v, w, ?_, Below.refl _ _, .p h5⟩
    unfold execOp
    rw [ho]
    simp only [hv, h0, Instr.index, asIntOf, Sem.run_bind, Sem.run_pure, run_underlying ht.h, Result.andThen_ok, if_pos hj, he.sz w, h4]
theorem w_iface {t : Nat} {y : PV} (hc : P.concrete t = true) (ho : o.op = .makeInterface t x) (hx : S.get x = .p y) (hd : o.dst = some d) (hn : d < n) : zG P n o S [] (.p (.ifc t y)) none :=
  zG.pure hd hn fun S2 hg _ M w0 ρ a w hs => by
    have h1 := yT hs ((hg x (by rw [ho]; simp [Op.operands])).trans hx)
    refine ⟨.iface t (a.eval x), w, ?_, Below.refl _ _, .p (.ifc t y _ h1)⟩
    unfold execOp
    rw [ho]
    simp only [Sem.run_bind, run_makeInterface w t _ hc]
    rfl
/-- cells as elements -/
def groupP (sz : Nat) : Nat → List PV → List PV
  | 0, _ => []
  | m + 1, cs => (if sz = 1 then (cs.getD 0 (.sl [])) else .agg (cs.take sz)) :: groupP sz m (cs.drop sz)
theorem w_buildSl {t e sz by_ len : Nat} {ps : Array (Nat × Operand)} {z : Value} {zs : List AV} {cs es : List PV} [ht : Und P t (.slice e)] [hi : InfoA P e z sz by_] (ho : o.op = .buildSlice t len ps)
    (hl : len ≤ maxLen) (hsmall : ¬ len * sz > 2 ^ 24) (hpos : ¬ len * sz = 0) (hz : ((List.range (len * sz)).map (z.cells[· % z.cells.size]!)).all (fun u => u.oneCell') = true) (hk : ps.toList.all (fun p => (S.get p.2).vP) = true)
    (hf : fillA (fun i => some (i * sz, sz)) (((List.range (len * sz)).map (z.cells[· % z.cells.size]!)).map fun u => .p (.val u)) (ps.toList.map fun p => (p.1, S.get p.2)) = some zs) (hp : pures zs = some cs) (hes : groupP sz len cs = es) (hfl : flat es = cs) (hel : es.length = len) (hlen : cs.length = len * sz) (hd : o.dst = some d) (hn : d < n) :
    zG P n o S [] (.p (.sl es)) none :=
  zG.pure hd hn fun S2 hg _ M w0 ρ a w hs => by
    obtain ⟨i, hi1, hi2⟩ := Option.map_eq_some_iff.1 hi.h
    simp only [Prod.mk.injEq] at hi2
    obtain ⟨hzi, hisz, _⟩ := hi2
    subst hisz
    have hargs : ∀ p ∈ ps.toList, S2.get p.2 = S.get p.2 := fun p hp => hg p.2 (by rw [ho]; simp only [Op.operands, List.mem_map]; exact ⟨p, hp, rfl⟩)
    obtain ⟨us, h1, h2⟩ := fill_rep (fun j => some (j * i.size, i.size)) S.get a.eval ps.toList _ zs _ (parts_ok hs hargs hk) hf (zerosA (fun u hu => List.all_eq_true.1 hz u hu))
    have hcs := vG hp
    have hul : us.length = len * i.size := by rw [h2.len, hcs, List.length_map, hlen]
    have hb : Below w.heap.size w (w.alloc (.cells us.toArray e)) := (Below.refl _ _).alloc (Nat.le_refl _) _
    refine ⟨.slice (some ⟨w.heap.size, 0, none⟩) len len, w.alloc (.cells us.toArray e), ?_, hb, .p (.sl es w.heap.size 0 len len us hel.symm (by rw [hfl, hul, hlen]) (fun j y hy => ?_) (fun j c y hcj hy => ?_) h2.one (fun _ _ hm => Nat.lt_irrefl _ (Mut.lt hs hm)) ?_ (Nat.le_refl _) hl)⟩
    · unfold execOp
      rw [ho]
      have e1 : (ps.map fun (j, x) => (j, a.eval x)) = (ps.toList.map fun p => (p.1, a.eval p.2)).toArray := by apply Array.ext'; simp
      have hrun := run_buildSlice w t e len (ps.toList.map fun p => (p.1, a.eval p.2)).toArray us.toArray i z ht.h hi1 hzi hsmall hpos (by rw [zeros_eq]; exact h1)
      simp only [e1, Sem.run_bind, hrun]
      rfl
    · rw [Nat.zero_add]
      exact cell_at (by rw [heap_alloc_new]) hy
    · rw [hfl] at hcj
      have h3 := h2.each j (.p c) y (by rw [hcs, List.getElem?_map, hcj]; rfl) hy
      exact (rep_p h3).keep (.of_below _ hb)
    · exact (Array.getElem?_eq_some_iff.1 (heap_alloc_new w (.cells us.toArray e))).1
end
end Go.Proofs.YtlfkofkdigmnpaaGreatDoor
/- Calls of functions that turn the caller's variables, and that may panic; closures. Generic over the program. -/
namespace Go.Proofs.YtlfkofkdigmnpaaGreatDoor
set_option maxRecDepth 100000
set_option maxHeartbeats 16000000
open Go Go.RowKit
/-! ### Names: a contract's variables are numbered from 1000 on -/
def AV.ren (σ : Nat → Nat) : AV → AV
  | .own k => .own (σ k)
  | .ptr k o => .ptr (σ k) o
  | .clo f ks => .clo f (ks.map σ)
  | .tup vs => .tup (vs.map fun x => match x with
    | .p y => .p y
    | _ => .any)
  | x => x
def Blk.ren (σ : Nat → Nat) : Blk → Blk
  | .row t s n xs => .row t s n (xs.map (AV.ren σ))
  | .prow t s n xs => .prow t s n xs
  | .box t xs => .box t (xs.map (AV.ren σ))
  | .lent t s n xs => .lent t s n xs
/-- what is said goes by the first m variables alone -/
def AV.okE (m : Nat) : AV → Bool
  | .own k => decide (1000 ≤ k ∧ k < 1000 + m)
  | .ptr k _ => decide (1000 ≤ k ∧ k < 1000 + m)
  | .clo _ ks => ks.all fun k => decide (1000 ≤ k ∧ k < 1000 + m)
  | .tup vs => vs.all fun x => match x with
    | .p _ => true
    | _ => false
  | _ => true
def Blk.okE (m : Nat) : Blk → Bool
  | .box _ xs => xs.all (AV.okE m)
  | _ => false
def numB : Nat → List Blk → List (Nat × Blk)
  | _, [] => []
  | i, b :: r => (i, b) :: numB (i + 1) r
theorem look_numB : ∀ (B : List Blk) (i j : Nat), look (numB i B) j = if i ≤ j then B[j - i]? else none := by
  intro B
  induction B with
  | nil => intro i j; simp [numB, look]
  | cons b r ih =>
    intro i j
    simp only [numB, look]
    by_cases h1 : i = j
    · subst h1
      simp
    · rw [if_neg h1, ih (i + 1) j]
      by_cases h2 : i ≤ j
      · have e : j - i = (j - (i + 1)) + 1 := by omega
        rw [if_pos h2, if_pos (by omega), e, List.getElem?_cons_succ]
      · rw [if_neg h2, if_neg (by omega)]
/-- the names at a call: the contract's variable 1000 + i is the caller's ids[i] -/
def sig (ids : List Nat) (k : Nat) : Nat := ids.getD (k - 1000) 0
def vR : Act := { tmps := #[], defers := [] }
def asB (B : List Blk) : AS := { t := [], s := numB 1000 B }
structure Handed (h : Home) (B : List Blk) (ρ : Nat → Value) : Prop where
  r : ∀ i, i < B.length → h.r (1000 + i) = some (ρ (1000 + i))
  t : ∀ k, h.t k → ∃ i, i < B.length ∧ yK (ρ (1000 + i)) = some k
/-- how a call ends -/
inductive EV where
  | ret (x : AV)
  | pan (x : AV)
def EvOK (M : Nat → Nat → Prop) (ρ : Nat → Value) (w : World) : EV → Ending → Prop
  | .ret x, e => ∃ v, e = .returned v ∧ yN M ρ w x v
  | .pan x, e => ∃ v, e = .panicked [{ v := v, recovered := false }] ∧ yN M ρ w x v
/-- What function f does: of such arguments, and such variables of its callers'. -/
def FnE (P : Program) (f : FuncId) (args : List AV) (B : List Blk) (ev : EV) (B' : List Blk) : Prop :=
  ∀ (M : Nat → Nat → Prop) (h : Home) (ρ : Nat → Value) (vs : List Value), Handed h B ρ → Sat M 0 h (asB B) ρ vR h.w → vs.length = args.length →
    (∀ (i : Nat) x v, args[i]? = some x → vs[i]? = some v → yN (Mut M (asB B) ρ) ρ h.w x v) →
    Calls P f vs.toArray h.w fun e w' => ∃ ρ', Sat M 0 h (asB B') ρ' vR w' ∧ EvOK (Mut M (asB B') ρ') ρ' w' ev e
section
variable {M : Nat → Nat → Prop} {n : Nat} {w0 : Home} {w : World} {S : AS} {ρ : Nat → Value} {a : Act}
theorem asB_blk (B : List Blk) (i : Nat) : (asB B).blk (1000 + i) = B[i]? := by
  show look (numB 1000 B) (1000 + i) = _
  have e : 1000 + i - 1000 = i := by omega
  rw [look_numB, if_pos (by omega), e]
theorem wX {B : List Blk} {id : Nat} {b : Blk} (h : (asB B).blk id = some b) : ∃ i, id = 1000 + i ∧ B[i]? = some b := by
  have h1 : look (numB 1000 B) id = some b := h
  rw [look_numB] at h1
  split at h1
  · exact ⟨id - 1000, by omega, h1⟩
  · cases h1
/-- from the caller's names to the contract's -/
theorem yN.inn {M M' : Nat → Nat → Prop} {ids : List Nat} {m : Nat} {ρ : Nat → Value} {w : World} {x : AV} {v : Value} (h : yN M ρ w (x.ren (sig ids)) v) (hk : x.okE m = true) (hM : ∀ k c, k < w.heap.size → M' k c → M k c) : yN M' (fun k => ρ (sig ids k)) w x v := by
  cases x with
  | any => exact .any _
  | p x => cases h with | p h => exact .p (h.mono hM)
  | own k =>
    have h1 := vN h
    rw [h1]
    exact .own (ρ := fun k => ρ (sig ids k)) k
  | ptr k o =>
    cases h with
    | ptr _ _ g h => exact .ptr k o g h
  | pt xs =>
    cases h with
    | pt _ g o ys h hc hM2 hg => exact .pt xs g o ys (h.mono hM) hc (fun j hj h1 => hM2 j hj (hM g _ hg h1)) hg
  | tup vs =>
    have h0 : yN M ρ w (.tup _) v := h
    cases h0 with
    | tup _ us hl h1 =>
      refine .tup _ us (by simpa using hl) fun i c u hc hu => ?_
      have hp := List.all_eq_true.1 hk c (List.mem_of_getElem? hc)
      cases c with
      | p y =>
        have h2 := h1 i (.p y) u (by rw [List.getElem?_map, hc]; rfl) hu
        cases h2 with
        | p h3 => exact .p (h3.mono hM)
      | _ => cases hp
  | clo f ks =>
    have h0 : yN M ρ w (.clo f (ks.map (sig ids))) v := h
    cases h0 with
    | clo _ _ vs hl h1 =>
      refine .clo f ks vs (by simpa using hl) fun i k v hk hv => ?_
      exact h1 i (sig ids k) v (by rw [List.getElem?_map, hk]; rfl) hv
  | glob g =>
    have h0 : yN M ρ w (.glob g) v := h
    cases h0
    exact .glob g
/-- and back -/
theorem yN.outw {M M' : Nat → Nat → Prop} {ids : List Nat} {m : Nat} {ρ ρ2 : Nat → Value} {w : World} {x : AV} {v : Value} (h : yN M ρ2 w x v) (hk : x.okE m = true) (hM : ∀ k c, k < w.heap.size → M' k c → M k c)
    (hρ : ∀ k, 1000 ≤ k → k < 1000 + m → ρ2 k = ρ (sig ids k)) : yN M' ρ w (x.ren (sig ids)) v := by
  cases x with
  | any => exact .any _
  | p x => cases h with | p h => exact .p (h.mono hM)
  | own k =>
    have h1 := vN h
    simp only [AV.okE, decide_eq_true_eq] at hk
    rw [h1, hρ k hk.1 hk.2]
    exact .own _
  | ptr k o =>
    simp only [AV.okE, decide_eq_true_eq] at hk
    cases h with
    | ptr _ _ g h =>
      rw [hρ k hk.1 hk.2] at h
      exact .ptr _ o g h
  | pt xs =>
    cases h with
    | pt _ g o ys h hc hM2 hg => exact .pt xs g o ys (h.mono hM) hc (fun j hj h1 => hM2 j hj (hM g _ hg h1)) hg
  | tup vs =>
    cases h with
    | tup _ us hl h1 =>
      refine .tup _ us (by simpa using hl) fun i c u hc hu => ?_
      rw [List.getElem?_map, Option.map_eq_some_iff] at hc
      obtain ⟨c', hc', rfl⟩ := hc
      have hp := List.all_eq_true.1 hk c' (List.mem_of_getElem? hc')
      cases c' with
      | p y =>
        have h2 := h1 i (.p y) u hc' hu
        cases h2 with
        | p h3 => exact .p (h3.mono hM)
      | _ => cases hp
  | clo f ks =>
    cases h with
    | clo _ _ vs hl h1 =>
      refine .clo f (ks.map (sig ids)) vs (by simpa using hl) fun i k v hk2 hv => ?_
      rw [List.getElem?_map, Option.map_eq_some_iff] at hk2
      obtain ⟨k', hk', rfl⟩ := hk2
      have hok := List.all_eq_true.1 hk k' (List.mem_of_getElem? hk')
      simp only [decide_eq_true_eq] at hok
      rw [← hρ k' hok.1 hok.2]
      exact h1 i k' v hk' hv
  | glob g =>
    cases h
    exact .glob g
theorem yM.inn {M M' : Nat → Nat → Prop} {ids : List Nat} {m : Nat} {ρ : Nat → Value} {w : World} {xs : List AV} {ys : List Value} (h : yM M ρ w (xs.map (AV.ren (sig ids))) ys) (hk : xs.all (AV.okE m) = true) (hM : ∀ k c, k < w.heap.size → M' k c → M k c) :
    yM M' (fun k => ρ (sig ids k)) w xs ys :=
  ⟨by simpa using h.len, fun i c v hc hv => yN.inn (h.each i _ v (by rw [List.getElem?_map, hc]; rfl) hv) (List.all_eq_true.1 hk c (List.mem_of_getElem? hc)) hM, h.one⟩
theorem yM.outw {M M' : Nat → Nat → Prop} {ids : List Nat} {m : Nat} {ρ ρ2 : Nat → Value} {w : World} {xs : List AV} {ys : List Value} (h : yM M ρ2 w xs ys) (hk : xs.all (AV.okE m) = true) (hM : ∀ k c, k < w.heap.size → M' k c → M k c)
    (hρ : ∀ k, 1000 ≤ k → k < 1000 + m → ρ2 k = ρ (sig ids k)) : yM M' ρ w (xs.map (AV.ren (sig ids))) ys :=
  ⟨by simpa using h.len, fun i c v hc hv => by
    rw [List.getElem?_map, Option.map_eq_some_iff] at hc
    obtain ⟨c', hc', rfl⟩ := hc
    exact yN.outw (h.each i c' v hc' hv) (List.all_eq_true.1 hk c' (List.mem_of_getElem? hc')) hM hρ, h.one⟩
/-- the frame behind a call: the variables ids hold what the contract says -/
def putBs : List Nat → List Blk → List (Nat × Blk) → List (Nat × Blk)
  | id :: is, b :: bs, s => putL (putBs is bs s) id b
  | _, _, s => s
def AS.after (S : AS) (ids : List Nat) (B : List Blk) : AS := { S with s := putBs ids (B.map (Blk.ren (sig ids))) S.s }
theorem nodup_inj : ∀ {l : List Nat}, l.Nodup → ∀ {i j x : Nat}, l[i]? = some x → l[j]? = some x → i = j
  | [], _, i, j, x, hi, _ => by simp at hi
  | a :: r, h, i, j, x, hi, hj => by
    rw [List.nodup_cons] at h
    cases i with
    | zero =>
      cases j with
      | zero => rfl
      | succ j =>
        simp at hi
        subst hi
        exact absurd (List.mem_of_getElem? (by simpa using hj)) h.1
    | succ i =>
      cases j with
      | zero =>
        simp at hj
        subst hj
        exact absurd (List.mem_of_getElem? (by simpa using hi)) h.1
      | succ j => exact congrArg (· + 1) (nodup_inj h.2 (i := i) (j := j) (x := x) (by simpa using hi) (by simpa using hj))
theorem look_putBs : ∀ (ids : List Nat) (B : List Blk) (s : List (Nat × Blk)) (j : Nat), ids.length = B.length → ids.Nodup → look (putBs ids B s) j = if j ∈ ids then B[ids.idxOf j]? else look s j := by
  intro ids
  induction ids with
  | nil => intro B s j hl hn; match B, hl with
    | [], _ => simp [putBs]
  | cons id r ih =>
    intro B s j hl hn
    match B, hl with
    | b :: bs, hl =>
      simp only [putBs, look_putL]
      rw [List.nodup_cons] at hn
      by_cases h1 : id = j
      · subst h1
        simp
      · rw [if_neg h1, ih bs s j (by simpa using hl) hn.2]
        have h2 : j ≠ id := fun e => h1 e.symm
        by_cases h3 : j ∈ r
        · have e : List.idxOf j (id :: r) = List.idxOf j r + 1 := by
            have hb : (id == j) = false := by simpa using h1
            rw [List.idxOf_cons, hb]
            rfl
          rw [if_pos h3, if_pos (List.mem_cons_of_mem _ h3), e, List.getElem?_cons_succ]
        · rw [if_neg h3, if_neg (by simp [h2, h3])]
end
section
variable {P : Program} {n : Nat} {o : Oper} {S : AS} {d : Nat}
/-- What a caller must show of the variables that it hands over. -/
structure Hands (S : AS) (ids : List Nat) (B : List Blk) : Prop where
  len : ids.length = B.length
  nodup : ids.Nodup
  ok : B.all (Blk.okE B.length) = true
  at_ : ∀ (i : Nat) id b, ids[i]? = some id → B[i]? = some b → S.blk id = some (b.ren (sig ids))
theorem sig_at {ids : List Nat} {i id : Nat} (h : ids[i]? = some id) : sig ids (1000 + i) = id := by
  unfold sig
  have e : 1000 + i - 1000 = i := by omega
  rw [e]
  simp [List.getD, h]
def EvOut (m : Nat) (σ : Nat → Nat) (Mu : Nat → Nat → Prop) (ρ : Nat → Value) (w : World) : EV → Ending → Prop
  | .ret x, e => x.okE m = true → ∃ v, e = .returned v ∧ yN Mu ρ w (x.ren σ) v
  | .pan x, e => x.okE m = true → ∃ v, e = .panicked [{ v := v, recovered := false }] ∧ yN Mu ρ w (x.ren σ) v
theorem Blk.okE_turns {b : Blk} {m : Nat} (h : b.okE m = true) (c : Nat) : b.turns c := by
  cases b with
  | lent t s n xs => cases h
  | _ => trivial
theorem Blk.ren_turns {b : Blk} {σ : Nat → Nat} (c : Nat) : (b.ren σ).turns c ↔ b.turns c := by cases b <;> exact Iff.rfl
/-- Something that is run, of the values that the frame holds: a call, or what is left of a body. -/
theorem call_effC {C : (Ending → World → Prop) → Prop} (hmono : ∀ R R' : Ending → World → Prop, (∀ e w', R e w' → R' e w') → C R → C R') {xs : List AV} {ids : List Nat} {B B' : List Blk} {ev : EV} (hh : Hands S ids B) (hB' : B'.length = B.length) (hok' : B'.all (Blk.okE B.length) = true) (hxs : xs.all (AV.okE B.length) = true)
    {M : Nat → Nat → Prop} {w0 : Home} {ρ : Nat → Value} {a : Act} {w : World} (hs : Sat M n w0 S ρ a w) {vs : List Value}
    (hvs : ∀ (i : Nat) x v, xs[i]? = some x → vs[i]? = some v → yN (Mut M S ρ) ρ w (x.ren (sig ids)) v)
    (hf : ∀ (M' : Nat → Nat → Prop) (h : Home) (ρ' : Nat → Value), h.w = w → h.d = [] → Handed h B ρ' → Sat M' 0 h (asB B) ρ' vR w → (∀ (i : Nat) x v, xs[i]? = some x → vs[i]? = some v → yN (Mut M' (asB B) ρ') ρ' w x v) → (∀ k, 1000 ≤ k → k < 1000 + B.length → ρ' k = ρ (sig ids k)) →
      C fun e w' => ∃ ρ2, Sat M' 0 h (asB B') ρ2 vR w' ∧ EvOK (Mut M' (asB B') ρ2) ρ2 w' ev e) :
    C fun e w' => Sat M n w0 (S.after ids B') ρ a w' ∧ EvOut B.length (sig ids) (Mut M (S.after ids B') ρ) ρ w' ev e := by
  have hlen := hh.len
  have at_i : ∀ i, i < B.length → ∃ id b, ids[i]? = some id ∧ B[i]? = some b ∧ S.blk id = some (b.ren (sig ids)) ∧ sig ids (1000 + i) = id := fun i hi => by
    have h1 : ids[i]? = some (ids[i]'(by omega)) := List.getElem?_eq_getElem _
    have h2 : B[i]? = some B[i] := List.getElem?_eq_getElem _
    exact ⟨_, _, h1, h2, hh.at_ i _ _ h1 h2, sig_at h1⟩
  have box_i : ∀ i, i < B.length → ∃ g, ρ (sig ids (1000 + i)) = .pointer (some ⟨g, 0, none⟩) := fun i hi => by
    obtain ⟨id, b, h1, h2, h3, h4⟩ := at_i i hi
    have hb := hs.blks id _ h3
    have hbo := List.all_eq_true.1 hh.ok b (List.mem_of_getElem? h2)
    rw [h4]
    cases b with
    | box t cs =>
      obtain ⟨g, ys, hv, _⟩ := hb
      exact ⟨g, hv⟩
    | row t s m cs => cases hbo
    | prow t s m cs => cases hbo
    | lent t s m cs => cases hbo
  let T : Nat → Prop := fun k => ∃ i, i < B.length ∧ yK (ρ (sig ids (1000 + i))) = some k
  have T_mut : ∀ k c, T k → Mut M S ρ k c := fun k c ⟨i, hi, hk⟩ => by
    obtain ⟨id, b, h1, h2, h3, h4⟩ := at_i i hi
    rw [h4] at hk
    exact .inr ⟨id, _, h3, hk, (Blk.ren_turns c).2 (Blk.okE_turns (List.all_eq_true.1 hh.ok b (List.mem_of_getElem? h2)) c)⟩
  have T_has : ∀ k, T k → w0.has k := fun k ⟨i, hi, hk⟩ => by
    obtain ⟨id, b, h1, h2, h3, h4⟩ := at_i i hi
    rw [h4] at hk
    exact hs.mine id _ k h3 hk
  let M' : Nat → Nat → Prop := fun k c => Mut M S ρ k c ∧ ¬ T k
  let h : Home := ⟨w, T, hs.lays, (fun g hg ht => hs.tabs g 0 hg (T_mut g 0 ht)), fun k => if 1000 ≤ k ∧ k < 1000 + B.length then some (ρ (sig ids k)) else none, (fun k v hk => by
      by_cases hc : 1000 ≤ k ∧ k < 1000 + B.length
      · simp only [hc, and_self, if_true, Option.some.injEq] at hk
        obtain ⟨g, hg⟩ := box_i (k - 1000) (by omega)
        have e : 1000 + (k - 1000) = k := by omega
        rw [e] at hg
        exact ⟨g, by rw [← hk, hg]⟩
      · rw [if_neg hc] at hk; cases hk), (fun k hk => if_neg (by omega)), []⟩
  have hr_i : ∀ k, 1000 ≤ k → k < 1000 + B.length → h.r k = some (ρ (sig ids k)) := fun k h1 h2 => if_pos ⟨h1, h2⟩
  have mutc : ∀ k c, Mut M' (asB B) (fun k => ρ (sig ids k)) k c → Mut M S ρ k c := by
    rintro k c (hk | ⟨id, b, hb, hk, _⟩)
    · exact hk.1
    · obtain ⟨i, rfl, hbi⟩ := wX hb
      exact T_mut k c ⟨i, (List.getElem?_eq_some_iff.1 hbi).1, hk⟩
  have hsat : Sat M' 0 h (asB B) (fun k => ρ (sig ids k)) vR h.w := by
    refine ⟨wZ.refl h, fun k c hk hh2 => ?_, fun g c hg hk => ?_, rfl, rfl, fun i => .any _, fun id b hb => ?_, fun id b k hb hk => ?_, fun k v hk => ?_, fun k hk => by omega, fun i j bi bj k hi hj h1 h2 => ?_⟩
    · rcases hh2 with hh2 | hh2
      · exact absurd (Mut.lt hs hk.1) (Nat.not_lt.2 hh2)
      · exact hk.2 hh2
    · exact hs.tabs g c hg hk.1
    · obtain ⟨i, rfl, hbi⟩ := wX hb
      have hi : i < B.length := (List.getElem?_eq_some_iff.1 hbi).1
      obtain ⟨id, b2, h1, h2, h3, h4⟩ := at_i i hi
      rw [hbi] at h2
      obtain rfl := Option.some.inj h2
      have hbo := List.all_eq_true.1 hh.ok b (List.mem_of_getElem? hbi)
      have hb2 := hs.blks id _ h3
      cases b with
      | box t cs =>
        obtain ⟨g, ys, hv, hg, hhp, hc⟩ := hb2
        exact ⟨g, ys, by show ρ (sig ids (1000 + i)) = _; rw [h4]; exact hv, hg, hhp, yM.inn hc hbo fun k c _ hk => mutc k c hk⟩
      | row t s m cs => cases hbo
      | prow t s m cs => cases hbo
      | lent t s m cs => cases hbo
    · obtain ⟨i, rfl, hbi⟩ := wX hb
      exact .inr ⟨i, (List.getElem?_eq_some_iff.1 hbi).1, hk⟩
    · by_cases hc : 1000 ≤ k ∧ k < 1000 + B.length
      · rw [hr_i k hc.1 hc.2] at hk
        exact Option.some.inj hk
      · have : h.r k = none := if_neg hc
        rw [this] at hk; cases hk
    · obtain ⟨i', rfl, hbi⟩ := wX hi
      obtain ⟨j', rfl, hbj⟩ := wX hj
      obtain ⟨id, b1, p1, p2, p3, p4⟩ := at_i i' (List.getElem?_eq_some_iff.1 hbi).1
      obtain ⟨jd, b2, q1, q2, q3, q4⟩ := at_i j' (List.getElem?_eq_some_iff.1 hbj).1
      rw [p4] at h1
      rw [q4] at h2
      have e := hs.dist id jd _ _ k p3 q3 h1 h2
      subst e
      rw [nodup_inj hh.nodup p1 q1]
  refine hmono _ _ ?_ (hf M' h _ rfl rfl ⟨fun i hi => hr_i _ (by omega) (by omega), fun k hk => hk⟩ hsat (fun i x v h1 h2 => yN.inn (hvs i x v h1 h2) (List.all_eq_true.1 hxs x (List.mem_of_getElem? h1)) fun k c _ hk => mutc k c hk) (fun _ _ _ => rfl))
  rintro e w' ⟨ρ2, hs2, hev⟩
  have hρ : ∀ k, 1000 ≤ k → k < 1000 + B.length → ρ2 k = ρ (sig ids k) := fun k h1 h2 => hs2.fix k _ (hr_i k h1 h2)
  have hblk : ∀ j, (S.after ids B').blk j = if j ∈ ids then (B'.map (Blk.ren (sig ids)))[ids.idxOf j]? else S.blk j := fun j => look_putBs ids _ S.s j (by simp [hlen, hB']) hh.nodup
  have mem_at : ∀ j, j ∈ ids → ∃ i b b', ids.idxOf j = i ∧ i < B.length ∧ ids[i]? = some j ∧ B[i]? = some b ∧ B'[i]? = some b' ∧ S.blk j = some (b.ren (sig ids)) ∧ sig ids (1000 + i) = j := fun j hj => by
    have h1 : ids.idxOf j < ids.length := List.idxOf_lt_length_of_mem hj
    have h2 : ids[ids.idxOf j]? = some j := by rw [List.getElem?_eq_getElem h1, List.getElem_idxOf h1]
    obtain ⟨id, b, h3, h4, h5, h6⟩ := at_i (ids.idxOf j) (by omega)
    rw [h2] at h3
    obtain rfl := Option.some.inj h3
    exact ⟨_, b, B'[ids.idxOf j]'(by omega), rfl, by omega, h2, h4, List.getElem?_eq_getElem _, h5, h6⟩
  have keys : ∀ j b, (S.after ids B').blk j = some b → ∃ b0, S.blk j = some b0 ∧ ∀ c, b.turns c → b0.turns c := fun j b hb => by
    rw [hblk] at hb
    by_cases hj : j ∈ ids
    · obtain ⟨i, b0, b', _, _, _, h3, _, h5, _⟩ := mem_at j hj
      exact ⟨_, h5, fun c _ => (Blk.ren_turns c).2 (Blk.okE_turns (List.all_eq_true.1 hh.ok b0 (List.mem_of_getElem? h3)) c)⟩
    · rw [if_neg hj] at hb
      exact ⟨b, hb, fun _ h => h⟩
  have keys' : ∀ j b, S.blk j = some b → ∃ b0, (S.after ids B').blk j = some b0 := fun j b hb => by
    rw [hblk]
    by_cases hj : j ∈ ids
    · obtain ⟨i, b0, b', h1, _, _, _, h4, _, _⟩ := mem_at j hj
      rw [if_pos hj, h1]
      exact ⟨_, by rw [List.getElem?_map, h4]; rfl⟩
    · rw [if_neg hj]
      exact ⟨b, hb⟩
  have mut1 : ∀ k c, Mut M (S.after ids B') ρ k c → Mut M S ρ k c := by
    rintro k c (hk | ⟨j, b, hb, hk, ht⟩)
    · exact .inl hk
    · obtain ⟨b0, h0, h0t⟩ := keys j b hb
      exact .inr ⟨j, b0, h0, hk, h0t c ht⟩
  have mut2 : ∀ k c, Mut M S ρ k c → Mut M' (asB B') ρ2 k c := fun k c hk => by
    by_cases ht : T k
    · obtain ⟨i, hi, hk2⟩ := ht
      refine .inr ⟨1000 + i, B'[i]'(by omega), by rw [asB_blk]; exact List.getElem?_eq_getElem _, ?_, Blk.okE_turns (List.all_eq_true.1 hok' _ (List.getElem_mem _)) c⟩
      rw [hρ (1000 + i) (by omega) (by omega)]
      exact hk2
    · exact .inl ⟨hk, ht⟩
  have grow : Keeps (Mut M S ρ) w w' := ⟨hs2.below.size, fun k c hk hnm => World.cell?_of_block (w := w) (hs2.below.block k hk (fun ht => hnm (T_mut k c ht)))⟩
  have sat' : Sat M n w0 (S.after ids B') ρ a w' := by
    refine ⟨⟨hs2.below.os.trans hs.below.os, hs2.below.tape.trans hs.below.tape, hs2.below.output.trans hs.below.output, Nat.le_trans hs.below.size hs2.below.size, fun k hk ht => ?_⟩, hs.out, hs.tab, hs.size, hs.defers, fun i => ((hs.tmps i).keep grow).mono fun k c _ hk => mut1 k c hk, fun j b hb => ?_, fun j b k hb hk => ?_, hs.fix, hs.free, fun i j bi bj k hi hj h1 h2 => ?_⟩
    · refine (hs2.below.block k (Nat.lt_of_lt_of_le hk hs.below.size) (fun hT => ?_)).trans (hs.below.block k hk ht)
      rcases T_has k hT with h1 | h1
      · omega
      · exact ht h1
    · rw [hblk] at hb
      by_cases hj : j ∈ ids
      · obtain ⟨i, b0, b', h1, hi, h2, h3, h4, h5, h6⟩ := mem_at j hj
        rw [if_pos hj, h1, List.getElem?_map, h4] at hb
        obtain rfl := Option.some.inj hb
        have hb2 := hs2.blks (1000 + i) b' (by rw [asB_blk]; exact h4)
        have hbo := List.all_eq_true.1 hok' b' (List.mem_of_getElem? h4)
        cases b' with
        | box t cs =>
          obtain ⟨g, ys, hv, hg, hhp, hc⟩ := hb2
          rw [hρ (1000 + i) (by omega) (by omega), h6] at hv
          exact ⟨g, ys, hv, hg, hhp, yM.outw hc hbo (fun k c _ hk => mut2 k c (mut1 k c hk)) hρ⟩
        | row t s m cs => cases hbo
        | prow t s m cs => cases hbo
        | lent t s m cs => cases hbo
      · rw [if_neg hj] at hb
        refine (wD.keep (hs.blks j b hb) (fun k hk => ?_) grow (fun k c _ hk => hk)).mono mut1
        refine hs2.below.block k (Mut.blk_lt hs hb hk) (fun ⟨i, hi, hk2⟩ => ?_)
        obtain ⟨id, b2, p1, p2, p3, p4⟩ := at_i i hi
        rw [p4] at hk2
        have := hs.dist j id _ _ k hb p3 hk hk2
        subst this
        exact hj (List.mem_of_getElem? p1)
    · obtain ⟨b0, h0, _⟩ := keys j b hb
      exact hs.mine j b0 k h0 hk
    · obtain ⟨b1, h3, _⟩ := keys i bi hi
      obtain ⟨b2, h4, _⟩ := keys j bj hj
      exact hs.dist i j b1 b2 k h3 h4 h1 h2
  refine ⟨sat', ?_⟩
  cases ev with
  | ret x =>
    intro hx
    obtain ⟨v, he, hv⟩ := hev
    exact ⟨v, he, yN.outw hv hx (fun k c _ hk => mut2 k c (mut1 k c hk)) hρ⟩
  | pan x =>
    intro hx
    obtain ⟨v, he, hv⟩ := hev
    exact ⟨v, he, yN.outw hv hx (fun k c _ hk => mut2 k c (mut1 k c hk)) hρ⟩
/-- The call of f, run, of the values that the frame holds. -/
theorem call_eff {f : FuncId} {xs : List AV} {ids : List Nat} {B B' : List Blk} {ev : EV} (hf : FnE P f xs B ev B') (hh : Hands S ids B) (hB' : B'.length = B.length) (hok' : B'.all (Blk.okE B.length) = true) (hxs : xs.all (AV.okE B.length) = true)
    {M : Nat → Nat → Prop} {w0 : Home} {ρ : Nat → Value} {a : Act} {w : World} (hs : Sat M n w0 S ρ a w) {vs : List Value} (hvl : vs.length = xs.length)
    (hvs : ∀ (i : Nat) x v, xs[i]? = some x → vs[i]? = some v → yN (Mut M S ρ) ρ w (x.ren (sig ids)) v) :
    Calls P f vs.toArray w fun e w' => Sat M n w0 (S.after ids B') ρ a w' ∧ EvOut B.length (sig ids) (Mut M (S.after ids B') ρ) ρ w' ev e :=
  call_effC (C := Calls P f vs.toArray w) (fun _ _ h c => c.mono h) hh hB' hok' hxs hs hvs fun M' h ρ' hw _ hand hsat hr _ => by
    subst hw
    exact hf M' h ρ' vs hand hsat hvl hr
end
/-! ### Rules -/
section
variable {P : Program} {n : Nat} {o : Oper} {S : AS} {d : Nat} {t : TypeId} {x y : Operand} {ops : Array Oper} {rest : List Oper} {K : Exit → AS → Prop}
theorem zU {f : Nat} {ids : List Nat} (ho : o.op = .move x) (hx : S.get x = .clo f ids) (hd : o.dst = some d) (hn : d < n) : zG P n o S [] (.clo f ids) none := hx ▸ a_move (.inl ho) hd hn
theorem a_assignC {f : Nat} {ids : List Nat} (ho : o.op = .assign x) (hx : S.get x = .clo f ids) (hd : o.dst = some d) (hn : d < n) : zG P n o S [] (.clo f ids) none := hx ▸ a_move (.inr ho) hd hn
theorem w_loadC {id off f : Nat} {ids : List Nat} {b : Blk} {m : Nat} [h : TyA P t false m] (ho : o.op = .load t x) (hx : S.get x = .ptr id off) (hb : S.blk id = some b) (hc : b.xs[off]? = some (.clo f ids)) (hd : o.dst = some d) (hn : d < n) : zG P n o S [id] (.clo f ids) none := a_loadR1 ho hx hb hc h.ag hd hn
/-- a closure is made -/
theorem w_makeFunc {f : Nat} {cs : Array Operand} {ids : List Nat} (ho : o.op = .makeFunc (.func f) #[] cs) (hc : cs.toList.map S.get = ids.map fun i => .ptr i 0) (hd : o.dst = some d) (hn : d < n) : zG P n o S [] (.clo f ids) none :=
  zG.pure hd hn fun S2 hg _ M w0 ρ a w hs => by
    refine ⟨.func (.func f) #[] (cs.toList.map a.eval).toArray, w, ?_, Below.refl _ _, .clo f ids _ ?_ fun i k v hk hv => ?_⟩
    · unfold execOp
      rw [ho]
      have e : cs.map a.eval = (cs.toList.map a.eval).toArray := by apply Array.ext'; simp
      simp [Instr.makeFunc, e]
    · have := congrArg List.length hc
      simpa using this
    · rw [List.getElem?_map, Option.map_eq_some_iff] at hv
      obtain ⟨z, hz, rfl⟩ := hv
      have h3 : S.get z = .ptr k 0 := by
        have h4 : (cs.toList.map S.get)[i]? = (ids.map fun i => AV.ptr i 0)[i]? := by rw [hc]
        rw [List.getElem?_map, List.getElem?_map, hz, hk] at h4
        simpa using h4
      have h5 := hs.rep z
      rw [hg z (by rw [ho]; simp only [Op.operands]; simp; exact Array.mem_def.2 (List.mem_of_getElem? hz)), h3] at h5
      obtain ⟨g, h6, h7⟩ := vO h5
      exact ⟨g, h6, h7⟩
/-- the variables that a closure holds -/
def readIds : List AV → Option (List Nat)
  | [] => some []
  | .ptr i 0 :: r => match readIds r with
    | some l => some (i :: l)
    | none => none
  | _ => none
theorem readIds_spec : ∀ {l : List AV} {ids : List Nat}, readIds l = some ids → l = ids.map fun i => .ptr i 0
  | [], ids, h => by simp only [readIds, Option.some.injEq] at h; subst h; rfl
  | x :: r, ids, h => by
    unfold readIds at h
    split at h
    · rename_i h0; cases h0
    · rename_i i r' h0
      injection h0 with h1 h2
      subst h1
      subst h2
      split at h
      · rename_i l hl
        obtain rfl := Option.some.inj h
        rw [readIds_spec hl]
        rfl
      · cases h
    · cases h
theorem vJ {f : Nat} {cs : Array Operand} {ids : List Nat} (ho : o.op = .makeFunc (.func f) #[] cs) (hc : readIds (cs.toList.map S.get) = some ids) (hd : o.dst = some d) (hn : d < n) : zG P n o S [] (.clo f ids) none := w_makeFunc ho (readIds_spec hc) hd hn
/-- what is handed over, variable by variable -/
def AtB (S : AS) (ids : List Nat) : List Nat → List Blk → Prop
  | [], [] => True
  | i :: is, b :: bs => S.blk i = some (b.ren (sig ids)) ∧ AtB S ids is bs
  | _, _ => False
theorem zD {ids : List Nat} {B : List Blk} (hn : ids.Nodup) (hok : B.all (Blk.okE B.length) = true) (h : AtB S ids ids B) : Hands S ids B := by
  have key : ∀ (is : List Nat) (bs : List Blk), AtB S ids is bs → is.length = bs.length ∧ ∀ (i : Nat) id b, is[i]? = some id → bs[i]? = some b → S.blk id = some (b.ren (sig ids)) := by
    intro is
    induction is with
    | nil => intro bs h; cases bs with
      | nil => exact ⟨rfl, fun i id b h => by simp at h⟩
      | cons => exact h.elim
    | cons x r ih => intro bs h; cases bs with
      | nil => exact h.elim
      | cons b q =>
        obtain ⟨h1, h2⟩ := ih q h.2
        refine ⟨by simp [h1], fun i id c hi hc => ?_⟩
        cases i with
        | zero => simp at hi hc; subst hi; subst hc; exact h.1
        | succ i => exact h2 i id c (by simpa using hi) (by simpa using hc)
  obtain ⟨h1, h2⟩ := key ids B h
  exact ⟨h1, hn, hok, h2⟩
/-- a variable that holds a closure -/
theorem w_boxC {f : Nat} {ids : List Nat} (ho : o.op = .box t x) (hx : S.get x = .clo f ids) (hd : o.dst = some d) (hn : d < n) : zG P n o S [] (.ptr d 0) (some (.box t [.clo f ids])) :=
  zG.made hd hn fun S2 hg _ M w0 ρ a w hs => by
    have hr := hs.rep x
    rw [hg x (by rw [ho]; simp [Op.operands]), hx] at hr
    refine ⟨.pointer (some ⟨w.heap.size, 0, none⟩), w.alloc (.cells (a.eval x).cells t), ?_, World.grownBy_alloc w _ none, fun k hk => ?_, ?_, .inr ⟨rfl, _, rfl⟩⟩
    · unfold execOp
      rw [ho]
      simp [Instr.box, newVar, newRow]
    · simp only [yK, Option.some.injEq] at hk; omega
    · have hc := repA_cells hr rfl
      refine ⟨w.heap.size, (a.eval x).cells.toList, rfl, Nat.zero_le _, by rw [heap_alloc_new], ⟨hc.len, fun i c u h2 h3 => ?_, hc.one⟩⟩
      refine ((hc.each i c u h2 h3).mono fun k c hk h => ?_).keep (.of_below _ ((Below.refl _ _).alloc (Nat.le_refl _) _))
      rcases h with h | h
      · exact h
      · simp only [yK, Option.some.injEq] at h; omega
/-- An operation that is a call, of function f, of such arguments. -/
def Enters (P : Program) (o : Oper) (S : AS) (f : FuncId) (avs : List AV) : Prop :=
  ∀ (M : Nat → Nat → Prop) (n : Nat) (w0 : Home) (ρ : Nat → Value) (a : Act) (w : World), Sat M n w0 S ρ a w → ∃ vs : List Value, (execOp a.eval o).run P w = .ok (.enter f vs.toArray) w ∧ vs.length = avs.length ∧
    ∀ (i : Nat) x v, avs[i]? = some x → vs[i]? = some v → yN (Mut M S ρ) ρ w x v
theorem reps_get {M : Nat → Nat → Prop} {n : Nat} {w0 : Home} {ρ : Nat → Value} {a : Act} {w : World} (hs : Sat M n w0 S ρ a w) (args : List Operand) : ∀ (i : Nat) x v, (args.map S.get)[i]? = some x → (args.map a.eval)[i]? = some v → yN (Mut M S ρ) ρ w x v := by
  intro i x v hx hv
  rw [List.getElem?_map, Option.map_eq_some_iff] at hx hv
  obtain ⟨y, hy, rfl⟩ := hx
  obtain ⟨z, hz, rfl⟩ := hv
  rw [hy] at hz
  obtain rfl := Option.some.inj hz
  exact hs.rep y
theorem zH {f : FuncId} {args : Array Operand} {ts : Array TypeId} [hc : HasFn P f] (ho : o.op = .call { callee := .value (.func f), args := args, argTypes := ts }) : Enters P o S f (args.toList.map S.get) :=
  fun M n w0 ρ a w hs => by
    refine ⟨args.toList.map a.eval, ?_, by simp, reps_get hs args.toList⟩
    have e : (args.toList.map a.eval).toArray = args.map a.eval := by apply Array.ext'; simp
    unfold execOp
    rw [ho, e]
    simp [resolve, Deferred.ofValue, Act.eval, invoke, hc.h]
theorem yF {f : FuncId} {ks : List Nat} {args : Array Operand} {ts : Array TypeId} [hc : HasFn P f] (ho : o.op = .call { callee := .value x, args := args, argTypes := ts }) (hx : S.get x = .clo f ks) : Enters P o S f (args.toList.map S.get ++ ks.map fun k => .ptr k 0) :=
  fun M n w0 ρ a w hs => by
    have hr := hs.rep x
    rw [hx] at hr
    generalize hv : a.eval x = v at hr
    cases hr with
    | clo _ _ vs hl h =>
      refine ⟨args.toList.map a.eval ++ vs, ?_, by simp [hl], fun i x v h1 h2 => ?_⟩
      · have e : (args.toList.map a.eval ++ vs).toArray = args.map a.eval ++ vs.toArray := by apply Array.ext'; simp
        unfold execOp
        rw [ho, e]
        simp [resolve, Deferred.ofValue, hv, invoke, hc.h]
      · by_cases hi : i < args.toList.length
        · rw [List.getElem?_append_left (by simpa using hi)] at h1 h2
          exact reps_get hs args.toList i x v h1 h2
        · rw [List.getElem?_append_right (by simpa using hi)] at h1 h2
          simp only [List.length_map] at h1 h2
          rw [List.getElem?_map, Option.map_eq_some_iff] at h1
          obtain ⟨k, hk, rfl⟩ := h1
          obtain ⟨g, hg, rfl⟩ := h _ k v hk h2
          exact .ptr k 0 g hg
theorem reps_ren {M : Nat → Nat → Prop} {ρ : Nat → Value} {w : World} {xs avs : List AV} {ids : List Nat} {vs : List Value} (hx : avs = xs.map (AV.ren (sig ids))) (h : ∀ (i : Nat) x v, avs[i]? = some x → vs[i]? = some v → yN M ρ w x v) :
    ∀ (i : Nat) x v, xs[i]? = some x → vs[i]? = some v → yN M ρ w (x.ren (sig ids)) v := fun i x v h1 h2 => h i _ v (by rw [hx, List.getElem?_map, h1]; rfl) h2
/-- A call by a contract, that comes back. -/
theorem zM.xA {f : FuncId} {avs xs : List AV} {B B' : List Blk} {rx : AV} {N : AS → Prop} (ids : List Nat) (hf : FnE P f xs B (.ret rx) B') (hd : o.dst = some d) (hn : d < n) (he : Enters P o S f avs) (hx : avs = xs.map (AV.ren (sig ids))) (hh : Hands S ids B)
    (hB' : B'.length = B.length) (hok' : B'.all (Blk.okE B.length) = true) (hxs : xs.all (AV.okE B.length) = true) (hrx : rx.okE B.length = true) (hr : N ((S.after ids B').put d (rx.ren (sig ids)))) : zM P n o S K N := by
  intro M w0 ρ a w KK Q hs hK _
  obtain ⟨vs, he1, he2, he3⟩ := he M n w0 ρ a w hs
  unfold Oper.wp
  rw [he1, Oper.upon_enter]
  refine (call_eff hf hh hB' hok' hxs hs (by rw [he2, hx, List.length_map]) (reps_ren hx he3)).mono ?_
  rintro e w' ⟨hs', hev⟩
  obtain ⟨v, rfl, hv⟩ := hev hrx
  show KK (a.put o.dst v) w'
  rw [hd]
  exact hK _ ρ _ w' hr (hs'.put hn hv)
/-- A call by a contract, that panics. -/
theorem zM.ePan {f : FuncId} {avs xs : List AV} {B B' : List Blk} {rx : AV} {N : AS → Prop} (ids : List Nat) (hf : FnE P f xs B (.pan rx) B') (he : Enters P o S f avs) (hx : avs = xs.map (AV.ren (sig ids))) (hh : Hands S ids B)
    (hB' : B'.length = B.length) (hok' : B'.all (Blk.okE B.length) = true) (hxs : xs.all (AV.okE B.length) = true) (hrx : rx.okE B.length = true) (hr : K (.panic []) { S.after ids B' with x := rx.ren (sig ids) }) : zM P n o S K N := by
  intro M w0 ρ a w KK Q hs _ hK
  obtain ⟨vs, he1, he2, he3⟩ := he M n w0 ρ a w hs
  unfold Oper.wp
  rw [he1, Oper.upon_enter]
  refine (call_eff hf hh hB' hok' hxs hs (by rw [he2, hx, List.length_map]) (reps_ren hx he3)).mono ?_
  rintro e w' ⟨hs', hev⟩
  obtain ⟨v, rfl, hv⟩ := hev hrx
  exact hK (.panic _) _ ρ a w' hr ⟨hs'.below, hs'.out, hs'.tab, hs'.size, hs'.defers, hs'.tmps, hs'.blks, hs'.mine, hs'.fix, hs'.free, hs'.dist⟩ ⟨v, rfl, hv⟩
theorem zZ.ofT (hg : o.guard = none) (h : zM P n o S K (fun S1 => zZ P n ops rest S1 K)) : zZ P n ops (o :: rest) S K := by
  intro M w0 ρ a w Q hs hK
  unfold wpList
  rw [if_pos (by simp [Region.wanted, hg])]
  exact .inl (h M w0 ρ a w _ Q hs (fun S1 ρ' a' w' hN hs' => hN M w0 ρ' a' w' Q hs' hK) hK)
theorem zZ.ofTg {j t : Nat} {want b : Bool} (hg : o.guard = some (j, want)) (ht : (ops[j]?).bind (·.dst) = some t) (htn : t < n) (hb : S.tmp t = .p (.val (.bool b))) (hbw : b = want)
    (h : zM P n o S K (fun S1 => zZ P n ops rest S1 K)) : zZ P n ops (o :: rest) S K := by
  intro M w0 ρ a w Q hs hK
  unfold wpList
  rw [hs.wanted hg ht htn hb, if_pos (by subst hbw; simp [wantB])]
  exact .inl (h M w0 ρ a w _ Q hs (fun S1 ρ' a' w' hN hs' => hN M w0 ρ' a' w' Q hs' hK) hK)
theorem zP.ofT (hg : o.guard = none) (h : zM P n o S K (fun S1 => zP P n K S1 rest)) : zP P n K S (o :: rest) := ⟨hg, h⟩
/-- 'panic(x)' -/
theorem zM.panic {t : Nat} {y : PV} {N : AS → Prop} (ho : o.op = .panic x) (hx : S.get x = .p (.ifc t y)) (hr : K (.panic []) { S with x := .p (.ifc t y) }) : zM P n o S K N := by
  intro M w0 ρ a w KK Q hs _ hK
  have h1 := hs.rep x
  rw [hx] at h1
  have h2 := rep_p h1
  obtain ⟨u, hu⟩ : ∃ u, a.eval x = .iface t u := by
    generalize a.eval x = v at h2
    cases h2 with
    | ifc _ _ u h => exact ⟨u, rfl⟩
  have h3 : (execOp a.eval o).run P w = .halt (.panic (a.eval x)) w := by
    unfold execOp
    rw [ho]
    simp only [hu]
    rfl
  unfold Oper.wp
  rw [h3, Oper.upon_panic]
  exact hK (.panic _) _ ρ a w hr ⟨hs.below, hs.out, hs.tab, hs.size, hs.defers, hs.tmps, hs.blks, hs.mine, hs.fix, hs.free, hs.dist⟩ ⟨_, rfl, h1⟩
/-! ### A function's contract out of its body -/
def zipA : Nat → List AV → List (Nat × AV)
  | _, [] => []
  | i, x :: r => (i, x) :: zipA (i + 1) r
theorem look_zipA : ∀ (xs : List AV) (i j : Nat), look (zipA i xs) j = if i ≤ j then xs[j - i]? else none := by
  intro xs
  induction xs with
  | nil => intro i j; simp [zipA, look]
  | cons b r ih =>
    intro i j
    simp only [zipA, look]
    by_cases h1 : i = j
    · subst h1
      simp
    · rw [if_neg h1, ih (i + 1) j]
      by_cases h2 : i ≤ j
      · have e : j - i = (j - (i + 1)) + 1 := by omega
        rw [if_pos h2, if_pos (by omega), e, List.getElem?_cons_succ]
      · rw [if_neg h2, if_neg (by omega)]
inductive GivesA (P : Program) (fn : Func) (S : AS) : AV → Prop
  | none (hr : fn.results = #[]) : GivesA P fn S .any
  | one {t : Nat} {x : AV} (hr : fn.results = #[.tmp t]) (h : S.tmp t = x) : GivesA P fn S x
  | p {r : ResultVar} {x : PV} (hr : fn.results = #[r]) (h : ResV P S r x) : GivesA P fn S (.p x)
  | tup {rs : List ResultVar} {l : List PV} (hr : fn.results = rs.toArray) (hl : rs.length ≠ 1) (h : ResVs P S rs l) : GivesA P fn S (.tup (l.map AV.p))
def HasB (S : AS) (B : List Blk) : Prop := ∀ (i : Nat) b, B[i]? = some b → S.blk (1000 + i) = some b
def EndE (P : Program) (fn : Func) (ev : EV) (B' : List Blk) (e : Exit) (S : AS) : Prop :=
  match ev with
  | .ret x => (e = .ret ∨ e = .normal) ∧ ∃ S', Sub S S' ∧ GivesA P fn S' x ∧ HasB S' B'
  | .pan x => e = .panic [] ∧ S.x = x ∧ HasB S B'
def hasL (S : AS) : Nat → List Blk → Prop
  | _, [] => True
  | i, b :: r => S.blk i = some b ∧ hasL S (i + 1) r
theorem yV {S : AS} {B : List Blk} (h : hasL S 1000 B) : HasB S B := by
  have key : ∀ (B : List Blk) (k : Nat), hasL S k B → ∀ (i : Nat) b, B[i]? = some b → S.blk (k + i) = some b := by
    intro B
    induction B with
    | nil => intro k _ i b h; simp at h
    | cons c r ih =>
      intro k h i b hb
      cases i with
      | zero => simp at hb; subst hb; exact h.1
      | succ i =>
        have := ih (k + 1) h.2 i b (by simpa using hb)
        rw [show k + (i + 1) = k + 1 + i from by omega]
        exact this
  exact key B 1000 h
theorem Sat.asB {M : Nat → Nat → Prop} {w0 : Home} {ρ : Nat → Value} {a : Act} {w : World} {B : List Blk} (hs : Sat M n w0 S ρ a w) (hd : w0.d = []) (hb : HasB S B) : Sat M 0 w0 (asB B) ρ vR w ∧ ∀ k c, Mut M (Proofs.YtlfkofkdigmnpaaGreatDoor.asB B) ρ k c → Mut M S ρ k c := by
  have hm : ∀ k c, Mut M (Proofs.YtlfkofkdigmnpaaGreatDoor.asB B) ρ k c → Mut M S ρ k c := by
    rintro k c (hk | ⟨id, b, hb1, hk⟩)
    · exact .inl hk
    · obtain ⟨i, rfl, h1⟩ := wX hb1
      exact .inr ⟨_, b, hb i b h1, hk⟩
  refine ⟨⟨hs.below, hs.out, hs.tab, rfl, hd.symm, fun i => .any _, fun id b hb1 => ?_, fun id b k hb1 hk => ?_, hs.fix, fun k hk => by omega, fun i j bi bj k hi hj h1 h2 => ?_⟩, hm⟩
  · obtain ⟨i, rfl, h1⟩ := wX hb1
    exact (hs.blks _ b (hb i b h1)).mono hm
  · obtain ⟨i, rfl, h1⟩ := wX hb1
    exact hs.mine _ b k (hb i b h1) hk
  · obtain ⟨i', rfl, h3⟩ := wX hi
    obtain ⟨j', rfl, h4⟩ := wX hj
    exact hs.dist _ _ bi bj k (hb i' bi h3) (hb j' bj h4) h1 h2
theorem yS {f : FuncId} {fn : Func} {c : Code} {args : List AV} {B B' : List Blk} {ev : EV} (hf : P.funcs[f]? = some fn) (hb : fn.body = some c) (hn : fn.ntmps = n) (hle : args.length ≤ n) (h1000 : n ≤ 1000)
    (h : zX P n c { t := zipA 0 args, s := numB 1000 B } (EndE P fn ev B')) : FnE P f args B ev B' := by
  intro M hh ρ vs hand hs0 hvl hvs
  refine calls_of_wp hf hb ?_
  have hsat : Sat M n hh { t := zipA 0 args, s := numB 1000 B } ρ { tmps := vs.toArray ++ Array.replicate (fn.ntmps - vs.toArray.size) undef, defers := [] } hh.w := by
    refine ⟨hs0.below, hs0.out, hs0.tab, by simp; omega, hs0.defers, fun i => ?_, hs0.blks, hs0.mine, hs0.fix, fun k hk => hh.lo k (by omega), hs0.dist⟩
    show yN _ _ _ ((look (zipA 0 args) i).getD .any) _
    rw [look_zipA]
    simp only [Nat.zero_le, if_true, Nat.sub_zero]
    cases hx : args[i]? with
    | none => exact .any _
    | some x =>
      have hi : i < vs.length := by rw [hvl]; exact (List.getElem?_eq_some_iff.1 hx).1
      have e : ({ tmps := vs.toArray ++ Array.replicate (fn.ntmps - vs.toArray.size) undef, defers := [] } : Act).tmps.getD i undef = vs[i] := by
        simp [Array.getD_eq_getD_getElem?, Array.getElem?_append, hi]
      rw [e]
      exact hvs i x vs[i] hx (List.getElem?_eq_getElem hi)
  refine h M hh ρ _ hh.w _ hsat ?_
  intro e S0 ρ0 a' w' hend hs1 hx
  cases ev with
  | pan x =>
    obtain ⟨he, rfl, hB⟩ := hend
    cases e with
    | panic c =>
      obtain ⟨v, rfl, hv⟩ := hx
      obtain ⟨h1, h2⟩ := hs1.asB hs0.defers.symm hB
      exact ⟨hs1.defers.trans hs0.defers.symm, ρ0, h1, v, rfl, hv.mono fun k c _ hk => h2 k c hk⟩
    | _ => cases he
  | ret x =>
    obtain ⟨he, S', hsub, hg, hB⟩ := hend
    obtain ⟨ρ', hs'⟩ := hsub M n hh ρ0 a' w' hs1
    obtain ⟨h1, h2⟩ := hs'.asB hs0.defers.symm hB
    have fin : a'.defers = [] ∧ ∃ v, (results fn a'.tmps).run P w' = .ok v w' ∧ (∃ ρ', Sat M 0 hh (asB B') ρ' vR w' ∧ EvOK (Mut M (asB B') ρ') ρ' w' (.ret x) (.returned v)) := by
      refine ⟨hs'.defers.trans hs0.defers.symm, ?_⟩
      cases hg with
      | none hr => exact ⟨_, results_none hr _ _ _, ρ', h1, _, rfl, .any _⟩
      | one hr ht =>
        subst ht
        exact ⟨_, results_tmp hr _ _ _, ρ', h1, _, rfl, (hs'.tmps _).mono fun k c _ hk => h2 k c hk⟩
      | p hr hx =>
        obtain ⟨v, g1, g2⟩ := res_oneM hs' hx
        have g3 := vI (P := P) (w := w') fn a'.tmps (rs := [_]) (vs := [v]) hr (by simp only [List.mapM_cons, List.mapM_nil, Sem.run_bind, Sem.run_pure, g1, Result.andThen_ok])
        exact ⟨v, g3, ρ', h1, _, rfl, .p (g2.mono fun k c _ hk => h2 k c hk)⟩
      | tup hr hl hx =>
        obtain ⟨us, g1, g2, g4, g3⟩ := res_allM hs' hx
        have g5 := vI (P := P) (w := w') fn a'.tmps hr g1
        rw [dif_neg (by simp only [List.size_toArray]; omega)] at g5
        refine ⟨_, g5, ρ', h1, _, rfl, .tup _ us (by simpa using g2) fun i c v hc hv => ?_⟩
        rw [List.getElem?_map, Option.map_eq_some_iff] at hc
        obtain ⟨y, hy, rfl⟩ := hc
        exact .p ((g3 i y v hy hv).mono fun k c _ hk => h2 k c hk)
    cases e with
    | ret => exact fin
    | normal => exact fin
    | exit id => rcases he with h | h <;> cases h
    | goto l => rcases he with h | h <;> cases h
    | panic c => rcases he with h | h <;> cases h
    | outgrown => rcases he with h | h <;> cases h
end
end Go.Proofs.YtlfkofkdigmnpaaGreatDoor
/- A region that draws its order, walked in each order that may be. Generic over the program. -/
namespace Go.Proofs.YtlfkofkdigmnpaaGreatDoor
set_option maxRecDepth 100000
set_option maxHeartbeats 16000000
open Go Go.RowKit
/-- what may come next, these being done -/
def readyD (l : List Oper) (done : List Nat) : List Nat := (List.range l.length).filter fun i => !done.contains i && (match l[i]? with
  | some o => o.after.toList.all fun e => !Region.binds .any e || done.contains e.on
  | none => false)
theorem readyD_iff {l : List Oper} {listed : Array Bool} {done : List Nat} (hs : listed.size = l.length) (h : ∀ i, listed.getD i false = done.contains i) (i : Nat) : i ∈ Region.ready .any l.toArray listed ↔ i ∈ readyD l done := by
  unfold Region.ready readyD
  simp only [List.size_toArray, List.mem_filter, List.mem_range]
  refine ⟨fun ⟨h1, h2⟩ => ⟨h1, ?_⟩, fun ⟨h1, h2⟩ => ⟨h1, ?_⟩⟩
  · have e1 : listed.getD i true = listed.getD i false := by simp [Array.getD_eq_getD_getElem?, hs, h1]
    simp only [List.getElem?_toArray, List.getElem?_eq_getElem h1, Option.map_some, Option.getD_some, Bool.and_eq_true, Bool.not_eq_true', List.all_eq_true] at h2 ⊢
    refine ⟨?_, fun e he => ?_⟩
    · rw [← h i, ← e1]; exact h2.1
    · have := Array.all_eq_true'.1 h2.2 e (by simpa using he)
      rw [← h e.on]
      exact this
  · have e1 : listed.getD i true = listed.getD i false := by simp [Array.getD_eq_getD_getElem?, hs, h1]
    simp only [List.getElem?_toArray, List.getElem?_eq_getElem h1, Option.map_some, Option.getD_some, Bool.and_eq_true, Bool.not_eq_true', List.all_eq_true] at h2 ⊢
    refine ⟨?_, Array.all_eq_true'.2 fun e he => ?_⟩
    · rw [e1, h i]; exact h2.1
    · have := h2.2 e (by simpa using he)
      rw [← h e.on] at this
      exact this
def xX (P : Program) (n : Nat) (l : List Oper) (K : Exit → AS → Prop) : Nat → List Nat → AS → Prop
  | 0, done, S => readyD l done = [] ∧ K .normal S
  | m + 1, done, S => readyD l done ≠ [] ∧ ∀ i ∈ readyD l done, ∃ o, l[i]? = some o ∧ o.guard = none ∧ zM P n o S K fun S1 => xX P n l K m (i :: done) S1
def wB (P : Program) (n : Nat) (l : List Oper) (K : Exit → AS → Prop) (m : Nat) (done : List Nat) (S : AS) (i : Nat) : Prop :=
  ∃ o, l[i]? = some o ∧ o.guard = none ∧ zM P n o S K fun S1 => xX P n l K m (i :: done) S1
def xK (p : Nat → Prop) : List Nat → Prop
  | [] => True
  | i :: r => p i ∧ xK p r
theorem xK.all {p : Nat → Prop} : ∀ {rs : List Nat}, xK p rs → ∀ i ∈ rs, p i
  | [], _, i, hi => by simp at hi
  | j :: r, h, i, hi => by
    rcases List.mem_cons.1 hi with rfl | hi
    · exact h.1
    · exact xK.all h.2 i hi
theorem xK.nil {p : Nat → Prop} : xK p [] := trivial
theorem xK.cons {p : Nat → Prop} {i : Nat} {r : List Nat} (h : p i) (hr : xK p r) : xK p (i :: r) := ⟨h, hr⟩
section
variable {P : Program} {n : Nat} {l : List Oper} {K : Exit → AS → Prop} {fu : Nat} {done : List Nat} {S S1 : AS} {i d : Nat} {o : Oper}
theorem xX.is (h : xX P n l K fu done S) : xX P n l K fu done S := h
theorem xX.fin (hr : readyD l done = []) (h : K .normal S) : xX P n l K 0 done S := ⟨hr, h⟩
theorem xX.many (hr : (readyD l done).isEmpty = false) (h : xK (wB P n l K fu done S) (readyD l done)) : xX P n l K (fu + 1) done S :=
  ⟨(fun e => by rw [e] at hr; cases hr), h.all⟩
theorem wB.is (h : wB P n l K fu done S i) : wB P n l K fu done S i := h
theorem wB.v {bs : List Nat} {av : AV} (ho : l[i]? = some o) (hg : o.guard = none) (hd : o.dst = some d) (h : zG P n o S bs av none) (hr : xX P n l K fu (i :: done) (S.put d av)) : wB P n l K fu done S i :=
  ⟨o, ho, hg, Step.t h.step (by rw [hd]; exact hr)⟩
theorem wB.m {bs : List Nat} {av : AV} {b : Blk} (ho : l[i]? = some o) (hg : o.guard = none) (hd : o.dst = some d) (h : zG P n o S bs av (some b)) (hr : xX P n l K fu (i :: done) ((S.create d b).put d av)) : wB P n l K fu done S i :=
  ⟨o, ho, hg, Step.t h.step (by rw [hd]; exact hr)⟩
theorem wB.w (ho : l[i]? = some o) (hg : o.guard = none) (h : Step P n o S S1) (hr : xX P n l K fu (i :: done) S1) : wB P n l K fu done S i := ⟨o, ho, hg, h.t hr⟩
theorem wB.ofT (ho : l[i]? = some o) (hg : o.guard = none) (h : zM P n o S K fun S1 => xX P n l K fu (i :: done) S1) : wB P n l K fu done S i := ⟨o, ho, hg, h⟩
theorem zX.w9 {id : Nat} (hm : P.follows .mixedOrders = true) (h : xX P n l K l.length [] S) : zX P n (.region id l.toArray true) S K := by
  intro M w0 ρ a w Q hs hK
  have main : ∀ (m : Nat) (listed : Array Bool) (done : List Nat) (S : AS) (ρ : Nat → Value) (a : Act) (w : World), listed.size = l.length → (∀ i, listed.getD i false = done.contains i) → xX P n l K m done S → Sat M n w0 S ρ a w → wpAny P .any l.toArray Q m listed a w := by
    intro m
    induction m with
    | zero =>
      intro listed done S ρ a w hz hl hd hs
      refine ⟨List.eq_nil_iff_forall_not_mem.2 fun i hi => ?_, hK .normal S ρ a w hd.2 hs trivial⟩
      have := (readyD_iff hz hl i).1 hi
      rw [hd.1] at this
      simp at this
    | succ m ih =>
      intro listed done S ρ a w hz hl hd hs
      refine ⟨fun hnil => ?_, fun i hi => ?_⟩
      · obtain ⟨j, hj⟩ := List.exists_mem_of_ne_nil _ hd.1
        have := (readyD_iff hz hl j).2 hj
        rw [hnil] at this
        simp at this
      · obtain ⟨hil, _, _⟩ := yP hi
        obtain ⟨o, ho, hg, ht⟩ := hd.2 i ((readyD_iff hz hl i).1 hi)
        unfold wpOp
        simp only [List.getElem?_toArray, ho]
        rw [if_pos (by simp [Region.wanted, hg])]
        refine .inl (ht M w0 ρ a w _ Q hs (fun S1 ρ' a' w' hd1 hs' => ?_) hK)
        refine ih _ _ S1 ρ' a' w' (by simp [hz]) (fun k => ?_) hd1 hs'
        simp only [Array.getD_eq_getD_getElem?, Array.getElem?_setIfInBounds, List.contains_cons]
        by_cases hik : i = k
        · subst hik
          simp [hz, hil]
        · have : (k == i) = false := by simpa using fun e => hik e.symm
          rw [if_neg hik, this, Bool.false_or, ← hl k, Array.getD_eq_getD_getElem?]
  refine wp_region_any hm ?_
  exact main _ _ [] S ρ a _ (by simp) (fun i => by rw [getD_replicate_false]; rfl) (by simpa using h) (hs.ext ((Below.refl _ _).drew))
end
attribute [irreducible] xX wB
end Go.Proofs.YtlfkofkdigmnpaaGreatDoor
/- An array's literal. Generic over the program. -/
namespace Go.Proofs.YtlfkofkdigmnpaaGreatDoor
set_option maxRecDepth 100000
set_option maxHeartbeats 16000000
open Go Go.RowKit
section
variable {P : Program} {n : Nat} {o : Oper} {S : AS} {d : Nat} {t : TypeId}
theorem run_buildArr {m e sz by_ : Nat} {z ze : Value} [ht : Und P t (.array m e)] [hi : InfoA P e ze sz by_] [hz : ZeroA P t z] (parts : List (Nat × Value)) (w : World) (cells : Array Value) (h : Instr.fill (fun i => some (i * sz, sz)) z.cells.toList.toArray parts = some cells) :
    (Instr.build t parts.toArray).run P w = .ok (.agg cells) w := by
  have hs : (sizeOf e).run P w = .ok sz w := by
    have h1 := hi.h
    cases h2 : P.info? e with
    | none => rw [h2] at h1; cases h1
    | some i =>
      rw [h2] at h1
      simp only [Option.map_some, Option.some.injEq, Prod.mk.injEq] at h1
      simp [sizeOf, typeInfo, h2, h1.2.1]
  unfold Instr.build
  simp only [Sem.run_bind, hz.h, Result.andThen_ok, run_underlying ht.h, hs]
  rw [Array.toArray_toList] at h
  rw [h]
  rfl
theorem w_buildArr {ps : Array (Nat × Operand)} {m e sz by_ : Nat} {z ze : Value} {zs : List AV} {cs : List PV} [ht : Und P t (.array m e)] [hi : InfoA P e ze sz by_] [hz : ZeroA P t z] (ho : o.op = .build t ps) (h1 : z.cells.toList.all (fun u => u.oneCell') = true)
    (hk : ps.toList.all (fun p => (S.get p.2).vP) = true)
    (hf : fillA (fun i => some (i * sz, sz)) (z.cells.toList.map fun u => .p (.val u)) (ps.toList.map fun p => (p.1, S.get p.2)) = some zs) (hp : pures zs = some cs) (hd : o.dst = some d) (hn : d < n) : zG P n o S [] (.p (.agg cs)) none :=
  zG.pure hd hn fun S2 hg _ M w0 ρ a w hs => by
    have hzs := vG hp
    have hargs : ∀ p ∈ ps.toList, S2.get p.2 = S.get p.2 := fun p hp => hg p.2 (by rw [ho]; simp only [Op.operands, List.mem_map]; exact ⟨p, hp, rfl⟩)
    obtain ⟨us, h3, h2⟩ := fill_rep (fun i => some (i * sz, sz)) S.get a.eval ps.toList _ zs z.cells.toList (parts_ok hs hargs hk) hf (zerosA fun u hu => List.all_eq_true.1 h1 u hu)
    refine ⟨.agg us.toArray, w, ?_, Below.refl _ _, .p (.agg _ _ (by rw [h2.len, hzs]; simp) (fun i c v h3 h4 => rep_p (h2.each i (.p c) v (by rw [hzs, List.getElem?_map, h3]; rfl) h4)) h2.one)⟩
    unfold execOp
    rw [ho]
    have e1 := run_buildArr (P := P) (t := t) (ps.toList.map fun p => (p.1, a.eval p.2)) w us.toArray h3
    have e2 : (ps.toList.map fun p => (p.1, a.eval p.2)).toArray = ps.map fun p => (p.1, a.eval p.2) := by apply Array.ext'; simp
    rw [e2] at e1
    simp [e1]
end
end Go.Proofs.YtlfkofkdigmnpaaGreatDoor
/- Own rows of pure elements; rows that are frozen wherever they are spoken of; calls of function values. Generic over the program. -/
namespace Go.Proofs.YtlfkofkdigmnpaaGreatDoor
set_option maxRecDepth 100000
set_option maxHeartbeats 16000000
open Go Go.RowKit
/-! ### Rows of pure elements -/
def rowV (e sz : Nat) (es : List PV) : Blk := .prow e sz es.length (flat es)
theorem rowV_alike (e sz : Nat) (es : List PV) : Alike (.row e sz es.length ((flat es).map AV.p)) (rowV e sz es) := .rp _ _ _ _
theorem rowV_alike' (e sz : Nat) (es : List PV) : Alike (rowV e sz es) (.row e sz es.length ((flat es).map AV.p)) := .pr _ _ _ _
theorem flat_append (xs ys : List PV) : flat (xs ++ ys) = flat xs ++ flat ys := by simp [flat]
section
variable {P : Program} {n : Nat} {o : Oper} {S : AS} {d : Nat} {t : TypeId} {x y : Operand}
theorem w_appV {id e sz by_ : Nat} {z : Value} {cs bs : List PV} [ht : Und P t (.slice e)] [hi : InfoA P e z sz by_] (ho : o.op = .call { callee := .builtin .append, args := #[x, y], argTypes := #[t, t] }) (hx : S.get x = .own id) (hb : S.blk id = some (rowV e sz cs))
    (hy : S.get y = .p (.sl bs)) (hes : ∀ e ∈ bs, e.cells.length = sz) (hlim : (cs.length + bs.length) * by_ ≤ 140737488355328 ∧ cs.length + bs.length ≤ maxLen) (hzs : z.cells.size = sz) (hsz : 0 < sz) (hd : o.dst = some d) (hn : d < n) :
    Step P n o S ((S.create id (rowV e sz (cs ++ bs))).put d (.own id)) := by
  have h := w_appendP (P := P) (S := S.tag id (.row e sz cs.length ((flat cs).map AV.p))) (o := o) (d := d) ho (by rw [AS.wF]; exact hx) (by rw [AS.xD, if_pos rfl]) (by rw [AS.wF]; exact hy) hes hlim hzs hsz hd hn
  have e1 : Blk.row e sz (cs.length + bs.length) ((flat cs).map AV.p ++ (flat bs).map AV.p) = .row e sz (cs ++ bs).length ((flat (cs ++ bs)).map AV.p) := by
    rw [flat_append, List.map_append, List.length_append]
  rw [e1] at h
  exact h.same (wT hb (rowV_alike' e sz cs)) (((wU hb (rowV_alike e sz cs)).create id (rowV_alike e sz (cs ++ bs))).put d _)
theorem w_indexV {ix : Operand} {id e ty sz : Nat} {j : Int} {k : IntKind} {es : List PV} {agg : Bool} [ht : Und P t (.slice e)] [he : TyA P e agg sz] (ho : o.op = .indexAddr t x ix) (hx : S.get x = .own id) (hb : S.blk id = some (rowV ty sz es)) (hi : S.get ix = .p (.val (.int k j)))
    (hj : 0 ≤ j ∧ j < es.length) (hd : o.dst = some d) (hn : d < n) : zG P n o S [id] (.ptr id (j.toNat * sz)) none :=
  zG.tag hb (rowV_alike' ty sz es) (rowV_alike ty sz es) (by simp) (w_indexO (S := S.tag id (.row ty sz es.length ((flat es).map AV.p))) ho (by rw [AS.wF]; exact hx) (by rw [AS.xD, if_pos rfl]) (by rw [AS.wF]; exact hi) hj hd hn)
theorem flat_set {sz : Nat} : ∀ {es : List PV} {i : Nat} {v : PV}, (∀ e ∈ es, e.cells.length = sz) → v.cells.length = sz → i < es.length → splice (flat es) (i * sz) v.cells = flat (es.set i v)
  | [], i, v, _, _, h => by simp at h
  | e :: es, 0, v, he, hv, _ => by
    have h1 := he e (by simp)
    have : flat (e :: es) = e.cells ++ flat es := by simp [flat]
    rw [Nat.zero_mul, this, List.set_cons_zero]
    have h2 : flat (v :: es) = v.cells ++ flat es := by simp [flat]
    rw [h2]
    apply List.ext_getElem?
    intro j
    rw [xY (by simp; omega)]
    by_cases hj : j < v.cells.length
    · rw [if_neg (by omega), if_pos (by omega), List.getElem?_append_left hj, Nat.sub_zero]
    · rw [if_neg (by omega), if_neg (by omega), List.getElem?_append_right (by omega), List.getElem?_append_right (by omega), h1, hv]
  | e :: es, i + 1, v, he, hv, hi => by
    have h1 := he e (by simp)
    have ih := flat_set (es := es) (i := i) (v := v) (fun e h => he e (by simp [h])) hv (by simpa using hi)
    have h3 : flat (e :: es) = e.cells ++ flat es := by simp [flat]
    have h4 : flat ((e :: es).set (i + 1) v) = e.cells ++ flat (es.set i v) := by simp [flat]
    have hfl := flat_len (es := es) (sz := sz) (fun e h => he e (by simp [h]))
    have hi' : i < es.length := by simpa using hi
    have hle : i * sz + sz ≤ (flat es).length := by
      rw [hfl]
      have : (i + 1) * sz ≤ es.length * sz := Nat.mul_le_mul_right _ hi'
      rw [Nat.add_mul] at this
      omega
    rw [h3, h4, ← ih]
    apply List.ext_getElem?
    intro j
    have e1 : (i + 1) * sz = sz + i * sz := by rw [Nat.add_mul]; omega
    rw [xY (by rw [List.length_append, h1, hv, e1]; omega), e1]
    by_cases hj : j < e.cells.length
    · rw [if_pos (show j < sz + i * sz by omega), List.getElem?_append_left hj, List.getElem?_append_left hj]
    · rw [List.getElem?_append_right (by omega), List.getElem?_append_right (by omega), xY (by rw [hv]; omega), h1, hv]
      by_cases h5 : j < sz + i * sz
      · rw [if_pos h5, if_pos (show j - sz < i * sz by omega)]
      · rw [if_neg h5, if_neg (show ¬ j - sz < i * sz by omega)]
        by_cases h6 : j < sz + i * sz + sz
        · rw [if_pos h6, if_pos (show j - sz < i * sz + sz by omega)]
          congr 1
          omega
        · rw [if_neg h6, if_neg (show ¬ j - sz < i * sz + sz by omega)]
theorem splice_map {α β : Type} (f : α → β) (l : List α) (o : Nat) (v : List α) : splice (l.map f) o (v.map f) = (splice l o v).map f := by simp [splice, List.map_take, List.map_drop]
theorem w_storeV {id off i e sz : Nat} {es : List PV} {v : PV} {agg : Bool} [h : TyA P t agg sz] (ho : o.op = .store t x y) (hx : S.get x = .ptr id off) (hb : S.blk id = some (rowV e sz es)) (hy : S.get y = .p v) (hk : (AV.p v).vP = true) (hes : ∀ e ∈ es, e.cells.length = sz) (hv : v.cells.length = sz) (hoff : off = i * sz) (hi : i < es.length) (hd : o.dst = none) :
    Step P n o S (S.tag id (rowV e sz (es.set i v))) := by
  subst hoff
  have hfl := flat_len hes
  have hle : i * sz + sz ≤ (flat es).length := by
    rw [hfl]
    have : (i + 1) * sz ≤ es.length * sz := Nat.mul_le_mul_right _ hi
    rw [Nat.add_mul] at this
    omega
  have h1 := zB (P := P) (n := n) (S := S.tag id (.row e sz es.length ((flat es).map AV.p))) (o := o) (agg := agg) (m := sz) ho (by rw [AS.wF]; exact hx) (by rw [AS.xD, if_pos rfl]) (by rw [AS.wF, hy]) hk (by show (v.cells.map AV.p).length = sz; rw [List.length_map, hv]) (by show i * sz + sz ≤ ((flat es).map AV.p).length; rw [List.length_map]; exact hle) rfl hd
  have e1 : (Blk.row e sz es.length ((flat es).map AV.p)).setXs (splice (Blk.row e sz es.length ((flat es).map AV.p)).xs (i * sz) (AV.p v).xJ) = .row e sz (es.set i v).length ((flat (es.set i v)).map AV.p) := by
    show Blk.row e sz es.length (splice ((flat es).map AV.p) (i * sz) (v.cells.map AV.p)) = _
    rw [splice_map, flat_set hes hv hi, List.length_set]
  rw [e1] at h1
  refine h1.same (wT hb (rowV_alike' e sz es)) ⟨fun _ => rfl, fun j => ?_⟩
  show (if id = j then some _ else if id = j then some _ else S.blk j) = none ∧ (if id = j then some _ else S.blk j) = none ∨ ∃ b b', (if id = j then some _ else if id = j then some _ else S.blk j) = some b ∧ (if id = j then some _ else S.blk j) = some b' ∧ Alike b b'
  by_cases hj : id = j
  · subst hj
    rw [if_pos rfl, if_pos rfl]
    exact .inr ⟨_, _, rfl, rfl, rowV_alike e sz (es.set i v)⟩
  · rw [if_neg hj, if_neg hj, if_neg hj]
    cases S.blk j with
    | none => exact .inl ⟨rfl, rfl⟩
    | some b => exact .inr ⟨b, b, rfl, rfl, .refl b⟩
theorem flat_at {sz : Nat} {es : List PV} (hes : ∀ e ∈ es, e.cells.length = sz) {i : Nat} {c : PV} (hc : es[i]? = some c) : ((flat es).drop (i * sz)).take sz = c.cells := flat_get hes hc
theorem w_loadVN {id off i e sz : Nat} {es cs : List PV} [h : TyA P t true sz] (ho : o.op = .load t x) (hx : S.get x = .ptr id off) (hb : S.blk id = some (rowV e sz es)) (hes : ∀ e ∈ es, e.cells.length = sz) (hoff : off = i * sz) (hc : es[i]? = some (.agg cs)) (hd : o.dst = some d) (hn : d < n) : zG P n o S [id] (.p (.agg cs)) none := by
  subst hoff
  refine a_loadRN (b := rowV e sz es) ho hx hb ?_ (hes _ (List.mem_of_getElem? hc)) h.ag h.sz hd hn
  show (((flat es).map AV.p).drop (i * sz)).take sz = cs.map AV.p
  rw [← List.map_drop, ← List.map_take, flat_at hes hc]
  rfl
theorem flat_rep {zp : PV} {sz : Nat} (hz : zp.cells.length = sz) (hsz : 0 < sz) : ∀ {m j : Nat}, j < m * sz → (flat (List.replicate m zp))[j]? = zp.cells[j % sz]?
  | 0, j, h => by omega
  | m + 1, j, h => by
    have e : flat (List.replicate (m + 1) zp) = zp.cells ++ flat (List.replicate m zp) := by simp [flat, List.replicate_succ]
    rw [e]
    by_cases hj : j < sz
    · rw [List.getElem?_append_left (by omega), Nat.mod_eq_of_lt hj]
    · rw [Nat.add_mul] at h
      rw [List.getElem?_append_right (by omega), hz, flat_rep hz hsz (by omega), Nat.mod_eq_sub_mod (show sz ≤ j by omega)]
theorem w_makeV {e sz by_ m : Nat} {k : IntKind} {z : Value} {xl xc : Operand} [ht : Und P t (.slice e)] [hi : InfoA P e z sz by_] (ho : o.op = .makeSlice t xl xc) (hl : S.get xl = .p (.val (.int k (m : Int)))) (hc : S.get xc = .p (.val (.int k (m : Int)))) (hlim : m * sz ≤ 16777216 ∧ by_ * m ≤ 281474976710656 ∧ m ≤ maxLen)
    (hzs : z.cells.size = sz) (hsz : 0 < sz) {zp : PV} (hzp : zp.cells = z.cells.toList.map PV.val) (h1 : z.cells.toList.all (fun u => u.oneCell') = true) (hd : o.dst = some d) (hn : d < n) : zG P n o S [] (.own d) (some (rowV e sz (List.replicate m zp))) :=
  zG.made hd hn fun S2 hg _ M w0 ρ a w hs => by
    have r1 := hs.val ((hg xl (by rw [ho]; simp [Op.operands])).trans hl)
    have r2 := hs.val ((hg xc (by rw [ho]; simp [Op.operands])).trans hc)
    obtain ⟨i, hi1, hi2⟩ := Option.map_eq_some_iff.1 hi.h
    simp only [Prod.mk.injEq] at hi2
    obtain ⟨hz, hisz, hiby⟩ := hi2
    obtain ⟨w', hr, hown, hgr⟩ := run_makeSlice_full (P := P) w 0 t e i z sz ht.h hi1 hz hisz k k m hlim.1 (by rw [hiby]; exact hlim.2.1) hlim.2.2 (Nat.zero_le _)
    refine ⟨.slice (some ⟨w.heap.size, 0, none⟩) m m, w', ?_, hgr, fun k hk => ?_, ?_, .inl rfl⟩
    · unfold execOp
      rw [ho]
      simp only [r1, r2, Sem.run_bind, hr]
      rfl
    · simp only [yK, Option.some.injEq] at hk; omega
    · have hlen : (madeCells z.cells (m * sz)).toList.length = m * sz := by rw [Array.length_toList, size_madeCells]
      have hzl : z.cells.toList.length = sz := by rw [Array.length_toList]; exact hzs
      have hat : ∀ j, j < m * sz → (madeCells z.cells (m * sz)).toList[j]? = z.cells.toList[j % sz]? := fun j hj => by
        have hjs : j % sz < z.cells.size := by rw [hzs]; exact Nat.mod_lt _ hsz
        simp only [madeCells, Array.toList_map, Array.toList_range, List.getElem?_map, List.getElem?_range hj, Option.map_some, Array.getElem?_toList, hzs]
        rw [getElem!_pos z.cells _ hjs, Array.getElem?_eq_getElem hjs]
      have hfl : flat (List.replicate m zp) = (madeCells z.cells (m * sz)).toList.map PV.val := by
        apply List.ext_getElem?
        intro j
        by_cases hj : j < m * sz
        · rw [flat_rep (sz := sz) (by rw [hzp, List.length_map, hzl]) hsz hj, hzp, List.getElem?_map, List.getElem?_map, hat j hj]
        · rw [List.getElem?_eq_none (l := (madeCells z.cells (m * sz)).toList.map PV.val) (by rw [List.length_map, hlen]; omega), List.getElem?_eq_none]
          rw [flat_len (sz := sz) (fun e he => by rw [List.eq_of_mem_replicate he, hzp, List.length_map, hzl]), List.length_replicate]
          omega
      refine ⟨_, by rw [List.length_replicate]; exact hown, ⟨by rw [hfl, List.length_map, List.length_map], fun j c v h2 h3 => ?_, fun v hv => ?_⟩⟩
      · rw [hfl, List.map_map, List.getElem?_map, h3] at h2
        cases h2
        exact .p (.val _)
      · obtain ⟨j, hj⟩ := List.getElem?_of_mem hv
        have hjl : j < m * sz := by
          have := (List.getElem?_eq_some_iff.1 hj).1
          rw [hlen] at this
          exact this
        rw [hat j hjl] at hj
        exact List.all_eq_true.1 h1 v (List.mem_of_getElem? hj)
end
end Go.Proofs.YtlfkofkdigmnpaaGreatDoor
/- Rows that are frozen wherever they are spoken of; rows that are lent and grow; calls of function values; arrays. Generic over the program. -/
namespace Go.Proofs.YtlfkofkdigmnpaaGreatDoor
set_option maxRecDepth 100000
set_option maxHeartbeats 16000000
open Go Go.RowKit
/-! ### Frozen wherever it is spoken of -/
def AV.frz (id : Nat) (x : PV) : AV → AV
  | .own j => if j = id then .p x else .own j
  | y => y.kill id
def Blk.frz (id : Nat) (x : PV) : Blk → Blk
  | .row t s n xs => .row t s n (xs.map (AV.frz id x))
  | .prow t s n xs => .prow t s n xs
  | .box t xs => .box t (xs.map (AV.frz id x))
  | .lent t s n xs => .lent t s n xs
def AS.frz (S : AS) (id : Nat) (x : PV) : AS := { t := S.t.map fun p => (p.1, p.2.frz id x), s := (dropL S.s id).map fun p => (p.1, p.2.frz id x) }
theorem AS.tmp_frz (S : AS) (id : Nat) (x : PV) (i : Nat) : (S.frz id x).tmp i = (S.tmp i).frz id x := by
  simp only [AS.tmp, AS.frz, look_map]
  cases look S.t i <;> rfl
theorem AS.blk_frz (S : AS) (id : Nat) (x : PV) (j : Nat) : (S.frz id x).blk j = if id = j then none else (S.blk j).map (Blk.frz id x) := by
  simp only [AS.blk, AS.frz, look_map, look_dropL]
  by_cases hj : id = j
  · rw [if_pos hj, if_pos hj]; rfl
  · rw [if_neg hj, if_neg hj]
theorem Blk.turns_frz (b : Blk) (id : Nat) (x : PV) (c : Nat) : (b.frz id x).turns c ↔ b.turns c := by cases b <;> exact Iff.rfl
theorem yN.frz {M : Nat → Nat → Prop} {ρ : Nat → Value} {w : World} {y : AV} {v : Value} {id : Nat} {x : PV} (h : yN M ρ w y v) (hx : Rep M w x (ρ id)) : yN M ρ w (y.frz id x) v := by
  have hk := h.killed id (ρ id)
  rw [upd_self] at hk
  cases y with
  | own j =>
    show yN M ρ w (if j = id then .p x else .own j) v
    by_cases hj : j = id
    · subst hj
      rw [if_pos rfl, vN h]
      exact .p hx
    · rw [if_neg hj]
      exact h
  | _ => exact hk
theorem yM.frz {M : Nat → Nat → Prop} {ρ : Nat → Value} {w : World} {xs : List AV} {ys : List Value} {id : Nat} {x : PV} (h : yM M ρ w xs ys) (hx : Rep M w x (ρ id)) : yM M ρ w (xs.map (AV.frz id x)) ys :=
  ⟨by simp [h.len], fun i c v hc hv => by
    rw [List.getElem?_map, Option.map_eq_some_iff] at hc
    obtain ⟨c', hc', rfl⟩ := hc
    exact (h.each i c' v hc' hv).frz hx, h.one⟩
section
variable {M : Nat → Nat → Prop} {n : Nat} {w0 : Home} {w w' : World} {S : AS} {ρ : Nat → Value} {a : Act}
theorem Mut.frz {id k c : Nat} {x : PV} (h : Mut M (S.frz id x) ρ k c) : Mut M (S.drop id) ρ k c := by
  rcases h with h | ⟨j, b, hb, hk, ht⟩
  · exact .inl h
  · rw [AS.blk_frz] at hb
    split at hb
    · cases hb
    · rename_i hne
      obtain ⟨b1, h1, rfl⟩ := Option.map_eq_some_iff.1 hb
      exact .inr ⟨j, b1.kill id, by rw [AS.vK, if_neg hne, h1]; rfl, hk, (Blk.turns_kill b1 id c).2 ((Blk.turns_frz b1 id x c).1 ht)⟩
theorem Sat.frz_of (h : Sat M n w0 S ρ a w) {id : Nat} {x : PV} (hx : Rep (Mut M (S.drop id) ρ) w x (ρ id)) : Sat M n w0 (S.frz id x) ρ a w := by
  have hx' : Rep (Mut M (S.frz id x) ρ) w x (ρ id) := hx.mono fun _ _ _ hk => Mut.frz hk
  have hm : ∀ k c, k < w.heap.size → Mut M (S.frz id x) ρ k c → Mut M S ρ k c := fun k c _ hk => Mut.drop (Mut.frz hk)
  refine ⟨h.below, h.out, h.tab, h.size, h.defers, fun i => ?_, fun j b hb => ?_, fun j b k hb hk => ?_, h.fix, h.free, fun i j bi bj k hi hj => ?_⟩
  · rw [AS.tmp_frz]
    exact ((h.tmps i).mono hm).frz hx'
  · rw [AS.blk_frz] at hb
    split at hb
    · cases hb
    · obtain ⟨b1, h1, rfl⟩ := Option.map_eq_some_iff.1 hb
      have := h.blks j b1 h1
      cases b1 with
      | row t size m xs =>
        obtain ⟨ys, ho, hc⟩ := this
        exact ⟨ys, ho, (hc.mono hm).frz hx'⟩
      | prow t size m xs =>
        obtain ⟨ys, ho, hc⟩ := this
        exact ⟨ys, ho, hc.mono hm⟩
      | lent t size m xs =>
        obtain ⟨ys, ho, hc⟩ := this
        exact ⟨ys, ho, hc.mono hm⟩
      | box t xs =>
        obtain ⟨g, ys, hv, hg, hh, hc⟩ := this
        exact ⟨g, ys, hv, hg, hh, (hc.mono hm).frz hx'⟩
  · rw [AS.blk_frz] at hb
    split at hb
    · cases hb
    · obtain ⟨b1, h1, _⟩ := Option.map_eq_some_iff.1 hb
      exact h.mine j b1 k h1 hk
  · rw [AS.blk_frz] at hi hj
    split at hi
    · cases hi
    · split at hj
      · cases hj
      · obtain ⟨b1, h1, _⟩ := Option.map_eq_some_iff.1 hi
        obtain ⟨b2, h2, _⟩ := Option.map_eq_some_iff.1 hj
        exact h.dist i j b1 b2 k h1 h2
end
theorem sub_frz {S : AS} {id e sz : Nat} {es : List PV} (hb : S.blk id = some (rowV e sz es)) : Sub S (S.frz id (.sl es)) :=
  fun M n w0 ρ a w hs => by
    refine ⟨ρ, hs.frz_of ?_⟩
    have h1 := ((wT hb (rowV_alike' e sz es)).sat hs).frozen (id := id) (es := es) (by rw [AS.xD, if_pos rfl]) rfl
    refine h1.mono fun k c _ hk => ?_
    rcases hk with hk | ⟨j, b, hj, hk, ht⟩
    · exact .inl hk
    · rw [AS.vK] at hj
      split at hj
      · cases hj
      · rename_i hne
        refine .inr ⟨j, b, ?_, hk, ht⟩
        rw [AS.vK, if_neg hne, AS.xD, if_neg hne]
        exact hj
/-! ### Rows that are lent -/
def lentV (e sz : Nat) (es : List PV) : Blk := .lent e sz es.length (flat es)
theorem sub_lend {S : AS} {id e sz : Nat} {es : List PV} (hb : S.blk id = some (rowV e sz es)) : Sub S (S.tag id (lentV e sz es)) :=
  fun M n w0 ρ a w h => by
    have hm : ∀ k c, k < w.heap.size → Mut M (S.tag id (lentV e sz es)) ρ k c → Mut M S ρ k c := fun k c _ hk => by
      rcases hk with hk | ⟨j, b, hj, hk, ht⟩
      · exact .inl hk
      · rw [AS.xD] at hj
        split at hj
        · rename_i he
          subst he
          exact .inr ⟨id, _, hb, hk, trivial⟩
        · exact .inr ⟨j, b, hj, hk, ht⟩
    have some_of : ∀ j b, (S.tag id (lentV e sz es)).blk j = some b → ∃ b1, S.blk j = some b1 := fun j b hj => by
      rw [AS.xD] at hj
      split at hj
      · rename_i he; subst he; exact ⟨_, hb⟩
      · exact ⟨b, hj⟩
    refine ⟨ρ, h.below, h.out, h.tab, h.size, h.defers, fun i => (h.tmps i).mono hm, fun j b hj => ?_, fun j b k hj hk => ?_, h.fix, h.free, fun i j bi bj k hi hj => ?_⟩
    · rw [AS.xD] at hj
      split at hj
      · rename_i he
        subst he
        obtain rfl := Option.some.inj hj
        obtain ⟨ys, ho, hc⟩ := h.blks id _ hb
        exact ⟨ys, ho, hc.mono hm⟩
      · have := h.blks j b hj
        cases b with
        | row t size m xs => obtain ⟨ys, ho, hc⟩ := this; exact ⟨ys, ho, hc.mono hm⟩
        | prow t size m xs => obtain ⟨ys, ho, hc⟩ := this; exact ⟨ys, ho, hc.mono hm⟩
        | lent t size m xs => obtain ⟨ys, ho, hc⟩ := this; exact ⟨ys, ho, hc.mono hm⟩
        | box t xs => obtain ⟨g, ys, hv, hg, hh, hc⟩ := this; exact ⟨g, ys, hv, hg, hh, hc.mono hm⟩
    · obtain ⟨b1, h1⟩ := some_of j b hj
      exact h.mine j b1 k h1 hk
    · obtain ⟨b1, h1⟩ := some_of i bi hi
      obtain ⟨b2, h2⟩ := some_of j bj hj
      exact h.dist i j b1 b2 k h1 h2
/-- what is lent reads as a slice that nobody turns -/
theorem Sat.lentRep {M : Nat → Nat → Prop} {n : Nat} {w0 : Home} {w : World} {S : AS} {ρ : Nat → Value} {a : Act} (h : Sat M n w0 S ρ a w) {id e sz : Nat} {es : List PV} (hb : S.blk id = some (lentV e sz es)) : Rep (Mut M S ρ) w (.sl es) (ρ id) := by
  obtain ⟨ys, ho, hc⟩ := h.blks id _ hb
  have hyl : ys.length = es.length * sz := ho.1
  rcases ho.2 with ⟨hv, hm0⟩ | ⟨g, cap, cur, hv, hg, hh, hn, hcm, hs, ht⟩
  · rw [hv]
    have : es = [] := List.eq_nil_of_length_eq_zero hm0
    subst this
    exact .nil
  · rw [hv]
    have hgm : yK (ρ id) = some g := by rw [hv]; rfl
    refine .sl es g 0 es.length cap ys rfl (by simpa using hc.len) (fun j y hy => ?_) (fun j c y hcj hy => ?_) hc.one ?_ (Array.getElem?_eq_some_iff.1 hh).1 hn hcm
    · rw [Nat.zero_add, cell_of_row w g j cur e (0, 0) hh]
      rw [← ht, List.getElem?_take] at hy
      split at hy
      · simpa using hy
      · cases hy
    · exact rep_p (hc.each j (.p c) y (by rw [List.getElem?_map, hcj]; rfl) hy)
    · rintro i hi (hk | ⟨j, b, hbj, hkj, htj⟩)
      · exact h.out g _ hk (h.mine id _ g hb hgm)
      · have := h.dist id j _ b g hb hbj hgm hkj
        subst this
        rw [hb] at hbj
        obtain rfl := Option.some.inj hbj
        have : es.length * sz ≤ 0 + i := htj
        omega
theorem sub_view {S : AS} {d id e sz : Nat} {es : List PV} (hd : S.tmp d = .own id) (hb : S.blk id = some (lentV e sz es)) : Sub S (S.put d (.p (.sl es))) :=
  fun M n w0 ρ a w hs => by
    refine ⟨ρ, hs.retype (.p ?_)⟩
    have h1 := hs.tmps d
    rw [hd] at h1
    rw [vN h1]
    exact hs.lentRep hb
end Go.Proofs.YtlfkofkdigmnpaaGreatDoor
/- A lent row grows; calls of function values; arrays in variables; slices that are compared with nil. Generic over the program. -/
namespace Go.Proofs.YtlfkofkdigmnpaaGreatDoor
set_option maxRecDepth 100000
set_option maxHeartbeats 16000000
open Go Go.RowKit
section
variable {P : Program} {n : Nat} {o : Oper} {S : AS} {d : Nat} {t : TypeId} {x y : Operand}
theorem s_appL {id e sz by_ : Nat} {z : Value} {cs bs : List PV} [ht : Und P t (.slice e)] [hi : InfoA P e z sz by_] (ho : o.op = .call { callee := .builtin .append, args := #[x, y], argTypes := #[t, t] }) (hx : S.get x = .own id) (hb : S.blk id = some (lentV e sz cs))
    (hy : S.get y = .p (.sl bs)) (hes : ∀ e ∈ bs, e.cells.length = sz) (hlim : (cs.length + bs.length) * by_ ≤ 140737488355328 ∧ cs.length + bs.length ≤ maxLen) (hzs : z.cells.size = sz) (hsz : 0 < sz) (hd : o.dst = some d) (hn : d < n) :
    Step P n o S ((S.create id (lentV e sz (cs ++ bs))).put d (.own id)) := by
  intro M w0 ρ a w K Q hs hK
  obtain ⟨i, hi1, hi2⟩ := Option.map_eq_some_iff.1 hi.h
  simp only [Prod.mk.injEq] at hi2
  obtain ⟨hz, hisz, hiby⟩ := hi2
  have h1 := hs.rep x
  rw [hx] at h1
  have hv := vN h1
  obtain ⟨ys, hown, hys⟩ := hs.blks id _ hb
  have hown : w.ownsRow 0 e sz (ρ id) cs.length ys := hown
  obtain ⟨us, hus, hnews⟩ := news_p (ρ := ρ) (yT hs hy) hes
  have e1 : yK (ρ id) = (ρ id).ownBlock := own_slice hown
  have hfree : w0.r id = none := row_free hs hown
  have main : ∀ v' w' row, (Builtin.append_ #[t, t] o.type #[ρ id, a.eval y]).run P w = .ok v' w' → w.grownBy w' row → w'.ownsRow 0 e sz v' (cs.length + bs.length) (ys ++ us) → (row = none ∨ row = (ρ id).ownBlock) →
      (∀ k, yK v' = some k → w.heap.size ≤ k ∨ row = some k) → (∀ k c, row = some k → c < cs.length * sz → w'.cell? ⟨k, c, none⟩ = w.cell? ⟨k, c, none⟩) → o.wp P a w K Q := by
    intro v' w' row hr hg hown' hrow hv' hcell
    have hall : yM (Mut M S ρ) ρ w ((flat (cs ++ bs)).map AV.p) (ys ++ us) := by
      rw [flat_append, List.map_append]
      exact ⟨by simp [hys.len, hus.len], fun i c v h1 h2 => by
        by_cases hi : i < ((flat cs).map AV.p).length
        · rw [List.getElem?_append_left hi] at h1
          rw [List.getElem?_append_left (by rw [hys.len]; exact hi)] at h2
          exact hys.each i c v h1 h2
        · rw [List.getElem?_append_right (by omega)] at h1
          rw [List.getElem?_append_right (by rw [hys.len]; omega), hys.len] at h2
          exact hus.each _ c v h1 h2, fun v hv => by
        rcases List.mem_append.1 hv with hv | hv
        · exact hys.one v hv
        · exact hus.one v hv⟩
    have hks : Keeps (fun k c => Mut M S ρ k c ∨ (yK v' = some k ∧ (lentV e sz (cs ++ bs)).turns c)) w w' := ⟨hg.size, fun k c hk hnm => by
      by_cases hrk : row = some k
      · refine hcell k c hrk (Nat.lt_of_not_le fun hle => hnm (.inl (.inr ⟨id, _, hb, ?_, hle⟩)))
        rcases hrow with h | h
        · rw [h] at hrk; cases hrk
        · rw [e1, ← h]; exact hrk
      · exact World.cell?_of_block (w := w) (hg.block k hk fun e => hrk e.symm)⟩
    have hmut : ∀ k c, k < w.heap.size → (Mut M S ρ k c ∨ (yK v' = some k ∧ (lentV e sz (cs ++ bs)).turns c)) → Mut M S ρ k c := fun k c hk h => by
      rcases h with h | ⟨h, ht⟩
      · exact h
      · rcases hv' k h with h2 | h2
        · omega
        · rcases hrow with h3 | h3
          · rw [h3] at h2; cases h2
          · refine .inr ⟨id, _, hb, by rw [e1, ← h3]; exact h2, ?_⟩
            have h4 : (cs ++ bs).length * sz ≤ c := ht
            have h5 : cs.length * sz ≤ (cs ++ bs).length * sz := Nat.mul_le_mul_right _ (by rw [List.length_append]; omega)
            exact Nat.le_trans h5 h4
    have hs' := hs.change id (lentV e sz (cs ++ bs)) v' row hfree hg (fun k hk => ?_) hv' ⟨ys ++ us, by rw [List.length_append]; exact hown', (hall.mono hmut).keep hks⟩
    · unfold Oper.wp execOp
      simp only [ho, resolve, invoke, builtin, Sem.run_bind, Sem.run_pure, Result.andThen_ok, List.map_toArray, List.map_cons, List.map_nil, hv, hr]
      show K (a.put o.dst v') w'
      rw [hd]
      refine hK _ _ w' (hs'.put hn ?_)
      have := yN.own (M := Mut M (S.create id (lentV e sz (cs ++ bs))) (upd ρ id v')) (ρ := upd ρ id v') (w := w') id
      simpa [upd] using this
    · refine ⟨_, hb, ?_, fun c ht => ?_, fun c hnt => hcell k c hk (Nat.lt_of_not_le hnt)⟩
      · rcases hrow with h | h
        · rw [h] at hk; cases hk
        · rw [e1, ← h]; exact hk
      · have h4 : (cs ++ bs).length * sz ≤ c := ht
        have h5 : cs.length * sz ≤ (cs ++ bs).length * sz := Nat.mul_le_mul_right _ (by rw [List.length_append]; omega)
        exact Nat.le_trans h5 h4
  rcases hnews with ⟨hyv, hk0, hu0⟩ | ⟨ad, c, hyv, hul, hcell⟩
  · have hb0 : bs = [] := List.eq_nil_of_length_eq_zero hk0
    subst hu0
    subst hb0
    exact main (ρ id) w (ρ id).ownBlock (by rw [hyv]; exact run_append_owned_none (P := P) w 0 t o.type e i sz ht.h hi1 (ρ id) cs.length ys hown) ⟨rfl, rfl, rfl, Nat.le_refl _, fun _ _ _ => rfl⟩ (by simpa using hown) (.inr rfl) (fun k hk => .inr (by rw [← e1]; exact hk)) (fun _ _ _ _ => rfl)
  · obtain ⟨v', w', hr, hown', hg, _, hob⟩ := run_append_own_at (P := P) w 0 t o.type e i z sz by_ ht.h hi1 hz hisz hiby hzs hsz (ρ id) cs.length ys hown ad bs.length c us hul hcell hus.one hlim.2 hlim.1 (Nat.zero_le _)
    have e2 : yK v' = v'.ownBlock := own_slice hown'
    rcases hown.2 with ⟨hnil, hc0⟩ | ⟨g, cap, cur, hvg, _, hh, hncap, hcm, hcs, htk⟩
    · rw [← hyv] at hr
      refine main v' w' none hr (by rw [hnil] at hg; exact hg) hown' (.inl rfl) (fun k hk => ?_) (fun k c h => by cases h)
      rw [e2] at hk
      rcases hob with h3 | h3
      · rw [h3, hnil] at hk; cases hk
      · rw [h3] at hk; simp at hk; exact .inl (by omega)
    · have hin : ∀ j u, ys[j]? = some u → w.cell? ⟨g, 0 + j, none⟩ = some u := fun j u hu => by
        rw [Nat.zero_add, cell_of_row w g j cur e (0, 0) hh]
        rw [← htk, List.getElem?_take] at hu
        split at hu
        · simpa using hu
        · cases hu
      by_cases hroom : cs.length + bs.length ≤ cap
      · have hr2 := run_append_room_cells (P := P) w t o.type e i ht.h hi1 g 0 cs.length cap ad bs.length c us (by rw [hisz]; exact hul) hcell hus.one hroom (fun j hj => ?_) (fun j hj => frozen_of_row w g _ cur e hh)
        · rw [hvg] at hr
          have he := hr.symm.trans hr2
          injection he with he1 he2
          subst he1
          subst he2
          rw [← hyv, ← hvg] at hr
          refine main _ _ (some g) hr (by rw [hvg] at hg; exact hg) hown' (.inr (by rw [hvg]; rfl)) (fun k hk => .inr (by simpa [yK] using hk)) (fun k c' hk hc' => ?_)
          obtain rfl : g = k := by simpa using hk
          refine World.cell?_setCells_out g us _ w ⟨g, c', none⟩ (fun _ _ => .inl ?_)
          show c' < 0 + cs.length * i.size
          rw [hisz]; omega
        · rw [cell_of_row w g _ cur e (0, 0) hh]
          have h6 : 0 + cs.length * i.size + j < cur.size := by
            rw [hcs, hisz]
            have : (cs.length + bs.length) * sz ≤ cap * sz := Nat.mul_le_mul_right _ hroom
            rw [Nat.add_mul] at this
            omega
          rw [Array.getElem?_eq_getElem h6]
          rfl
      · obtain ⟨v2, w2, hr2, hown2, hg2⟩ := run_append_arg_grows (P := P) w t o.type e i z sz by_ ht.h hi1 hz hisz hiby hzs hsz ⟨g, 0, none⟩ cs.length cap ys hown.1 (fun j u hu => by rw [add_lit]; exact hin j u hu) ad bs.length c us hul hcell (by omega) hlim.2 hlim.1
        rw [hvg] at hr
        have he := hr.symm.trans hr2
        injection he with he1 he2
        subst he1
        subst he2
        rw [← hyv, ← hvg] at hr
        refine main _ _ none hr hg2 hown' (.inl rfl) (fun k hk => ?_) (fun k c' hk => by cases hk)
        rcases hown2.2 with ⟨he3, _⟩ | ⟨g2, _, _, he3, hg3, _⟩
        · rw [he3] at hk; cases hk
        · rw [he3] at hk
          simp only [yK, Option.some.injEq] at hk
          exact .inl (by omega)
/-! ### Calls of function values -/
theorem enters_val {f : FuncId} {args : Array Operand} {ts : Array TypeId} [hc : HasFn P f] (ho : o.op = .call { callee := .value x, args := args, argTypes := ts }) (hx : S.get x = .p (.val (.func (.func f) #[] #[]))) : Enters P o S f (args.toList.map S.get) :=
  fun M n w0 ρ a w hs => by
    have hv := hs.val hx
    refine ⟨args.toList.map a.eval, ?_, by simp, reps_get hs args.toList⟩
    have e : (args.toList.map a.eval).toArray = args.map a.eval := by apply Array.ext'; simp
    unfold execOp
    rw [ho, e]
    simp [resolve, Deferred.ofValue, hv, invoke, hc.h]
/-- a pure contract, as one of variables -/
theorem FnE.ofFn {f : FuncId} {xs : List PV} {r : PV} (h : Fn P f xs (.p r)) : FnE P f (xs.map AV.p) [] (.ret (.p r)) [] := by
  intro M hh ρ vs _ hs hvl hvs
  have := h (Mut M (asB []) ρ) hh.w vs ⟨hs.lays, hs.tabs⟩ (fun k c hk => Mut.lt hs hk) (by simpa using hvl) (fun i x v h1 h2 => rep_p (hvs i (.p x) v (by rw [List.getElem?_map, h1]; rfl) h2))
  exact this.mono fun e w' ⟨v, he, hr, hb⟩ => ⟨ρ, hs.ext hb, v, he, .p hr⟩
theorem FnE.ofFnT {f : FuncId} {xs : List PV} {l : List PV} (h : Fn P f xs (.tup l)) : FnE P f (xs.map AV.p) [] (.ret (.tup (l.map AV.p))) [] := by
  intro M hh ρ vs _ hs hvl hvs
  have := h (Mut M (asB []) ρ) hh.w vs ⟨hs.lays, hs.tabs⟩ (fun k c hk => Mut.lt hs hk) (by simpa using hvl) (fun i x v h1 h2 => rep_p (hvs i (.p x) v (by rw [List.getElem?_map, h1]; rfl) h2))
  refine this.mono fun e w' ⟨v, he, ⟨us, hu, hul, hue⟩, hb⟩ => ⟨ρ, hs.ext hb, v, he, ?_⟩
  subst hu
  refine .tup _ us (by simpa using hul) fun i c u h1 h2 => ?_
  rw [List.getElem?_map, Option.map_eq_some_iff] at h1
  obtain ⟨y, hy, rfl⟩ := h1
  exact .p (hue i y u hy h2)
/-! ### Compared with nil -/
theorem r_eqlNil {yt : TypeId} {es : List PV} {r : Bool} {e : TypeId} [ht : Und P t (.slice e)] (ho : o.op = .binOp .eql t x y yt) (hx : S.get x = .p (.sl es)) (hy : S.get y = .p (.val (.slice none 0 0))) (hne : es ≠ []) (hr : false = r) (hd : o.dst = some d) (hn : d < n) : zG P n o S [] (.p (.val (.bool r))) none := by
  subst hr
  exact zG.pure hd hn fun S2 hg _ M w0 ρ a w hs => by
    have r1 := yT hs ((hg x (by rw [ho]; simp [Op.operands])).trans hx)
    have r2 := hs.val ((hg y (by rw [ho]; simp [Op.operands])).trans hy)
    rcases rep_sl r1 with ⟨_, h0⟩ | ⟨g, off, cap, ys, hv, _⟩
    · exact (hne h0).elim
    · refine ⟨.bool false, w, ?_, Below.refl _ _, .p (.val _)⟩
      unfold execOp
      rw [ho]
      simp only [hv, r2, Sem.run_bind]
      simp [eqGuard, binOp, run_equal_slice_nil w t e (some ⟨g, off, none⟩) es.length cap ht.h]
/-! ### Arrays in variables -/
theorem wW {ix : Operand} {id off m e sz : Nat} {j : Int} {k : IntKind} {agg : Bool} [ht : Und P t (.array m e)] [he : TyA P e agg sz] (ho : o.op = .indexAddr t x ix) (hx : S.get x = .ptr id off) (hi : S.get ix = .p (.val (.int k j))) (hj : 0 ≤ j ∧ j < m) (hd : o.dst = some d) (hn : d < n) : zG P n o S [] (.ptr id (off + j.toNat * sz)) none :=
  zG.pure hd hn fun S2 hg _ M w0 ρ a w hs => by
    have h1 := hs.rep x
    rw [hg x (by rw [ho]; simp [Op.operands]), hx] at h1
    have h2 := hs.val ((hg ix (by rw [ho]; simp [Op.operands])).trans hi)
    obtain ⟨g, hgv, hv⟩ := vO h1
    refine ⟨.pointer (some ⟨g, off + j.toNat * sz, none⟩), w, ?_, Below.refl _ _, .ptr id _ g hgv⟩
    have hel : P.elem t = e := by simp [Program.elem, ht.h]
    have hal : P.arrayLen t = m := by simp [Program.arrayLen, ht.h]
    unfold execOp
    rw [ho]
    simp only [hv, h2, Sem.run_bind]
    rw [run_indexAt_array w t _ _ _ (by rw [hel, hal]; exact ht.h), hal, if_pos hj, hel, he.sz w]
    simp [Result.andThen, add_lit]
end
end Go.Proofs.YtlfkofkdigmnpaaGreatDoor
/- Calls that give an own row; ends that do. Generic over the program. -/
namespace Go.Proofs.YtlfkofkdigmnpaaGreatDoor
set_option maxRecDepth 100000
set_option maxHeartbeats 16000000
set_option linter.unusedSimpArgs false
open Go Go.RowKit
section
variable {P : Program} {n : Nat} {o : Oper} {S : AS} {d : Nat} {t : TypeId} {x y : Operand}
theorem w_build0V {e sz by_ : Nat} {z : Value} [ht : Und P t (.slice e)] [hi : InfoA P e z sz by_] (ho : o.op = .buildSlice t 0 #[]) (hd : o.dst = some d) (hn : d < n) : zG P n o S [] (.own d) (some (rowV e sz [])) := (w_build0 ho hd hn).nb (rowV_alike e sz [])
theorem w_callRowV {f : Nat} {args : Array Operand} {ts : Array TypeId} {xs : List PV} {e sz : Nat} {es : List PV} [hc : HasFn P f] (hf : Fn P f xs (.row e sz es.length (flat es))) (ho : o.op = .call { callee := .value (.func f), args := args, argTypes := ts })
    (hx : args.toList.map S.get = xs.map AV.p) (hd : o.dst = some d) (hn : d < n) : zG P n o S [] (.own d) (some (rowV e sz es)) := by
  intro S2 hg _ M w0 ρ a w K Q hs hK
  have hargs : ∀ x ∈ args.toList, S2.get x = S.get x := fun x hx => hg x (by rw [ho]; simp [Op.operands, Call.operands]; exact .inr (by simpa using hx))
  have he : (execOp a.eval o).run P w = .ok (.enter f (args.map a.eval)) w := by
    unfold execOp
    rw [ho]
    simp [resolve, Deferred.ofValue, Act.eval, invoke, hc.h]
  unfold Oper.wp
  rw [he, Oper.upon_enter]
  have hlen : (args.toList.map a.eval).length = xs.length := by
    have := congrArg List.length hx
    simpa using this
  have := hf (Mut M S2 ρ) w (args.toList.map a.eval) ⟨hs.lays, hs.tabs⟩ (fun k c hk => Mut.lt hs hk) hlen (fun i x v h1 h2 => by
    rw [List.getElem?_map, Option.map_eq_some_iff] at h2
    obtain ⟨y, hy, rfl⟩ := h2
    have h3 : S.get y = .p x := by
      have h4 : (args.toList.map S.get)[i]? = (xs.map AV.p)[i]? := by rw [hx]
      rw [List.getElem?_map, List.getElem?_map, hy, h1] at h4
      simpa using h4
    exact yT hs ((hargs y (List.mem_of_getElem? hy)).trans h3))
  have e1 : (args.toList.map a.eval).toArray = args.map a.eval := by apply Array.ext'; simp
  rw [e1] at this
  refine this.mono ?_
  rintro en w' ⟨v, rfl, ⟨ys, hown, hl⟩, hb⟩
  show K (a.put o.dst v) w'
  rw [hd] at hK ⊢
  have hnew : ∀ k, yK v = some k → w.heap.size ≤ k := fun k hk => by
    rcases hown.2 with ⟨rfl, _⟩ | ⟨g, cap, cur, rfl, hg2, _⟩
    · cases hk
    · simp only [yK, Option.some.injEq] at hk; omega
  have hs' := hs.change d (rowV e sz es) v none (hs.free d hn) (w' := w') ⟨hb.os, hb.tape, hb.output, hb.size, fun k hk _ => hb.block k hk⟩ (fun k hk => by cases hk) (fun k hk => .inl (hnew k hk))
    ⟨ys, ownsRow_rebase hown (fun _ _ => Nat.zero_le _), ⟨by simpa using hl.len, fun i c u h1 h2 => by
      rw [List.getElem?_map, Option.map_eq_some_iff] at h1
      obtain ⟨y, hy, rfl⟩ := h1
      exact .p ((hl.each i y u hy h2).mono fun k c _ hk => hk.elim .inl fun h => .inr h.1), hl.one⟩⟩
  refine hK _ _ w' (hs'.put hn ?_)
  have := yN.own (M := Mut M (S2.create d (rowV e sz es)) (upd ρ d v)) (ρ := upd ρ d v) (w := w') d
  simpa [upd] using this
def Blk.isRow : Blk → Bool
  | .box _ _ => false
  | _ => true
/-- a store of an own row's slice -/
theorem s_storeO {id off id2 : Nat} {b b2 : Blk} (ho : o.op = .store t x y) (hx : S.get x = .ptr id off) (hb : S.blk id = some b) (hy : S.get y = .own id2) (hb2 : S.blk id2 = some b2) (hrow : b2.isRow = true) (hm : ∀ w, (sizeOf t).run P w = .ok 1 w)
    (hle : off + 1 ≤ b.xs.length) (hlb : b.lentB = false) (hd : o.dst = none) : Step P n o S { S with s := putL S.s id (b.setXs (splice b.xs off (AV.own id2).xJ)) } := by
  have hlen : (AV.own id2).xJ.length = 1 := rfl
  intro M w0 ρ a w K Q hs hK
  have hfr := Blk.turns_of hlb
  have h1 := hs.rep x
  rw [hx] at h1
  obtain ⟨g, hgv, hv⟩ := vO h1
  have h2 := hs.rep y
  rw [hy] at h2
  have hcy : yM (Mut M S ρ) ρ w (AV.own id2).xJ (a.eval y).cells.toList := by
    have hown : ∃ e sz m2 ys, w.ownsRow 0 e sz (ρ id2) m2 ys := by
      have h := hs.blks id2 _ hb2
      cases b2 with
      | box _ _ => cases hrow
      | _ => exact let ⟨ys, h, _⟩ := h; ⟨_, _, _, ys, h⟩
    obtain ⟨_, _, _, _, hown⟩ := hown
    have e1 : a.eval y = ρ id2 := by
      generalize a.eval y = v at h2
      cases h2
      rfl
    rw [e1]
    rcases hown.2 with ⟨e, _⟩ | ⟨g', cap, cur, e, _⟩
    · rw [e]
      exact ⟨rfl, fun i c u h1 h3 => by
        cases i with
        | zero => simp [Value.cells, AV.xJ] at h1 h3; subst h1; subst h3; rw [← e]; exact .own id2
        | succ i => simp [AV.xJ] at h1, fun u hu => by simp [Value.cells] at hu; subst hu; rfl⟩
    · rw [e]
      exact ⟨rfl, fun i c u h1 h3 => by
        cases i with
        | zero => simp [Value.cells, AV.xJ] at h1 h3; subst h1; subst h3; rw [← e]; exact .own id2
        | succ i => simp [AV.xJ] at h1, fun u hu => by simp [Value.cells] at hu; subst hu; rfl⟩
  have hB := hs.blks id b hb
  have key : ∃ cur ty, w.heap[g]? = some (.cells cur ty (0, 0)) ∧ off + (a.eval y).cells.toList.length ≤ cur.size ∧
      (∀ w' : World, w.grownBy w' (some g) → w'.heap[g]? = some (.cells (splice cur.toList off (a.eval y).cells.toList).toArray ty (0, 0)) → wD (Mut M S ρ) 0 ρ w' (ρ id) (b.setXs (splice b.xs off (AV.own id2).xJ))) := by
    have keeps : ∀ {w' : World}, w.grownBy w' (some g) → Keeps (Mut M S ρ) w w' := fun {w'} hg => ⟨hg.size, fun k c hk hnm => World.cell?_of_block (w := w) (hg.block k hk (fun e => hnm (.inr ⟨id, b, hb, by rw [hgv]; exact e.symm, hfr c⟩)))⟩
    cases b with
    | lent ty size k xs => cases hlb
    | box ty xs =>
      obtain ⟨g', ys, e, hg, hh, hc⟩ := hB
      have eg : g' = g := by rw [e] at hgv; simpa [yK] using hgv
      subst eg
      refine ⟨ys.toArray, ty, hh, ?_, fun w' hgr hh' => ⟨g', splice ys off (a.eval y).cells.toList, e, hg, by simpa using hh', (hc.splice hcy (by rw [hlen]; exact hle)).keep (keeps hgr)⟩⟩
      have e1 := hcy.len
      have e2 := hc.len
      have e3 : off + 1 ≤ xs.length := hle
      simp only [List.size_toArray]
      omega
    | row ty size k xs =>
      obtain ⟨ys, ⟨hl, ho2⟩, hc⟩ := hB
      have e1 := hcy.len
      have e2 := hc.len
      have e3 : off + 1 ≤ xs.length := hle
      rcases ho2 with ⟨e, _⟩ | ⟨g', cap, cur, e, hbg, hh, hkc, hcm, hcs, htk⟩
      · rw [e] at hgv; simp [yK] at hgv
      · have eg : g' = g := by rw [e] at hgv; simpa [yK] using hgv
        subst eg
        have hsz : k * size ≤ cur.size := by rw [hcs]; exact Nat.mul_le_mul_right _ hkc
        refine ⟨cur, ty, hh, by omega, fun w' hgr hh' => ⟨splice ys off (a.eval y).cells.toList, ⟨by rw [wC (by omega)]; exact hl, .inr ⟨g', cap, _, e, hbg, hh', hkc, hcm, ?_, ?_⟩⟩, (hc.splice hcy (by rw [hlen]; exact hle)).keep (keeps hgr)⟩⟩
        · simp only [List.size_toArray]
          rw [wC (by simp only [Array.length_toList] at *; omega)]
          simpa using hcs
        · apply List.ext_getElem?
          intro i
          rw [List.getElem?_take]
          rw [xY (by simp only [Array.length_toList] at *; omega), xY (by omega)]
          have hi : ∀ (i : Nat), i < k * size → cur.toList[i]? = ys[i]? := fun i hi => by rw [← htk, List.getElem?_take, if_pos hi]
          by_cases h3 : i < k * size
          · rw [if_pos h3]
            split
            · exact hi i h3
            · split
              · rfl
              · exact hi i h3
          · rw [if_neg h3]
            rw [if_neg (by omega), if_neg (by omega)]
            exact (List.getElem?_eq_none (by omega)).symm
    | prow ty size k xs =>
      obtain ⟨ys, ⟨hl, ho2⟩, hc⟩ := hB
      have e1 := hcy.len
      have e2 := hc.len
      have e3 : off + 1 ≤ (xs.map AV.p).length := hle
      rcases ho2 with ⟨e, _⟩ | ⟨g', cap, cur, e, hbg, hh, hkc, hcm, hcs, htk⟩
      · rw [e] at hgv; simp [yK] at hgv
      · have eg : g' = g := by rw [e] at hgv; simpa [yK] using hgv
        subst eg
        have hsz : k * size ≤ cur.size := by rw [hcs]; exact Nat.mul_le_mul_right _ hkc
        refine ⟨cur, ty, hh, by omega, fun w' hgr hh' => ⟨splice ys off (a.eval y).cells.toList, ⟨by rw [wC (by omega)]; exact hl, .inr ⟨g', cap, _, e, hbg, hh', hkc, hcm, ?_, ?_⟩⟩, (hc.splice hcy (by rw [hlen]; exact hle)).keep (keeps hgr)⟩⟩
        · simp only [List.size_toArray]
          rw [wC (by simp only [Array.length_toList] at *; omega)]
          simpa using hcs
        · apply List.ext_getElem?
          intro i
          rw [List.getElem?_take]
          rw [xY (by simp only [Array.length_toList] at *; omega), xY (by omega)]
          have hi : ∀ (i : Nat), i < k * size → cur.toList[i]? = ys[i]? := fun i hi => by rw [← htk, List.getElem?_take, if_pos hi]
          by_cases h3 : i < k * size
          · rw [if_pos h3]
            split
            · exact hi i h3
            · split
              · rfl
              · exact hi i h3
          · rw [if_neg h3]
            rw [if_neg (by omega), if_neg (by omega)]
            exact (List.getElem?_eq_none (by omega)).symm
  obtain ⟨cur, ty, hh, hfit, hfin⟩ := key
  have hst := run_storeCells_at P g off ty (a.eval y).cells.toList 0 cur w hh (by simpa using hfit) hcy.one
  have hsz : (a.eval y).cells.size = 1 := by have := hcy.len; rw [hlen] at this; simpa using this
  have hrun : (execOp a.eval o).run P w = .ok .skip (w.setRow g (splice cur.toList off (a.eval y).cells.toList).toArray) := by
    unfold execOp
    rw [ho]
    simp only [hv, Instr.storeAt, Instr.sureAddr, storeVar, Sem.run_bind, Sem.run_pure, Result.andThen_ok, hm, hsz, ne_eq, not_true_eq_false, if_false]
    simp only [Nat.add_zero] at hst
    rw [hst]
    rfl
  have hgr : w.grownBy (w.setRow g (splice cur.toList off (a.eval y).cells.toList).toArray) (some g) := ⟨rfl, rfl, rfl, by simp, fun k _ hk => setRow_other w g k _ (fun e => hk (by rw [e]))⟩
  unfold Oper.wp
  rw [hrun]
  show K (a.put o.dst undef) _
  rw [hd]
  exact hK ρ a _ (hs.turn hb hgv hgr hfr (hfin _ hgr (setRow_heap w g cur _ ty _ hh)))
theorem w_storeO {id off id2 : Nat} {b b2 : Blk} {agg : Bool} [h : TyA P t agg 1] (ho : o.op = .store t x y) (hx : S.get x = .ptr id off) (hb : S.blk id = some b) (hy : S.get y = .own id2) (hb2 : S.blk id2 = some b2) (hrow : b2.isRow = true)
    (hle : off + 1 ≤ b.xs.length) (hlb : b.lentB = false) (hd : o.dst = none) : Step P n o S { S with s := putL S.s id (b.setXs (splice b.xs off [AV.own id2])) } :=
  s_storeO ho hx hb hy hb2 hrow h.sz hle hlb hd
end
theorem givesRowV {P : Program} {fn : Func} {S : AS} {t id e sz : Nat} {es : List PV} (hr : fn.results = #[.tmp t]) (ht : S.tmp t = .own id) (hb : S.blk id = some (rowV e sz es)) : ∃ S', Sub S S' ∧ GivesV P fn S' (.row e sz es.length (flat es)) :=
  ⟨_, (wT hb (rowV_alike' e sz es)).sub, .row hr ht (by rw [AS.xD, if_pos rfl])⟩
end Go.Proofs.YtlfkofkdigmnpaaGreatDoor
/- The closed facts on the types and the functions of this seat's translation, as instances. Written by inst.py. -/
namespace Go.Proofs.YtlfkofkdigmnpaaGreatDoor
set_option maxRecDepth 100000
set_option maxHeartbeats 16000000
open Go Go.RowKit
set_option maxRecDepth 100000
instance ty2 : TyA Tryz.prog 2 false 1 := ⟨fun _ => by kernel_rfl, fun _ => by kernel_rfl⟩
instance un2 : Und Tryz.prog 2 (.int .i64) := ⟨Tryz.underlying2⟩
instance ze2 : ZeroA Tryz.prog 2 (Value.int .i64 0) := ⟨fun _ => by kernel_rfl⟩
instance in2 : InfoA Tryz.prog 2 (Value.int .i64 0) 1 8 := ⟨by kernel_rfl⟩
instance ty3 : TyA Tryz.prog 3 false 1 := ⟨fun _ => by kernel_rfl, fun _ => by kernel_rfl⟩
instance un3 : Und Tryz.prog 3 (.int .i64) := ⟨Tryz.underlying3⟩
instance ze3 : ZeroA Tryz.prog 3 (Value.int .i64 0) := ⟨fun _ => by kernel_rfl⟩
instance in3 : InfoA Tryz.prog 3 (Value.int .i64 0) 1 8 := ⟨by kernel_rfl⟩
instance ty4 : TyA Tryz.prog 4 false 1 := ⟨fun _ => by kernel_rfl, fun _ => by kernel_rfl⟩
instance un4 : Und Tryz.prog 4 (.bool) := ⟨Tryz.underlying4⟩
instance ze4 : ZeroA Tryz.prog 4 (Value.bool false) := ⟨fun _ => by kernel_rfl⟩
instance in4 : InfoA Tryz.prog 4 (Value.bool false) 1 1 := ⟨by kernel_rfl⟩
instance ty5 : TyA Tryz.prog 5 false 1 := ⟨fun _ => by kernel_rfl, fun _ => by kernel_rfl⟩
instance un5 : Und Tryz.prog 5 (.int .u8) := ⟨Tryz.underlying5⟩
instance ze5 : ZeroA Tryz.prog 5 (Value.int .u8 0) := ⟨fun _ => by kernel_rfl⟩
instance in5 : InfoA Tryz.prog 5 (Value.int .u8 0) 1 1 := ⟨by kernel_rfl⟩
instance ty6 : TyA Tryz.prog 6 false 1 := ⟨fun _ => by kernel_rfl, fun _ => by kernel_rfl⟩
instance un6 : Und Tryz.prog 6 (.int .u8) := ⟨Tryz.underlying6⟩
instance ze6 : ZeroA Tryz.prog 6 (Value.int .u8 0) := ⟨fun _ => by kernel_rfl⟩
instance in6 : InfoA Tryz.prog 6 (Value.int .u8 0) 1 1 := ⟨by kernel_rfl⟩
instance ty7 : TyA Tryz.prog 7 true 4 := ⟨fun _ => by kernel_rfl, fun _ => by kernel_rfl⟩
instance bu7 : BuildA Tryz.prog 7 [(0, 1), (1, 1), (2, 1), (3, 1)] := ⟨by kernel_rfl, by kernel_rfl⟩
instance fv7_0 : FieldT Tryz.prog 7 0 2 0 := ⟨by kernel_rfl, by kernel_rfl⟩
instance fv7_1 : FieldT Tryz.prog 7 1 3 1 := ⟨by kernel_rfl, by kernel_rfl⟩
instance fv7_2 : FieldT Tryz.prog 7 2 4 2 := ⟨by kernel_rfl, by kernel_rfl⟩
instance fv7_3 : FieldT Tryz.prog 7 3 6 3 := ⟨by kernel_rfl, by kernel_rfl⟩
instance fi7_0 : FieldA Tryz.prog 7 0 0 := ⟨fun _ _ _ => by kernel_rfl⟩
instance fi7_1 : FieldA Tryz.prog 7 1 1 := ⟨fun _ _ _ => by kernel_rfl⟩
instance fi7_2 : FieldA Tryz.prog 7 2 2 := ⟨fun _ _ _ => by kernel_rfl⟩
instance fi7_3 : FieldA Tryz.prog 7 3 3 := ⟨fun _ _ _ => by kernel_rfl⟩
instance ze7 : ZeroA Tryz.prog 7 (Value.agg #[Value.int .i64 0, Value.int .i64 0, Value.bool false, Value.int .u8 0]) := ⟨fun _ => by kernel_rfl⟩
instance in7 : InfoA Tryz.prog 7 (Value.agg #[Value.int .i64 0, Value.int .i64 0, Value.bool false, Value.int .u8 0]) 4 24 := ⟨by kernel_rfl⟩
instance ty8 : TyA Tryz.prog 8 true 4 := ⟨fun _ => by kernel_rfl, fun _ => by kernel_rfl⟩
instance bu8 : BuildA Tryz.prog 8 [(0, 1), (1, 1), (2, 1), (3, 1)] := ⟨by kernel_rfl, by kernel_rfl⟩
instance fv8_0 : FieldT Tryz.prog 8 0 2 0 := ⟨by kernel_rfl, by kernel_rfl⟩
instance fv8_1 : FieldT Tryz.prog 8 1 3 1 := ⟨by kernel_rfl, by kernel_rfl⟩
instance fv8_2 : FieldT Tryz.prog 8 2 4 2 := ⟨by kernel_rfl, by kernel_rfl⟩
instance fv8_3 : FieldT Tryz.prog 8 3 6 3 := ⟨by kernel_rfl, by kernel_rfl⟩
instance fi8_0 : FieldA Tryz.prog 8 0 0 := ⟨fun _ _ _ => by kernel_rfl⟩
instance fi8_1 : FieldA Tryz.prog 8 1 1 := ⟨fun _ _ _ => by kernel_rfl⟩
instance fi8_2 : FieldA Tryz.prog 8 2 2 := ⟨fun _ _ _ => by kernel_rfl⟩
instance fi8_3 : FieldA Tryz.prog 8 3 3 := ⟨fun _ _ _ => by kernel_rfl⟩
instance ze8 : ZeroA Tryz.prog 8 (Value.agg #[Value.int .i64 0, Value.int .i64 0, Value.bool false, Value.int .u8 0]) := ⟨fun _ => by kernel_rfl⟩
instance in8 : InfoA Tryz.prog 8 (Value.agg #[Value.int .i64 0, Value.int .i64 0, Value.bool false, Value.int .u8 0]) 4 24 := ⟨by kernel_rfl⟩
instance ty9 : TyA Tryz.prog 9 false 1 := ⟨fun _ => by kernel_rfl, fun _ => by kernel_rfl⟩
instance un9 : Und Tryz.prog 9 (.string) := ⟨Tryz.underlying9⟩
instance ze9 : ZeroA Tryz.prog 9 (Value.string ⟨#[]⟩) := ⟨fun _ => by kernel_rfl⟩
instance in9 : InfoA Tryz.prog 9 (Value.string ⟨#[]⟩) 1 16 := ⟨by kernel_rfl⟩
instance ty10 : TyA Tryz.prog 10 false 1 := ⟨fun _ => by kernel_rfl, fun _ => by kernel_rfl⟩
instance un10 : Und Tryz.prog 10 (.string) := ⟨Tryz.underlying10⟩
instance ze10 : ZeroA Tryz.prog 10 (Value.string ⟨#[]⟩) := ⟨fun _ => by kernel_rfl⟩
instance in10 : InfoA Tryz.prog 10 (Value.string ⟨#[]⟩) 1 16 := ⟨by kernel_rfl⟩
instance ty11 : TyA Tryz.prog 11 false 1 := ⟨fun _ => by kernel_rfl, fun _ => by kernel_rfl⟩
instance un11 : Und Tryz.prog 11 (.string) := ⟨Tryz.underlying11⟩
instance ze11 : ZeroA Tryz.prog 11 (Value.string ⟨#[]⟩) := ⟨fun _ => by kernel_rfl⟩
instance in11 : InfoA Tryz.prog 11 (Value.string ⟨#[]⟩) 1 16 := ⟨by kernel_rfl⟩
instance ty12 : TyA Tryz.prog 12 false 1 := ⟨fun _ => by kernel_rfl, fun _ => by kernel_rfl⟩
instance un12 : Und Tryz.prog 12 (.int .u64) := ⟨Tryz.underlying12⟩
instance ze12 : ZeroA Tryz.prog 12 (Value.int .u64 0) := ⟨fun _ => by kernel_rfl⟩
instance in12 : InfoA Tryz.prog 12 (Value.int .u64 0) 1 8 := ⟨by kernel_rfl⟩
instance ty13 : TyA Tryz.prog 13 true 2 := ⟨fun _ => by kernel_rfl, fun _ => by kernel_rfl⟩
instance bu13 : BuildA Tryz.prog 13 [(0, 1), (1, 1)] := ⟨by kernel_rfl, by kernel_rfl⟩
instance fv13_0 : FieldT Tryz.prog 13 0 9 0 := ⟨by kernel_rfl, by kernel_rfl⟩
instance fv13_1 : FieldT Tryz.prog 13 1 12 1 := ⟨by kernel_rfl, by kernel_rfl⟩
instance fi13_0 : FieldA Tryz.prog 13 0 0 := ⟨fun _ _ _ => by kernel_rfl⟩
instance fi13_1 : FieldA Tryz.prog 13 1 1 := ⟨fun _ _ _ => by kernel_rfl⟩
instance ze13 : ZeroA Tryz.prog 13 (Value.agg #[Value.string ⟨#[]⟩, Value.int .u64 0]) := ⟨fun _ => by kernel_rfl⟩
instance in13 : InfoA Tryz.prog 13 (Value.agg #[Value.string ⟨#[]⟩, Value.int .u64 0]) 2 24 := ⟨by kernel_rfl⟩
instance ty14 : TyA Tryz.prog 14 true 2 := ⟨fun _ => by kernel_rfl, fun _ => by kernel_rfl⟩
instance bu14 : BuildA Tryz.prog 14 [(0, 1), (1, 1)] := ⟨by kernel_rfl, by kernel_rfl⟩
instance fv14_0 : FieldT Tryz.prog 14 0 9 0 := ⟨by kernel_rfl, by kernel_rfl⟩
instance fv14_1 : FieldT Tryz.prog 14 1 12 1 := ⟨by kernel_rfl, by kernel_rfl⟩
instance fi14_0 : FieldA Tryz.prog 14 0 0 := ⟨fun _ _ _ => by kernel_rfl⟩
instance fi14_1 : FieldA Tryz.prog 14 1 1 := ⟨fun _ _ _ => by kernel_rfl⟩
instance ze14 : ZeroA Tryz.prog 14 (Value.agg #[Value.string ⟨#[]⟩, Value.int .u64 0]) := ⟨fun _ => by kernel_rfl⟩
instance in14 : InfoA Tryz.prog 14 (Value.agg #[Value.string ⟨#[]⟩, Value.int .u64 0]) 2 24 := ⟨by kernel_rfl⟩
instance ty15 : TyA Tryz.prog 15 false 1 := ⟨fun _ => by kernel_rfl, fun _ => by kernel_rfl⟩
instance un15 : Und Tryz.prog 15 (.pointer 165) := ⟨Tryz.underlying15⟩
instance ze15 : ZeroA Tryz.prog 15 (Value.pointer none) := ⟨fun _ => by kernel_rfl⟩
instance in15 : InfoA Tryz.prog 15 (Value.pointer none) 1 8 := ⟨by kernel_rfl⟩
instance ty16 : TyA Tryz.prog 16 false 1 := ⟨fun _ => by kernel_rfl, fun _ => by kernel_rfl⟩
instance un16 : Und Tryz.prog 16 (.pointer 168) := ⟨Tryz.underlying16⟩
instance ze16 : ZeroA Tryz.prog 16 (Value.pointer none) := ⟨fun _ => by kernel_rfl⟩
instance in16 : InfoA Tryz.prog 16 (Value.pointer none) 1 8 := ⟨by kernel_rfl⟩
instance ty17 : TyA Tryz.prog 17 false 1 := ⟨fun _ => by kernel_rfl, fun _ => by kernel_rfl⟩
instance un17 : Und Tryz.prog 17 (.pointer 177) := ⟨Tryz.underlying17⟩
instance ze17 : ZeroA Tryz.prog 17 (Value.pointer none) := ⟨fun _ => by kernel_rfl⟩
instance in17 : InfoA Tryz.prog 17 (Value.pointer none) 1 8 := ⟨by kernel_rfl⟩
instance ty18 : TyA Tryz.prog 18 true 1 := ⟨fun _ => by kernel_rfl, fun _ => by kernel_rfl⟩
instance bu18 : BuildA Tryz.prog 18 [(0, 1)] := ⟨by kernel_rfl, by kernel_rfl⟩
instance fv18_0 : FieldT Tryz.prog 18 0 17 0 := ⟨by kernel_rfl, by kernel_rfl⟩
instance fi18_0 : FieldA Tryz.prog 18 0 0 := ⟨fun _ _ _ => by kernel_rfl⟩
instance ze18 : ZeroA Tryz.prog 18 (Value.agg #[Value.pointer none]) := ⟨fun _ => by kernel_rfl⟩
instance in18 : InfoA Tryz.prog 18 (Value.agg #[Value.pointer none]) 1 8 := ⟨by kernel_rfl⟩
instance ty19 : TyA Tryz.prog 19 true 1 := ⟨fun _ => by kernel_rfl, fun _ => by kernel_rfl⟩
instance bu19 : BuildA Tryz.prog 19 [(0, 1)] := ⟨by kernel_rfl, by kernel_rfl⟩
instance fv19_0 : FieldT Tryz.prog 19 0 17 0 := ⟨by kernel_rfl, by kernel_rfl⟩
instance fi19_0 : FieldA Tryz.prog 19 0 0 := ⟨fun _ _ _ => by kernel_rfl⟩
instance ze19 : ZeroA Tryz.prog 19 (Value.agg #[Value.pointer none]) := ⟨fun _ => by kernel_rfl⟩
instance in19 : InfoA Tryz.prog 19 (Value.agg #[Value.pointer none]) 1 8 := ⟨by kernel_rfl⟩
instance ty21 : TyA Tryz.prog 21 false 1 := ⟨fun _ => by kernel_rfl, fun _ => by kernel_rfl⟩
instance un21 : Und Tryz.prog 21 (.int .i32) := ⟨Tryz.underlying21⟩
instance ze21 : ZeroA Tryz.prog 21 (Value.int .i32 0) := ⟨fun _ => by kernel_rfl⟩
instance in21 : InfoA Tryz.prog 21 (Value.int .i32 0) 1 4 := ⟨by kernel_rfl⟩
instance ty22 : TyA Tryz.prog 22 false 1 := ⟨fun _ => by kernel_rfl, fun _ => by kernel_rfl⟩
instance un22 : Und Tryz.prog 22 (.int .u64) := ⟨Tryz.underlying22⟩
instance ze22 : ZeroA Tryz.prog 22 (Value.int .u64 0) := ⟨fun _ => by kernel_rfl⟩
instance in22 : InfoA Tryz.prog 22 (Value.int .u64 0) 1 8 := ⟨by kernel_rfl⟩
instance ty23 : TyA Tryz.prog 23 true 4 := ⟨fun _ => by kernel_rfl, fun _ => by kernel_rfl⟩
instance bu23 : BuildA Tryz.prog 23 [(0, 1), (1, 1), (2, 1), (3, 1)] := ⟨by kernel_rfl, by kernel_rfl⟩
instance eq23 : EqA Tryz.prog 23 4 := ⟨by kernel_rfl, by kernel_rfl, by kernel_rfl, by kernel_rfl, by kernel_rfl⟩
instance fv23_0 : FieldT Tryz.prog 23 0 3 0 := ⟨by kernel_rfl, by kernel_rfl⟩
instance fv23_1 : FieldT Tryz.prog 23 1 3 1 := ⟨by kernel_rfl, by kernel_rfl⟩
instance fv23_2 : FieldT Tryz.prog 23 2 3 2 := ⟨by kernel_rfl, by kernel_rfl⟩
instance fv23_3 : FieldT Tryz.prog 23 3 22 3 := ⟨by kernel_rfl, by kernel_rfl⟩
instance fi23_0 : FieldA Tryz.prog 23 0 0 := ⟨fun _ _ _ => by kernel_rfl⟩
instance fi23_1 : FieldA Tryz.prog 23 1 1 := ⟨fun _ _ _ => by kernel_rfl⟩
instance fi23_2 : FieldA Tryz.prog 23 2 2 := ⟨fun _ _ _ => by kernel_rfl⟩
instance fi23_3 : FieldA Tryz.prog 23 3 3 := ⟨fun _ _ _ => by kernel_rfl⟩
instance ze23 : ZeroA Tryz.prog 23 (Value.agg #[Value.int .i64 0, Value.int .i64 0, Value.int .i64 0, Value.int .u64 0]) := ⟨fun _ => by kernel_rfl⟩
instance in23 : InfoA Tryz.prog 23 (Value.agg #[Value.int .i64 0, Value.int .i64 0, Value.int .i64 0, Value.int .u64 0]) 4 32 := ⟨by kernel_rfl⟩
instance ty24 : TyA Tryz.prog 24 true 4 := ⟨fun _ => by kernel_rfl, fun _ => by kernel_rfl⟩
instance bu24 : BuildA Tryz.prog 24 [(0, 1), (1, 1), (2, 1), (3, 1)] := ⟨by kernel_rfl, by kernel_rfl⟩
instance eq24 : EqA Tryz.prog 24 4 := ⟨by kernel_rfl, by kernel_rfl, by kernel_rfl, by kernel_rfl, by kernel_rfl⟩
instance fv24_0 : FieldT Tryz.prog 24 0 3 0 := ⟨by kernel_rfl, by kernel_rfl⟩
instance fv24_1 : FieldT Tryz.prog 24 1 3 1 := ⟨by kernel_rfl, by kernel_rfl⟩
instance fv24_2 : FieldT Tryz.prog 24 2 3 2 := ⟨by kernel_rfl, by kernel_rfl⟩
instance fv24_3 : FieldT Tryz.prog 24 3 22 3 := ⟨by kernel_rfl, by kernel_rfl⟩
instance fi24_0 : FieldA Tryz.prog 24 0 0 := ⟨fun _ _ _ => by kernel_rfl⟩
instance fi24_1 : FieldA Tryz.prog 24 1 1 := ⟨fun _ _ _ => by kernel_rfl⟩
instance fi24_2 : FieldA Tryz.prog 24 2 2 := ⟨fun _ _ _ => by kernel_rfl⟩
instance fi24_3 : FieldA Tryz.prog 24 3 3 := ⟨fun _ _ _ => by kernel_rfl⟩
instance ze24 : ZeroA Tryz.prog 24 (Value.agg #[Value.int .i64 0, Value.int .i64 0, Value.int .i64 0, Value.int .u64 0]) := ⟨fun _ => by kernel_rfl⟩
instance in24 : InfoA Tryz.prog 24 (Value.agg #[Value.int .i64 0, Value.int .i64 0, Value.int .i64 0, Value.int .u64 0]) 4 32 := ⟨by kernel_rfl⟩
instance ty25 : TyA Tryz.prog 25 false 1 := ⟨fun _ => by kernel_rfl, fun _ => by kernel_rfl⟩
instance un25 : Und Tryz.prog 25 (.slice 85) := ⟨Tryz.underlying25⟩
instance ze25 : ZeroA Tryz.prog 25 (Value.slice none 0 0) := ⟨fun _ => by kernel_rfl⟩
instance in25 : InfoA Tryz.prog 25 (Value.slice none 0 0) 1 24 := ⟨by kernel_rfl⟩
instance ty26 : TyA Tryz.prog 26 true 8 := ⟨fun _ => by kernel_rfl, fun _ => by kernel_rfl⟩
instance bu26 : BuildA Tryz.prog 26 [(0, 1), (1, 1), (2, 1), (3, 4), (7, 1)] := ⟨by kernel_rfl, by kernel_rfl⟩
instance fv26_0 : FieldT Tryz.prog 26 0 3 0 := ⟨by kernel_rfl, by kernel_rfl⟩
instance fv26_1 : FieldT Tryz.prog 26 1 3 1 := ⟨by kernel_rfl, by kernel_rfl⟩
instance fv26_2 : FieldT Tryz.prog 26 2 3 2 := ⟨by kernel_rfl, by kernel_rfl⟩
instance fv26_3 : FieldT Tryz.prog 26 3 24 3 := ⟨by kernel_rfl, by kernel_rfl⟩
instance fv26_4 : FieldT Tryz.prog 26 4 25 7 := ⟨by kernel_rfl, by kernel_rfl⟩
instance fi26_0 : FieldA Tryz.prog 26 0 0 := ⟨fun _ _ _ => by kernel_rfl⟩
instance fi26_1 : FieldA Tryz.prog 26 1 1 := ⟨fun _ _ _ => by kernel_rfl⟩
instance fi26_2 : FieldA Tryz.prog 26 2 2 := ⟨fun _ _ _ => by kernel_rfl⟩
instance fi26_3 : FieldA Tryz.prog 26 3 3 := ⟨fun _ _ _ => by kernel_rfl⟩
instance fi26_4 : FieldA Tryz.prog 26 4 7 := ⟨fun _ _ _ => by kernel_rfl⟩
instance ze26 : ZeroA Tryz.prog 26 (Value.agg #[Value.int .i64 0, Value.int .i64 0, Value.int .i64 0, Value.int .i64 0, Value.int .i64 0, Value.int .i64 0, Value.int .u64 0, Value.slice none 0 0]) := ⟨fun _ => by kernel_rfl⟩
instance in26 : InfoA Tryz.prog 26 (Value.agg #[Value.int .i64 0, Value.int .i64 0, Value.int .i64 0, Value.int .i64 0, Value.int .i64 0, Value.int .i64 0, Value.int .u64 0, Value.slice none 0 0]) 8 80 := ⟨by kernel_rfl⟩
instance ty27 : TyA Tryz.prog 27 true 8 := ⟨fun _ => by kernel_rfl, fun _ => by kernel_rfl⟩
instance bu27 : BuildA Tryz.prog 27 [(0, 1), (1, 1), (2, 1), (3, 4), (7, 1)] := ⟨by kernel_rfl, by kernel_rfl⟩
instance fv27_0 : FieldT Tryz.prog 27 0 3 0 := ⟨by kernel_rfl, by kernel_rfl⟩
instance fv27_1 : FieldT Tryz.prog 27 1 3 1 := ⟨by kernel_rfl, by kernel_rfl⟩
instance fv27_2 : FieldT Tryz.prog 27 2 3 2 := ⟨by kernel_rfl, by kernel_rfl⟩
instance fv27_3 : FieldT Tryz.prog 27 3 24 3 := ⟨by kernel_rfl, by kernel_rfl⟩
instance fv27_4 : FieldT Tryz.prog 27 4 25 7 := ⟨by kernel_rfl, by kernel_rfl⟩
instance fi27_0 : FieldA Tryz.prog 27 0 0 := ⟨fun _ _ _ => by kernel_rfl⟩
instance fi27_1 : FieldA Tryz.prog 27 1 1 := ⟨fun _ _ _ => by kernel_rfl⟩
instance fi27_2 : FieldA Tryz.prog 27 2 2 := ⟨fun _ _ _ => by kernel_rfl⟩
instance fi27_3 : FieldA Tryz.prog 27 3 3 := ⟨fun _ _ _ => by kernel_rfl⟩
instance fi27_4 : FieldA Tryz.prog 27 4 7 := ⟨fun _ _ _ => by kernel_rfl⟩
instance ze27 : ZeroA Tryz.prog 27 (Value.agg #[Value.int .i64 0, Value.int .i64 0, Value.int .i64 0, Value.int .i64 0, Value.int .i64 0, Value.int .i64 0, Value.int .u64 0, Value.slice none 0 0]) := ⟨fun _ => by kernel_rfl⟩
instance in27 : InfoA Tryz.prog 27 (Value.agg #[Value.int .i64 0, Value.int .i64 0, Value.int .i64 0, Value.int .i64 0, Value.int .i64 0, Value.int .i64 0, Value.int .u64 0, Value.slice none 0 0]) 8 80 := ⟨by kernel_rfl⟩
instance ty31 : TyA Tryz.prog 31 false 1 := ⟨fun _ => by kernel_rfl, fun _ => by kernel_rfl⟩
instance un31 : Und Tryz.prog 31 (.slice 5) := ⟨Tryz.underlying31⟩
instance ze31 : ZeroA Tryz.prog 31 (Value.slice none 0 0) := ⟨fun _ => by kernel_rfl⟩
instance in31 : InfoA Tryz.prog 31 (Value.slice none 0 0) 1 24 := ⟨by kernel_rfl⟩
instance ty32 : TyA Tryz.prog 32 false 1 := ⟨fun _ => by kernel_rfl, fun _ => by kernel_rfl⟩
instance un32 : Und Tryz.prog 32 (.slice 22) := ⟨Tryz.underlying32⟩
instance ze32 : ZeroA Tryz.prog 32 (Value.slice none 0 0) := ⟨fun _ => by kernel_rfl⟩
instance in32 : InfoA Tryz.prog 32 (Value.slice none 0 0) 1 24 := ⟨by kernel_rfl⟩
instance ty33 : TyA Tryz.prog 33 true 6 := ⟨fun _ => by kernel_rfl, fun _ => by kernel_rfl⟩
instance bu33 : BuildA Tryz.prog 33 [(0, 1), (1, 1), (2, 1), (3, 1), (4, 1), (5, 1)] := ⟨by kernel_rfl, by kernel_rfl⟩
instance fv33_0 : FieldT Tryz.prog 33 0 3 0 := ⟨by kernel_rfl, by kernel_rfl⟩
instance fv33_1 : FieldT Tryz.prog 33 1 3 1 := ⟨by kernel_rfl, by kernel_rfl⟩
instance fv33_2 : FieldT Tryz.prog 33 2 22 2 := ⟨by kernel_rfl, by kernel_rfl⟩
instance fv33_3 : FieldT Tryz.prog 33 3 22 3 := ⟨by kernel_rfl, by kernel_rfl⟩
instance fv33_4 : FieldT Tryz.prog 33 4 31 4 := ⟨by kernel_rfl, by kernel_rfl⟩
instance fv33_5 : FieldT Tryz.prog 33 5 32 5 := ⟨by kernel_rfl, by kernel_rfl⟩
instance fi33_0 : FieldA Tryz.prog 33 0 0 := ⟨fun _ _ _ => by kernel_rfl⟩
instance fi33_1 : FieldA Tryz.prog 33 1 1 := ⟨fun _ _ _ => by kernel_rfl⟩
instance fi33_2 : FieldA Tryz.prog 33 2 2 := ⟨fun _ _ _ => by kernel_rfl⟩
instance fi33_3 : FieldA Tryz.prog 33 3 3 := ⟨fun _ _ _ => by kernel_rfl⟩
instance fi33_4 : FieldA Tryz.prog 33 4 4 := ⟨fun _ _ _ => by kernel_rfl⟩
instance fi33_5 : FieldA Tryz.prog 33 5 5 := ⟨fun _ _ _ => by kernel_rfl⟩
instance ze33 : ZeroA Tryz.prog 33 (Value.agg #[Value.int .i64 0, Value.int .i64 0, Value.int .u64 0, Value.int .u64 0, Value.slice none 0 0, Value.slice none 0 0]) := ⟨fun _ => by kernel_rfl⟩
instance in33 : InfoA Tryz.prog 33 (Value.agg #[Value.int .i64 0, Value.int .i64 0, Value.int .u64 0, Value.int .u64 0, Value.slice none 0 0, Value.slice none 0 0]) 6 80 := ⟨by kernel_rfl⟩
instance ty34 : TyA Tryz.prog 34 true 6 := ⟨fun _ => by kernel_rfl, fun _ => by kernel_rfl⟩
instance bu34 : BuildA Tryz.prog 34 [(0, 1), (1, 1), (2, 1), (3, 1), (4, 1), (5, 1)] := ⟨by kernel_rfl, by kernel_rfl⟩
instance fv34_0 : FieldT Tryz.prog 34 0 3 0 := ⟨by kernel_rfl, by kernel_rfl⟩
instance fv34_1 : FieldT Tryz.prog 34 1 3 1 := ⟨by kernel_rfl, by kernel_rfl⟩
instance fv34_2 : FieldT Tryz.prog 34 2 22 2 := ⟨by kernel_rfl, by kernel_rfl⟩
instance fv34_3 : FieldT Tryz.prog 34 3 22 3 := ⟨by kernel_rfl, by kernel_rfl⟩
instance fv34_4 : FieldT Tryz.prog 34 4 31 4 := ⟨by kernel_rfl, by kernel_rfl⟩
instance fv34_5 : FieldT Tryz.prog 34 5 32 5 := ⟨by kernel_rfl, by kernel_rfl⟩
instance fi34_0 : FieldA Tryz.prog 34 0 0 := ⟨fun _ _ _ => by kernel_rfl⟩
instance fi34_1 : FieldA Tryz.prog 34 1 1 := ⟨fun _ _ _ => by kernel_rfl⟩
instance fi34_2 : FieldA Tryz.prog 34 2 2 := ⟨fun _ _ _ => by kernel_rfl⟩
instance fi34_3 : FieldA Tryz.prog 34 3 3 := ⟨fun _ _ _ => by kernel_rfl⟩
instance fi34_4 : FieldA Tryz.prog 34 4 4 := ⟨fun _ _ _ => by kernel_rfl⟩
instance fi34_5 : FieldA Tryz.prog 34 5 5 := ⟨fun _ _ _ => by kernel_rfl⟩
instance ze34 : ZeroA Tryz.prog 34 (Value.agg #[Value.int .i64 0, Value.int .i64 0, Value.int .u64 0, Value.int .u64 0, Value.slice none 0 0, Value.slice none 0 0]) := ⟨fun _ => by kernel_rfl⟩
instance in34 : InfoA Tryz.prog 34 (Value.agg #[Value.int .i64 0, Value.int .i64 0, Value.int .u64 0, Value.int .u64 0, Value.slice none 0 0, Value.slice none 0 0]) 6 80 := ⟨by kernel_rfl⟩
instance ty35 : TyA Tryz.prog 35 false 1 := ⟨fun _ => by kernel_rfl, fun _ => by kernel_rfl⟩
instance un35 : Und Tryz.prog 35 (.int .i64) := ⟨Tryz.underlying35⟩
instance ze35 : ZeroA Tryz.prog 35 (Value.int .i64 0) := ⟨fun _ => by kernel_rfl⟩
instance in35 : InfoA Tryz.prog 35 (Value.int .i64 0) 1 8 := ⟨by kernel_rfl⟩
instance ty36 : TyA Tryz.prog 36 false 1 := ⟨fun _ => by kernel_rfl, fun _ => by kernel_rfl⟩
instance un36 : Und Tryz.prog 36 (.slice 3) := ⟨Tryz.underlying36⟩
instance ze36 : ZeroA Tryz.prog 36 (Value.slice none 0 0) := ⟨fun _ => by kernel_rfl⟩
instance in36 : InfoA Tryz.prog 36 (Value.slice none 0 0) 1 24 := ⟨by kernel_rfl⟩
instance ty37 : TyA Tryz.prog 37 true 5 := ⟨fun _ => by kernel_rfl, fun _ => by kernel_rfl⟩
instance bu37 : BuildA Tryz.prog 37 [(0, 1), (1, 1), (2, 1), (3, 1), (4, 1)] := ⟨by kernel_rfl, by kernel_rfl⟩
instance fv37_0 : FieldT Tryz.prog 37 0 35 0 := ⟨by kernel_rfl, by kernel_rfl⟩
instance fv37_1 : FieldT Tryz.prog 37 1 4 1 := ⟨by kernel_rfl, by kernel_rfl⟩
instance fv37_2 : FieldT Tryz.prog 37 2 3 2 := ⟨by kernel_rfl, by kernel_rfl⟩
instance fv37_3 : FieldT Tryz.prog 37 3 22 3 := ⟨by kernel_rfl, by kernel_rfl⟩
instance fv37_4 : FieldT Tryz.prog 37 4 36 4 := ⟨by kernel_rfl, by kernel_rfl⟩
instance fi37_0 : FieldA Tryz.prog 37 0 0 := ⟨fun _ _ _ => by kernel_rfl⟩
instance fi37_1 : FieldA Tryz.prog 37 1 1 := ⟨fun _ _ _ => by kernel_rfl⟩
instance fi37_2 : FieldA Tryz.prog 37 2 2 := ⟨fun _ _ _ => by kernel_rfl⟩
instance fi37_3 : FieldA Tryz.prog 37 3 3 := ⟨fun _ _ _ => by kernel_rfl⟩
instance fi37_4 : FieldA Tryz.prog 37 4 4 := ⟨fun _ _ _ => by kernel_rfl⟩
instance ze37 : ZeroA Tryz.prog 37 (Value.agg #[Value.int .i64 0, Value.bool false, Value.int .i64 0, Value.int .u64 0, Value.slice none 0 0]) := ⟨fun _ => by kernel_rfl⟩
instance in37 : InfoA Tryz.prog 37 (Value.agg #[Value.int .i64 0, Value.bool false, Value.int .i64 0, Value.int .u64 0, Value.slice none 0 0]) 5 56 := ⟨by kernel_rfl⟩
instance ty38 : TyA Tryz.prog 38 true 5 := ⟨fun _ => by kernel_rfl, fun _ => by kernel_rfl⟩
instance bu38 : BuildA Tryz.prog 38 [(0, 1), (1, 1), (2, 1), (3, 1), (4, 1)] := ⟨by kernel_rfl, by kernel_rfl⟩
instance fv38_0 : FieldT Tryz.prog 38 0 35 0 := ⟨by kernel_rfl, by kernel_rfl⟩
instance fv38_1 : FieldT Tryz.prog 38 1 4 1 := ⟨by kernel_rfl, by kernel_rfl⟩
instance fv38_2 : FieldT Tryz.prog 38 2 3 2 := ⟨by kernel_rfl, by kernel_rfl⟩
instance fv38_3 : FieldT Tryz.prog 38 3 22 3 := ⟨by kernel_rfl, by kernel_rfl⟩
instance fv38_4 : FieldT Tryz.prog 38 4 36 4 := ⟨by kernel_rfl, by kernel_rfl⟩
instance fi38_0 : FieldA Tryz.prog 38 0 0 := ⟨fun _ _ _ => by kernel_rfl⟩
instance fi38_1 : FieldA Tryz.prog 38 1 1 := ⟨fun _ _ _ => by kernel_rfl⟩
instance fi38_2 : FieldA Tryz.prog 38 2 2 := ⟨fun _ _ _ => by kernel_rfl⟩
instance fi38_3 : FieldA Tryz.prog 38 3 3 := ⟨fun _ _ _ => by kernel_rfl⟩
instance fi38_4 : FieldA Tryz.prog 38 4 4 := ⟨fun _ _ _ => by kernel_rfl⟩
instance ze38 : ZeroA Tryz.prog 38 (Value.agg #[Value.int .i64 0, Value.bool false, Value.int .i64 0, Value.int .u64 0, Value.slice none 0 0]) := ⟨fun _ => by kernel_rfl⟩
instance in38 : InfoA Tryz.prog 38 (Value.agg #[Value.int .i64 0, Value.bool false, Value.int .i64 0, Value.int .u64 0, Value.slice none 0 0]) 5 56 := ⟨by kernel_rfl⟩
instance ty45 : TyA Tryz.prog 45 true 3 := ⟨fun _ => by kernel_rfl, fun _ => by kernel_rfl⟩
instance bu45 : BuildA Tryz.prog 45 [(0, 1), (1, 1), (2, 1)] := ⟨by kernel_rfl, by kernel_rfl⟩
instance fv45_0 : FieldT Tryz.prog 45 0 3 0 := ⟨by kernel_rfl, by kernel_rfl⟩
instance fv45_1 : FieldT Tryz.prog 45 1 3 1 := ⟨by kernel_rfl, by kernel_rfl⟩
instance fv45_2 : FieldT Tryz.prog 45 2 32 2 := ⟨by kernel_rfl, by kernel_rfl⟩
instance fi45_0 : FieldA Tryz.prog 45 0 0 := ⟨fun _ _ _ => by kernel_rfl⟩
instance fi45_1 : FieldA Tryz.prog 45 1 1 := ⟨fun _ _ _ => by kernel_rfl⟩
instance fi45_2 : FieldA Tryz.prog 45 2 2 := ⟨fun _ _ _ => by kernel_rfl⟩
instance ze45 : ZeroA Tryz.prog 45 (Value.agg #[Value.int .i64 0, Value.int .i64 0, Value.slice none 0 0]) := ⟨fun _ => by kernel_rfl⟩
instance in45 : InfoA Tryz.prog 45 (Value.agg #[Value.int .i64 0, Value.int .i64 0, Value.slice none 0 0]) 3 40 := ⟨by kernel_rfl⟩
instance ty46 : TyA Tryz.prog 46 true 3 := ⟨fun _ => by kernel_rfl, fun _ => by kernel_rfl⟩
instance bu46 : BuildA Tryz.prog 46 [(0, 1), (1, 1), (2, 1)] := ⟨by kernel_rfl, by kernel_rfl⟩
instance fv46_0 : FieldT Tryz.prog 46 0 3 0 := ⟨by kernel_rfl, by kernel_rfl⟩
instance fv46_1 : FieldT Tryz.prog 46 1 3 1 := ⟨by kernel_rfl, by kernel_rfl⟩
instance fv46_2 : FieldT Tryz.prog 46 2 32 2 := ⟨by kernel_rfl, by kernel_rfl⟩
instance fi46_0 : FieldA Tryz.prog 46 0 0 := ⟨fun _ _ _ => by kernel_rfl⟩
instance fi46_1 : FieldA Tryz.prog 46 1 1 := ⟨fun _ _ _ => by kernel_rfl⟩
instance fi46_2 : FieldA Tryz.prog 46 2 2 := ⟨fun _ _ _ => by kernel_rfl⟩
instance ze46 : ZeroA Tryz.prog 46 (Value.agg #[Value.int .i64 0, Value.int .i64 0, Value.slice none 0 0]) := ⟨fun _ => by kernel_rfl⟩
instance in46 : InfoA Tryz.prog 46 (Value.agg #[Value.int .i64 0, Value.int .i64 0, Value.slice none 0 0]) 3 40 := ⟨by kernel_rfl⟩
instance ty47 : TyA Tryz.prog 47 false 1 := ⟨fun _ => by kernel_rfl, fun _ => by kernel_rfl⟩
instance un47 : Und Tryz.prog 47 (.slice 57) := ⟨Tryz.underlying47⟩
instance ze47 : ZeroA Tryz.prog 47 (Value.slice none 0 0) := ⟨fun _ => by kernel_rfl⟩
instance in47 : InfoA Tryz.prog 47 (Value.slice none 0 0) 1 24 := ⟨by kernel_rfl⟩
instance ty48 : TyA Tryz.prog 48 true 2 := ⟨fun _ => by kernel_rfl, fun _ => by kernel_rfl⟩
instance un48 : Und Tryz.prog 48 (.array 2 47) := ⟨Tryz.underlying48⟩
instance ze48 : ZeroA Tryz.prog 48 (Value.agg #[Value.slice none 0 0, Value.slice none 0 0]) := ⟨fun _ => by kernel_rfl⟩
instance in48 : InfoA Tryz.prog 48 (Value.agg #[Value.slice none 0 0, Value.slice none 0 0]) 2 48 := ⟨by kernel_rfl⟩
instance ty49 : TyA Tryz.prog 49 true 3 := ⟨fun _ => by kernel_rfl, fun _ => by kernel_rfl⟩
instance bu49 : BuildA Tryz.prog 49 [(0, 1), (1, 2)] := ⟨by kernel_rfl, by kernel_rfl⟩
instance fv49_0 : FieldT Tryz.prog 49 0 22 0 := ⟨by kernel_rfl, by kernel_rfl⟩
instance fv49_1 : FieldT Tryz.prog 49 1 48 1 := ⟨by kernel_rfl, by kernel_rfl⟩
instance fi49_0 : FieldA Tryz.prog 49 0 0 := ⟨fun _ _ _ => by kernel_rfl⟩
instance fi49_1 : FieldA Tryz.prog 49 1 1 := ⟨fun _ _ _ => by kernel_rfl⟩
instance ze49 : ZeroA Tryz.prog 49 (Value.agg #[Value.int .u64 0, Value.slice none 0 0, Value.slice none 0 0]) := ⟨fun _ => by kernel_rfl⟩
instance in49 : InfoA Tryz.prog 49 (Value.agg #[Value.int .u64 0, Value.slice none 0 0, Value.slice none 0 0]) 3 56 := ⟨by kernel_rfl⟩
instance ty50 : TyA Tryz.prog 50 true 3 := ⟨fun _ => by kernel_rfl, fun _ => by kernel_rfl⟩
instance bu50 : BuildA Tryz.prog 50 [(0, 1), (1, 2)] := ⟨by kernel_rfl, by kernel_rfl⟩
instance fv50_0 : FieldT Tryz.prog 50 0 22 0 := ⟨by kernel_rfl, by kernel_rfl⟩
instance fv50_1 : FieldT Tryz.prog 50 1 48 1 := ⟨by kernel_rfl, by kernel_rfl⟩
instance fi50_0 : FieldA Tryz.prog 50 0 0 := ⟨fun _ _ _ => by kernel_rfl⟩
instance fi50_1 : FieldA Tryz.prog 50 1 1 := ⟨fun _ _ _ => by kernel_rfl⟩
instance ze50 : ZeroA Tryz.prog 50 (Value.agg #[Value.int .u64 0, Value.slice none 0 0, Value.slice none 0 0]) := ⟨fun _ => by kernel_rfl⟩
instance in50 : InfoA Tryz.prog 50 (Value.agg #[Value.int .u64 0, Value.slice none 0 0, Value.slice none 0 0]) 3 56 := ⟨by kernel_rfl⟩
instance ty51 : TyA Tryz.prog 51 true 6 := ⟨fun _ => by kernel_rfl, fun _ => by kernel_rfl⟩
instance bu51 : BuildA Tryz.prog 51 [(0, 3), (3, 3)] := ⟨by kernel_rfl, by kernel_rfl⟩
instance fv51_0 : FieldT Tryz.prog 51 0 46 0 := ⟨by kernel_rfl, by kernel_rfl⟩
instance fv51_1 : FieldT Tryz.prog 51 1 50 3 := ⟨by kernel_rfl, by kernel_rfl⟩
instance fi51_0 : FieldA Tryz.prog 51 0 0 := ⟨fun _ _ _ => by kernel_rfl⟩
instance fi51_1 : FieldA Tryz.prog 51 1 3 := ⟨fun _ _ _ => by kernel_rfl⟩
instance ze51 : ZeroA Tryz.prog 51 (Value.agg #[Value.int .i64 0, Value.int .i64 0, Value.slice none 0 0, Value.int .u64 0, Value.slice none 0 0, Value.slice none 0 0]) := ⟨fun _ => by kernel_rfl⟩
instance in51 : InfoA Tryz.prog 51 (Value.agg #[Value.int .i64 0, Value.int .i64 0, Value.slice none 0 0, Value.int .u64 0, Value.slice none 0 0, Value.slice none 0 0]) 6 96 := ⟨by kernel_rfl⟩
instance ty52 : TyA Tryz.prog 52 true 6 := ⟨fun _ => by kernel_rfl, fun _ => by kernel_rfl⟩
instance bu52 : BuildA Tryz.prog 52 [(0, 3), (3, 3)] := ⟨by kernel_rfl, by kernel_rfl⟩
instance fv52_0 : FieldT Tryz.prog 52 0 46 0 := ⟨by kernel_rfl, by kernel_rfl⟩
instance fv52_1 : FieldT Tryz.prog 52 1 50 3 := ⟨by kernel_rfl, by kernel_rfl⟩
instance fi52_0 : FieldA Tryz.prog 52 0 0 := ⟨fun _ _ _ => by kernel_rfl⟩
instance fi52_1 : FieldA Tryz.prog 52 1 3 := ⟨fun _ _ _ => by kernel_rfl⟩
instance ze52 : ZeroA Tryz.prog 52 (Value.agg #[Value.int .i64 0, Value.int .i64 0, Value.slice none 0 0, Value.int .u64 0, Value.slice none 0 0, Value.slice none 0 0]) := ⟨fun _ => by kernel_rfl⟩
instance in52 : InfoA Tryz.prog 52 (Value.agg #[Value.int .i64 0, Value.int .i64 0, Value.slice none 0 0, Value.int .u64 0, Value.slice none 0 0, Value.slice none 0 0]) 6 96 := ⟨by kernel_rfl⟩
instance ty56 : TyA Tryz.prog 56 true 2 := ⟨fun _ => by kernel_rfl, fun _ => by kernel_rfl⟩
instance bu56 : BuildA Tryz.prog 56 [(0, 1), (1, 1)] := ⟨by kernel_rfl, by kernel_rfl⟩
instance fv56_0 : FieldT Tryz.prog 56 0 31 0 := ⟨by kernel_rfl, by kernel_rfl⟩
instance fv56_1 : FieldT Tryz.prog 56 1 3 1 := ⟨by kernel_rfl, by kernel_rfl⟩
instance fi56_0 : FieldA Tryz.prog 56 0 0 := ⟨fun _ _ _ => by kernel_rfl⟩
instance fi56_1 : FieldA Tryz.prog 56 1 1 := ⟨fun _ _ _ => by kernel_rfl⟩
instance ze56 : ZeroA Tryz.prog 56 (Value.agg #[Value.slice none 0 0, Value.int .i64 0]) := ⟨fun _ => by kernel_rfl⟩
instance in56 : InfoA Tryz.prog 56 (Value.agg #[Value.slice none 0 0, Value.int .i64 0]) 2 32 := ⟨by kernel_rfl⟩
instance ty57 : TyA Tryz.prog 57 true 2 := ⟨fun _ => by kernel_rfl, fun _ => by kernel_rfl⟩
instance bu57 : BuildA Tryz.prog 57 [(0, 1), (1, 1)] := ⟨by kernel_rfl, by kernel_rfl⟩
instance fv57_0 : FieldT Tryz.prog 57 0 31 0 := ⟨by kernel_rfl, by kernel_rfl⟩
instance fv57_1 : FieldT Tryz.prog 57 1 3 1 := ⟨by kernel_rfl, by kernel_rfl⟩
instance fi57_0 : FieldA Tryz.prog 57 0 0 := ⟨fun _ _ _ => by kernel_rfl⟩
instance fi57_1 : FieldA Tryz.prog 57 1 1 := ⟨fun _ _ _ => by kernel_rfl⟩
instance ze57 : ZeroA Tryz.prog 57 (Value.agg #[Value.slice none 0 0, Value.int .i64 0]) := ⟨fun _ => by kernel_rfl⟩
instance in57 : InfoA Tryz.prog 57 (Value.agg #[Value.slice none 0 0, Value.int .i64 0]) 2 32 := ⟨by kernel_rfl⟩
instance ty58 : TyA Tryz.prog 58 false 1 := ⟨fun _ => by kernel_rfl, fun _ => by kernel_rfl⟩
instance un58 : Und Tryz.prog 58 (.slice 31) := ⟨Tryz.underlying58⟩
instance ze58 : ZeroA Tryz.prog 58 (Value.slice none 0 0) := ⟨fun _ => by kernel_rfl⟩
instance in58 : InfoA Tryz.prog 58 (Value.slice none 0 0) 1 24 := ⟨by kernel_rfl⟩
instance ty63 : TyA Tryz.prog 63 false 1 := ⟨fun _ => by kernel_rfl, fun _ => by kernel_rfl⟩
instance ze63 : ZeroA Tryz.prog 63 (Value.nilFunc) := ⟨fun _ => by kernel_rfl⟩
instance in63 : InfoA Tryz.prog 63 (Value.nilFunc) 1 8 := ⟨by kernel_rfl⟩
instance ty65 : TyA Tryz.prog 65 true 6 := ⟨fun _ => by kernel_rfl, fun _ => by kernel_rfl⟩
instance bu65 : BuildA Tryz.prog 65 [(0, 1), (1, 1), (2, 1), (3, 1), (4, 1), (5, 1)] := ⟨by kernel_rfl, by kernel_rfl⟩
instance eq65 : EqA Tryz.prog 65 6 := ⟨by kernel_rfl, by kernel_rfl, by kernel_rfl, by kernel_rfl, by kernel_rfl⟩
instance fv65_0 : FieldT Tryz.prog 65 0 3 0 := ⟨by kernel_rfl, by kernel_rfl⟩
instance fv65_1 : FieldT Tryz.prog 65 1 22 1 := ⟨by kernel_rfl, by kernel_rfl⟩
instance fv65_2 : FieldT Tryz.prog 65 2 22 2 := ⟨by kernel_rfl, by kernel_rfl⟩
instance fv65_3 : FieldT Tryz.prog 65 3 22 3 := ⟨by kernel_rfl, by kernel_rfl⟩
instance fv65_4 : FieldT Tryz.prog 65 4 22 4 := ⟨by kernel_rfl, by kernel_rfl⟩
instance fv65_5 : FieldT Tryz.prog 65 5 22 5 := ⟨by kernel_rfl, by kernel_rfl⟩
instance fi65_0 : FieldA Tryz.prog 65 0 0 := ⟨fun _ _ _ => by kernel_rfl⟩
instance fi65_1 : FieldA Tryz.prog 65 1 1 := ⟨fun _ _ _ => by kernel_rfl⟩
instance fi65_2 : FieldA Tryz.prog 65 2 2 := ⟨fun _ _ _ => by kernel_rfl⟩
instance fi65_3 : FieldA Tryz.prog 65 3 3 := ⟨fun _ _ _ => by kernel_rfl⟩
instance fi65_4 : FieldA Tryz.prog 65 4 4 := ⟨fun _ _ _ => by kernel_rfl⟩
instance fi65_5 : FieldA Tryz.prog 65 5 5 := ⟨fun _ _ _ => by kernel_rfl⟩
instance ze65 : ZeroA Tryz.prog 65 (Value.agg #[Value.int .i64 0, Value.int .u64 0, Value.int .u64 0, Value.int .u64 0, Value.int .u64 0, Value.int .u64 0]) := ⟨fun _ => by kernel_rfl⟩
instance in65 : InfoA Tryz.prog 65 (Value.agg #[Value.int .i64 0, Value.int .u64 0, Value.int .u64 0, Value.int .u64 0, Value.int .u64 0, Value.int .u64 0]) 6 48 := ⟨by kernel_rfl⟩
instance ty66 : TyA Tryz.prog 66 true 6 := ⟨fun _ => by kernel_rfl, fun _ => by kernel_rfl⟩
instance bu66 : BuildA Tryz.prog 66 [(0, 1), (1, 1), (2, 1), (3, 1), (4, 1), (5, 1)] := ⟨by kernel_rfl, by kernel_rfl⟩
instance eq66 : EqA Tryz.prog 66 6 := ⟨by kernel_rfl, by kernel_rfl, by kernel_rfl, by kernel_rfl, by kernel_rfl⟩
instance fv66_0 : FieldT Tryz.prog 66 0 3 0 := ⟨by kernel_rfl, by kernel_rfl⟩
instance fv66_1 : FieldT Tryz.prog 66 1 22 1 := ⟨by kernel_rfl, by kernel_rfl⟩
instance fv66_2 : FieldT Tryz.prog 66 2 22 2 := ⟨by kernel_rfl, by kernel_rfl⟩
instance fv66_3 : FieldT Tryz.prog 66 3 22 3 := ⟨by kernel_rfl, by kernel_rfl⟩
instance fv66_4 : FieldT Tryz.prog 66 4 22 4 := ⟨by kernel_rfl, by kernel_rfl⟩
instance fv66_5 : FieldT Tryz.prog 66 5 22 5 := ⟨by kernel_rfl, by kernel_rfl⟩
instance fi66_0 : FieldA Tryz.prog 66 0 0 := ⟨fun _ _ _ => by kernel_rfl⟩
instance fi66_1 : FieldA Tryz.prog 66 1 1 := ⟨fun _ _ _ => by kernel_rfl⟩
instance fi66_2 : FieldA Tryz.prog 66 2 2 := ⟨fun _ _ _ => by kernel_rfl⟩
instance fi66_3 : FieldA Tryz.prog 66 3 3 := ⟨fun _ _ _ => by kernel_rfl⟩
instance fi66_4 : FieldA Tryz.prog 66 4 4 := ⟨fun _ _ _ => by kernel_rfl⟩
instance fi66_5 : FieldA Tryz.prog 66 5 5 := ⟨fun _ _ _ => by kernel_rfl⟩
instance ze66 : ZeroA Tryz.prog 66 (Value.agg #[Value.int .i64 0, Value.int .u64 0, Value.int .u64 0, Value.int .u64 0, Value.int .u64 0, Value.int .u64 0]) := ⟨fun _ => by kernel_rfl⟩
instance in66 : InfoA Tryz.prog 66 (Value.agg #[Value.int .i64 0, Value.int .u64 0, Value.int .u64 0, Value.int .u64 0, Value.int .u64 0, Value.int .u64 0]) 6 48 := ⟨by kernel_rfl⟩
instance ty71 : TyA Tryz.prog 71 true 9 := ⟨fun _ => by kernel_rfl, fun _ => by kernel_rfl⟩
instance bu71 : BuildA Tryz.prog 71 [(0, 1), (1, 1), (2, 1), (3, 6)] := ⟨by kernel_rfl, by kernel_rfl⟩
instance fv71_0 : FieldT Tryz.prog 71 0 25 0 := ⟨by kernel_rfl, by kernel_rfl⟩
instance fv71_1 : FieldT Tryz.prog 71 1 3 1 := ⟨by kernel_rfl, by kernel_rfl⟩
instance fv71_2 : FieldT Tryz.prog 71 2 4 2 := ⟨by kernel_rfl, by kernel_rfl⟩
instance fv71_3 : FieldT Tryz.prog 71 3 34 3 := ⟨by kernel_rfl, by kernel_rfl⟩
instance fi71_0 : FieldA Tryz.prog 71 0 0 := ⟨fun _ _ _ => by kernel_rfl⟩
instance fi71_1 : FieldA Tryz.prog 71 1 1 := ⟨fun _ _ _ => by kernel_rfl⟩
instance fi71_2 : FieldA Tryz.prog 71 2 2 := ⟨fun _ _ _ => by kernel_rfl⟩
instance fi71_3 : FieldA Tryz.prog 71 3 3 := ⟨fun _ _ _ => by kernel_rfl⟩
instance ze71 : ZeroA Tryz.prog 71 (Value.agg #[Value.slice none 0 0, Value.int .i64 0, Value.bool false, Value.int .i64 0, Value.int .i64 0, Value.int .u64 0, Value.int .u64 0, Value.slice none 0 0, Value.slice none 0 0]) := ⟨fun _ => by kernel_rfl⟩
instance in71 : InfoA Tryz.prog 71 (Value.agg #[Value.slice none 0 0, Value.int .i64 0, Value.bool false, Value.int .i64 0, Value.int .i64 0, Value.int .u64 0, Value.int .u64 0, Value.slice none 0 0, Value.slice none 0 0]) 9 120 := ⟨by kernel_rfl⟩
instance ty72 : TyA Tryz.prog 72 true 9 := ⟨fun _ => by kernel_rfl, fun _ => by kernel_rfl⟩
instance bu72 : BuildA Tryz.prog 72 [(0, 1), (1, 1), (2, 1), (3, 6)] := ⟨by kernel_rfl, by kernel_rfl⟩
instance fv72_0 : FieldT Tryz.prog 72 0 25 0 := ⟨by kernel_rfl, by kernel_rfl⟩
instance fv72_1 : FieldT Tryz.prog 72 1 3 1 := ⟨by kernel_rfl, by kernel_rfl⟩
instance fv72_2 : FieldT Tryz.prog 72 2 4 2 := ⟨by kernel_rfl, by kernel_rfl⟩
instance fv72_3 : FieldT Tryz.prog 72 3 34 3 := ⟨by kernel_rfl, by kernel_rfl⟩
instance fi72_0 : FieldA Tryz.prog 72 0 0 := ⟨fun _ _ _ => by kernel_rfl⟩
instance fi72_1 : FieldA Tryz.prog 72 1 1 := ⟨fun _ _ _ => by kernel_rfl⟩
instance fi72_2 : FieldA Tryz.prog 72 2 2 := ⟨fun _ _ _ => by kernel_rfl⟩
instance fi72_3 : FieldA Tryz.prog 72 3 3 := ⟨fun _ _ _ => by kernel_rfl⟩
instance ze72 : ZeroA Tryz.prog 72 (Value.agg #[Value.slice none 0 0, Value.int .i64 0, Value.bool false, Value.int .i64 0, Value.int .i64 0, Value.int .u64 0, Value.int .u64 0, Value.slice none 0 0, Value.slice none 0 0]) := ⟨fun _ => by kernel_rfl⟩
instance in72 : InfoA Tryz.prog 72 (Value.agg #[Value.slice none 0 0, Value.int .i64 0, Value.bool false, Value.int .i64 0, Value.int .i64 0, Value.int .u64 0, Value.int .u64 0, Value.slice none 0 0, Value.slice none 0 0]) 9 120 := ⟨by kernel_rfl⟩
instance ty74 : TyA Tryz.prog 74 false 1 := ⟨fun _ => by kernel_rfl, fun _ => by kernel_rfl⟩
instance un74 : Und Tryz.prog 74 (.pointer 72) := ⟨Tryz.underlying74⟩
instance ze74 : ZeroA Tryz.prog 74 (Value.pointer none) := ⟨fun _ => by kernel_rfl⟩
instance in74 : InfoA Tryz.prog 74 (Value.pointer none) 1 8 := ⟨by kernel_rfl⟩
instance ty83 : TyA Tryz.prog 83 false 1 := ⟨fun _ => by kernel_rfl, fun _ => by kernel_rfl⟩
instance un83 : Und Tryz.prog 83 (.slice 4) := ⟨Tryz.underlying83⟩
instance ze83 : ZeroA Tryz.prog 83 (Value.slice none 0 0) := ⟨fun _ => by kernel_rfl⟩
instance in83 : InfoA Tryz.prog 83 (Value.slice none 0 0) 1 24 := ⟨by kernel_rfl⟩
instance ty84 : TyA Tryz.prog 84 true 3 := ⟨fun _ => by kernel_rfl, fun _ => by kernel_rfl⟩
instance bu84 : BuildA Tryz.prog 84 [(0, 1), (1, 1), (2, 1)] := ⟨by kernel_rfl, by kernel_rfl⟩
instance fv84_0 : FieldT Tryz.prog 84 0 22 0 := ⟨by kernel_rfl, by kernel_rfl⟩
instance fv84_1 : FieldT Tryz.prog 84 1 31 1 := ⟨by kernel_rfl, by kernel_rfl⟩
instance fv84_2 : FieldT Tryz.prog 84 2 4 2 := ⟨by kernel_rfl, by kernel_rfl⟩
instance fi84_0 : FieldA Tryz.prog 84 0 0 := ⟨fun _ _ _ => by kernel_rfl⟩
instance fi84_1 : FieldA Tryz.prog 84 1 1 := ⟨fun _ _ _ => by kernel_rfl⟩
instance fi84_2 : FieldA Tryz.prog 84 2 2 := ⟨fun _ _ _ => by kernel_rfl⟩
instance ze84 : ZeroA Tryz.prog 84 (Value.agg #[Value.int .u64 0, Value.slice none 0 0, Value.bool false]) := ⟨fun _ => by kernel_rfl⟩
instance in84 : InfoA Tryz.prog 84 (Value.agg #[Value.int .u64 0, Value.slice none 0 0, Value.bool false]) 3 40 := ⟨by kernel_rfl⟩
instance ty85 : TyA Tryz.prog 85 true 3 := ⟨fun _ => by kernel_rfl, fun _ => by kernel_rfl⟩
instance bu85 : BuildA Tryz.prog 85 [(0, 1), (1, 1), (2, 1)] := ⟨by kernel_rfl, by kernel_rfl⟩
instance fv85_0 : FieldT Tryz.prog 85 0 22 0 := ⟨by kernel_rfl, by kernel_rfl⟩
instance fv85_1 : FieldT Tryz.prog 85 1 31 1 := ⟨by kernel_rfl, by kernel_rfl⟩
instance fv85_2 : FieldT Tryz.prog 85 2 4 2 := ⟨by kernel_rfl, by kernel_rfl⟩
instance fi85_0 : FieldA Tryz.prog 85 0 0 := ⟨fun _ _ _ => by kernel_rfl⟩
instance fi85_1 : FieldA Tryz.prog 85 1 1 := ⟨fun _ _ _ => by kernel_rfl⟩
instance fi85_2 : FieldA Tryz.prog 85 2 2 := ⟨fun _ _ _ => by kernel_rfl⟩
instance ze85 : ZeroA Tryz.prog 85 (Value.agg #[Value.int .u64 0, Value.slice none 0 0, Value.bool false]) := ⟨fun _ => by kernel_rfl⟩
instance in85 : InfoA Tryz.prog 85 (Value.agg #[Value.int .u64 0, Value.slice none 0 0, Value.bool false]) 3 40 := ⟨by kernel_rfl⟩
instance ty90 : TyA Tryz.prog 90 true 6 := ⟨fun _ => by kernel_rfl, fun _ => by kernel_rfl⟩
instance bu90 : BuildA Tryz.prog 90 [(0, 6)] := ⟨by kernel_rfl, by kernel_rfl⟩
instance fv90_0 : FieldT Tryz.prog 90 0 34 0 := ⟨by kernel_rfl, by kernel_rfl⟩
instance fi90_0 : FieldA Tryz.prog 90 0 0 := ⟨fun _ _ _ => by kernel_rfl⟩
instance ze90 : ZeroA Tryz.prog 90 (Value.agg #[Value.int .i64 0, Value.int .i64 0, Value.int .u64 0, Value.int .u64 0, Value.slice none 0 0, Value.slice none 0 0]) := ⟨fun _ => by kernel_rfl⟩
instance in90 : InfoA Tryz.prog 90 (Value.agg #[Value.int .i64 0, Value.int .i64 0, Value.int .u64 0, Value.int .u64 0, Value.slice none 0 0, Value.slice none 0 0]) 6 80 := ⟨by kernel_rfl⟩
instance ty91 : TyA Tryz.prog 91 true 6 := ⟨fun _ => by kernel_rfl, fun _ => by kernel_rfl⟩
instance bu91 : BuildA Tryz.prog 91 [(0, 6)] := ⟨by kernel_rfl, by kernel_rfl⟩
instance fv91_0 : FieldT Tryz.prog 91 0 34 0 := ⟨by kernel_rfl, by kernel_rfl⟩
instance fi91_0 : FieldA Tryz.prog 91 0 0 := ⟨fun _ _ _ => by kernel_rfl⟩
instance ze91 : ZeroA Tryz.prog 91 (Value.agg #[Value.int .i64 0, Value.int .i64 0, Value.int .u64 0, Value.int .u64 0, Value.slice none 0 0, Value.slice none 0 0]) := ⟨fun _ => by kernel_rfl⟩
instance in91 : InfoA Tryz.prog 91 (Value.agg #[Value.int .i64 0, Value.int .i64 0, Value.int .u64 0, Value.int .u64 0, Value.slice none 0 0, Value.slice none 0 0]) 6 80 := ⟨by kernel_rfl⟩
instance ty95 : TyA Tryz.prog 95 true 2 := ⟨fun _ => by kernel_rfl, fun _ => by kernel_rfl⟩
instance bu95 : BuildA Tryz.prog 95 [(0, 1), (1, 1)] := ⟨by kernel_rfl, by kernel_rfl⟩
instance eq95 : EqA Tryz.prog 95 2 := ⟨by kernel_rfl, by kernel_rfl, by kernel_rfl, by kernel_rfl, by kernel_rfl⟩
instance fv95_0 : FieldT Tryz.prog 95 0 3 0 := ⟨by kernel_rfl, by kernel_rfl⟩
instance fv95_1 : FieldT Tryz.prog 95 1 22 1 := ⟨by kernel_rfl, by kernel_rfl⟩
instance fi95_0 : FieldA Tryz.prog 95 0 0 := ⟨fun _ _ _ => by kernel_rfl⟩
instance fi95_1 : FieldA Tryz.prog 95 1 1 := ⟨fun _ _ _ => by kernel_rfl⟩
instance ze95 : ZeroA Tryz.prog 95 (Value.agg #[Value.int .i64 0, Value.int .u64 0]) := ⟨fun _ => by kernel_rfl⟩
instance in95 : InfoA Tryz.prog 95 (Value.agg #[Value.int .i64 0, Value.int .u64 0]) 2 16 := ⟨by kernel_rfl⟩
instance ty96 : TyA Tryz.prog 96 true 12 := ⟨fun _ => by kernel_rfl, fun _ => by kernel_rfl⟩
instance un96 : Und Tryz.prog 96 (.array 6 95) := ⟨Tryz.underlying96⟩
instance ze96 : ZeroA Tryz.prog 96 (Value.agg #[Value.int .i64 0, Value.int .u64 0, Value.int .i64 0, Value.int .u64 0, Value.int .i64 0, Value.int .u64 0, Value.int .i64 0, Value.int .u64 0, Value.int .i64 0, Value.int .u64 0, Value.int .i64 0, Value.int .u64 0]) := ⟨fun _ => by kernel_rfl⟩
instance in96 : InfoA Tryz.prog 96 (Value.agg #[Value.int .i64 0, Value.int .u64 0, Value.int .i64 0, Value.int .u64 0, Value.int .i64 0, Value.int .u64 0, Value.int .i64 0, Value.int .u64 0, Value.int .i64 0, Value.int .u64 0, Value.int .i64 0, Value.int .u64 0]) 12 96 := ⟨by kernel_rfl⟩
instance ty118 : TyA Tryz.prog 118 false 1 := ⟨fun _ => by kernel_rfl, fun _ => by kernel_rfl⟩
instance un118 : Und Tryz.prog 118 (.int .u32) := ⟨Tryz.underlying118⟩
instance ze118 : ZeroA Tryz.prog 118 (Value.int .u32 0) := ⟨fun _ => by kernel_rfl⟩
instance in118 : InfoA Tryz.prog 118 (Value.int .u32 0) 1 4 := ⟨by kernel_rfl⟩
instance ty120 : TyA Tryz.prog 120 false 1 := ⟨fun _ => by kernel_rfl, fun _ => by kernel_rfl⟩
instance un120 : Und Tryz.prog 120 (.int .u64) := ⟨Tryz.underlying120⟩
instance ze120 : ZeroA Tryz.prog 120 (Value.int .u64 0) := ⟨fun _ => by kernel_rfl⟩
instance in120 : InfoA Tryz.prog 120 (Value.int .u64 0) 1 8 := ⟨by kernel_rfl⟩
instance ty132 : TyA Tryz.prog 132 false 1 := ⟨fun _ => by kernel_rfl, fun _ => by kernel_rfl⟩
instance un132 : Und Tryz.prog 132 (.slice 136) := ⟨Tryz.underlying132⟩
instance ze132 : ZeroA Tryz.prog 132 (Value.slice none 0 0) := ⟨fun _ => by kernel_rfl⟩
instance in132 : InfoA Tryz.prog 132 (Value.slice none 0 0) 1 24 := ⟨by kernel_rfl⟩
instance ty135 : TyA Tryz.prog 135 true 2 := ⟨fun _ => by kernel_rfl, fun _ => by kernel_rfl⟩
instance fv135_0 : FieldT Tryz.prog 135 0 3 0 := ⟨by kernel_rfl, by kernel_rfl⟩
instance fv135_1 : FieldT Tryz.prog 135 1 134 1 := ⟨by kernel_rfl, by kernel_rfl⟩
instance fi135_0 : FieldA Tryz.prog 135 0 0 := ⟨fun _ _ _ => by kernel_rfl⟩
instance fi135_1 : FieldA Tryz.prog 135 1 1 := ⟨fun _ _ _ => by kernel_rfl⟩
instance ze135 : ZeroA Tryz.prog 135 (Value.agg #[Value.int .i64 0, Value.nilFunc]) := ⟨fun _ => by kernel_rfl⟩
instance in135 : InfoA Tryz.prog 135 (Value.agg #[Value.int .i64 0, Value.nilFunc]) 2 16 := ⟨by kernel_rfl⟩
instance ty136 : TyA Tryz.prog 136 true 2 := ⟨fun _ => by kernel_rfl, fun _ => by kernel_rfl⟩
instance fv136_0 : FieldT Tryz.prog 136 0 3 0 := ⟨by kernel_rfl, by kernel_rfl⟩
instance fv136_1 : FieldT Tryz.prog 136 1 134 1 := ⟨by kernel_rfl, by kernel_rfl⟩
instance fi136_0 : FieldA Tryz.prog 136 0 0 := ⟨fun _ _ _ => by kernel_rfl⟩
instance fi136_1 : FieldA Tryz.prog 136 1 1 := ⟨fun _ _ _ => by kernel_rfl⟩
instance ze136 : ZeroA Tryz.prog 136 (Value.agg #[Value.int .i64 0, Value.nilFunc]) := ⟨fun _ => by kernel_rfl⟩
instance in136 : InfoA Tryz.prog 136 (Value.agg #[Value.int .i64 0, Value.nilFunc]) 2 16 := ⟨by kernel_rfl⟩
instance ty139 : TyA Tryz.prog 139 false 1 := ⟨fun _ => by kernel_rfl, fun _ => by kernel_rfl⟩
instance un139 : Und Tryz.prog 139 (.slice 34) := ⟨Tryz.underlying139⟩
instance ze139 : ZeroA Tryz.prog 139 (Value.slice none 0 0) := ⟨fun _ => by kernel_rfl⟩
instance in139 : InfoA Tryz.prog 139 (Value.slice none 0 0) 1 24 := ⟨by kernel_rfl⟩
instance ty149 : TyA Tryz.prog 149 false 1 := ⟨fun _ => by kernel_rfl, fun _ => by kernel_rfl⟩
instance un149 : Und Tryz.prog 149 (.slice 152) := ⟨Tryz.underlying149⟩
instance ze149 : ZeroA Tryz.prog 149 (Value.slice none 0 0) := ⟨fun _ => by kernel_rfl⟩
instance in149 : InfoA Tryz.prog 149 (Value.slice none 0 0) 1 24 := ⟨by kernel_rfl⟩
instance ty151 : TyA Tryz.prog 151 false 1 := ⟨fun _ => by kernel_rfl, fun _ => by kernel_rfl⟩
instance un151 : Und Tryz.prog 151 (.pointer 66) := ⟨Tryz.underlying151⟩
instance ze151 : ZeroA Tryz.prog 151 (Value.pointer none) := ⟨fun _ => by kernel_rfl⟩
instance in151 : InfoA Tryz.prog 151 (Value.pointer none) 1 8 := ⟨by kernel_rfl⟩
instance ty152 : TyA Tryz.prog 152 false 1 := ⟨fun _ => by kernel_rfl, fun _ => by kernel_rfl⟩
instance un152 : Und Tryz.prog 152 (.pointer 22) := ⟨Tryz.underlying152⟩
instance ze152 : ZeroA Tryz.prog 152 (Value.pointer none) := ⟨fun _ => by kernel_rfl⟩
instance in152 : InfoA Tryz.prog 152 (Value.pointer none) 1 8 := ⟨by kernel_rfl⟩
instance ty161 : TyA Tryz.prog 161 true 16 := ⟨fun _ => by kernel_rfl, fun _ => by kernel_rfl⟩
instance un161 : Und Tryz.prog 161 (.array 16 118) := ⟨Tryz.underlying161⟩
instance ze161 : ZeroA Tryz.prog 161 (Value.agg #[Value.int .u32 0, Value.int .u32 0, Value.int .u32 0, Value.int .u32 0, Value.int .u32 0, Value.int .u32 0, Value.int .u32 0, Value.int .u32 0, Value.int .u32 0, Value.int .u32 0, Value.int .u32 0, Value.int .u32 0, Value.int .u32 0, Value.int .u32 0, Value.int .u32 0, Value.int .u32 0]) := ⟨fun _ => by kernel_rfl⟩
instance in161 : InfoA Tryz.prog 161 (Value.agg #[Value.int .u32 0, Value.int .u32 0, Value.int .u32 0, Value.int .u32 0, Value.int .u32 0, Value.int .u32 0, Value.int .u32 0, Value.int .u32 0, Value.int .u32 0, Value.int .u32 0, Value.int .u32 0, Value.int .u32 0, Value.int .u32 0, Value.int .u32 0, Value.int .u32 0, Value.int .u32 0]) 16 64 := ⟨by kernel_rfl⟩
instance ty164 : TyA Tryz.prog 164 true 4 := ⟨fun _ => by kernel_rfl, fun _ => by kernel_rfl⟩
instance bu164 : BuildA Tryz.prog 164 [(0, 1), (1, 1), (2, 1), (3, 1)] := ⟨by kernel_rfl, by kernel_rfl⟩
instance fv164_0 : FieldT Tryz.prog 164 0 17 0 := ⟨by kernel_rfl, by kernel_rfl⟩
instance fv164_1 : FieldT Tryz.prog 164 1 17 1 := ⟨by kernel_rfl, by kernel_rfl⟩
instance fv164_2 : FieldT Tryz.prog 164 2 17 2 := ⟨by kernel_rfl, by kernel_rfl⟩
instance fv164_3 : FieldT Tryz.prog 164 3 9 3 := ⟨by kernel_rfl, by kernel_rfl⟩
instance fi164_0 : FieldA Tryz.prog 164 0 0 := ⟨fun _ _ _ => by kernel_rfl⟩
instance fi164_1 : FieldA Tryz.prog 164 1 1 := ⟨fun _ _ _ => by kernel_rfl⟩
instance fi164_2 : FieldA Tryz.prog 164 2 2 := ⟨fun _ _ _ => by kernel_rfl⟩
instance fi164_3 : FieldA Tryz.prog 164 3 3 := ⟨fun _ _ _ => by kernel_rfl⟩
instance ze164 : ZeroA Tryz.prog 164 (Value.agg #[Value.pointer none, Value.pointer none, Value.pointer none, Value.string ⟨#[]⟩]) := ⟨fun _ => by kernel_rfl⟩
instance in164 : InfoA Tryz.prog 164 (Value.agg #[Value.pointer none, Value.pointer none, Value.pointer none, Value.string ⟨#[]⟩]) 4 40 := ⟨by kernel_rfl⟩
instance ty165 : TyA Tryz.prog 165 true 4 := ⟨fun _ => by kernel_rfl, fun _ => by kernel_rfl⟩
instance bu165 : BuildA Tryz.prog 165 [(0, 1), (1, 1), (2, 1), (3, 1)] := ⟨by kernel_rfl, by kernel_rfl⟩
instance fv165_0 : FieldT Tryz.prog 165 0 17 0 := ⟨by kernel_rfl, by kernel_rfl⟩
instance fv165_1 : FieldT Tryz.prog 165 1 17 1 := ⟨by kernel_rfl, by kernel_rfl⟩
instance fv165_2 : FieldT Tryz.prog 165 2 17 2 := ⟨by kernel_rfl, by kernel_rfl⟩
instance fv165_3 : FieldT Tryz.prog 165 3 9 3 := ⟨by kernel_rfl, by kernel_rfl⟩
instance fi165_0 : FieldA Tryz.prog 165 0 0 := ⟨fun _ _ _ => by kernel_rfl⟩
instance fi165_1 : FieldA Tryz.prog 165 1 1 := ⟨fun _ _ _ => by kernel_rfl⟩
instance fi165_2 : FieldA Tryz.prog 165 2 2 := ⟨fun _ _ _ => by kernel_rfl⟩
instance fi165_3 : FieldA Tryz.prog 165 3 3 := ⟨fun _ _ _ => by kernel_rfl⟩
instance ze165 : ZeroA Tryz.prog 165 (Value.agg #[Value.pointer none, Value.pointer none, Value.pointer none, Value.string ⟨#[]⟩]) := ⟨fun _ => by kernel_rfl⟩
instance in165 : InfoA Tryz.prog 165 (Value.agg #[Value.pointer none, Value.pointer none, Value.pointer none, Value.string ⟨#[]⟩]) 4 40 := ⟨by kernel_rfl⟩
instance ty170 : TyA Tryz.prog 170 false 1 := ⟨fun _ => by kernel_rfl, fun _ => by kernel_rfl⟩
instance un170 : Und Tryz.prog 170 (.int .u8) := ⟨Tryz.underlying170⟩
instance ze170 : ZeroA Tryz.prog 170 (Value.int .u8 0) := ⟨fun _ => by kernel_rfl⟩
instance in170 : InfoA Tryz.prog 170 (Value.int .u8 0) 1 1 := ⟨by kernel_rfl⟩
instance ty171 : TyA Tryz.prog 171 false 1 := ⟨fun _ => by kernel_rfl, fun _ => by kernel_rfl⟩
instance un171 : Und Tryz.prog 171 (.int .u8) := ⟨Tryz.underlying171⟩
instance ze171 : ZeroA Tryz.prog 171 (Value.int .u8 0) := ⟨fun _ => by kernel_rfl⟩
instance in171 : InfoA Tryz.prog 171 (Value.int .u8 0) 1 1 := ⟨by kernel_rfl⟩
instance ty173 : TyA Tryz.prog 173 false 1 := ⟨fun _ => by kernel_rfl, fun _ => by kernel_rfl⟩
instance un173 : Und Tryz.prog 173 (.pointer 5) := ⟨Tryz.underlying173⟩
instance ze173 : ZeroA Tryz.prog 173 (Value.pointer none) := ⟨fun _ => by kernel_rfl⟩
instance in173 : InfoA Tryz.prog 173 (Value.pointer none) 1 8 := ⟨by kernel_rfl⟩
instance ty174 : TyA Tryz.prog 174 false 1 := ⟨fun _ => by kernel_rfl, fun _ => by kernel_rfl⟩
instance un174 : Und Tryz.prog 174 (.int .i32) := ⟨Tryz.underlying174⟩
instance ze174 : ZeroA Tryz.prog 174 (Value.int .i32 0) := ⟨fun _ => by kernel_rfl⟩
instance in174 : InfoA Tryz.prog 174 (Value.int .i32 0) 1 4 := ⟨by kernel_rfl⟩
instance ty175 : TyA Tryz.prog 175 false 1 := ⟨fun _ => by kernel_rfl, fun _ => by kernel_rfl⟩
instance un175 : Und Tryz.prog 175 (.int .i32) := ⟨Tryz.underlying175⟩
instance ze175 : ZeroA Tryz.prog 175 (Value.int .i32 0) := ⟨fun _ => by kernel_rfl⟩
instance in175 : InfoA Tryz.prog 175 (Value.int .i32 0) 1 4 := ⟨by kernel_rfl⟩
instance ty176 : TyA Tryz.prog 176 true 11 := ⟨fun _ => by kernel_rfl, fun _ => by kernel_rfl⟩
instance fv176_0 : FieldT Tryz.prog 176 0 12 0 := ⟨by kernel_rfl, by kernel_rfl⟩
instance fv176_1 : FieldT Tryz.prog 176 1 12 1 := ⟨by kernel_rfl, by kernel_rfl⟩
instance fv176_2 : FieldT Tryz.prog 176 2 118 2 := ⟨by kernel_rfl, by kernel_rfl⟩
instance fv176_3 : FieldT Tryz.prog 176 3 170 3 := ⟨by kernel_rfl, by kernel_rfl⟩
instance fv176_4 : FieldT Tryz.prog 176 4 5 4 := ⟨by kernel_rfl, by kernel_rfl⟩
instance fv176_5 : FieldT Tryz.prog 176 5 5 5 := ⟨by kernel_rfl, by kernel_rfl⟩
instance fv176_6 : FieldT Tryz.prog 176 6 171 6 := ⟨by kernel_rfl, by kernel_rfl⟩
instance fv176_7 : FieldT Tryz.prog 176 7 172 7 := ⟨by kernel_rfl, by kernel_rfl⟩
instance fv176_8 : FieldT Tryz.prog 176 8 173 8 := ⟨by kernel_rfl, by kernel_rfl⟩
instance fv176_9 : FieldT Tryz.prog 176 9 174 9 := ⟨by kernel_rfl, by kernel_rfl⟩
instance fv176_10 : FieldT Tryz.prog 176 10 175 10 := ⟨by kernel_rfl, by kernel_rfl⟩
instance fi176_0 : FieldA Tryz.prog 176 0 0 := ⟨fun _ _ _ => by kernel_rfl⟩
instance fi176_1 : FieldA Tryz.prog 176 1 1 := ⟨fun _ _ _ => by kernel_rfl⟩
instance fi176_2 : FieldA Tryz.prog 176 2 2 := ⟨fun _ _ _ => by kernel_rfl⟩
instance fi176_3 : FieldA Tryz.prog 176 3 3 := ⟨fun _ _ _ => by kernel_rfl⟩
instance fi176_4 : FieldA Tryz.prog 176 4 4 := ⟨fun _ _ _ => by kernel_rfl⟩
instance fi176_5 : FieldA Tryz.prog 176 5 5 := ⟨fun _ _ _ => by kernel_rfl⟩
instance fi176_6 : FieldA Tryz.prog 176 6 6 := ⟨fun _ _ _ => by kernel_rfl⟩
instance fi176_7 : FieldA Tryz.prog 176 7 7 := ⟨fun _ _ _ => by kernel_rfl⟩
instance fi176_8 : FieldA Tryz.prog 176 8 8 := ⟨fun _ _ _ => by kernel_rfl⟩
instance fi176_9 : FieldA Tryz.prog 176 9 9 := ⟨fun _ _ _ => by kernel_rfl⟩
instance fi176_10 : FieldA Tryz.prog 176 10 10 := ⟨fun _ _ _ => by kernel_rfl⟩
instance ze176 : ZeroA Tryz.prog 176 (Value.agg #[Value.int .u64 0, Value.int .u64 0, Value.int .u32 0, Value.int .u8 0, Value.int .u8 0, Value.int .u8 0, Value.int .u8 0, Value.nilFunc, Value.pointer none, Value.int .i32 0, Value.int .i32 0]) := ⟨fun _ => by kernel_rfl⟩
instance in176 : InfoA Tryz.prog 176 (Value.agg #[Value.int .u64 0, Value.int .u64 0, Value.int .u32 0, Value.int .u8 0, Value.int .u8 0, Value.int .u8 0, Value.int .u8 0, Value.nilFunc, Value.pointer none, Value.int .i32 0, Value.int .i32 0]) 11 48 := ⟨by kernel_rfl⟩
instance ty177 : TyA Tryz.prog 177 true 11 := ⟨fun _ => by kernel_rfl, fun _ => by kernel_rfl⟩
instance fv177_0 : FieldT Tryz.prog 177 0 12 0 := ⟨by kernel_rfl, by kernel_rfl⟩
instance fv177_1 : FieldT Tryz.prog 177 1 12 1 := ⟨by kernel_rfl, by kernel_rfl⟩
instance fv177_2 : FieldT Tryz.prog 177 2 118 2 := ⟨by kernel_rfl, by kernel_rfl⟩
instance fv177_3 : FieldT Tryz.prog 177 3 170 3 := ⟨by kernel_rfl, by kernel_rfl⟩
instance fv177_4 : FieldT Tryz.prog 177 4 5 4 := ⟨by kernel_rfl, by kernel_rfl⟩
instance fv177_5 : FieldT Tryz.prog 177 5 5 5 := ⟨by kernel_rfl, by kernel_rfl⟩
instance fv177_6 : FieldT Tryz.prog 177 6 171 6 := ⟨by kernel_rfl, by kernel_rfl⟩
instance fv177_7 : FieldT Tryz.prog 177 7 172 7 := ⟨by kernel_rfl, by kernel_rfl⟩
instance fv177_8 : FieldT Tryz.prog 177 8 173 8 := ⟨by kernel_rfl, by kernel_rfl⟩
instance fv177_9 : FieldT Tryz.prog 177 9 174 9 := ⟨by kernel_rfl, by kernel_rfl⟩
instance fv177_10 : FieldT Tryz.prog 177 10 175 10 := ⟨by kernel_rfl, by kernel_rfl⟩
instance fi177_0 : FieldA Tryz.prog 177 0 0 := ⟨fun _ _ _ => by kernel_rfl⟩
instance fi177_1 : FieldA Tryz.prog 177 1 1 := ⟨fun _ _ _ => by kernel_rfl⟩
instance fi177_2 : FieldA Tryz.prog 177 2 2 := ⟨fun _ _ _ => by kernel_rfl⟩
instance fi177_3 : FieldA Tryz.prog 177 3 3 := ⟨fun _ _ _ => by kernel_rfl⟩
instance fi177_4 : FieldA Tryz.prog 177 4 4 := ⟨fun _ _ _ => by kernel_rfl⟩
instance fi177_5 : FieldA Tryz.prog 177 5 5 := ⟨fun _ _ _ => by kernel_rfl⟩
instance fi177_6 : FieldA Tryz.prog 177 6 6 := ⟨fun _ _ _ => by kernel_rfl⟩
instance fi177_7 : FieldA Tryz.prog 177 7 7 := ⟨fun _ _ _ => by kernel_rfl⟩
instance fi177_8 : FieldA Tryz.prog 177 8 8 := ⟨fun _ _ _ => by kernel_rfl⟩
instance fi177_9 : FieldA Tryz.prog 177 9 9 := ⟨fun _ _ _ => by kernel_rfl⟩
instance fi177_10 : FieldA Tryz.prog 177 10 10 := ⟨fun _ _ _ => by kernel_rfl⟩
instance ze177 : ZeroA Tryz.prog 177 (Value.agg #[Value.int .u64 0, Value.int .u64 0, Value.int .u32 0, Value.int .u8 0, Value.int .u8 0, Value.int .u8 0, Value.int .u8 0, Value.nilFunc, Value.pointer none, Value.int .i32 0, Value.int .i32 0]) := ⟨fun _ => by kernel_rfl⟩
instance in177 : InfoA Tryz.prog 177 (Value.agg #[Value.int .u64 0, Value.int .u64 0, Value.int .u32 0, Value.int .u8 0, Value.int .u8 0, Value.int .u8 0, Value.int .u8 0, Value.nilFunc, Value.pointer none, Value.int .i32 0, Value.int .i32 0]) 11 48 := ⟨by kernel_rfl⟩
instance hf3 : HasFn Tryz.prog 3 := ⟨fun _ _ => by kernel_rfl⟩
instance hf4 : HasFn Tryz.prog 4 := ⟨fun _ _ => by kernel_rfl⟩
instance hf5 : HasFn Tryz.prog 5 := ⟨fun _ _ => by kernel_rfl⟩
instance hf6 : HasFn Tryz.prog 6 := ⟨fun _ _ => by kernel_rfl⟩
instance hf7 : HasFn Tryz.prog 7 := ⟨fun _ _ => by kernel_rfl⟩
instance hf8 : HasFn Tryz.prog 8 := ⟨fun _ _ => by kernel_rfl⟩
instance hf9 : HasFn Tryz.prog 9 := ⟨fun _ _ => by kernel_rfl⟩
instance hf10 : HasFn Tryz.prog 10 := ⟨fun _ _ => by kernel_rfl⟩
instance hf11 : HasFn Tryz.prog 11 := ⟨fun _ _ => by kernel_rfl⟩
instance hf12 : HasFn Tryz.prog 12 := ⟨fun _ _ => by kernel_rfl⟩
instance hf13 : HasFn Tryz.prog 13 := ⟨fun _ _ => by kernel_rfl⟩
instance hf14 : HasFn Tryz.prog 14 := ⟨fun _ _ => by kernel_rfl⟩
instance hf15 : HasFn Tryz.prog 15 := ⟨fun _ _ => by kernel_rfl⟩
instance hf16 : HasFn Tryz.prog 16 := ⟨fun _ _ => by kernel_rfl⟩
instance hf17 : HasFn Tryz.prog 17 := ⟨fun _ _ => by kernel_rfl⟩
instance hf18 : HasFn Tryz.prog 18 := ⟨fun _ _ => by kernel_rfl⟩
instance hf19 : HasFn Tryz.prog 19 := ⟨fun _ _ => by kernel_rfl⟩
instance hf20 : HasFn Tryz.prog 20 := ⟨fun _ _ => by kernel_rfl⟩
instance hf21 : HasFn Tryz.prog 21 := ⟨fun _ _ => by kernel_rfl⟩
instance hf22 : HasFn Tryz.prog 22 := ⟨fun _ _ => by kernel_rfl⟩
instance hf23 : HasFn Tryz.prog 23 := ⟨fun _ _ => by kernel_rfl⟩
instance hf24 : HasFn Tryz.prog 24 := ⟨fun _ _ => by kernel_rfl⟩
instance hf25 : HasFn Tryz.prog 25 := ⟨fun _ _ => by kernel_rfl⟩
instance hf26 : HasFn Tryz.prog 26 := ⟨fun _ _ => by kernel_rfl⟩
instance hf27 : HasFn Tryz.prog 27 := ⟨fun _ _ => by kernel_rfl⟩
instance hf28 : HasFn Tryz.prog 28 := ⟨fun _ _ => by kernel_rfl⟩
instance hf29 : HasFn Tryz.prog 29 := ⟨fun _ _ => by kernel_rfl⟩
instance hf30 : HasFn Tryz.prog 30 := ⟨fun _ _ => by kernel_rfl⟩
instance hf31 : HasFn Tryz.prog 31 := ⟨fun _ _ => by kernel_rfl⟩
instance hf32 : HasFn Tryz.prog 32 := ⟨fun _ _ => by kernel_rfl⟩
instance hf33 : HasFn Tryz.prog 33 := ⟨fun _ _ => by kernel_rfl⟩
instance hf34 : HasFn Tryz.prog 34 := ⟨fun _ _ => by kernel_rfl⟩
instance hf35 : HasFn Tryz.prog 35 := ⟨fun _ _ => by kernel_rfl⟩
instance hf36 : HasFn Tryz.prog 36 := ⟨fun _ _ => by kernel_rfl⟩
instance hf37 : HasFn Tryz.prog 37 := ⟨fun _ _ => by kernel_rfl⟩
instance hf38 : HasFn Tryz.prog 38 := ⟨fun _ _ => by kernel_rfl⟩
instance hf39 : HasFn Tryz.prog 39 := ⟨fun _ _ => by kernel_rfl⟩
instance hf40 : HasFn Tryz.prog 40 := ⟨fun _ _ => by kernel_rfl⟩
instance hf41 : HasFn Tryz.prog 41 := ⟨fun _ _ => by kernel_rfl⟩
instance hf42 : HasFn Tryz.prog 42 := ⟨fun _ _ => by kernel_rfl⟩
instance hf43 : HasFn Tryz.prog 43 := ⟨fun _ _ => by kernel_rfl⟩
instance hf44 : HasFn Tryz.prog 44 := ⟨fun _ _ => by kernel_rfl⟩
instance hf45 : HasFn Tryz.prog 45 := ⟨fun _ _ => by kernel_rfl⟩
instance hf46 : HasFn Tryz.prog 46 := ⟨fun _ _ => by kernel_rfl⟩
instance hf47 : HasFn Tryz.prog 47 := ⟨fun _ _ => by kernel_rfl⟩
instance hf48 : HasFn Tryz.prog 48 := ⟨fun _ _ => by kernel_rfl⟩
instance hf49 : HasFn Tryz.prog 49 := ⟨fun _ _ => by kernel_rfl⟩
instance hf50 : HasFn Tryz.prog 50 := ⟨fun _ _ => by kernel_rfl⟩
instance hf51 : HasFn Tryz.prog 51 := ⟨fun _ _ => by kernel_rfl⟩
instance hf52 : HasFn Tryz.prog 52 := ⟨fun _ _ => by kernel_rfl⟩
instance hf53 : HasFn Tryz.prog 53 := ⟨fun _ _ => by kernel_rfl⟩
instance hf54 : HasFn Tryz.prog 54 := ⟨fun _ _ => by kernel_rfl⟩
instance hf55 : HasFn Tryz.prog 55 := ⟨fun _ _ => by kernel_rfl⟩
instance hf56 : HasFn Tryz.prog 56 := ⟨fun _ _ => by kernel_rfl⟩
instance hf57 : HasFn Tryz.prog 57 := ⟨fun _ _ => by kernel_rfl⟩
instance hf58 : HasFn Tryz.prog 58 := ⟨fun _ _ => by kernel_rfl⟩
instance hf59 : HasFn Tryz.prog 59 := ⟨fun _ _ => by kernel_rfl⟩
instance hf60 : HasFn Tryz.prog 60 := ⟨fun _ _ => by kernel_rfl⟩
instance hf61 : HasFn Tryz.prog 61 := ⟨fun _ _ => by kernel_rfl⟩
instance hf62 : HasFn Tryz.prog 62 := ⟨fun _ _ => by kernel_rfl⟩
instance hf63 : HasFn Tryz.prog 63 := ⟨fun _ _ => by kernel_rfl⟩
instance hf64 : HasFn Tryz.prog 64 := ⟨fun _ _ => by kernel_rfl⟩
instance hf65 : HasFn Tryz.prog 65 := ⟨fun _ _ => by kernel_rfl⟩
instance hf66 : HasFn Tryz.prog 66 := ⟨fun _ _ => by kernel_rfl⟩
instance hf67 : HasFn Tryz.prog 67 := ⟨fun _ _ => by kernel_rfl⟩
instance hf68 : HasFn Tryz.prog 68 := ⟨fun _ _ => by kernel_rfl⟩
instance hf69 : HasFn Tryz.prog 69 := ⟨fun _ _ => by kernel_rfl⟩
instance hf70 : HasFn Tryz.prog 70 := ⟨fun _ _ => by kernel_rfl⟩
instance hf71 : HasFn Tryz.prog 71 := ⟨fun _ _ => by kernel_rfl⟩
instance hf72 : HasFn Tryz.prog 72 := ⟨fun _ _ => by kernel_rfl⟩
instance hf73 : HasFn Tryz.prog 73 := ⟨fun _ _ => by kernel_rfl⟩
instance hf74 : HasFn Tryz.prog 74 := ⟨fun _ _ => by kernel_rfl⟩
instance hf75 : HasFn Tryz.prog 75 := ⟨fun _ _ => by kernel_rfl⟩
instance hf76 : HasFn Tryz.prog 76 := ⟨fun _ _ => by kernel_rfl⟩
instance hf77 : HasFn Tryz.prog 77 := ⟨fun _ _ => by kernel_rfl⟩
instance hf78 : HasFn Tryz.prog 78 := ⟨fun _ _ => by kernel_rfl⟩
instance hf79 : HasFn Tryz.prog 79 := ⟨fun _ _ => by kernel_rfl⟩
instance hf80 : HasFn Tryz.prog 80 := ⟨fun _ _ => by kernel_rfl⟩
instance hf81 : HasFn Tryz.prog 81 := ⟨fun _ _ => by kernel_rfl⟩
instance hf82 : HasFn Tryz.prog 82 := ⟨fun _ _ => by kernel_rfl⟩
instance hf83 : HasFn Tryz.prog 83 := ⟨fun _ _ => by kernel_rfl⟩
instance hf84 : HasFn Tryz.prog 84 := ⟨fun _ _ => by kernel_rfl⟩
instance hf85 : HasFn Tryz.prog 85 := ⟨fun _ _ => by kernel_rfl⟩
instance hf86 : HasFn Tryz.prog 86 := ⟨fun _ _ => by kernel_rfl⟩
instance hf87 : HasFn Tryz.prog 87 := ⟨fun _ _ => by kernel_rfl⟩
instance hf88 : HasFn Tryz.prog 88 := ⟨fun _ _ => by kernel_rfl⟩
instance hf89 : HasFn Tryz.prog 89 := ⟨fun _ _ => by kernel_rfl⟩
instance hf90 : HasFn Tryz.prog 90 := ⟨fun _ _ => by kernel_rfl⟩
instance hf91 : HasFn Tryz.prog 91 := ⟨fun _ _ => by kernel_rfl⟩
instance hf92 : HasFn Tryz.prog 92 := ⟨fun _ _ => by kernel_rfl⟩
instance hf93 : HasFn Tryz.prog 93 := ⟨fun _ _ => by kernel_rfl⟩
instance hf94 : HasFn Tryz.prog 94 := ⟨fun _ _ => by kernel_rfl⟩
instance hf95 : HasFn Tryz.prog 95 := ⟨fun _ _ => by kernel_rfl⟩
instance hf96 : HasFn Tryz.prog 96 := ⟨fun _ _ => by kernel_rfl⟩
instance hf97 : HasFn Tryz.prog 97 := ⟨fun _ _ => by kernel_rfl⟩
instance hf98 : HasFn Tryz.prog 98 := ⟨fun _ _ => by kernel_rfl⟩
instance hf99 : HasFn Tryz.prog 99 := ⟨fun _ _ => by kernel_rfl⟩
instance hf100 : HasFn Tryz.prog 100 := ⟨fun _ _ => by kernel_rfl⟩
instance hf101 : HasFn Tryz.prog 101 := ⟨fun _ _ => by kernel_rfl⟩
instance hf102 : HasFn Tryz.prog 102 := ⟨fun _ _ => by kernel_rfl⟩
instance hf103 : HasFn Tryz.prog 103 := ⟨fun _ _ => by kernel_rfl⟩
instance hf104 : HasFn Tryz.prog 104 := ⟨fun _ _ => by kernel_rfl⟩
instance hf105 : HasFn Tryz.prog 105 := ⟨fun _ _ => by kernel_rfl⟩
instance hf107 : HasFn Tryz.prog 107 := ⟨fun _ _ => by kernel_rfl⟩
instance hf108 : HasFn Tryz.prog 108 := ⟨fun _ _ => by kernel_rfl⟩
instance hf109 : HasFn Tryz.prog 109 := ⟨fun _ _ => by kernel_rfl⟩
instance hf129 : HasFn Tryz.prog 129 := ⟨fun _ _ => by kernel_rfl⟩
end Go.Proofs.YtlfkofkdigmnpaaGreatDoor
