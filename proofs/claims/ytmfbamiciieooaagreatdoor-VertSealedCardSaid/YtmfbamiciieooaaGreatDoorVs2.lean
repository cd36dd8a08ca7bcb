/- Of a sealed store each operation of a vertex that may be is answered so, by one access, and turns nothing; one of a key that may not be by none. (Part 2 of 9.) -/
import Derived.Test.YtmfbamiciieooaaGreatDoorVs1
/- More rules in the form that the walk takes; and functions whose results lie in cells, or are to be frozen. Generic over the program. -/
namespace Go.Proofs.YtmfbamiciieooaaGreatDoor
set_option maxRecDepth 100000
set_option maxHeartbeats 16000000
open Go Go.RowKit
class BuildA (P : Program) (t : Nat) (pl : outParam (List (Nat × Nat))) : Prop where
  st : P.underlying t = some (.struct (P.fieldsOf t))
  pl : (P.fieldsOf t).toList.map (fun f => (P.info? f.type).map fun i => (f.offset, i.size)) = pl.map some
class EqA (P : Program) (t : Nat) (m : outParam Nat) : Prop where
  st : P.underlying t = some (.struct (P.fieldsOf t))
  held : P.stoodInHeld t = false
  guard : P.eqGuardType P.depth t = false
  flat : flatInts P (P.fieldsOf t).toList 0 = true
  len : (P.fieldsOf t).toList.length = m
theorem run_places {P : Program} {w : World} : ∀ (fs : List Field) (pl : List (Nat × Nat)), fs.map (fun f => (P.info? f.type).map fun i => (f.offset, i.size)) = pl.map some →
    (List.mapM (fun f => do pure (f.offset, ← sizeOf f.type)) fs : Sem (List (Nat × Nat))).run P w = .ok pl w
  | [], pl, h => by
    cases pl with
    | nil => simp
    | cons p r => simp at h
  | f :: fs, pl, h => by
    cases pl with
    | nil => simp at h
    | cons p r =>
      simp only [List.map_cons, List.cons.injEq] at h
      obtain ⟨h1, h2⟩ := h
      obtain ⟨i, hi, rfl⟩ := Option.map_eq_some_iff.1 h1
      have ih := run_places (P := P) (w := w) fs r h2
      have hs : (sizeOf f.type).run P w = .ok i.size w := by simp [sizeOf, typeInfo, hi]
      simp only [List.mapM_cons, Sem.run_bind, Sem.run_pure, hs, ih, Result.andThen_ok]
theorem run_build {P : Program} {t : Nat} {pl : List (Nat × Nat)} {z : Value} [hb : BuildA P t pl] [hz : ZeroA P t z] (parts : List (Nat × Value)) (w : World) (cells : Array Value) (h : Instr.fill (fun i => pl[i]?) z.cells.toList.toArray parts = some cells) :
    (Instr.build t parts.toArray).run P w = .ok (.agg cells) w := by
  have h1 := run_places (w := w) _ pl hb.pl
  have h2 : (Array.mapM (fun f => do pure (f.offset, ← sizeOf f.type)) (P.fieldsOf t) : Sem (Array (Nat × Nat))).run P w = .ok pl.toArray w := by
    rw [Array.mapM_eq_mapM_toList]
    simp only [Sem.run_map, h1]
    rfl
  unfold Instr.build
  simp only [Sem.run_bind, hz.h, Result.andThen_ok, run_underlying hb.st, h2]
  have e : (fun i : Nat => pl.toArray[i]?) = fun i : Nat => pl[i]? := by funext i; simp
  rw [Array.toArray_toList] at h
  rw [e, h]
  rfl
section
variable {P : Program} {n : Nat} {o : Oper} {S : AS} {d : Nat} {t : TypeId} {x y : Operand}
theorem w_build {ps : Array (Nat × Operand)} {pl : List (Nat × Nat)} {z : Value} {zs : List AV} {cs : List PV} [hb : BuildA P t pl] [hz : ZeroA P t z] (ho : o.op = .build t ps) (h1 : z.cells.toList.all (fun u => u.oneCell') = true)
    (hk : ps.toList.all (fun p => (S.get p.2).vU) = true)
    (hf : fillA (fun i => pl[i]?) (z.cells.toList.map fun u => .p (.val u)) (ps.toList.map fun p => (p.1, S.get p.2)) = some zs) (hp : pures zs = some cs) (hd : o.dst = some d) (hn : d < n) : zX P n o S [] (.p (.agg cs)) none :=
  a_build ho (fun parts w cells h => run_build parts w cells h) (fun u hu => List.all_eq_true.1 h1 u hu) hk hf (qC hp) hd hn
theorem zeros_eq (z : Array Value) (len : Nat) : ((Array.range len).map (z[· % z.size]!)) = ((List.range len).map (z[· % z.size]!)).toArray := by
  apply Array.ext'
  simp [Array.toList_range]
theorem w_buildSlice {ps : Array (Nat × Operand)} {len e sz by_ : Nat} {z : Value} {zs : List AV} [ht : Und P t (.slice e)] [hi : InfoA P e z sz by_] (ho : o.op = .buildSlice t len ps)
    (hl : len ≤ maxLen) (hsmall : ¬ len * sz > 2 ^ 24) (hpos : ¬ len * sz = 0) (hz : ((List.range (len * sz)).map (z.cells[· % z.cells.size]!)).all (fun u => u.oneCell') = true) (hk : ps.toList.all (fun p => (S.get p.2).vU) = true)
    (hf : fillA (fun i => some (i * sz, sz)) (((List.range (len * sz)).map (z.cells[· % z.cells.size]!)).map fun u => .p (.val u)) (ps.toList.map fun p => (p.1, S.get p.2)) = some zs) (hlen : zs.length = len * sz) (hd : o.dst = some d) (hn : d < n) :
    zX P n o S [] (.own d) (some (.row e sz len zs)) := by
  obtain ⟨i, hi1, hi2⟩ := Option.map_eq_some_iff.1 hi.h
  simp only [Prod.mk.injEq] at hi2
  obtain ⟨hzi, hisz, _⟩ := hi2
  subst hisz
  exact a_buildSlice ho (fun parts w cells h => run_buildSlice w t e len _ cells i z ht.h hi1 hzi hsmall hpos (by rw [zeros_eq]; exact h)) hl (fun u hu => List.all_eq_true.1 hz u hu) hk hf hlen hd hn
theorem yT {id off m : Nat} {b : Blk} {av : AV} {agg : Bool} [h : TyA P t agg m] (ho : o.op = .store t x y) (hx : S.get x = .ptr id off) (hb : S.blk id = some b) (hy : S.get y = av) (hk : av.vU = true)
    (hlen : av.xH.length = m) (hle : off + m ≤ b.xs.length) (hlb : b.lentB = false) (hd : o.dst = none) : Step P n o S { S with s := putL S.s id (b.setXs (splice b.xs off av.xH)) } :=
  s_store ho hx hb hy hk h.sz hlen hle hlb hd
theorem w_appendP {id e sz by_ m : Nat} {z : Value} {xs : List AV} {es : List PV} [ht : Und P t (.slice e)] [hi : InfoA P e z sz by_] (ho : o.op = .call { callee := .builtin .append, args := #[x, y], argTypes := #[t, t] }) (hx : S.get x = .own id) (hb : S.blk id = some (.row e sz m xs))
    (hy : S.get y = .p (.sl es)) (hes : ∀ e ∈ es, e.cells.length = sz) (hlim : (m + es.length) * by_ ≤ 140737488355328 ∧ m + es.length ≤ maxLen) (hzs : z.cells.size = sz) (hsz : 0 < sz) (hd : o.dst = some d) (hn : d < n) :
    Step P n o S ((S.create id (.row e sz (m + es.length) (xs ++ (flat es).map AV.p))).put d (.own id)) :=
  s_appendP ho hx hb hy hes ht.h hi.h hzs hsz hlim.2 hlim.1 hd hn
theorem w_appendO {id id2 e ty2 sz by_ m k : Nat} {z : Value} {xs news : List AV} [ht : Und P t (.slice e)] [hi : InfoA P e z sz by_] (ho : o.op = .call { callee := .builtin .append, args := #[x, y], argTypes := #[t, t] }) (hx : S.get x = .own id) (hb : S.blk id = some (.row e sz m xs))
    (hy : S.get y = .own id2) (hb2 : S.blk id2 = some (.row ty2 sz k news)) (hlim : (m + k) * by_ ≤ 140737488355328 ∧ m + k ≤ maxLen) (hzs : z.cells.size = sz) (hsz : 0 < sz) (hd : o.dst = some d) (hn : d < n) :
    Step P n o S ((S.create id (.row e sz (m + k) (xs ++ news))).put d (.own id)) :=
  s_appendO ho hx hb hy hb2 ht.h hi.h hzs hsz hlim.2 hlim.1 hd hn
theorem w_str {src dst e : TypeId} {bs : List Int} [hs : Und P src (.slice e)] [he : Und P e (.int .u8)] [ht : Und P dst .string] (ho : o.op = .convert src dst x) (hx : S.get x = .p (.sl (byts bs))) (hd : o.dst = some d) (hn : d < n) :
    zX P n o S [] (.p (.val (.string (strOfNums bs)))) none := a_str ho hx hs.h he.h ht.h hd hn
theorem w_eqlT {xt yt m : TypeId} {ps qs : List PV} {la lb : List (IntKind × Int)} [h : EqA P xt m] (ho : o.op = .binOp .eql xt x y yt) (hx : S.get x = .p (.agg ps)) (hy : S.get y = .p (.agg qs)) (ha : qB ps = some la) (hb : qB qs = some lb) (hab : la.map Prod.fst = lb.map Prod.fst)
    (hlen : la.length = m) (hd : o.dst = some d) (hn : d < n) : zX P n o S [] (.p (.val (.bool (decide (la = lb))))) none :=
  a_eqlT ho hx hy ha hb hab (hlen.trans h.len.symm) h.st h.held h.guard h.flat hd hn
end
theorem zY.known {P : Program} {n : Nat} {S : AS} {o : Oper} {ops : Array Oper} {rest : List Oper} {K : Exit → AS → Prop} {j t : Nat} {want b : Bool} (_hg : o.guard = some (j, want)) (_ht : (ops[j]?).bind (·.dst) = some t) (_hb : S.tmp t = .p (.val (.bool b))) (_hk : b = true ∨ b = false)
    (h : zY P n ops (o :: rest) S K) : zY P n ops (o :: rest) S K := h
/-! ### Rows of pure cells: as rows -/
inductive Alike : Blk → Blk → Prop
  | refl (b : Blk) : Alike b b
  | rp (t size n : Nat) (xs : List PV) : Alike (.row t size n (xs.map AV.p)) (.prow t size n xs)
  | pr (t size n : Nat) (xs : List PV) : Alike (.prow t size n xs) (.row t size n (xs.map AV.p))
theorem Alike.ok {b b' : Blk} (h : Alike b b') {M : Nat → Nat → Prop} {B : Nat} {ρ : Nat → Value} {w : World} {v : Value} (hb : xG M B ρ w v b) : xG M B ρ w v b' := by
  cases h <;> exact hb
theorem Alike.kill {b b' : Blk} (h : Alike b b') (id : Nat) : Alike (b.kill id) (b'.kill id) := by
  cases h with
  | refl => exact .refl _
  | rp t size n xs =>
    show Alike (.row t size n ((xs.map AV.p).map (AV.kill id))) _
    rw [vB]
    exact .rp _ _ _ _
  | pr t size n xs =>
    show Alike _ (.row t size n ((xs.map AV.p).map (AV.kill id)))
    rw [vB]
    exact .pr _ _ _ _
/-- The same frame, but for how rows are written. -/
structure xS (S S' : AS) : Prop where
  t : ∀ i, S'.tmp i = S.tmp i
  s : ∀ id, (S.blk id = none ∧ S'.blk id = none) ∨ ∃ b b', S.blk id = some b ∧ S'.blk id = some b' ∧ Alike b b'
theorem xS.refl (S : AS) : xS S S := ⟨fun _ => rfl, fun id => by
  cases h : S.blk id with
  | none => exact .inl ⟨rfl, rfl⟩
  | some b => exact .inr ⟨b, b, rfl, rfl, .refl b⟩⟩
theorem map_p_inj : ∀ {xs ys : List PV}, xs.map AV.p = ys.map AV.p → xs = ys
  | [], [], _ => rfl
  | [], _ :: _, h => by simp at h
  | _ :: _, [], h => by simp at h
  | x :: xs, y :: ys, h => by
    simp only [List.map_cons, List.cons.injEq, AV.p.injEq] at h
    rw [h.1, map_p_inj h.2]
theorem Alike.trans {a b c : Blk} (h : Alike a b) (h' : Alike b c) : Alike a c := by
  cases h with
  | refl => exact h'
  | rp t size n xs =>
    cases h' with
    | refl => exact .rp _ _ _ _
    | pr => exact .refl _
  | pr t size n xs =>
    generalize hb : Blk.row t size n (xs.map AV.p) = b at h'
    cases h' with
    | refl => subst hb; exact .pr _ _ _ _
    | rp t2 size2 n2 ys =>
      simp only [Blk.row.injEq] at hb
      obtain ⟨rfl, rfl, rfl, hxy⟩ := hb
      rw [map_p_inj hxy]
      exact .refl _
    | pr => cases hb
theorem xS.trans {S S1 S2 : AS} (h : xS S S1) (h' : xS S1 S2) : xS S S2 := ⟨fun i => (h'.t i).trans (h.t i), fun id => by
  rcases h.s id with ⟨h1, h2⟩ | ⟨b1, b2, h1, h2, ha⟩
  · rcases h'.s id with ⟨_, h3⟩ | ⟨b3, _, h3, _, _⟩
    · exact .inl ⟨h1, h3⟩
    · rw [h2] at h3; cases h3
  · rcases h'.s id with ⟨h3, _⟩ | ⟨b3, b4, h3, h4, hb⟩
    · rw [h2] at h3; cases h3
    · rw [h2] at h3
      obtain rfl := Option.some.inj h3
      exact .inr ⟨b1, b4, h1, h4, ha.trans hb⟩⟩
theorem xS.mut {S S' : AS} (h : xS S S') {M : Nat → Nat → Prop} {ρ : Nat → Value} {k c : Nat} (hk : Mut M S' ρ k c) : Mut M S ρ k c := by
  rcases hk with hk | ⟨id, b, hb, h2, ht⟩
  · exact .inl hk
  · rcases h.s id with ⟨_, h1⟩ | ⟨b1, b2, h1, h3, ha⟩
    · rw [h1] at hb; cases hb
    · rw [hb] at h3
      obtain rfl := Option.some.inj h3
      exact .inr ⟨id, b1, h1, h2, by cases ha <;> first | exact ht | trivial⟩
theorem xS.sat {S S' : AS} (h : xS S S') {M : Nat → Nat → Prop} {n : Nat} {w0 : Home} {w : World} {ρ : Nat → Value} {a : Act} (hs : Sat M n w0 S ρ a w) : Sat M n w0 S' ρ a w := by
  refine ⟨hs.below, hs.out, hs.tab, hs.size, hs.defers, fun i => ?_, fun id b hb => ?_, fun id b k hb hk => ?_, hs.fix, hs.free, fun i j bi bj k hi hj h1 h2 => ?_⟩
  · rw [h.t i]
    exact (hs.tmps i).mono fun _ _ _ hk => h.mut hk
  · rcases h.s id with ⟨_, h1⟩ | ⟨b1, b2, h1, h2, ha⟩
    · rw [h1] at hb; cases hb
    · rw [hb] at h2
      obtain rfl := Option.some.inj h2
      exact (ha.ok (hs.blks id b1 h1)).mono fun _ _ hk => h.mut hk
  · rcases h.s id with ⟨_, h1⟩ | ⟨b1, b2, h1, h2, ha⟩
    · rw [h1] at hb; cases hb
    · exact hs.mine id b1 k h1 hk
  · rcases h.s i with ⟨_, h3⟩ | ⟨b1, _, h3, _, _⟩
    · rw [h3] at hi; cases hi
    · rcases h.s j with ⟨_, h4⟩ | ⟨b2, _, h4, _, _⟩
      · rw [h4] at hj; cases hj
      · exact hs.dist i j b1 b2 k h3 h4 h1 h2
theorem xS.sub {S S' : AS} (h : xS S S') : Sub S S' := fun _ _ _ ρ _ _ hs => ⟨ρ, h.sat hs⟩
theorem xS.put {S S' : AS} (h : xS S S') (d : Nat) (x : AV) : xS (S.put d x) (S'.put d x) := ⟨fun i => by
  rw [AS.tmp_put, AS.tmp_put]
  split
  · rfl
  · exact h.t i, h.s⟩
theorem xS.create {S S' : AS} (h : xS S S') (id : Nat) {b b' : Blk} (hb : Alike b b') : xS (S.create id b) (S'.create id b') := ⟨fun i => by rw [AS.tmp_create, AS.tmp_create, h.t i], fun j => by
  rw [AS.wT, AS.wT]
  split
  · exact .inr ⟨_, _, rfl, rfl, hb.kill id⟩
  · rcases h.s j with ⟨h1, h2⟩ | ⟨b1, b2, h1, h2, ha⟩
    · exact .inl ⟨by rw [h1]; rfl, by rw [h2]; rfl⟩
    · exact .inr ⟨b1.kill id, b2.kill id, by rw [h1]; rfl, by rw [h2]; rfl, ha.kill id⟩⟩
theorem xS.drop {S S' : AS} (h : xS S S') (id : Nat) : xS (S.drop id) (S'.drop id) := ⟨fun i => by
  show (S'.kill id).tmp i = (S.kill id).tmp i
  rw [AS.tmp_kill, AS.tmp_kill, h.t i], fun j => by
  rw [AS.xR, AS.xR]
  split
  · exact .inl ⟨rfl, rfl⟩
  · rcases h.s j with ⟨h1, h2⟩ | ⟨b1, b2, h1, h2, ha⟩
    · exact .inl ⟨by rw [h1]; rfl, by rw [h2]; rfl⟩
    · exact .inr ⟨b1.kill id, b2.kill id, by rw [h1]; rfl, by rw [h2]; rfl, ha.kill id⟩⟩
def AS.tag (S : AS) (id : Nat) (b : Blk) : AS := { S with s := putL S.s id b }
theorem AS.xE (S : AS) (id : Nat) (b : Blk) (j : Nat) : (S.tag id b).blk j = if id = j then some b else S.blk j := rfl
theorem AS.wI (S : AS) (id : Nat) (b : Blk) (x : Operand) : (S.tag id b).get x = S.get x := by cases x <;> rfl
theorem vX {S : AS} {id : Nat} {b b' : Blk} (hb : S.blk id = some b) (h : Alike b b') : xS S (S.tag id b') := ⟨fun _ => rfl, fun j => by
  rw [AS.xE]
  by_cases hj : id = j
  · subst hj
    rw [if_pos rfl]
    exact .inr ⟨b, b', hb, rfl, h⟩
  · rw [if_neg hj]
    exact (xS.refl S).s j⟩
theorem vE {S : AS} {id : Nat} {b b' : Blk} (hb : S.blk id = some b) (h : Alike b' b) : xS (S.tag id b') S := ⟨fun _ => rfl, fun j => by
  rw [AS.xE]
  by_cases hj : id = j
  · subst hj
    rw [if_pos rfl]
    exact .inr ⟨b', b, rfl, hb, h⟩
  · rw [if_neg hj]
    exact (xS.refl S).s j⟩
theorem Step.same {P : Program} {n : Nat} {o : Oper} {S S1 T T1 : AS} (h : Step P n o S T) (h1 : xS S1 S) (h2 : xS T T1) : Step P n o S1 T1 :=
  fun M w0 ρ a w K Q hs hK => h M w0 ρ a w K Q (h1.sat hs) fun ρ' a' w' hs' => hK ρ' a' w' (h2.sat hs')
theorem zX.nb {P : Program} {n : Nat} {o : Oper} {S : AS} {bs : List Nat} {av : AV} {b b' : Blk} (h : zX P n o S bs av (some b)) (ha : Alike b b') : zX P n o S bs av (some b') := by
  intro S2 hg hbl
  refine (h S2 hg hbl).same (xS.refl _) ?_
  cases o.dst with
  | none => exact xS.refl _
  | some d => exact ((xS.refl S2).create d ha).put d av
theorem zX.tag {P : Program} {n : Nat} {o : Oper} {S : AS} {bs : List Nat} {av : AV} {id : Nat} {b b' : Blk} (hb : S.blk id = some b) (ha : Alike b b') (ha' : Alike b' b) (hin : id ∈ bs) (h : zX P n o (S.tag id b') bs av none) : zX P n o S bs av none := by
  intro S2 hg hbl
  have hb2 : S2.blk id = some b := (hbl id hin).trans hb
  refine (h (S2.tag id b') (fun x hx => by rw [AS.wI, AS.wI]; exact hg x hx) (fun j hj => ?_)).same (vX hb2 ha) ?_
  · rw [AS.xE, AS.xE]
    split
    · rfl
    · exact hbl j hj
  · cases o.dst with
    | none => exact vE hb2 ha'
    | some d => exact (vE hb2 ha').put d av
/-! ### Rows of bytes -/
def bxs (bs : List Int) : List AV := (byts bs).map AV.p
def vF (e : Nat) (bs : List Int) : Blk := .prow e 1 bs.length (byts bs)
theorem vG (e : Nat) (bs : List Int) : Alike (.row e 1 bs.length (bxs bs)) (vF e bs) := .rp _ _ _ _
theorem rowB_alike' (e : Nat) (bs : List Int) : Alike (vF e bs) (.row e 1 bs.length (bxs bs)) := .pr _ _ _ _
def readB : List AV → Option (List Int)
  | [] => some []
  | .p (.val (.int .u8 b)) :: r => match readB r with
    | some l => some (b :: l)
    | none => none
  | _ => none
theorem readB_spec : ∀ {l : List AV} {bs : List Int}, readB l = some bs → l = bxs bs := by
  intro l
  induction l with
  | nil => intro bs h; simp only [readB, Option.some.injEq] at h; subst h; rfl
  | cons a r ih =>
    intro bs h
    unfold readB at h
    split at h
    · rename_i h0; cases h0
    · rename_i b r' h0
      injection h0 with h1 h2
      subst h1
      subst h2
      split at h
      · rename_i l2 hr
        obtain rfl := Option.some.inj h
        rw [ih hr]
        rfl
      · cases h
    · cases h
theorem qX (bs : List Int) : (byts bs).length = bs.length := by simp [byts]
theorem bxs_len (bs : List Int) : (bxs bs).length = bs.length := by simp [bxs, byts]
theorem byts_one (bs : List Int) : ∀ e ∈ byts bs, e.cells.length = 1 := fun e he => by
  simp only [byts, List.mem_map] at he
  obtain ⟨b, _, rfl⟩ := he
  rfl
theorem bxs_append (cs bs : List Int) : bxs cs ++ bxs bs = bxs (cs ++ bs) := by simp [bxs, byts]
section
variable {P : Program} {n : Nat} {o : Oper} {S : AS} {d : Nat} {t : TypeId} {x y : Operand}
theorem w_buildB {ps : Array (Nat × Operand)} {len e : Nat} {z : Value} {zs : List AV} {bs : List Int} [ht : Und P t (.slice e)] [hi : InfoA P e z 1 1] (ho : o.op = .buildSlice t len ps)
    (hl : len ≤ maxLen) (hsmall : ¬ len * 1 > 2 ^ 24) (hpos : ¬ len * 1 = 0) (hz : ((List.range (len * 1)).map (z.cells[· % z.cells.size]!)).all (fun u => u.oneCell') = true) (hk : ps.toList.all (fun p => (S.get p.2).vU) = true)
    (hf : fillA (fun i => some (i * 1, 1)) (((List.range (len * 1)).map (z.cells[· % z.cells.size]!)).map fun u => .p (.val u)) (ps.toList.map fun p => (p.1, S.get p.2)) = some zs) (hlen : zs.length = len * 1) (hb : readB zs = some bs) (hd : o.dst = some d) (hn : d < n) :
    zX P n o S [] (.own d) (some (vF e bs)) := by
  have h := w_buildSlice (P := P) (S := S) ho hl hsmall hpos hz hk hf hlen hd hn
  have e1 := readB_spec hb
  subst e1
  have e2 : bs.length = len := by rw [bxs_len, Nat.mul_one] at hlen; exact hlen
  subst e2
  exact h.nb (vG e bs)
theorem w_appB {id e : Nat} {z : Value} {cs bs : List Int} [ht : Und P t (.slice e)] [hi : InfoA P e z 1 1] (ho : o.op = .call { callee := .builtin .append, args := #[x, y], argTypes := #[t, t] }) (hx : S.get x = .own id) (hb : S.blk id = some (vF e cs))
    (hy : S.get y = .p (.sl (byts bs))) (hlim : cs.length + bs.length ≤ 140737488355328) (hzs : z.cells.size = 1) (hd : o.dst = some d) (hn : d < n) :
    Step P n o S ((S.create id (vF e (cs ++ bs))).put d (.own id)) := by
  have h := w_appendP (P := P) (by_ := 1) (sz := 1) (S := S.tag id (.row e 1 cs.length (bxs cs))) (o := o) (d := d) (by exact ho) (by rw [AS.wI]; exact hx) (by rw [AS.xE, if_pos rfl]) (by rw [AS.wI]; exact hy) (byts_one bs) (by rw [qX]; simp only [maxLen]; omega) hzs (by decide) hd hn
  have e1 : Blk.row e 1 (cs.length + (byts bs).length) (bxs cs ++ (flat (byts bs)).map AV.p) = .row e 1 (cs ++ bs).length (bxs (cs ++ bs)) := by
    rw [byts_flat, qX]
    show Blk.row e 1 (cs.length + bs.length) (bxs cs ++ bxs bs) = _
    rw [bxs_append]
    simp
  rw [e1] at h
  exact h.same (vX hb (rowB_alike' e cs)) (((vE hb (vG e cs)).create id (vG e (cs ++ bs))).put d _)
theorem w_appOB {id id2 e e2 : Nat} {z : Value} {cs bs : List Int} [ht : Und P t (.slice e)] [hi : InfoA P e z 1 1] (ho : o.op = .call { callee := .builtin .append, args := #[x, y], argTypes := #[t, t] }) (hx : S.get x = .own id) (hb : S.blk id = some (vF e cs))
    (hy : S.get y = .own id2) (hb2 : S.blk id2 = some (vF e2 bs)) (hlim : cs.length + bs.length ≤ 140737488355328) (hzs : z.cells.size = 1) (hd : o.dst = some d) (hn : d < n) :
    Step P n o S ((S.create id (vF e (cs ++ bs))).put d (.own id)) := by
  have hb3 : (S.tag id2 (.row e2 1 bs.length (bxs bs))).blk id = some (vF e cs) ∨ id = id2 ∧ e = e2 ∧ cs = bs := by
    by_cases h : id2 = id
    · subst h
      rw [hb2] at hb
      simp only [vF, Option.some.injEq, Blk.prow.injEq] at hb
      refine .inr ⟨rfl, hb.1.symm, ?_⟩
      have h3 := hb.2.2.2
      have inj : ∀ l m : List Int, byts l = byts m → l = m := by
        intro l
        induction l with
        | nil => intro m h; cases m with
          | nil => rfl
          | cons => simp [byts] at h
        | cons a r ih => intro m h; cases m with
          | nil => simp [byts] at h
          | cons c q =>
            simp only [byts, List.map_cons, List.cons.injEq, PV.val.injEq, Value.int.injEq, true_and] at h
            rw [h.1, ih q h.2]
      exact (inj _ _ h3).symm
    · left
      rw [AS.xE, if_neg h]
      exact hb
  have go : ∀ {S1 S0 : AS}, S1.get x = .own id → S1.blk id = some (.row e 1 cs.length (bxs cs)) → S1.get y = .own id2 → S1.blk id2 = some (.row e2 1 bs.length (bxs bs)) → xS S S1 → xS S1 S → Step P n o S ((S.create id (vF e (cs ++ bs))).put d (.own id)) := by
    intro S1 _ h1 h2 h3 h4 h5 h6
    have h := w_appendO (P := P) (by_ := 1) (sz := 1) (S := S1) ho h1 h2 h3 h4 (by simp only [maxLen]; omega) hzs (by decide) hd hn
    have e1 : Blk.row e 1 (cs.length + bs.length) (bxs cs ++ bxs bs) = .row e 1 (cs ++ bs).length (bxs (cs ++ bs)) := by
      rw [bxs_append]
      simp
    rw [e1] at h
    exact h.same h5 ((h6.create id (vG e (cs ++ bs))).put d _)
  rcases hb3 with hb3 | ⟨rfl, rfl, rfl⟩
  · have s1 := vX hb2 (rowB_alike' e2 bs)
    have u1 := vE hb2 (vG e2 bs)
    have s2 := vX hb3 (rowB_alike' e cs)
    have u2 := vE hb3 (vG e cs)
    by_cases hne : id = id2
    · subst hne
      rw [AS.xE, if_pos rfl] at hb3
      cases hb3
    · exact go (S0 := S) (by rw [AS.wI, AS.wI]; exact hx) (by rw [AS.xE, if_pos rfl]) (by rw [AS.wI, AS.wI]; exact hy) (by rw [AS.xE, if_neg hne, AS.xE, if_pos rfl]) (s1.trans s2) (u2.trans u1)
  · exact go (S0 := S) (by rw [AS.wI]; exact hx) (by rw [AS.xE, if_pos rfl]) (by rw [AS.wI]; exact hy) (by rw [AS.xE, if_pos rfl]) (vX hb (rowB_alike' e cs)) (vE hb (vG e cs))
theorem sub_freezeB {d id e : Nat} {bs : List Int} (hd : S.tmp d = .own id) (hb : S.blk id = some (vF e bs)) : Sub S ((S.drop id).put d (.p (.sl (byts bs)))) :=
  ((vX hb (rowB_alike' e bs)).sub.trans (sub_freeze (S := S.tag id (.row e 1 bs.length (bxs bs))) (es := byts bs) hd (by rw [byts_flat, AS.xE, if_pos rfl]; rfl) (qX bs))).trans (((vE hb (vG e bs)).drop id).put d _).sub
theorem w_indexB {ix : Operand} {e : Nat} {j : Int} {k : IntKind} {bs : List Int} {agg : Bool} [ht : Und P t (.slice e)] [he : TyA P e agg 1] (ho : o.op = .indexAddr t x ix) (hx : S.get x = .p (.sl (byts bs))) (hi : S.get ix = .p (.val (.int k j)))
    (hj : 0 ≤ j ∧ j < bs.length) (hd : o.dst = some d) (hn : d < n) : zX P n o S [] (.pt [.val (.int .u8 (bs.getD j.toNat 0))]) none := by
  obtain ⟨m, rfl⟩ := Int.eq_ofNat_of_zero_le hj.1
  have hm : m < bs.length := by omega
  have hc : (byts bs)[m]? = some (.val (.int .u8 (bs.getD m 0))) := by simp [byts, hm, List.getD]
  exact w_indexS (P := P) (i := m) ho hx hi (byts_one bs) hc hd hn
/-- the address of an element of an own row -/
theorem w_indexO {ix : Operand} {id e ty sz m : Nat} {j : Int} {k : IntKind} {xs : List AV} {agg : Bool} [ht : Und P t (.slice e)] [he : TyA P e agg sz] (ho : o.op = .indexAddr t x ix) (hx : S.get x = .own id) (hb : S.blk id = some (.row ty sz m xs)) (hi : S.get ix = .p (.val (.int k j)))
    (hj : 0 ≤ j ∧ j < m) (hd : o.dst = some d) (hn : d < n) : zX P n o S [id] (.ptr id (j.toNat * sz)) none :=
  zX.pure hd hn fun S2 hg hbl M w0 ρ a w hs => by
    have h1 := hs.rep x
    rw [hg x (by rw [ho]; simp [Op.operands]), hx] at h1
    have h2 := hs.val ((hg ix (by rw [ho]; simp [Op.operands])).trans hi)
    have hv := vD h1
    obtain ⟨ys, hown, _⟩ := hs.blks id _ ((hbl id (by simp)).trans hb)
    rcases hown.2 with ⟨_, h⟩ | ⟨g, cap, cur, hr, _⟩
    · omega
    · refine ⟨.pointer (some ⟨g, j.toNat * sz, none⟩), w, ?_, Below.refl _ _, .ptr id _ g (by rw [hr]; rfl)⟩
      unfold execOp
      rw [ho]
      simp only [hv, hr, h2, Sem.run_bind]
      have : (Instr.indexAt t (.slice (some ⟨g, 0, none⟩) m cap) (.int k j)).run P w = .ok (.pointer (some ⟨g, j.toNat * sz, none⟩)) w := by
        have hel : P.elem t = e := by simp [Program.elem, ht.h]
        rw [run_indexAt_slice w t _ _ _ _ _ (by rw [hel]; exact ht.h), if_pos ⟨by omega, by omega⟩, hel, he.sz w]
        show Result.ok _ w = _
        rw [add_lit, Nat.zero_add]
      rw [this]
      rfl
theorem w_lenP {t' : Nat} {bs : List Int} [ht : Und P t (.slice t')] (ho : o.op = .call { callee := .builtin .len, args := #[x], argTypes := #[t] }) (hx : S.get x = .p (.sl (byts bs))) (hd : o.dst = some d) (hn : d < n) : zX P n o S [] (.p (.val (.int .i64 bs.length))) none := by
  have h := w_lenS (P := P) ho hx hd hn
  rw [qX] at h
  exact h
end
/-! ### What is said of a frame, anew and less -/
theorem look_mem {α : Type} {l : List (Nat × α)} {i : Nat} {x : α} (h : look l i = some x) : (i, x) ∈ l := by
  induction l with
  | nil => cases h
  | cons p r ih =>
    obtain ⟨k, y⟩ := p
    simp only [look] at h
    split at h
    · rename_i hk
      subst hk
      obtain rfl := Option.some.inj h
      exact List.mem_cons_self
    · exact List.mem_cons_of_mem _ (ih h)
theorem sub_less {S S' : AS} (ht : ∀ p ∈ S'.t, p.2 = S.tmp p.1) (hs : ∀ p ∈ S'.s, S.blk p.1 = some p.2) : Sub S S' :=
  fun M n w0 ρ a w h => by
    have hb : ∀ {id b}, S'.blk id = some b → S.blk id = some b := fun {id b} hb => hs (id, b) (look_mem hb)
    have hm : ∀ k c, k < w.heap.size → Mut M S' ρ k c → Mut M S ρ k c := fun k c _ hk => by
      rcases hk with hk | ⟨id, b, h1, h2⟩
      · exact .inl hk
      · exact .inr ⟨id, b, hb h1, h2⟩
    refine ⟨ρ, ⟨h.below, h.out, h.tab, h.size, h.defers, fun i => ?_, fun id b hbk => ?_, fun id b k hbk hk => h.mine id b k (hb hbk) hk, h.fix, h.free, fun i j bi bj k hi hj => h.dist i j bi bj k (hb hi) (hb hj)⟩⟩
    · show yY _ _ _ ((look S'.t i).getD .any) _
      cases hl : look S'.t i with
      | none => exact .any _
      | some x =>
        have e : x = S.tmp i := ht (i, x) (look_mem hl)
        rw [Option.getD_some, e]
        exact (h.tmps i).mono hm
    · have h1 := h.blks id b (hb hbk)
      cases b with
      | row t size m xs =>
        obtain ⟨ys, ho, hc⟩ := h1
        exact ⟨ys, ho, hc.mono hm⟩
      | prow t size m xs =>
        obtain ⟨ys, ho, hc⟩ := h1
        exact ⟨ys, ho, hc.mono hm⟩
      | box t xs =>
        obtain ⟨g, ys, hv, hg, hh, hc⟩ := h1
        exact ⟨g, ys, hv, hg, hh, hc.mono hm⟩
      | lent t size m xs =>
        obtain ⟨ys, ho, hc⟩ := h1
        exact ⟨ys, ho, hc.mono hm⟩
      | obj mp Q => exact h1
inductive zG (S : AS) : List Nat → List (Nat × AV) → Prop
  | nil : zG S [] []
  | p {i : Nat} {x : PV} {is : List Nat} {l : List (Nat × AV)} (h : S.tmp i = .p x) (t : zG S is l) : zG S (i :: is) ((i, .p x) :: l)
  | own {i id : Nat} {is : List Nat} {l : List (Nat × AV)} (h : S.tmp i = .own id) (t : zG S is l) : zG S (i :: is) ((i, .own id) :: l)
  | ptr {i id off : Nat} {is : List Nat} {l : List (Nat × AV)} (h : S.tmp i = .ptr id off) (t : zG S is l) : zG S (i :: is) ((i, .ptr id off) :: l)
  | pt {i : Nat} {xs : List PV} {is : List Nat} {l : List (Nat × AV)} (h : S.tmp i = .pt xs) (t : zG S is l) : zG S (i :: is) ((i, .pt xs) :: l)
  | tup {i : Nat} {xs : List AV} {is : List Nat} {l : List (Nat × AV)} (h : S.tmp i = .tup xs) (t : zG S is l) : zG S (i :: is) ((i, .tup xs) :: l)
  | ifp {i tt id : Nat} {is : List Nat} {l : List (Nat × AV)} (h : S.tmp i = .ifp tt id) (t : zG S is l) : zG S (i :: is) ((i, .ifp tt id) :: l)
  | ag {i : Nat} {cs : List Cl} {is : List Nat} {l : List (Nat × AV)} (h : S.tmp i = .ag cs) (t : zG S is l) : zG S (i :: is) ((i, .ag cs) :: l)
  | clo {i f : Nat} {ks : List Nat} {is : List Nat} {l : List (Nat × AV)} (h : S.tmp i = .clo f ks) (t : zG S is l) : zG S (i :: is) ((i, .clo f ks) :: l)
  | skip {i : Nat} {is : List Nat} {l : List (Nat × AV)} (t : zG S is l) : zG S (i :: is) l
inductive zO (S : AS) : List Nat → List (Nat × Blk) → Prop
  | nil : zO S [] []
  | boxP {i ty : Nat} {xs : List AV} {cs : List PV} {is : List Nat} {l : List (Nat × Blk)} (h : S.blk i = some (.box ty xs)) (hp : pures xs = some cs) (t : zO S is l) : zO S (i :: is) ((i, .box ty (cs.map AV.p)) :: l)
  | vF {i e : Nat} {bs : List Int} {is : List Nat} {l : List (Nat × Blk)} (h : S.blk i = some (vF e bs)) (t : zO S is l) : zO S (i :: is) ((i, vF e bs) :: l)
  | some {i : Nat} {b : Blk} {is : List Nat} {l : List (Nat × Blk)} (h : S.blk i = some b) (t : zO S is l) : zO S (i :: is) ((i, b) :: l)
  | skip {i : Nat} {is : List Nat} {l : List (Nat × Blk)} (t : zO S is l) : zO S (i :: is) l
theorem sub_keep {S : AS} {is js : List Nat} {l : List (Nat × AV)} {m : List (Nat × Blk)} (ht : zG S is l) (hb : zO S js m) : Sub S { t := l, s := m } := by
  refine sub_less ?_ ?_
  · clear hb
    induction ht with
    | nil => intro p hp; cases hp
    | p h _ ih => intro p hp; rcases List.mem_cons.1 hp with rfl | hp; exact h.symm; exact ih p hp
    | own h _ ih => intro p hp; rcases List.mem_cons.1 hp with rfl | hp; exact h.symm; exact ih p hp
    | ptr h _ ih => intro p hp; rcases List.mem_cons.1 hp with rfl | hp; exact h.symm; exact ih p hp
    | pt h _ ih => intro p hp; rcases List.mem_cons.1 hp with rfl | hp; exact h.symm; exact ih p hp
    | tup h _ ih => intro p hp; rcases List.mem_cons.1 hp with rfl | hp; exact h.symm; exact ih p hp
    | clo h _ ih => intro p hp; rcases List.mem_cons.1 hp with rfl | hp; exact h.symm; exact ih p hp
    | ifp h _ ih => intro p hp; rcases List.mem_cons.1 hp with rfl | hp; exact h.symm; exact ih p hp
    | ag h _ ih => intro p hp; rcases List.mem_cons.1 hp with rfl | hp; exact h.symm; exact ih p hp
    | skip _ ih => exact ih
  · clear ht
    induction hb with
    | nil => intro p hp; cases hp
    | boxP h hp _ ih =>
      intro p hp2
      rcases List.mem_cons.1 hp2 with rfl | hp2
      · rw [h, qC hp]
      · exact ih p hp2
    | vF h _ ih => intro p hp; rcases List.mem_cons.1 hp with rfl | hp; exact h; exact ih p hp
    | some h _ ih => intro p hp; rcases List.mem_cons.1 hp with rfl | hp; exact h; exact ih p hp
    | skip _ ih => exact ih
theorem zZ.xW {P : Program} {n : Nat} {S : AS} {id : Nat} {ops : List Oper} {K : Exit → AS → Prop} (is js : List Nat) {l : List (Nat × AV)} {m : List (Nat × Blk)} (ht : zG S is l) (hb : zO S js m)
    (h : zY P n ops.toArray ops { t := l, s := m } K) : zZ P n (.region id ops.toArray false) S K := zZ.sub (sub_keep ht hb) (zZ.region h)
theorem zZ.regionD {P : Program} {n : Nat} {S : AS} {id : Nat} {ops : List Oper} {K : Exit → AS → Prop} (is js : List Nat) {l : List (Nat × AV)} {m : List (Nat × Blk)} (ht : zG S is l) (hb : zO S js m)
    (h : zZ P n (.region id ops.toArray true) { t := l, s := m } K) : zZ P n (.region id ops.toArray true) S K := zZ.sub (sub_keep ht hb) h
abbrev K_0 : List Nat := [1000, 1001, 1002]
abbrev K_1 : List Nat := [1]
abbrev K_2 : List Nat := [2, 3]
abbrev K_3 : List Nat := [0, 1, 4]
abbrev K_4 : List Nat := [1, 2, 9, 14, 15, 16, 32, 33]
abbrev K_5 : List Nat := [1, 3, 4, 5]
abbrev K_6 : List Nat := [2, 3, 4, 6, 7, 15, 16, 17, 18, 21, 22]
abbrev K_7 : List Nat := [0, 1, 2, 11, 34, 35]
abbrev K_8 : List Nat := [0, 1, 2, 3, 4]
abbrev K_9 : List Nat := [1000, 1001, 1002, 1003, 1004, 1005, 1006, 1007]
abbrev K_a : List Nat := [4, 8, 9, 10]
abbrev K_b : List Nat := [4, 6, 8, 9, 10]
abbrev K_c : List Nat := [2, 3, 4]
abbrev K_d : List Nat := [1, 3, 4]
abbrev K_e : List Nat := [1, 2, 3]
abbrev K_f : List Nat := [1000, 1001, 1002, 1003, 1004, 1005, 1006]
abbrev K_g : List Nat := [2, 4, 13, 17]
abbrev K_h : List Nat := [1, 2, 1000, 1001, 1002]
abbrev K_i : List Nat := [2, 3, 4, 5]
abbrev K_j : List Nat := [1, 3, 4, 6, 8, 9, 10, 11, 12]
abbrev K_k : List Nat := [4, 6, 8, 9, 11]
abbrev K_l : List Nat := [0, 1]
abbrev K_m : List Nat := [1, 4, 5, 6, 7]
abbrev K_n : List Nat := [1000, 1001, 1002, 1003, 1004, 1005, 1006, 1007, 1008]
abbrev K_o : List Nat := [4, 5, 10, 11, 12]
abbrev K_p : List Nat := [1, 4, 5, 6]
abbrev K_q : List Nat := [0]
abbrev K_r : List Nat := [1, 14, 15]
abbrev K_s : List Nat := [0, 1, 6, 8, 9]
abbrev K_t : List Nat := [1000]
abbrev K_u : List Nat := [1000, 1001, 1002, 1003]
abbrev K_v : List Nat := [1000, 1001, 1002, 1003, 1004]
abbrev K_w : List Nat := [0, 4, 7, 8, 9]
abbrev K_x : List Nat := [0, 1, 2, 6, 7]
abbrev K_y : List Nat := [0, 1, 2]
abbrev K_z : List Nat := [0, 2, 3, 5]
abbrev K_10 : List Nat := [2, 3, 4, 5, 11, 12]
abbrev K_11 : List Nat := [1000, 1001, 1002, 2, 3]
abbrev K_12 : List Nat := [3, 8, 9, 10]
abbrev K_13 : List Nat := [1000, 1001, 1002, 21]
abbrev K_14 : List Nat := [3, 1000, 1001, 1002]
abbrev K_15 : List Nat := [0, 1, 2, 6, 7, 8]
abbrev K_16 : List Nat := [1, 2, 3, 8]
abbrev K_17 : List Nat := [2, 3, 4, 5, 6, 30, 31, 32]
abbrev K_18 : List Nat := [3, 6, 7, 9]
abbrev K_19 : List Nat := [3, 5, 6, 7, 9]
abbrev K_1a : List Nat := [0, 2, 3]
abbrev K_1b : List Nat := [0, 1, 4, 5, 6, 7]
abbrev K_1c : List Nat := [4, 6, 30]
abbrev K_1d : List Nat := [2, 3, 5]
abbrev K_1e : List Nat := [0, 1, 5]
abbrev K_1f : List Nat := [2, 3, 4, 6, 15, 16, 17, 21]
abbrev K_1g : List Nat := [2, 3, 4, 15, 16, 17]
abbrev K_1h : List Nat := [0, 2, 3, 5, 6, 16, 17]
abbrev K_1i : List Nat := [2, 3, 4, 41]
abbrev K_1j : List Nat := [1000, 1001, 1002, 2, 3, 60, 61, 62]
abbrev K_1k : List Nat := [2, 3, 8]
abbrev K_1l : List Nat := [1000, 1001, 1002, 1003, 1004, 1005]
abbrev K_1m : List Nat := [0, 2, 3, 4]
abbrev K_1n : List Nat := [2, 3, 4, 5, 6]
section
variable {P : Program} {n : Nat} {S : AS} (id : Nat) {ops : List Oper} {K : Exit → AS → Prop} (is js : List Nat) {l : List (Nat × AV)} {m : List (Nat × Blk)}
theorem zZ.iq {o_ : Array Oper} {dr : Bool} (h : zZ P n (.region id o_ dr) S K) : zZ P n (.region id o_ dr) S K := h
theorem zZ.rqa (h : zY P n ops.toArray ops { t := l, s := m } K) (ht : zG S is l := by repeat' first | exact zG.nil | apply zG.p rfl | apply zG.ptr rfl) (hb : zO S js m := by repeat' first | exact zO.nil | apply zO.boxP rfl rfl) : zZ P n (.region id ops.toArray false) S K := zZ.xW is js ht hb h
theorem zZ.rqb (h : zZ P n (.region id ops.toArray true) { t := l, s := m } K) (ht : zG S is l := by repeat' first | exact zG.nil | apply zG.ptr rfl) (hb : zO S js m := by repeat' first | exact zO.nil | apply zO.boxP rfl rfl) : zZ P n (.region id ops.toArray true) S K := zZ.regionD is js ht hb h
theorem zZ.rqc (h : zY P n ops.toArray ops { t := l, s := m } K) (ht : zG S is l := by repeat' first | exact zG.nil | apply zG.p rfl | apply zG.ptr rfl) (hb : zO S js m := by repeat' first | exact zO.nil | apply zO.boxP rfl rfl | apply zO.skip) : zZ P n (.region id ops.toArray false) S K := zZ.xW is js ht hb h
theorem zZ.rqd (h : zY P n ops.toArray ops { t := l, s := m } K) (ht : zG S is l := by repeat' first | exact zG.nil | apply zG.p rfl | apply zG.ptr rfl | apply zG.own rfl | apply zG.skip) (hb : zO S js m := by repeat' first | exact zO.nil | apply zO.boxP rfl rfl | apply zO.vF rfl | apply zO.some rfl | apply zO.skip) : zZ P n (.region id ops.toArray false) S K := zZ.xW is js ht hb h
theorem zZ.rqe (h : zY P n ops.toArray ops { t := l, s := m } K) (ht : zG S is l := by repeat' first | exact zG.nil | apply zG.p rfl) (hb : zO S js m := by repeat' first | exact zO.nil | apply zO.skip) : zZ P n (.region id ops.toArray false) S K := zZ.xW is js ht hb h
end
theorem yL {S : AS} (is js : List Nat) {l : List (Nat × AV)} {m : List (Nat × Blk)} (ht : zG S is l := by repeat' first | exact zG.nil | apply zG.p rfl | apply zG.ptr rfl | apply zG.own rfl | apply zG.clo rfl | apply zG.ifp rfl | apply zG.pt rfl | apply zG.tup rfl | apply zG.skip) (hb : zO S js m := by repeat' first | exact zO.nil | apply zO.boxP rfl rfl | apply zO.vF rfl | apply zO.some rfl | apply zO.skip) : Sub S { t := l, s := m } := sub_keep ht hb
/-! ### Functions whose results lie in cells -/
inductive ResV (P : Program) (S : AS) : ResultVar → PV → Prop
  | tmp {t : Nat} {x : PV} (h : S.tmp t = .p x) : ResV P S (.tmp t) x
  | cell1 {a t id off m : Nat} {b : Blk} {c : PV} [ht : TyA P t false m] (h : S.tmp a = .ptr id off) (hb : S.blk id = some b) (hc : b.xs[off]? = some (.p c)) : ResV P S (.cell a t) c
  | cellN {a t id off m : Nat} {b : Blk} {cs : List PV} [ht : TyA P t true m] (h : S.tmp a = .ptr id off) (hb : S.blk id = some b) (hc : pures ((b.xs.drop off).take m) = some cs) (hl : cs.length = m) : ResV P S (.cell a t) (.agg cs)
inductive ResVs (P : Program) (S : AS) : List ResultVar → List PV → Prop
  | nil : ResVs P S [] []
  | cons {r : ResultVar} {x : PV} {rs : List ResultVar} {xs : List PV} (h : ResV P S r x) (t : ResVs P S rs xs) : ResVs P S (r :: rs) (x :: xs)
inductive GivesV (P : Program) (fn : Func) (S : AS) : RV → Prop
  | p {r : ResultVar} {x : PV} (hr : fn.results = #[r]) (h : ResV P S r x) : GivesV P fn S (.p x)
  | tup {rs : List ResultVar} {l : List PV} (hr : fn.results = rs.toArray) (hl : rs.length ≠ 1) (h : ResVs P S rs l) : GivesV P fn S (.tup l)
  | row {t id ty size n : Nat} {xs : List PV} (hr : fn.results = #[.tmp t]) (ht : S.tmp t = .own id) (hb : S.blk id = some (.row ty size n (xs.map AV.p))) : GivesV P fn S (.row ty size n xs)
theorem GivesV.tupE {P : Program} {fn : Func} {S : AS} {rs : List ResultVar} {l l' : List PV} (hr : fn.results = rs.toArray) (hl : rs.length ≠ 1) (h : ResVs P S rs l) (e : l' = l) : GivesV P fn S (.tup l') := by
  subst e
  exact .tup hr hl h
def resOne (tmps : Array Value) : ResultVar → Sem Value
  | .tmp t => pure (tmps.getD t undef)
  | .cell a t => do loadVar t (← asAddr (tmps.getD a undef))
theorem res_oneM {P : Program} {M : Nat → Nat → Prop} {n : Nat} {w0 : Home} {w : World} {S : AS} {ρ : Nat → Value} {a : Act} (hs : Sat M n w0 S ρ a w) {r : ResultVar} {x : PV} (h : ResV P S r x) :
    ∃ v, (resOne a.tmps r).run P w = .ok v w ∧ Rep (Mut M S ρ) w x v := by
  cases h with
  | @tmp t _ h =>
    have h1 := hs.tmps t
    rw [h] at h1
    exact ⟨_, rfl, qO h1⟩
  | @cell1 p t id off m b c ht h hb hc =>
    have h1 := hs.tmps p
    rw [h] at h1
    obtain ⟨g, hgv, hv⟩ := wU h1
    obtain ⟨ys, hcs, hcell⟩ := (hs.blks id b hb).cells hgv
    have h0 : off < b.xs.length := (List.getElem?_eq_some_iff.1 hc).1
    have hy : ys[off]? = some (ys[off]'(by rw [hcs.len]; exact h0)) := List.getElem?_eq_getElem _
    refine ⟨_, ?_, qO (hcs.each off _ _ hc hy)⟩
    have := loadAt_one (P := P) (ht.ag w) (hcell off _ hy).1
    simp only [Instr.loadAt, Instr.sureAddr, Sem.run_bind, Sem.run_pure, Result.andThen_ok] at this
    simp only [resOne, hv, asAddr, Sem.run_bind, Sem.run_pure, Result.andThen_ok]
    exact this
  | @cellN p t id off m b cs ht h hb hc hl =>
    have h1 := hs.tmps p
    rw [h] at h1
    obtain ⟨g, hgv, hv⟩ := wU h1
    obtain ⟨ys, hcs, hcell⟩ := (hs.blks id b hb).cells hgv
    have hcm := qC hc
    have hlen : ((b.xs.drop off).take m).length = m := by rw [hcm, List.length_map, hl]
    have hlen2 : ((ys.drop off).take m).length = m := by
      simp only [List.length_take, List.length_drop] at hlen ⊢
      rw [hcs.len]
      exact hlen
    have get : ∀ (j : Nat) y, ((ys.drop off).take m)[j]? = some y → j < m ∧ ys[off + j]? = some y := by
      intro j y hy
      rw [List.getElem?_take] at hy
      split at hy
      · rename_i hj
        rw [List.getElem?_drop] at hy
        exact ⟨hj, hy⟩
      · cases hy
    refine ⟨.agg ((ys.drop off).take m).toArray, ?_, .agg _ _ (by rw [hlen2, hl]) (fun i c v h1 h2 => ?_) (fun v hv => hcs.one v (List.mem_of_mem_drop (List.mem_of_mem_take hv)))⟩
    · have := loadAt_many (P := P) (w := w) (t := t) (g := g) (o := off) (ys := (ys.drop off).take m) (ht.ag w) (ht.sz w) hlen2 (fun j y hy => (hcell (off + j) y (get j y hy).2).1)
      simp only [Instr.loadAt, Instr.sureAddr, Sem.run_bind, Sem.run_pure, Result.andThen_ok] at this
      simp only [resOne, hv, asAddr, Sem.run_bind, Sem.run_pure, Result.andThen_ok]
      exact this
    · obtain ⟨hj, hy⟩ := get i v h2
      have h3 : b.xs[off + i]? = some (.p c) := by
        have h4 : ((b.xs.drop off).take m)[i]? = (cs.map AV.p)[i]? := by rw [hcm]
        rw [List.getElem?_take, if_pos hj, List.getElem?_drop, List.getElem?_map, h1] at h4
        exact h4
      exact qO (hcs.each (off + i) (.p c) v h3 hy)
theorem res_allM {P : Program} {M : Nat → Nat → Prop} {n : Nat} {w0 : Home} {w : World} {S : AS} {ρ : Nat → Value} {a : Act} (hs : Sat M n w0 S ρ a w) {rs : List ResultVar} {l : List PV} (h : ResVs P S rs l) :
    ∃ vs : List Value, (List.mapM (resOne a.tmps) rs).run P w = .ok vs w ∧ vs.length = l.length ∧ rs.length = l.length ∧ ∀ (i : Nat) x u, l[i]? = some x → vs[i]? = some u → Rep (Mut M S ρ) w x u := by
  induction h with
  | nil => exact ⟨[], by simp, rfl, rfl, fun i x u h => by simp at h⟩
  | @cons r x rs xs h _ ih =>
    obtain ⟨v, h1, h2⟩ := res_oneM hs h
    obtain ⟨vs, h3, h4, h6, h5⟩ := ih
    refine ⟨v :: vs, by simp only [List.mapM_cons, Sem.run_bind, Sem.run_pure, h1, h3, Result.andThen_ok], by simp [h4], by simp [h6], fun i y u hy hu => ?_⟩
    cases i with
    | zero => simp at hy hu; subst hy; subst hu; exact h2
    | succ i => exact h5 i y u (by simpa using hy) (by simpa using hu)
theorem res_one {P : Program} {M : Nat → Nat → Prop} {n : Nat} {w0 : Home} {w : World} {S : AS} {ρ : Nat → Value} {a : Act} (hs : Sat M n w0 S ρ a w) {r : ResultVar} {x : PV} (h : ResV P S r x) :
    ∃ v, (resOne a.tmps r).run P w = .ok v w ∧ Rep M w x v := by
  obtain ⟨v, h1, h2⟩ := res_oneM hs h
  exact ⟨v, h1, h2.outer⟩
theorem res_all {P : Program} {M : Nat → Nat → Prop} {n : Nat} {w0 : Home} {w : World} {S : AS} {ρ : Nat → Value} {a : Act} (hs : Sat M n w0 S ρ a w) {rs : List ResultVar} {l : List PV} (h : ResVs P S rs l) :
    ∃ vs : List Value, (List.mapM (resOne a.tmps) rs).run P w = .ok vs w ∧ vs.length = l.length ∧ rs.length = l.length ∧ ∀ (i : Nat) x u, l[i]? = some x → vs[i]? = some u → Rep M w x u := by
  obtain ⟨vs, h1, h2, h3, h4⟩ := res_allM hs h
  exact ⟨vs, h1, h2, h3, fun i x u hx hu => (h4 i x u hx hu).outer⟩
theorem xX {P : Program} {w : World} (fn : Func) (tmps : Array Value) {rs : List ResultVar} {vs : List Value} (hr : fn.results = rs.toArray) (h : (List.mapM (resOne tmps) rs).run P w = .ok vs w) :
    (results fn tmps).run P w = .ok (if h : vs.toArray.size = 1 then vs.toArray[0] else .tuple vs.toArray) w := by
  have e : (fun (x : ResultVar) => match x with | .tmp t => pure (tmps.getD t undef) | .cell a t => do loadVar t (← asAddr (tmps.getD a undef))) = resOne tmps := by
    funext r
    cases r <;> rfl
  unfold results
  rw [hr]
  show Sem.run P (do let vs ← Array.mapM (fun (x : ResultVar) => match x with | .tmp t => pure (tmps.getD t undef) | .cell a t => do loadVar t (← asAddr (tmps.getD a undef))) rs.toArray; pure (if h : vs.size = 1 then vs[0] else .tuple vs)) w = _
  rw [e, List.mapM_toArray]
  simp only [Sem.run_bind, Sem.run_map, h]
  rfl
theorem z8 {P : Program} {f : FuncId} {fn : Func} {c : Code} {args : List PV} {r : RV} {n : Nat} (hf : P.funcs[f]? = some fn) (hb : fn.body = some c) (hn : fn.ntmps = n) (hle : args.length ≤ n)
    (h : zZ P n c (AS.entry args) (fun e S => (e = .ret ∨ e = .normal) ∧ ∃ S', Sub S S' ∧ GivesV P fn S' r)) : Fn P f args r := by
  intro M w vs hT hM hvl hvs
  refine calls_of_wp hf hb ?_
  have hsat : Sat M n (Home.plain w hT.1) (AS.entry args) (fun _ => undef) { tmps := vs.toArray ++ Array.replicate (fn.ntmps - vs.toArray.size) undef, defers := [] } w := by
    refine ⟨xO.refl (Home.plain w hT.1), (fun k c hk hh => by rcases hh with hh | hh; exact absurd (hM k c hk) (Nat.not_lt.2 hh); exact hh), hT.2, by simp; omega, rfl, fun i => ?_, (fun id b hb => by cases hb), (fun id b k hb => by cases hb), (fun k v hk => by cases hk), (fun _ _ => rfl), (fun i j bi bj k hi => by cases hi)⟩
    show yY _ _ _ ((look (zipArgs 0 args) i).getD .any) _
    rw [look_zipArgs]
    simp only [Nat.zero_le, if_true, Nat.sub_zero]
    cases hx : args[i]? with
    | none => exact .any _
    | some x =>
      have hi : i < vs.length := by rw [hvl]; exact (List.getElem?_eq_some_iff.1 hx).1
      have e : ({ tmps := vs.toArray ++ Array.replicate (fn.ntmps - vs.toArray.size) undef, defers := [] } : Act).tmps.getD i undef = vs[i] := by
        simp [Array.getD_eq_getD_getElem?, Array.getElem?_append, hi]
      rw [e]
      refine .p ((hvs i x vs[i] hx (List.getElem?_eq_getElem hi)).mono ?_)
      rintro k c _ (hk | ⟨id, b, hb, _⟩)
      · exact hk
      · cases hb
  refine h M (Home.plain w hT.1) _ _ w _ hsat ?_
  rintro e S0 ρ0 a' w' ⟨he, S', hsub, hg⟩ hs0
  obtain ⟨ρ', hs'⟩ := hsub M n (Home.plain w hT.1) ρ0 a' w' hs0
  have fin : a'.defers = [] ∧ ∃ v, (results fn a'.tmps).run P w' = .ok v w' ∧ (∃ v', Ending.returned v = .returned v' ∧ RepR M w w' r v' ∧ Below w.heap.size w w') := by
    refine ⟨hs'.defers, ?_⟩
    cases hg with
    | p hr hx =>
      obtain ⟨v, h1, h2⟩ := res_one hs' hx
      have h3 := xX (P := P) (w := w') fn a'.tmps (rs := [_]) (vs := [v]) hr (by simp only [List.mapM_cons, List.mapM_nil, Sem.run_bind, Sem.run_pure, h1, Result.andThen_ok])
      exact ⟨v, h3, _, rfl, h2, hs'.below.plain⟩
    | tup hr hl hx =>
      obtain ⟨us, h1, h2, h4, h3⟩ := res_all hs' hx
      have h5 := xX (P := P) (w := w') fn a'.tmps hr h1
      rw [dif_neg (by simp only [List.size_toArray]; omega)] at h5
      exact ⟨_, h5, _, rfl, ⟨us, rfl, h2, h3⟩, hs'.below.plain⟩
    | @row t id ty size m xs hr ht hblk =>
      have h1 := hs'.tmps t
      rw [ht] at h1
      refine ⟨_, results_tmp hr _ _ _, _, rfl, ?_, hs'.below.plain⟩
      have h2 := hs'.blks id _ hblk
      have e : a'.tmps.getD t undef = ρ' id := vD h1
      obtain ⟨ys, ho, hc⟩ := h2
      rw [e]
      refine ⟨ys, vC ho (fun k hk => (hs'.mine id _ k hblk hk).elim (fun h => h) (fun h => h.elim)), by simpa using hc.len, fun i c v h3 h4 => ?_, hc.one⟩
      have h5 := hc.each i (.p c) v (by rw [List.getElem?_map, h3]; rfl) h4
      cases h5 with
      | p h6 =>
        refine h6.mono ?_
        rintro k c _ (hk | hk)
        · exact Or.inl hk
        · exact Or.inr ⟨id, _, hblk, hk, trivial⟩
  intro _
  cases e with
  | ret => exact fin
  | normal => exact fin
  | exit id => rcases he with h | h <;> cases h
  | goto l => rcases he with h | h <;> cases h
  | panic c => rcases he with h | h <;> cases h
  | outgrown => rcases he with h | h <;> cases h
/-! ### Regions that draw their order, walked forward -/
theorem AC.snoc {P : Program} {n : Nat} {l : List Oper} {S S' : AS} {o : Oper} {os tl tl' : List Oper} {xs : List AI} {x : AI} (h : AC P n l S os xs S' tl) (ht : tl = o :: tl') (hg : GStep P n l S' o x) : AC P n l S os (xs ++ [x]) (S'.out o.dst x.av x.nb) tl' := by
  induction h with
  | done S os => subst ht; exact .step hg (.done _ _)
  | step h1 _ ih => exact .step h1 (ih ht hg)
/-- A region that draws its order: these are done (the last one ahead), the frame is S, these are to come. -/
def Draws (P : Program) (n : Nat) (id : Nat) (l : List Oper) (S0 : AS) (K : Exit → AS → Prop) (rev : List AI) (S : AS) (os : List Oper) : Prop :=
  AC P n l S0 l rev.reverse S os → zZ P n (.region id l.toArray true) S0 K
section
variable {P : Program} {n id : Nat} {l os : List Oper} {S0 S : AS} {K : Exit → AS → Prop} {rev : List AI} {o : Oper} {d : Nat}
theorem zZ.draws {S : AS} (h : Draws P n id l S K [] S l) : zZ P n (.region id l.toArray true) S K := h (.done _ _)
theorem Draws.is (h : Draws P n id l S0 K rev S os) : Draws P n id l S0 K rev S os := h
theorem Draws.step {x : AI} (hg : GStep P n l S o x) (h : Draws P n id l S0 K (x :: rev) (S.out o.dst x.av x.nb) os) : Draws P n id l S0 K rev S (o :: os) := fun hc => h (by
  rw [List.reverse_cons]
  exact hc.snoc rfl hg)
theorem Draws.done (hm : P.follows .mixedOrders = true) (hsch : schedB l rev.reverse.length (rev.reverse.map (·.bs)) = true) (hmade : madeB l rev.reverse S0 = true) (ht : zD P n K S os) : Draws P n id l S0 K rev S os :=
  fun hc => zZ.draw2 hm hc hsch hmade ht
theorem Draws.v {bs : List Nat} {av : AV} (hg : o.guard = none) (hd : o.dst = some d) (ha : zX P n o S bs av none) (h : Draws P n id l S0 K (⟨bs, av, none⟩ :: rev) (S.put d av) os) : Draws P n id l S0 K rev S (o :: os) :=
  .step (.inl ⟨hg, ha⟩) (by rw [hd]; exact h)
theorem Draws.gY {bs : List Nat} {av : AV} {j t : Nat} {want b : Bool} (hg : o.guard = some (j, want)) (ht : wZ l j = some t) (htn : t < n) (hb : S.tmp t = .p (.val (.bool b))) (hbw : b = want) (hd : o.dst = some d) (ha : zX P n o S bs av none) (h : Draws P n id l S0 K (⟨bs, av, none⟩ :: rev) (S.put d av) os) : Draws P n id l S0 K rev S (o :: os) :=
  .step (.inr ⟨j, want, t, _, hg, ht, htn, hb, .inl ⟨by simp [wantB, hbw], ha⟩⟩) (by rw [hd]; exact h)
theorem Draws.gNT {j t : Nat} {b : Bool} (hg : o.guard = some (j, true)) (ht : wZ l j = some t) (htn : t < n) (hb : S.tmp t = .p (.val (.bool b))) (hbw : b = false) (hd : o.dst = some d) (hdn : d < n) (h : Draws P n id l S0 K (⟨[], wN, none⟩ :: rev) (S.put d wN) os) : Draws P n id l S0 K rev S (o :: os) :=
  .step (.inr ⟨j, true, t, _, hg, ht, htn, hb, .inr ⟨by simp [wantB, hbw], rfl, rfl, d, hd, hdn⟩⟩) (by rw [hd]; exact h)
theorem Draws.gNF {j t : Nat} {b : Bool} (hg : o.guard = some (j, false)) (ht : wZ l j = some t) (htn : t < n) (hb : S.tmp t = .p (.val (.bool b))) (hbw : b = true) (hd : o.dst = some d) (hdn : d < n) (h : Draws P n id l S0 K (⟨[], wN, none⟩ :: rev) (S.put d wN) os) : Draws P n id l S0 K rev S (o :: os) :=
  .step (.inr ⟨j, false, t, _, hg, ht, htn, hb, .inr ⟨by simp [wantB, hbw], rfl, rfl, d, hd, hdn⟩⟩) (by rw [hd]; exact h)
end
attribute [irreducible] Draws
/-! ### The ways out -/
section
variable {next : AS → Prop} {K : Exit → AS → Prop} {S : AS} {id id' l : Nat}
theorem zB.n (h : next S) : zB next K .normal S := h
theorem zB.r (h : K .ret S) : zB next K .ret S := h
theorem zB.e (h : K (.exit id) S) : zB next K (.exit id) S := h
theorem zB.g (h : K (.goto l) S) : zB next K (.goto l) S := h
theorem zB.p {c} (h : K (.panic c) S) : zB next K (.panic c) S := h
theorem zP.p {c} (h : K (.panic c) S) : zP id K (.panic c) S := h
theorem zP.n (h : K .normal S) : zP id K .normal S := h
theorem zP.r (h : K .ret S) : zP id K .ret S := h
theorem zP.g (h : K (.goto l) S) : zP id K (.goto l) S := h
theorem zP.eY (h : K .normal S) : zP id K (.exit id) S := by
  show if id = id then K .normal S else K (.exit id) S
  rw [if_pos rfl]
  exact h
end
/-! ### Which judgement a goal is -/
section
variable {P : Program} {n : Nat} {S : AS} {ops : Array Oper} {l : List Oper}
theorem zY.is {K : Exit → AS → Prop} (h : zY P n ops l S K) : zY P n ops l S K := h
theorem zZ.is {c : Code} {K : Exit → AS → Prop} (h : zZ P n c S K) : zZ P n c S K := h
theorem zZ.isR {id : Nat} {ops : Array Oper} {dr : Bool} {K : Exit → AS → Prop} (h : zZ P n (.region id ops dr) S K) : zZ P n (.region id ops dr) S K := h
theorem zD.is {K : Exit → AS → Prop} (h : zD P n K S l) : zD P n K S l := h
end
end Go.Proofs.YtmfbamiciieooaaGreatDoor
/- More rules: comparisons whose answer is known; slices of slices; slice literals without elements; a byte laid into an own row. Generic over the program. -/
namespace Go.Proofs.YtmfbamiciieooaaGreatDoor
set_option maxRecDepth 100000
set_option maxHeartbeats 16000000
open Go Go.RowKit
theorem bT {b : Bool} (h : b = true) : b = true := h
theorem bF {b : Bool} (h : b = false) : b = false := h
section
variable {P : Program} {n : Nat} {o : Oper} {S : AS} {d : Nat} {x y : Operand} {xt yt : TypeId} {k : IntKind} {a b : Int} {r : Bool}
theorem r_eql (ho : o.op = .binOp .eql xt x y yt) (hx : S.get x = .p (.val (.int k a))) (hy : S.get y = .p (.val (.int k b))) (hr : decide (a = b) = r) (hd : o.dst = some d) (hn : d < n) : zX P n o S [] (.p (.val (.bool r))) none := hr ▸ a_eql ho hx hy hd hn
theorem r_neq (ho : o.op = .binOp .neq xt x y yt) (hx : S.get x = .p (.val (.int k a))) (hy : S.get y = .p (.val (.int k b))) (hr : (!decide (a = b)) = r) (hd : o.dst = some d) (hn : d < n) : zX P n o S [] (.p (.val (.bool r))) none := hr ▸ a_neq ho hx hy hd hn
theorem r_lss (ho : o.op = .binOp .lss xt x y yt) (hx : S.get x = .p (.val (.int k a))) (hy : S.get y = .p (.val (.int k b))) (hr : decide (a < b) = r) (hd : o.dst = some d) (hn : d < n) : zX P n o S [] (.p (.val (.bool r))) none := hr ▸ a_lss ho hx hy hd hn
theorem r_leq (ho : o.op = .binOp .leq xt x y yt) (hx : S.get x = .p (.val (.int k a))) (hy : S.get y = .p (.val (.int k b))) (hr : decide (a ≤ b) = r) (hd : o.dst = some d) (hn : d < n) : zX P n o S [] (.p (.val (.bool r))) none := hr ▸ a_leq ho hx hy hd hn
theorem r_gtr (ho : o.op = .binOp .gtr xt x y yt) (hx : S.get x = .p (.val (.int k a))) (hy : S.get y = .p (.val (.int k b))) (hr : decide (b < a) = r) (hd : o.dst = some d) (hn : d < n) : zX P n o S [] (.p (.val (.bool r))) none := hr ▸ a_gtr ho hx hy hd hn
theorem r_geq (ho : o.op = .binOp .geq xt x y yt) (hx : S.get x = .p (.val (.int k a))) (hy : S.get y = .p (.val (.int k b))) (hr : decide (b ≤ a) = r) (hd : o.dst = some d) (hn : d < n) : zX P n o S [] (.p (.val (.bool r))) none := hr ▸ a_geq ho hx hy hd hn
theorem a_xor {z : Int} (ho : o.op = .binOp .xor xt x y yt) (hx : S.get x = .p (.val (.int k a))) (hy : S.get y = .p (.val (.int k b))) (hr : bits .xor k a b = z) (hd : o.dst = some d) (hn : d < n) : zX P n o S [] (.p (.val (.int k z))) none :=
  wH ho hx hy hd hn fun w => by subst hr; simp [eqGuard, binOp, go_sem]
theorem a_cmpl {z : Int} (ho : o.op = .unOp .xor xt x) (hx : S.get x = .p (.val (.int k a))) (hu : k.signed = false) (hr : bits .xor k k.max a = z) (hd : o.dst = some d) (hn : d < n) : zX P n o S [] (.p (.val (.int k z))) none :=
  a_unOp ho hx hd hn fun w => by subst hr; simp [unary_xor, hu, go_sem]
theorem r_eqlS {s u : ByteArray} (ho : o.op = .binOp .eql xt x y yt) (hx : S.get x = .p (.val (.string s))) (hy : S.get y = .p (.val (.string u))) (hr : (s.toList == u.toList) = r) (hd : o.dst = some d) (hn : d < n) : zX P n o S [] (.p (.val (.bool r))) none := hr ▸ a_eqlS ho hx hy hd hn
theorem r_notB {u : Bool} (ho : o.op = .unOp .not xt x) (hx : S.get x = .p (.val (.bool u))) (hr : (!u) = r) (hd : o.dst = some d) (hn : d < n) : zX P n o S [] (.p (.val (.bool r))) none := hr ▸ a_notB ho hx hd hn
theorem r_eqlT {m : TypeId} {ps qs : List PV} {la lb : List (IntKind × Int)} [h : EqA P xt m] (ho : o.op = .binOp .eql xt x y yt) (hx : S.get x = .p (.agg ps)) (hy : S.get y = .p (.agg qs)) (ha : qB ps = some la) (hb : qB qs = some lb) (hab : la.map Prod.fst = lb.map Prod.fst)
    (hlen : la.length = m) (hr : decide (la = lb) = r) (hd : o.dst = some d) (hn : d < n) : zX P n o S [] (.p (.val (.bool r))) none := hr ▸ w_eqlT ho hx hy ha hb hab hlen hd hn
/-! ### A package-level table -/
theorem w_indexG {t : TypeId} {ix : Operand} {g : Nat} {j : Int} {xs : List (IntKind × Int)} {p : IntKind × Int} {agg : Bool} {m e : Nat} [ht : Und P t (.array m e)] [he : TyA P e agg 1] (ho : o.op = .indexAddr t x ix) (hx : S.get x = .glob g) (hi : S.get ix = .p (.val (.int k j)))
    (hg : seatTbl g = some xs) (hm : xs.length = m) (hj : 0 ≤ j) (hp : xs[j.toNat]? = some p) (hd : o.dst = some d) (hn : d < n) : zX P n o S [] (.pt [.val (.int p.1 p.2)]) none :=
  zX.pure hd hn fun S2 hgt _ M w0 ρ a w hs => by
    have h1 := hs.rep x
    rw [hgt x (by rw [ho]; simp [Op.operands]), hx] at h1
    have h2 := hs.val ((hgt ix (by rw [ho]; simp [Op.operands])).trans hi)
    obtain ⟨t1, t2, t3⟩ := hs.tbl hg
    generalize hv : a.eval x = v at h1
    cases h1
    have hlt : j.toNat < xs.length := (List.getElem?_eq_some_iff.1 hp).1
    refine ⟨.pointer (some ⟨g, j.toNat, none⟩), w, ?_, Below.refl _ _, .pt [.val (.int p.1 p.2)] g j.toNat [.int p.1 p.2] ⟨rfl, (fun i c v h3 h4 => by
      cases i with
      | zero => simp at h3 h4; subst h3; subst h4; exact .val _
      | succ i => simp at h3), (fun v h3 => by simp at h3; subst h3; rfl)⟩ (fun i y hy => by
      cases i with
      | zero => simp at hy; subst hy; exact t3 j.toNat p hp
      | succ i => simp at hy) (fun i _ => t1 _) t2⟩
    unfold execOp
    rw [ho]
    have hel : P.elem t = e := by simp [Program.elem, ht.h]
    have hal : P.arrayLen t = m := by simp [Program.arrayLen, ht.h]
    simp only [hv, h2, Sem.run_bind]
    rw [run_indexAt_array w t _ _ _ (by rw [hel, hal]; exact ht.h), hal, if_pos ⟨hj, by omega⟩, hel, he.sz w]
    show (Result.ok (Value.pointer (some (Addr.add ⟨g, 0, none⟩ (j.toNat * 1)))) w).andThen _ = _
    rw [add_lit, Nat.mul_one, Nat.zero_add]
    rfl
/-! ### A slice literal without elements -/
theorem w_build0 {t e : TypeId} {z : Value} {sz by_ : Nat} [ht : Und P t (.slice e)] [hi : InfoA P e z sz by_] (ho : o.op = .buildSlice t 0 #[]) (hd : o.dst = some d) (hn : d < n) : zX P n o S [] (.own d) (some (.row e sz 0 [])) :=
  zX.made hd hn fun S2 hg _ M w0 ρ a w hs => by
    obtain ⟨i, hi1, hi2⟩ := Option.map_eq_some_iff.1 hi.h
    simp only [Prod.mk.injEq] at hi2
    obtain ⟨hzi, hisz, _⟩ := hi2
    refine ⟨.slice (some ⟨w.heap.size, 0, none⟩) 0 0, w.alloc (.cells #[] e), ?_, World.grownBy_alloc w _ none, fun k hk => ?_, ⟨[], ⟨by simp, .inr ⟨w.heap.size, 0, #[], rfl, Nat.zero_le _, by rw [heap_alloc_new], Nat.le_refl _, by decide, by simp, by simp⟩⟩, ⟨rfl, (fun i c v h => by simp at h), (fun v h => by simp at h)⟩⟩, .inl rfl⟩
    · unfold execOp
      rw [ho]
      simp [Instr.buildSlice, run_underlying ht.h, sizeOf, typeInfo, hi1, Instr.fill, newRow]
      have e0 : Array.range 0 = #[] := Array.ext' (by rw [Array.toList_range]; rfl)
      rw [e0, Array.map_empty]
    · simp only [zU, Option.some.injEq] at hk; omega
end
/-! ### Parts of values; interface values; slice literals that nobody turns -/
class FieldT (P : Program) (s f : Nat) (ft off : outParam Nat) : Prop where
  st : P.underlying s = some (.struct (P.fieldsOf s))
  at_ : ((P.fieldsOf s)[f]?).map (fun fl => (fl.type, fl.offset)) = some (ft, off)
section
variable {P : Program} {n : Nat} {o : Oper} {S : AS} {d : Nat} {x : Operand}
theorem part_one {M : Nat → Nat → Prop} {w : World} {e : TypeId} {m : Nat} (he : TyA P e false m) {cs : List PV} {vs : List Value} (hl : vs.length = cs.length) (h : ∀ (i : Nat) c v, cs[i]? = some c → vs[i]? = some v → Rep M w c v) {off : Nat} {c : PV} (hc : cs[off]? = some c) :
    ∃ v, (part e vs.toArray off).run P w = .ok v w ∧ Rep M w c v := by
  have hlt : off < cs.length := (List.getElem?_eq_some_iff.1 hc).1
  have hv : vs[off]? = some (vs[off]'(by omega)) := List.getElem?_eq_getElem _
  refine ⟨_, ?_, h off c _ hc hv⟩
  unfold part
  simp only [Sem.run_bind, he.ag w, Result.andThen_ok, Bool.false_eq_true, if_false]
  simp [hv]
theorem part_many {M : Nat → Nat → Prop} {w : World} {e : TypeId} {m : Nat} (he : TyA P e true m) {cs : List PV} {vs : List Value} (hl : vs.length = cs.length) (h : ∀ (i : Nat) c v, cs[i]? = some c → vs[i]? = some v → Rep M w c v) (h1 : ∀ v ∈ vs, v.oneCell' = true) (off : Nat) :
    ∃ v, (part e vs.toArray off).run P w = .ok v w ∧ Rep M w (.agg ((cs.drop off).take m)) v := by
  refine ⟨.agg ((vs.drop off).take m).toArray, ?_, .agg _ _ (by simp [hl]) (fun i c v hc hv => ?_) (fun v hv => h1 v (List.mem_of_mem_drop (List.mem_of_mem_take hv)))⟩
  · unfold part
    simp only [Sem.run_bind, he.ag w, he.sz w, Result.andThen_ok, if_true]
    have e2 : vs.toArray.extract off (off + m) = ((vs.drop off).take m).toArray := by
      apply Array.ext'
      simp [List.extract_eq_take_drop]
    rw [e2]
    rfl
  · rw [List.getElem?_take] at hc hv
    split at hc
    · rename_i hi
      rw [if_pos hi] at hv
      rw [List.getElem?_drop] at hc hv
      exact h _ c v hc hv
    · cases hc
theorem rep_agg' {M : Nat → Nat → Prop} {w : World} {cs : List PV} {v : Value} (h : Rep M w (.agg cs) v) : ∃ vs : List Value, v = .agg vs.toArray ∧ vs.length = cs.length ∧ (∀ (i : Nat) c u, cs[i]? = some c → vs[i]? = some u → Rep M w c u) ∧ ∀ v ∈ vs, v.oneCell' = true := by
  cases h with
  | agg _ vs hl h h1 => exact ⟨vs, rfl, hl, h, h1⟩
theorem w_field1 {s f ft off m : Nat} {cs : List PV} {c : PV} [hf : FieldT P s f ft off] [he : TyA P ft false m] (ho : o.op = .field s x f) (hx : S.get x = .p (.agg cs)) (hc : cs[off]? = some c) (hd : o.dst = some d) (hn : d < n) : zX P n o S [] (.p c) none :=
  zX.pure hd hn fun S2 hg _ M w0 ρ a w hs => by
    have h1 := yR hs ((hg x (by rw [ho]; simp [Op.operands])).trans hx)
    obtain ⟨vs, hv, hl, h2, h3⟩ := rep_agg' h1
    obtain ⟨v, h4, h5⟩ := part_one he hl h2 hc
    obtain ⟨fl, hfl, hfe⟩ := Option.map_eq_some_iff.1 hf.at_
    simp only [Prod.mk.injEq] at hfe
    refine ⟨v, w, ?_, Below.refl _ _, .p h5⟩
    unfold execOp
    rw [ho]
    simp only [hv, Instr.field, Sem.run_bind, run_underlying hf.st, Result.andThen_ok, hfl, asAgg, Sem.run_pure, hfe.1, hfe.2, h4]
/-- an element of an array's value -/
theorem w_idxN {t e m sz : Nat} {ix : Operand} {k : IntKind} {j : Int} {cs : List PV} [ht : Und P t (.array m e)] [he : TyA P e true sz] (ho : o.op = .index t x ix) (hx : S.get x = .p (.agg cs)) (hi : S.get ix = .p (.val (.int k j))) (hj : 0 ≤ j ∧ j < m) (hd : o.dst = some d) (hn : d < n) :
    zX P n o S [] (.p (.agg ((cs.drop (j.toNat * sz)).take sz))) none :=
  zX.pure hd hn fun S2 hg _ M w0 ρ a w hs => by
    have h1 := yR hs ((hg x (by rw [ho]; simp [Op.operands])).trans hx)
    have h0 := hs.val ((hg ix (by rw [ho]; simp [Op.operands])).trans hi)
    obtain ⟨vs, hv, hl, h2, h3⟩ := rep_agg' h1
    obtain ⟨v, h4, h5⟩ := part_many he hl h2 h3 (j.toNat * sz)
    refine ⟨v, w, ?_, Below.refl _ _, .p h5⟩
    unfold execOp
    rw [ho]
    simp only [hv, h0, Instr.index, asIntOf, Sem.run_bind, Sem.run_pure, run_underlying ht.h, Result.andThen_ok, if_pos hj, he.sz w, h4]
theorem w_iface {t : Nat} {y : PV} (hc : P.concrete t = true) (ho : o.op = .makeInterface t x) (hx : S.get x = .p y) (hd : o.dst = some d) (hn : d < n) : zX P n o S [] (.p (.ifc t y)) none :=
  zX.pure hd hn fun S2 hg _ M w0 ρ a w hs => by
    have h1 := yR hs ((hg x (by rw [ho]; simp [Op.operands])).trans hx)
    refine ⟨.iface t (a.eval x), w, ?_, Below.refl _ _, .p (.ifc t y _ h1)⟩
    unfold execOp
    rw [ho]
    simp only [Sem.run_bind, run_makeInterface w t _ hc]
    rfl
/-- cells as elements -/
def groupP (sz : Nat) : Nat → List PV → List PV
  | 0, _ => []
  | m + 1, cs => (if sz = 1 then (cs.getD 0 (.sl [])) else .agg (cs.take sz)) :: groupP sz m (cs.drop sz)
theorem w_buildSl {t e sz by_ len : Nat} {ps : Array (Nat × Operand)} {z : Value} {zs : List AV} {cs es : List PV} [ht : Und P t (.slice e)] [hi : InfoA P e z sz by_] (ho : o.op = .buildSlice t len ps)
    (hl : len ≤ maxLen) (hsmall : ¬ len * sz > 2 ^ 24) (hpos : ¬ len * sz = 0) (hz : ((List.range (len * sz)).map (z.cells[· % z.cells.size]!)).all (fun u => u.oneCell') = true) (hk : ps.toList.all (fun p => (S.get p.2).vU) = true)
    (hf : fillA (fun i => some (i * sz, sz)) (((List.range (len * sz)).map (z.cells[· % z.cells.size]!)).map fun u => .p (.val u)) (ps.toList.map fun p => (p.1, S.get p.2)) = some zs) (hp : pures zs = some cs) (hes : groupP sz len cs = es) (hfl : flat es = cs) (hel : es.length = len) (hlen : cs.length = len * sz) (hd : o.dst = some d) (hn : d < n) :
    zX P n o S [] (.p (.sl es)) none :=
  zX.pure hd hn fun S2 hg _ M w0 ρ a w hs => by
    obtain ⟨i, hi1, hi2⟩ := Option.map_eq_some_iff.1 hi.h
    simp only [Prod.mk.injEq] at hi2
    obtain ⟨hzi, hisz, _⟩ := hi2
    subst hisz
    have hargs : ∀ p ∈ ps.toList, S2.get p.2 = S.get p.2 := fun p hp => hg p.2 (by rw [ho]; simp only [Op.operands, List.mem_map]; exact ⟨p, hp, rfl⟩)
    obtain ⟨us, h1, h2⟩ := fill_rep (fun j => some (j * i.size, i.size)) S.get a.eval ps.toList _ zs _ (parts_ok hs hargs hk) hf (zerosA (fun u hu => List.all_eq_true.1 hz u hu))
    have hcs := qC hp
    have hul : us.length = len * i.size := by rw [h2.len, hcs, List.length_map, hlen]
    have hb : Below w.heap.size w (w.alloc (.cells us.toArray e)) := (Below.refl _ _).alloc (Nat.le_refl _) _
    refine ⟨.slice (some ⟨w.heap.size, 0, none⟩) len len, w.alloc (.cells us.toArray e), ?_, hb, .p (.sl es w.heap.size 0 len len us hel.symm (by rw [hfl, hul, hlen]) (fun j y hy => ?_) (fun j c y hcj hy => ?_) h2.one (fun _ _ hm => Nat.lt_irrefl _ (Mut.lt hs hm)) ?_ (Nat.le_refl _) hl)⟩
    · unfold execOp
      rw [ho]
      have e1 : (ps.map fun (j, x) => (j, a.eval x)) = (ps.toList.map fun p => (p.1, a.eval p.2)).toArray := by apply Array.ext'; simp
      have hrun := run_buildSlice w t e len (ps.toList.map fun p => (p.1, a.eval p.2)).toArray us.toArray i z ht.h hi1 hzi hsmall hpos (by rw [zeros_eq]; exact h1)
      simp only [e1, Sem.run_bind, hrun]
      rfl
    · rw [Nat.zero_add]
      exact cell_at (by rw [heap_alloc_new]) hy
    · rw [hfl] at hcj
      have h3 := h2.each j (.p c) y (by rw [hcs, List.getElem?_map, hcj]; rfl) hy
      exact (qO h3).keep (.of_below _ hb)
    · exact (Array.getElem?_eq_some_iff.1 (heap_alloc_new w (.cells us.toArray e))).1
end
end Go.Proofs.YtmfbamiciieooaaGreatDoor
/- Calls of functions that turn the caller's variables, and that may panic; closures. Generic over the program. -/
namespace Go.Proofs.YtmfbamiciieooaaGreatDoor
set_option maxRecDepth 100000
set_option maxHeartbeats 16000000
open Go Go.RowKit
def Cl.ren (σ : Nat → Nat) : Cl → Cl
  | .o k => .o (σ k)
  | .c f ks => .c f (ks.map σ)
  | x => x
def Cl.okE (m : Nat) : Cl → Bool
  | .o k => decide (1000 ≤ k ∧ k < 1000 + m)
  | .c _ ks => ks.all fun k => decide (1000 ≤ k ∧ k < 1000 + m)
  | _ => true
/-! ### Names: a contract's variables are numbered from 1000 on -/
def AV.ren (σ : Nat → Nat) : AV → AV
  | .own k => .own (σ k)
  | .ptr k o => .ptr (σ k) o
  | .ifp t k => .ifp t (σ k)
  | .ag cs => .ag (cs.map (Cl.ren σ))
  | .clo f ks => .clo f (ks.map σ)
  | .tup vs => .tup (vs.map fun x => match x with
    | .p y => .p y
    | _ => .any)
  | x => x
def Blk.ren (σ : Nat → Nat) : Blk → Blk
  | .row t s n xs => .row t s n (xs.map (AV.ren σ))
  | .prow t s n xs => .prow t s n xs
  | .box t xs => .box t (xs.map (AV.ren σ))
  | .lent t s n xs => .lent t s n xs
  | .obj mp Q => .obj mp Q
/-- what is said goes by the first m variables alone -/
def AV.okE (m : Nat) : AV → Bool
  | .own k => decide (1000 ≤ k ∧ k < 1000 + m)
  | .ptr k _ => decide (1000 ≤ k ∧ k < 1000 + m)
  | .ifp _ k => decide (1000 ≤ k ∧ k < 1000 + m)
  | .ag cs => cs.all (Cl.okE m)
  | .clo _ ks => ks.all fun k => decide (1000 ≤ k ∧ k < 1000 + m)
  | .tup vs => vs.all fun x => match x with
    | .p _ => true
    | _ => false
  | _ => true
def Blk.okE (m : Nat) : Blk → Bool
  | .box _ xs => xs.all (AV.okE m)
  | .obj _ _ => true
  | _ => false
def numB : Nat → List Blk → List (Nat × Blk)
  | _, [] => []
  | i, b :: r => (i, b) :: numB (i + 1) r
theorem look_numB : ∀ (B : List Blk) (i j : Nat), look (numB i B) j = if i ≤ j then B[j - i]? else none := by
  intro B
  induction B with
  | nil => intro i j; simp [numB, look]
  | cons b r ih =>
    intro i j
    simp only [numB, look]
    by_cases h1 : i = j
    · subst h1
      simp
    · rw [if_neg h1, ih (i + 1) j]
      by_cases h2 : i ≤ j
      · have e : j - i = (j - (i + 1)) + 1 := by omega
        rw [if_pos h2, if_pos (by omega), e, List.getElem?_cons_succ]
      · rw [if_neg h2, if_neg (by omega)]
/-- the names at a call: the contract's variable 1000 + i is the caller's ids[i] -/
def sig (ids : List Nat) (k : Nat) : Nat := ids.getD (k - 1000) 0
def xP : Act := { tmps := #[], defers := [] }
def asB (B : List Blk) : AS := { t := [], s := numB 1000 B }
structure Handed (h : Home) (B : List Blk) (ρ : Nat → Value) : Prop where
  r : ∀ i, i < B.length → h.r (1000 + i) = some (ρ (1000 + i))
  t : ∀ k, h.t k → ∃ i, i < B.length ∧ zU (ρ (1000 + i)) = some k
/-- how a call ends -/
inductive EV where
  | ret (x : AV)
  | pan (x : AV)
def EvOK (M : Nat → Nat → Prop) (ρ : Nat → Value) (w : World) : EV → Ending → Prop
  | .ret x, e => ∃ v, e = .returned v ∧ yY M ρ w x v
  | .pan x, e => ∃ v, e = .panicked [{ v := v, recovered := false }] ∧ yY M ρ w x v
/-- What function f does: of such arguments, and such variables of its callers'. -/
def FnE (P : Program) (f : FuncId) (args : List AV) (B : List Blk) (ev : EV) (B' : List Blk) : Prop :=
  ∀ (M : Nat → Nat → Prop) (h : Home) (ρ : Nat → Value) (vs : List Value), Handed h B ρ → Sat M 0 h (asB B) ρ xP h.w → vs.length = args.length →
    (∀ (i : Nat) x v, args[i]? = some x → vs[i]? = some v → yY (Mut M (asB B) ρ) ρ h.w x v) →
    Calls P f vs.toArray h.w fun e w' => ∃ ρ', Sat M 0 h (asB B') ρ' xP w' ∧ EvOK (Mut M (asB B') ρ') ρ' w' ev e
section
variable {M : Nat → Nat → Prop} {n : Nat} {w0 : Home} {w : World} {S : AS} {ρ : Nat → Value} {a : Act}
theorem qP (B : List Blk) (i : Nat) : (asB B).blk (1000 + i) = B[i]? := by
  show look (numB 1000 B) (1000 + i) = _
  have e : 1000 + i - 1000 = i := by omega
  rw [look_numB, if_pos (by omega), e]
theorem yI {B : List Blk} {id : Nat} {b : Blk} (h : (asB B).blk id = some b) : ∃ i, id = 1000 + i ∧ B[i]? = some b := by
  have h1 : look (numB 1000 B) id = some b := h
  rw [look_numB] at h1
  split at h1
  · exact ⟨id - 1000, by omega, h1⟩
  · cases h1
/-- from the caller's names to the contract's -/
theorem yY.inn {M M' : Nat → Nat → Prop} {ids : List Nat} {m : Nat} {ρ : Nat → Value} {w : World} {x : AV} {v : Value} (h : yY M ρ w (x.ren (sig ids)) v) (hk : x.okE m = true) (hM : ∀ k c, k < w.heap.size → M' k c → M k c) : yY M' (fun k => ρ (sig ids k)) w x v := by
  cases x with
  | any => exact .any _
  | p x => cases h with | p h => exact .p (h.mono hM)
  | own k =>
    have h1 := vD h
    rw [h1]
    exact .own (ρ := fun k => ρ (sig ids k)) k
  | ptr k o =>
    cases h with
    | ptr _ _ g h => exact .ptr k o g h
  | ifp t k =>
    cases h with
    | ifp _ _ g h => exact .ifp t k g h
  | ag cs =>
    cases h with
    | ag _ vs hl h h1 =>
      refine .ag cs vs (by simpa using hl) (fun i c v hc hv => ?_) h1
      have h2 := h i (c.ren (sig ids)) v (by rw [List.getElem?_map, hc]; rfl) hv
      cases c with
      | p x => exact Rep.mono h2 hM
      | o k => exact h2
      | c f ks =>
        obtain ⟨us, e, h3, h4⟩ := h2
        exact ⟨us, e, by simpa using h3, fun i k v hk hv => h4 i (sig ids k) v (by rw [List.getElem?_map, hk]; rfl) hv⟩
  | pt xs =>
    cases h with
    | pt _ g o ys h hc hM2 hg => exact .pt xs g o ys (h.mono hM) hc (fun j hj h1 => hM2 j hj (hM g _ hg h1)) hg
  | tup vs =>
    have h0 : yY M ρ w (.tup _) v := h
    cases h0 with
    | tup _ us hl h1 =>
      refine .tup _ us (by simpa using hl) fun i c u hc hu => ?_
      have hp := List.all_eq_true.1 hk c (List.mem_of_getElem? hc)
      cases c with
      | p y =>
        have h2 := h1 i (.p y) u (by rw [List.getElem?_map, hc]; rfl) hu
        cases h2 with
        | p h3 => exact .p (h3.mono hM)
      | _ => cases hp
  | clo f ks =>
    have h0 : yY M ρ w (.clo f (ks.map (sig ids))) v := h
    cases h0 with
    | clo _ _ vs hl h1 =>
      refine .clo f ks vs (by simpa using hl) fun i k v hk hv => ?_
      exact h1 i (sig ids k) v (by rw [List.getElem?_map, hk]; rfl) hv
  | glob g =>
    have h0 : yY M ρ w (.glob g) v := h
    cases h0
    exact .glob g
/-- and back -/
theorem yY.outw {M M' : Nat → Nat → Prop} {ids : List Nat} {m : Nat} {ρ ρ2 : Nat → Value} {w : World} {x : AV} {v : Value} (h : yY M ρ2 w x v) (hk : x.okE m = true) (hM : ∀ k c, k < w.heap.size → M' k c → M k c)
    (hρ : ∀ k, 1000 ≤ k → k < 1000 + m → ρ2 k = ρ (sig ids k)) : yY M' ρ w (x.ren (sig ids)) v := by
  cases x with
  | any => exact .any _
  | p x => cases h with | p h => exact .p (h.mono hM)
  | own k =>
    have h1 := vD h
    simp only [AV.okE, decide_eq_true_eq] at hk
    rw [h1, hρ k hk.1 hk.2]
    exact .own _
  | ptr k o =>
    simp only [AV.okE, decide_eq_true_eq] at hk
    cases h with
    | ptr _ _ g h =>
      rw [hρ k hk.1 hk.2] at h
      exact .ptr _ o g h
  | ifp t k =>
    simp only [AV.okE, decide_eq_true_eq] at hk
    cases h with
    | ifp _ _ g h =>
      rw [hρ k hk.1 hk.2] at h
      exact .ifp t _ g h
  | ag cs =>
    cases h with
    | ag _ vs hl h h1 =>
      refine .ag _ vs (by simpa using hl) (fun i c v hc hv => ?_) h1
      rw [List.getElem?_map, Option.map_eq_some_iff] at hc
      obtain ⟨c0, hc0, rfl⟩ := hc
      have h2 := h i c0 v hc0 hv
      have h3 := List.all_eq_true.1 hk c0 (List.mem_of_getElem? hc0)
      cases c0 with
      | p x => exact Rep.mono h2 hM
      | o k =>
        simp only [Cl.okE, decide_eq_true_eq] at h3
        show v = _
        rw [show v = _ from h2, hρ k h3.1 h3.2]
      | c f ks =>
        obtain ⟨us, e, h4, h5⟩ := h2
        refine ⟨us, e, by simpa using h4, fun i k v hk hv => ?_⟩
        rw [List.getElem?_map, Option.map_eq_some_iff] at hk
        obtain ⟨k', hk', rfl⟩ := hk
        have hok := List.all_eq_true.1 h3 k' (List.mem_of_getElem? hk')
        simp only [decide_eq_true_eq] at hok
        rw [← hρ k' hok.1 hok.2]
        exact h5 i k' v hk' hv
  | pt xs =>
    cases h with
    | pt _ g o ys h hc hM2 hg => exact .pt xs g o ys (h.mono hM) hc (fun j hj h1 => hM2 j hj (hM g _ hg h1)) hg
  | tup vs =>
    cases h with
    | tup _ us hl h1 =>
      refine .tup _ us (by simpa using hl) fun i c u hc hu => ?_
      rw [List.getElem?_map, Option.map_eq_some_iff] at hc
      obtain ⟨c', hc', rfl⟩ := hc
      have hp := List.all_eq_true.1 hk c' (List.mem_of_getElem? hc')
      cases c' with
      | p y =>
        have h2 := h1 i (.p y) u hc' hu
        cases h2 with
        | p h3 => exact .p (h3.mono hM)
      | _ => cases hp
  | clo f ks =>
    cases h with
    | clo _ _ vs hl h1 =>
      refine .clo f (ks.map (sig ids)) vs (by simpa using hl) fun i k v hk2 hv => ?_
      rw [List.getElem?_map, Option.map_eq_some_iff] at hk2
      obtain ⟨k', hk', rfl⟩ := hk2
      have hok := List.all_eq_true.1 hk k' (List.mem_of_getElem? hk')
      simp only [decide_eq_true_eq] at hok
      rw [← hρ k' hok.1 hok.2]
      exact h1 i k' v hk' hv
  | glob g =>
    cases h
    exact .glob g
theorem yA.inn {M M' : Nat → Nat → Prop} {ids : List Nat} {m : Nat} {ρ : Nat → Value} {w : World} {xs : List AV} {ys : List Value} (h : yA M ρ w (xs.map (AV.ren (sig ids))) ys) (hk : xs.all (AV.okE m) = true) (hM : ∀ k c, k < w.heap.size → M' k c → M k c) :
    yA M' (fun k => ρ (sig ids k)) w xs ys :=
  ⟨by simpa using h.len, fun i c v hc hv => yY.inn (h.each i _ v (by rw [List.getElem?_map, hc]; rfl) hv) (List.all_eq_true.1 hk c (List.mem_of_getElem? hc)) hM, h.one⟩
theorem yA.outw {M M' : Nat → Nat → Prop} {ids : List Nat} {m : Nat} {ρ ρ2 : Nat → Value} {w : World} {xs : List AV} {ys : List Value} (h : yA M ρ2 w xs ys) (hk : xs.all (AV.okE m) = true) (hM : ∀ k c, k < w.heap.size → M' k c → M k c)
    (hρ : ∀ k, 1000 ≤ k → k < 1000 + m → ρ2 k = ρ (sig ids k)) : yA M' ρ w (xs.map (AV.ren (sig ids))) ys :=
  ⟨by simpa using h.len, fun i c v hc hv => by
    rw [List.getElem?_map, Option.map_eq_some_iff] at hc
    obtain ⟨c', hc', rfl⟩ := hc
    exact yY.outw (h.each i c' v hc' hv) (List.all_eq_true.1 hk c' (List.mem_of_getElem? hc')) hM hρ, h.one⟩
/-- the frame behind a call: the variables ids hold what the contract says -/
def vJ : List Nat → List Blk → List (Nat × Blk) → List (Nat × Blk)
  | id :: is, b :: bs, s => putL (vJ is bs s) id b
  | _, _, s => s
def AS.after (S : AS) (ids : List Nat) (B : List Blk) : AS := { S with s := vJ ids (B.map (Blk.ren (sig ids))) S.s }
theorem nodup_inj : ∀ {l : List Nat}, l.Nodup → ∀ {i j x : Nat}, l[i]? = some x → l[j]? = some x → i = j
  | [], _, i, j, x, hi, _ => by simp at hi
  | a :: r, h, i, j, x, hi, hj => by
    rw [List.nodup_cons] at h
    cases i with
    | zero =>
      cases j with
      | zero => rfl
      | succ j =>
        simp at hi
        subst hi
        exact absurd (List.mem_of_getElem? (by simpa using hj)) h.1
    | succ i =>
      cases j with
      | zero =>
        simp at hj
        subst hj
        exact absurd (List.mem_of_getElem? (by simpa using hi)) h.1
      | succ j => exact congrArg (· + 1) (nodup_inj h.2 (i := i) (j := j) (x := x) (by simpa using hi) (by simpa using hj))
theorem look_putBs : ∀ (ids : List Nat) (B : List Blk) (s : List (Nat × Blk)) (j : Nat), ids.length = B.length → ids.Nodup → look (vJ ids B s) j = if j ∈ ids then B[ids.idxOf j]? else look s j := by
  intro ids
  induction ids with
  | nil => intro B s j hl hn; match B, hl with
    | [], _ => simp [vJ]
  | cons id r ih =>
    intro B s j hl hn
    match B, hl with
    | b :: bs, hl =>
      simp only [vJ, qH]
      rw [List.nodup_cons] at hn
      by_cases h1 : id = j
      · subst h1
        simp
      · rw [if_neg h1, ih bs s j (by simpa using hl) hn.2]
        have h2 : j ≠ id := fun e => h1 e.symm
        by_cases h3 : j ∈ r
        · have e : List.idxOf j (id :: r) = List.idxOf j r + 1 := by
            have hb : (id == j) = false := by simpa using h1
            rw [List.idxOf_cons, hb]
            rfl
          rw [if_pos h3, if_pos (List.mem_cons_of_mem _ h3), e, List.getElem?_cons_succ]
        · rw [if_neg h3, if_neg (by simp [h2, h3])]
end
section
variable {P : Program} {n : Nat} {o : Oper} {S : AS} {d : Nat}
/-- What a caller must show of the variables that it hands over. -/
structure Hands (S : AS) (ids : List Nat) (B : List Blk) : Prop where
  len : ids.length = B.length
  nodup : ids.Nodup
  ok : B.all (Blk.okE B.length) = true
  at_ : ∀ (i : Nat) id b, ids[i]? = some id → B[i]? = some b → S.blk id = some (b.ren (sig ids))
theorem sig_at {ids : List Nat} {i id : Nat} (h : ids[i]? = some id) : sig ids (1000 + i) = id := by
  unfold sig
  have e : 1000 + i - 1000 = i := by omega
  rw [e]
  simp [List.getD, h]
def EvOut (m : Nat) (σ : Nat → Nat) (Mu : Nat → Nat → Prop) (ρ : Nat → Value) (w : World) : EV → Ending → Prop
  | .ret x, e => x.okE m = true → ∃ v, e = .returned v ∧ yY Mu ρ w (x.ren σ) v
  | .pan x, e => x.okE m = true → ∃ v, e = .panicked [{ v := v, recovered := false }] ∧ yY Mu ρ w (x.ren σ) v
theorem Blk.wJ {b : Blk} {m : Nat} (h : b.okE m = true) (c : Nat) : b.turns c := by
  cases b with
  | lent t s n xs => cases h
  | _ => trivial
theorem Blk.vP {b : Blk} {σ : Nat → Nat} (c : Nat) : (b.ren σ).turns c ↔ b.turns c := by cases b <;> exact Iff.rfl
/-- Something that is run, of the values that the frame holds: a call, or what is left of a body. -/
theorem call_effC {C : (Ending → World → Prop) → Prop} (hmono : ∀ R R' : Ending → World → Prop, (∀ e w', R e w' → R' e w') → C R → C R') {xs : List AV} {ids : List Nat} {B B' : List Blk} {ev : EV} (hh : Hands S ids B) (hB' : B'.length = B.length) (hok' : B'.all (Blk.okE B.length) = true) (hxs : xs.all (AV.okE B.length) = true)
    {M : Nat → Nat → Prop} {w0 : Home} {ρ : Nat → Value} {a : Act} {w : World} (hs : Sat M n w0 S ρ a w) {vs : List Value}
    (hvs : ∀ (i : Nat) x v, xs[i]? = some x → vs[i]? = some v → yY (Mut M S ρ) ρ w (x.ren (sig ids)) v)
    (hf : ∀ (M' : Nat → Nat → Prop) (h : Home) (ρ' : Nat → Value), h.w = w → h.d = [] → Handed h B ρ' → Sat M' 0 h (asB B) ρ' xP w → (∀ (i : Nat) x v, xs[i]? = some x → vs[i]? = some v → yY (Mut M' (asB B) ρ') ρ' w x v) → (∀ k, 1000 ≤ k → k < 1000 + B.length → ρ' k = ρ (sig ids k)) →
      C fun e w' => ∃ ρ2, Sat M' 0 h (asB B') ρ2 xP w' ∧ EvOK (Mut M' (asB B') ρ2) ρ2 w' ev e) :
    C fun e w' => Sat M n w0 (S.after ids B') ρ a w' ∧ EvOut B.length (sig ids) (Mut M (S.after ids B') ρ) ρ w' ev e := by
  have hlen := hh.len
  have at_i : ∀ i, i < B.length → ∃ id b, ids[i]? = some id ∧ B[i]? = some b ∧ S.blk id = some (b.ren (sig ids)) ∧ sig ids (1000 + i) = id := fun i hi => by
    have h1 : ids[i]? = some (ids[i]'(by omega)) := List.getElem?_eq_getElem _
    have h2 : B[i]? = some B[i] := List.getElem?_eq_getElem _
    exact ⟨_, _, h1, h2, hh.at_ i _ _ h1 h2, sig_at h1⟩
  have box_i : ∀ i, i < B.length → ∃ mp g, ρ (sig ids (1000 + i)) = objV mp g := fun i hi => by
    obtain ⟨id, b, h1, h2, h3, h4⟩ := at_i i hi
    have hb := hs.blks id _ h3
    have hbo := List.all_eq_true.1 hh.ok b (List.mem_of_getElem? h2)
    rw [h4]
    cases b with
    | box t cs =>
      obtain ⟨g, ys, hv, _⟩ := hb
      exact ⟨false, g, hv⟩
    | row t s m cs => cases hbo
    | prow t s m cs => cases hbo
    | lent t s m cs => cases hbo
    | obj mp Q =>
      obtain ⟨g, o, hv, _⟩ := hb
      exact ⟨mp, g, hv⟩
  let T : Nat → Prop := fun k => ∃ i, i < B.length ∧ zU (ρ (sig ids (1000 + i))) = some k
  have T_mut : ∀ k c, T k → Mut M S ρ k c := fun k c ⟨i, hi, hk⟩ => by
    obtain ⟨id, b, h1, h2, h3, h4⟩ := at_i i hi
    rw [h4] at hk
    exact .inr ⟨id, _, h3, hk, (Blk.vP c).2 (Blk.wJ (List.all_eq_true.1 hh.ok b (List.mem_of_getElem? h2)) c)⟩
  have T_has : ∀ k, T k → w0.has k := fun k ⟨i, hi, hk⟩ => by
    obtain ⟨id, b, h1, h2, h3, h4⟩ := at_i i hi
    rw [h4] at hk
    exact hs.mine id _ k h3 hk
  let M' : Nat → Nat → Prop := fun k c => Mut M S ρ k c ∧ ¬ T k
  let h : Home := ⟨w, T, hs.lays, (fun g hg ht => hs.tabs g 0 hg (T_mut g 0 ht)), fun k => if 1000 ≤ k ∧ k < 1000 + B.length then some (ρ (sig ids k)) else none, (fun k v hk => by
      by_cases hc : 1000 ≤ k ∧ k < 1000 + B.length
      · simp only [hc, and_self, if_true, Option.some.injEq] at hk
        obtain ⟨mp, g, hg⟩ := box_i (k - 1000) (by omega)
        have e : 1000 + (k - 1000) = k := by omega
        rw [e] at hg
        exact ⟨mp, g, by rw [← hk, hg]⟩
      · rw [if_neg hc] at hk; cases hk), (fun k hk => if_neg (by omega)), []⟩
  have hr_i : ∀ k, 1000 ≤ k → k < 1000 + B.length → h.r k = some (ρ (sig ids k)) := fun k h1 h2 => if_pos ⟨h1, h2⟩
  have mutc : ∀ k c, Mut M' (asB B) (fun k => ρ (sig ids k)) k c → Mut M S ρ k c := by
    rintro k c (hk | ⟨id, b, hb, hk, _⟩)
    · exact hk.1
    · obtain ⟨i, rfl, hbi⟩ := yI hb
      exact T_mut k c ⟨i, (List.getElem?_eq_some_iff.1 hbi).1, hk⟩
  have hsat : Sat M' 0 h (asB B) (fun k => ρ (sig ids k)) xP h.w := by
    refine ⟨xO.refl h, fun k c hk hh2 => ?_, fun g c hg hk => ?_, rfl, rfl, fun i => .any _, fun id b hb => ?_, fun id b k hb hk => ?_, fun k v hk => ?_, fun k hk => by omega, fun i j bi bj k hi hj h1 h2 => ?_⟩
    · rcases hh2 with hh2 | hh2
      · exact absurd (Mut.lt hs hk.1) (Nat.not_lt.2 hh2)
      · exact hk.2 hh2
    · exact hs.tabs g c hg hk.1
    · obtain ⟨i, rfl, hbi⟩ := yI hb
      have hi : i < B.length := (List.getElem?_eq_some_iff.1 hbi).1
      obtain ⟨id, b2, h1, h2, h3, h4⟩ := at_i i hi
      rw [hbi] at h2
      obtain rfl := Option.some.inj h2
      have hbo := List.all_eq_true.1 hh.ok b (List.mem_of_getElem? hbi)
      have hb2 := hs.blks id _ h3
      cases b with
      | box t cs =>
        obtain ⟨g, ys, hv, hg, hhp, hc⟩ := hb2
        exact ⟨g, ys, by show ρ (sig ids (1000 + i)) = _; rw [h4]; exact hv, hg, hhp, yA.inn hc hbo fun k c _ hk => mutc k c hk⟩
      | row t s m cs => cases hbo
      | prow t s m cs => cases hbo
      | lent t s m cs => cases hbo
      | obj mp Q =>
        obtain ⟨g, o, hv, hg, hhp, hq⟩ := hb2
        exact ⟨g, o, by show ρ (sig ids (1000 + i)) = _; rw [h4]; exact hv, hg, hhp, hq⟩
    · obtain ⟨i, rfl, hbi⟩ := yI hb
      exact .inr ⟨i, (List.getElem?_eq_some_iff.1 hbi).1, hk⟩
    · by_cases hc : 1000 ≤ k ∧ k < 1000 + B.length
      · rw [hr_i k hc.1 hc.2] at hk
        exact Option.some.inj hk
      · have : h.r k = none := if_neg hc
        rw [this] at hk; cases hk
    · obtain ⟨i', rfl, hbi⟩ := yI hi
      obtain ⟨j', rfl, hbj⟩ := yI hj
      obtain ⟨id, b1, p1, p2, p3, p4⟩ := at_i i' (List.getElem?_eq_some_iff.1 hbi).1
      obtain ⟨jd, b2, q1, q2, q3, q4⟩ := at_i j' (List.getElem?_eq_some_iff.1 hbj).1
      rw [p4] at h1
      rw [q4] at h2
      have e := hs.dist id jd _ _ k p3 q3 h1 h2
      subst e
      rw [nodup_inj hh.nodup p1 q1]
  refine hmono _ _ ?_ (hf M' h _ rfl rfl ⟨fun i hi => hr_i _ (by omega) (by omega), fun k hk => hk⟩ hsat (fun i x v h1 h2 => yY.inn (hvs i x v h1 h2) (List.all_eq_true.1 hxs x (List.mem_of_getElem? h1)) fun k c _ hk => mutc k c hk) (fun _ _ _ => rfl))
  rintro e w' ⟨ρ2, hs2, hev⟩
  have hρ : ∀ k, 1000 ≤ k → k < 1000 + B.length → ρ2 k = ρ (sig ids k) := fun k h1 h2 => hs2.fix k _ (hr_i k h1 h2)
  have hblk : ∀ j, (S.after ids B').blk j = if j ∈ ids then (B'.map (Blk.ren (sig ids)))[ids.idxOf j]? else S.blk j := fun j => look_putBs ids _ S.s j (by simp [hlen, hB']) hh.nodup
  have mem_at : ∀ j, j ∈ ids → ∃ i b b', ids.idxOf j = i ∧ i < B.length ∧ ids[i]? = some j ∧ B[i]? = some b ∧ B'[i]? = some b' ∧ S.blk j = some (b.ren (sig ids)) ∧ sig ids (1000 + i) = j := fun j hj => by
    have h1 : ids.idxOf j < ids.length := List.idxOf_lt_length_of_mem hj
    have h2 : ids[ids.idxOf j]? = some j := by rw [List.getElem?_eq_getElem h1, List.getElem_idxOf h1]
    obtain ⟨id, b, h3, h4, h5, h6⟩ := at_i (ids.idxOf j) (by omega)
    rw [h2] at h3
    obtain rfl := Option.some.inj h3
    exact ⟨_, b, B'[ids.idxOf j]'(by omega), rfl, by omega, h2, h4, List.getElem?_eq_getElem _, h5, h6⟩
  have keys : ∀ j b, (S.after ids B').blk j = some b → ∃ b0, S.blk j = some b0 ∧ ∀ c, b.turns c → b0.turns c := fun j b hb => by
    rw [hblk] at hb
    by_cases hj : j ∈ ids
    · obtain ⟨i, b0, b', _, _, _, h3, _, h5, _⟩ := mem_at j hj
      exact ⟨_, h5, fun c _ => (Blk.vP c).2 (Blk.wJ (List.all_eq_true.1 hh.ok b0 (List.mem_of_getElem? h3)) c)⟩
    · rw [if_neg hj] at hb
      exact ⟨b, hb, fun _ h => h⟩
  have keys' : ∀ j b, S.blk j = some b → ∃ b0, (S.after ids B').blk j = some b0 := fun j b hb => by
    rw [hblk]
    by_cases hj : j ∈ ids
    · obtain ⟨i, b0, b', h1, _, _, _, h4, _, _⟩ := mem_at j hj
      rw [if_pos hj, h1]
      exact ⟨_, by rw [List.getElem?_map, h4]; rfl⟩
    · rw [if_neg hj]
      exact ⟨b, hb⟩
  have mut1 : ∀ k c, Mut M (S.after ids B') ρ k c → Mut M S ρ k c := by
    rintro k c (hk | ⟨j, b, hb, hk, ht⟩)
    · exact .inl hk
    · obtain ⟨b0, h0, h0t⟩ := keys j b hb
      exact .inr ⟨j, b0, h0, hk, h0t c ht⟩
  have mut2 : ∀ k c, Mut M S ρ k c → Mut M' (asB B') ρ2 k c := fun k c hk => by
    by_cases ht : T k
    · obtain ⟨i, hi, hk2⟩ := ht
      refine .inr ⟨1000 + i, B'[i]'(by omega), by rw [qP]; exact List.getElem?_eq_getElem _, ?_, Blk.wJ (List.all_eq_true.1 hok' _ (List.getElem_mem _)) c⟩
      rw [hρ (1000 + i) (by omega) (by omega)]
      exact hk2
    · exact .inl ⟨hk, ht⟩
  have grow : Keeps (Mut M S ρ) w w' := ⟨hs2.below.size, fun k c hk hnm => World.cell?_of_block (w := w) (hs2.below.block k hk (fun ht => hnm (T_mut k c ht)))⟩
  have sat' : Sat M n w0 (S.after ids B') ρ a w' := by
    refine ⟨⟨hs2.below.os.trans hs.below.os, hs2.below.tape.trans hs.below.tape, hs2.below.output.trans hs.below.output, Nat.le_trans hs.below.size hs2.below.size, fun k hk ht => ?_⟩, hs.out, hs.tab, hs.size, hs.defers, fun i => ((hs.tmps i).keep grow).mono fun k c _ hk => mut1 k c hk, fun j b hb => ?_, fun j b k hb hk => ?_, hs.fix, hs.free, fun i j bi bj k hi hj h1 h2 => ?_⟩
    · refine (hs2.below.block k (Nat.lt_of_lt_of_le hk hs.below.size) (fun hT => ?_)).trans (hs.below.block k hk ht)
      rcases T_has k hT with h1 | h1
      · omega
      · exact ht h1
    · rw [hblk] at hb
      by_cases hj : j ∈ ids
      · obtain ⟨i, b0, b', h1, hi, h2, h3, h4, h5, h6⟩ := mem_at j hj
        rw [if_pos hj, h1, List.getElem?_map, h4] at hb
        obtain rfl := Option.some.inj hb
        have hb2 := hs2.blks (1000 + i) b' (by rw [qP]; exact h4)
        have hbo := List.all_eq_true.1 hok' b' (List.mem_of_getElem? h4)
        cases b' with
        | box t cs =>
          obtain ⟨g, ys, hv, hg, hhp, hc⟩ := hb2
          rw [hρ (1000 + i) (by omega) (by omega), h6] at hv
          exact ⟨g, ys, hv, hg, hhp, yA.outw hc hbo (fun k c _ hk => mut2 k c (mut1 k c hk)) hρ⟩
        | row t s m cs => cases hbo
        | prow t s m cs => cases hbo
        | lent t s m cs => cases hbo
        | obj mp Q =>
          obtain ⟨g, o, hv, hg, hhp, hq⟩ := hb2
          rw [hρ (1000 + i) (by omega) (by omega), h6] at hv
          exact ⟨g, o, hv, hg, hhp, hq⟩
      · rw [if_neg hj] at hb
        refine (xG.keep (hs.blks j b hb) (fun k hk => ?_) grow (fun k c _ hk => hk)).mono mut1
        refine hs2.below.block k (Mut.blk_lt hs hb hk) (fun ⟨i, hi, hk2⟩ => ?_)
        obtain ⟨id, b2, p1, p2, p3, p4⟩ := at_i i hi
        rw [p4] at hk2
        have := hs.dist j id _ _ k hb p3 hk hk2
        subst this
        exact hj (List.mem_of_getElem? p1)
    · obtain ⟨b0, h0, _⟩ := keys j b hb
      exact hs.mine j b0 k h0 hk
    · obtain ⟨b1, h3, _⟩ := keys i bi hi
      obtain ⟨b2, h4, _⟩ := keys j bj hj
      exact hs.dist i j b1 b2 k h3 h4 h1 h2
  refine ⟨sat', ?_⟩
  cases ev with
  | ret x =>
    intro hx
    obtain ⟨v, he, hv⟩ := hev
    exact ⟨v, he, yY.outw hv hx (fun k c _ hk => mut2 k c (mut1 k c hk)) hρ⟩
  | pan x =>
    intro hx
    obtain ⟨v, he, hv⟩ := hev
    exact ⟨v, he, yY.outw hv hx (fun k c _ hk => mut2 k c (mut1 k c hk)) hρ⟩
/-- The call of f, run, of the values that the frame holds. -/
theorem call_eff {f : FuncId} {xs : List AV} {ids : List Nat} {B B' : List Blk} {ev : EV} (hf : FnE P f xs B ev B') (hh : Hands S ids B) (hB' : B'.length = B.length) (hok' : B'.all (Blk.okE B.length) = true) (hxs : xs.all (AV.okE B.length) = true)
    {M : Nat → Nat → Prop} {w0 : Home} {ρ : Nat → Value} {a : Act} {w : World} (hs : Sat M n w0 S ρ a w) {vs : List Value} (hvl : vs.length = xs.length)
    (hvs : ∀ (i : Nat) x v, xs[i]? = some x → vs[i]? = some v → yY (Mut M S ρ) ρ w (x.ren (sig ids)) v) :
    Calls P f vs.toArray w fun e w' => Sat M n w0 (S.after ids B') ρ a w' ∧ EvOut B.length (sig ids) (Mut M (S.after ids B') ρ) ρ w' ev e :=
  call_effC (C := Calls P f vs.toArray w) (fun _ _ h c => c.mono h) hh hB' hok' hxs hs hvs fun M' h ρ' hw _ hand hsat hr _ => by
    subst hw
    exact hf M' h ρ' vs hand hsat hvl hr
end
/-! ### Rules -/
section
variable {P : Program} {n : Nat} {o : Oper} {S : AS} {d : Nat} {t : TypeId} {x y : Operand} {ops : Array Oper} {rest : List Oper} {K : Exit → AS → Prop}
theorem a_moveC {f : Nat} {ids : List Nat} (ho : o.op = .move x) (hx : S.get x = .clo f ids) (hd : o.dst = some d) (hn : d < n) : zX P n o S [] (.clo f ids) none := hx ▸ a_move (.inl ho) hd hn
theorem a_assignC {f : Nat} {ids : List Nat} (ho : o.op = .assign x) (hx : S.get x = .clo f ids) (hd : o.dst = some d) (hn : d < n) : zX P n o S [] (.clo f ids) none := hx ▸ a_move (.inr ho) hd hn
theorem yP {id off f : Nat} {ids : List Nat} {b : Blk} {m : Nat} [h : TyA P t false m] (ho : o.op = .load t x) (hx : S.get x = .ptr id off) (hb : S.blk id = some b) (hc : b.xs[off]? = some (.clo f ids)) (hd : o.dst = some d) (hn : d < n) : zX P n o S [id] (.clo f ids) none := a_loadR1 ho hx hb hc h.ag hd hn
/-- a closure is made -/
theorem w_makeFunc {f : Nat} {cs : Array Operand} {ids : List Nat} (ho : o.op = .makeFunc (.func f) #[] cs) (hc : cs.toList.map S.get = ids.map fun i => .ptr i 0) (hd : o.dst = some d) (hn : d < n) : zX P n o S [] (.clo f ids) none :=
  zX.pure hd hn fun S2 hg _ M w0 ρ a w hs => by
    refine ⟨.func (.func f) #[] (cs.toList.map a.eval).toArray, w, ?_, Below.refl _ _, .clo f ids _ ?_ fun i k v hk hv => ?_⟩
    · unfold execOp
      rw [ho]
      have e : cs.map a.eval = (cs.toList.map a.eval).toArray := by apply Array.ext'; simp
      simp [Instr.makeFunc, e]
    · have := congrArg List.length hc
      simpa using this
    · rw [List.getElem?_map, Option.map_eq_some_iff] at hv
      obtain ⟨z, hz, rfl⟩ := hv
      have h3 : S.get z = .ptr k 0 := by
        have h4 : (cs.toList.map S.get)[i]? = (ids.map fun i => AV.ptr i 0)[i]? := by rw [hc]
        rw [List.getElem?_map, List.getElem?_map, hz, hk] at h4
        simpa using h4
      have h5 := hs.rep z
      rw [hg z (by rw [ho]; simp only [Op.operands]; simp; exact Array.mem_def.2 (List.mem_of_getElem? hz)), h3] at h5
      obtain ⟨g, h6, h7⟩ := wU h5
      exact ⟨g, h6, h7⟩
/-- the variables that a closure holds -/
def readIds : List AV → Option (List Nat)
  | [] => some []
  | .ptr i 0 :: r => match readIds r with
    | some l => some (i :: l)
    | none => none
  | _ => none
theorem readIds_spec : ∀ {l : List AV} {ids : List Nat}, readIds l = some ids → l = ids.map fun i => .ptr i 0
  | [], ids, h => by simp only [readIds, Option.some.injEq] at h; subst h; rfl
  | x :: r, ids, h => by
    unfold readIds at h
    split at h
    · rename_i h0; cases h0
    · rename_i i r' h0
      injection h0 with h1 h2
      subst h1
      subst h2
      split at h
      · rename_i l hl
        obtain rfl := Option.some.inj h
        rw [readIds_spec hl]
        rfl
      · cases h
    · cases h
theorem w_mkFunc {f : Nat} {cs : Array Operand} {ids : List Nat} (ho : o.op = .makeFunc (.func f) #[] cs) (hc : readIds (cs.toList.map S.get) = some ids) (hd : o.dst = some d) (hn : d < n) : zX P n o S [] (.clo f ids) none := w_makeFunc ho (readIds_spec hc) hd hn
/-- what is handed over, variable by variable -/
def AtB (S : AS) (ids : List Nat) : List Nat → List Blk → Prop
  | [], [] => True
  | i :: is, b :: bs => S.blk i = some (b.ren (sig ids)) ∧ AtB S ids is bs
  | _, _ => False
theorem vH {ids : List Nat} {B : List Blk} (hn : ids.Nodup) (hok : B.all (Blk.okE B.length) = true) (h : AtB S ids ids B) : Hands S ids B := by
  have key : ∀ (is : List Nat) (bs : List Blk), AtB S ids is bs → is.length = bs.length ∧ ∀ (i : Nat) id b, is[i]? = some id → bs[i]? = some b → S.blk id = some (b.ren (sig ids)) := by
    intro is
    induction is with
    | nil => intro bs h; cases bs with
      | nil => exact ⟨rfl, fun i id b h => by simp at h⟩
      | cons => exact h.elim
    | cons x r ih => intro bs h; cases bs with
      | nil => exact h.elim
      | cons b q =>
        obtain ⟨h1, h2⟩ := ih q h.2
        refine ⟨by simp [h1], fun i id c hi hc => ?_⟩
        cases i with
        | zero => simp at hi hc; subst hi; subst hc; exact h.1
        | succ i => exact h2 i id c (by simpa using hi) (by simpa using hc)
  obtain ⟨h1, h2⟩ := key ids B h
  exact ⟨h1, hn, hok, h2⟩
/-- a variable that holds a closure -/
theorem w_boxC {f : Nat} {ids : List Nat} (ho : o.op = .box t x) (hx : S.get x = .clo f ids) (hd : o.dst = some d) (hn : d < n) : zX P n o S [] (.ptr d 0) (some (.box t [.clo f ids])) :=
  zX.made hd hn fun S2 hg _ M w0 ρ a w hs => by
    have hr := hs.rep x
    rw [hg x (by rw [ho]; simp [Op.operands]), hx] at hr
    refine ⟨.pointer (some ⟨w.heap.size, 0, none⟩), w.alloc (.cells (a.eval x).cells t), ?_, World.grownBy_alloc w _ none, fun k hk => ?_, ?_, .inr ⟨rfl, _, rfl⟩⟩
    · unfold execOp
      rw [ho]
      simp [Instr.box, newVar, newRow]
    · simp only [zU, Option.some.injEq] at hk; omega
    · have hc := repA_cells hr rfl
      refine ⟨w.heap.size, (a.eval x).cells.toList, rfl, Nat.zero_le _, by rw [heap_alloc_new], ⟨hc.len, fun i c u h2 h3 => ?_, hc.one⟩⟩
      refine ((hc.each i c u h2 h3).mono fun k c hk h => ?_).keep (.of_below _ ((Below.refl _ _).alloc (Nat.le_refl _) _))
      rcases h with h | h
      · exact h
      · simp only [zU, Option.some.injEq] at h; omega
/-- An operation that is a call, of function f, of such arguments. -/
def Enters (P : Program) (o : Oper) (S : AS) (f : FuncId) (avs : List AV) : Prop :=
  ∀ (M : Nat → Nat → Prop) (n : Nat) (w0 : Home) (ρ : Nat → Value) (a : Act) (w : World), Sat M n w0 S ρ a w → ∃ vs : List Value, (execOp a.eval o).run P w = .ok (.enter f vs.toArray) w ∧ vs.length = avs.length ∧
    ∀ (i : Nat) x v, avs[i]? = some x → vs[i]? = some v → yY (Mut M S ρ) ρ w x v
theorem reps_get {M : Nat → Nat → Prop} {n : Nat} {w0 : Home} {ρ : Nat → Value} {a : Act} {w : World} (hs : Sat M n w0 S ρ a w) (args : List Operand) : ∀ (i : Nat) x v, (args.map S.get)[i]? = some x → (args.map a.eval)[i]? = some v → yY (Mut M S ρ) ρ w x v := by
  intro i x v hx hv
  rw [List.getElem?_map, Option.map_eq_some_iff] at hx hv
  obtain ⟨y, hy, rfl⟩ := hx
  obtain ⟨z, hz, rfl⟩ := hv
  rw [hy] at hz
  obtain rfl := Option.some.inj hz
  exact hs.rep y
theorem enters_fn {f : FuncId} {args : Array Operand} {ts : Array TypeId} [hc : HasFn P f] (ho : o.op = .call { callee := .value (.func f), args := args, argTypes := ts }) : Enters P o S f (args.toList.map S.get) :=
  fun M n w0 ρ a w hs => by
    refine ⟨args.toList.map a.eval, ?_, by simp, reps_get hs args.toList⟩
    have e : (args.toList.map a.eval).toArray = args.map a.eval := by apply Array.ext'; simp
    unfold execOp
    rw [ho, e]
    simp [resolve, Deferred.ofValue, Act.eval, invoke, hc.h]
theorem enters_clo {f : FuncId} {ks : List Nat} {args : Array Operand} {ts : Array TypeId} [hc : HasFn P f] (ho : o.op = .call { callee := .value x, args := args, argTypes := ts }) (hx : S.get x = .clo f ks) : Enters P o S f (args.toList.map S.get ++ ks.map fun k => .ptr k 0) :=
  fun M n w0 ρ a w hs => by
    have hr := hs.rep x
    rw [hx] at hr
    generalize hv : a.eval x = v at hr
    cases hr with
    | clo _ _ vs hl h =>
      refine ⟨args.toList.map a.eval ++ vs, ?_, by simp [hl], fun i x v h1 h2 => ?_⟩
      · have e : (args.toList.map a.eval ++ vs).toArray = args.map a.eval ++ vs.toArray := by apply Array.ext'; simp
        unfold execOp
        rw [ho, e]
        simp [resolve, Deferred.ofValue, hv, invoke, hc.h]
      · by_cases hi : i < args.toList.length
        · rw [List.getElem?_append_left (by simpa using hi)] at h1 h2
          exact reps_get hs args.toList i x v h1 h2
        · rw [List.getElem?_append_right (by simpa using hi)] at h1 h2
          simp only [List.length_map] at h1 h2
          rw [List.getElem?_map, Option.map_eq_some_iff] at h1
          obtain ⟨k, hk, rfl⟩ := h1
          obtain ⟨g, hg, rfl⟩ := h _ k v hk h2
          exact .ptr k 0 g hg
theorem reps_ren {M : Nat → Nat → Prop} {ρ : Nat → Value} {w : World} {xs avs : List AV} {ids : List Nat} {vs : List Value} (hx : avs = xs.map (AV.ren (sig ids))) (h : ∀ (i : Nat) x v, avs[i]? = some x → vs[i]? = some v → yY M ρ w x v) :
    ∀ (i : Nat) x v, xs[i]? = some x → vs[i]? = some v → yY M ρ w (x.ren (sig ids)) v := fun i x v h1 h2 => h i _ v (by rw [hx, List.getElem?_map, h1]; rfl) h2
/-- A call by a contract, that comes back. -/
theorem zF.eRet {f : FuncId} {avs xs : List AV} {B B' : List Blk} {rx : AV} {N : AS → Prop} (ids : List Nat) (hf : FnE P f xs B (.ret rx) B') (hd : o.dst = some d) (hn : d < n) (he : Enters P o S f avs) (hx : avs = xs.map (AV.ren (sig ids))) (hh : Hands S ids B)
    (hB' : B'.length = B.length) (hok' : B'.all (Blk.okE B.length) = true) (hxs : xs.all (AV.okE B.length) = true) (hrx : rx.okE B.length = true) (hr : N ((S.after ids B').put d (rx.ren (sig ids)))) : zF P n o S K N := by
  intro M w0 ρ a w KK Q hs hK _
  obtain ⟨vs, he1, he2, he3⟩ := he M n w0 ρ a w hs
  unfold Oper.wp
  rw [he1, Oper.upon_enter]
  refine (call_eff hf hh hB' hok' hxs hs (by rw [he2, hx, List.length_map]) (reps_ren hx he3)).mono ?_
  rintro e w' ⟨hs', hev⟩
  obtain ⟨v, rfl, hv⟩ := hev hrx
  show KK (a.put o.dst v) w'
  rw [hd]
  exact hK _ ρ _ w' hr (hs'.put hn hv)
/-- A call by a contract, that panics. -/
theorem zF.ePan {f : FuncId} {avs xs : List AV} {B B' : List Blk} {rx : AV} {N : AS → Prop} (ids : List Nat) (hf : FnE P f xs B (.pan rx) B') (he : Enters P o S f avs) (hx : avs = xs.map (AV.ren (sig ids))) (hh : Hands S ids B)
    (hB' : B'.length = B.length) (hok' : B'.all (Blk.okE B.length) = true) (hxs : xs.all (AV.okE B.length) = true) (hrx : rx.okE B.length = true) (hr : K (.panic []) { S.after ids B' with x := rx.ren (sig ids) }) : zF P n o S K N := by
  intro M w0 ρ a w KK Q hs _ hK
  obtain ⟨vs, he1, he2, he3⟩ := he M n w0 ρ a w hs
  unfold Oper.wp
  rw [he1, Oper.upon_enter]
  refine (call_eff hf hh hB' hok' hxs hs (by rw [he2, hx, List.length_map]) (reps_ren hx he3)).mono ?_
  rintro e w' ⟨hs', hev⟩
  obtain ⟨v, rfl, hv⟩ := hev hrx
  exact hK (.panic _) _ ρ a w' hr ⟨hs'.below, hs'.out, hs'.tab, hs'.size, hs'.defers, hs'.tmps, hs'.blks, hs'.mine, hs'.fix, hs'.free, hs'.dist⟩ ⟨v, rfl, hv⟩
theorem zY.ofT (hg : o.guard = none) (h : zF P n o S K (fun S1 => zY P n ops rest S1 K)) : zY P n ops (o :: rest) S K := by
  intro M w0 ρ a w Q hs hK
  unfold wpList
  rw [if_pos (by simp [Region.wanted, hg])]
  exact .inl (h M w0 ρ a w _ Q hs (fun S1 ρ' a' w' hN hs' => hN M w0 ρ' a' w' Q hs' hK) hK)
theorem zY.ofTg {j t : Nat} {want b : Bool} (hg : o.guard = some (j, want)) (ht : (ops[j]?).bind (·.dst) = some t) (htn : t < n) (hb : S.tmp t = .p (.val (.bool b))) (hbw : b = want)
    (h : zF P n o S K (fun S1 => zY P n ops rest S1 K)) : zY P n ops (o :: rest) S K := by
  intro M w0 ρ a w Q hs hK
  unfold wpList
  rw [hs.wanted hg ht htn hb, if_pos (by subst hbw; simp [wantB])]
  exact .inl (h M w0 ρ a w _ Q hs (fun S1 ρ' a' w' hN hs' => hN M w0 ρ' a' w' Q hs' hK) hK)
theorem zD.ofT (hg : o.guard = none) (h : zF P n o S K (fun S1 => zD P n K S1 rest)) : zD P n K S (o :: rest) := ⟨hg, h⟩
/-- 'panic(x)' -/
theorem zF.panic {t : Nat} {y : PV} {N : AS → Prop} (ho : o.op = .panic x) (hx : S.get x = .p (.ifc t y)) (hr : K (.panic []) { S with x := .p (.ifc t y) }) : zF P n o S K N := by
  intro M w0 ρ a w KK Q hs _ hK
  have h1 := hs.rep x
  rw [hx] at h1
  have h2 := qO h1
  obtain ⟨u, hu⟩ : ∃ u, a.eval x = .iface t u := by
    generalize a.eval x = v at h2
    cases h2 with
    | ifc _ _ u h => exact ⟨u, rfl⟩
  have h3 : (execOp a.eval o).run P w = .halt (.panic (a.eval x)) w := by
    unfold execOp
    rw [ho]
    simp only [hu]
    rfl
  unfold Oper.wp
  rw [h3, Oper.upon_panic]
  exact hK (.panic _) _ ρ a w hr ⟨hs.below, hs.out, hs.tab, hs.size, hs.defers, hs.tmps, hs.blks, hs.mine, hs.fix, hs.free, hs.dist⟩ ⟨_, rfl, h1⟩
/-! ### A function's contract out of its body -/
def zipA : Nat → List AV → List (Nat × AV)
  | _, [] => []
  | i, x :: r => (i, x) :: zipA (i + 1) r
theorem look_zipA : ∀ (xs : List AV) (i j : Nat), look (zipA i xs) j = if i ≤ j then xs[j - i]? else none := by
  intro xs
  induction xs with
  | nil => intro i j; simp [zipA, look]
  | cons b r ih =>
    intro i j
    simp only [zipA, look]
    by_cases h1 : i = j
    · subst h1
      simp
    · rw [if_neg h1, ih (i + 1) j]
      by_cases h2 : i ≤ j
      · have e : j - i = (j - (i + 1)) + 1 := by omega
        rw [if_pos h2, if_pos (by omega), e, List.getElem?_cons_succ]
      · rw [if_neg h2, if_neg (by omega)]
inductive GivesA (P : Program) (fn : Func) (S : AS) : AV → Prop
  | none (hr : fn.results = #[]) : GivesA P fn S .any
  | one {t : Nat} {x : AV} (hr : fn.results = #[.tmp t]) (h : S.tmp t = x) : GivesA P fn S x
  | p {r : ResultVar} {x : PV} (hr : fn.results = #[r]) (h : ResV P S r x) : GivesA P fn S (.p x)
  | tup {rs : List ResultVar} {l : List PV} (hr : fn.results = rs.toArray) (hl : rs.length ≠ 1) (h : ResVs P S rs l) : GivesA P fn S (.tup (l.map AV.p))
def HasB (S : AS) (B : List Blk) : Prop := ∀ (i : Nat) b, B[i]? = some b → S.blk (1000 + i) = some b
def EndE (P : Program) (fn : Func) (ev : EV) (B' : List Blk) (e : Exit) (S : AS) : Prop :=
  match ev with
  | .ret x => (e = .ret ∨ e = .normal) ∧ ∃ S', Sub S S' ∧ GivesA P fn S' x ∧ HasB S' B'
  | .pan x => e = .panic [] ∧ S.x = x ∧ HasB S B'
def hasL (S : AS) : Nat → List Blk → Prop
  | _, [] => True
  | i, b :: r => S.blk i = some b ∧ hasL S (i + 1) r
theorem wL {S : AS} {B : List Blk} (h : hasL S 1000 B) : HasB S B := by
  have key : ∀ (B : List Blk) (k : Nat), hasL S k B → ∀ (i : Nat) b, B[i]? = some b → S.blk (k + i) = some b := by
    intro B
    induction B with
    | nil => intro k _ i b h; simp at h
    | cons c r ih =>
      intro k h i b hb
      cases i with
      | zero => simp at hb; subst hb; exact h.1
      | succ i =>
        have := ih (k + 1) h.2 i b (by simpa using hb)
        rw [show k + (i + 1) = k + 1 + i from by omega]
        exact this
  exact key B 1000 h
theorem Sat.asB {M : Nat → Nat → Prop} {w0 : Home} {ρ : Nat → Value} {a : Act} {w : World} {B : List Blk} (hs : Sat M n w0 S ρ a w) (hd : w0.d = []) (hb : HasB S B) : Sat M 0 w0 (asB B) ρ xP w ∧ ∀ k c, Mut M (Proofs.YtmfbamiciieooaaGreatDoor.asB B) ρ k c → Mut M S ρ k c := by
  have hm : ∀ k c, Mut M (Proofs.YtmfbamiciieooaaGreatDoor.asB B) ρ k c → Mut M S ρ k c := by
    rintro k c (hk | ⟨id, b, hb1, hk⟩)
    · exact .inl hk
    · obtain ⟨i, rfl, h1⟩ := yI hb1
      exact .inr ⟨_, b, hb i b h1, hk⟩
  refine ⟨⟨hs.below, hs.out, hs.tab, rfl, hd.symm, fun i => .any _, fun id b hb1 => ?_, fun id b k hb1 hk => ?_, hs.fix, fun k hk => by omega, fun i j bi bj k hi hj h1 h2 => ?_⟩, hm⟩
  · obtain ⟨i, rfl, h1⟩ := yI hb1
    exact (hs.blks _ b (hb i b h1)).mono hm
  · obtain ⟨i, rfl, h1⟩ := yI hb1
    exact hs.mine _ b k (hb i b h1) hk
  · obtain ⟨i', rfl, h3⟩ := yI hi
    obtain ⟨j', rfl, h4⟩ := yI hj
    exact hs.dist _ _ bi bj k (hb i' bi h3) (hb j' bj h4) h1 h2
theorem fn_ofE {f : FuncId} {fn : Func} {c : Code} {args : List AV} {B B' : List Blk} {ev : EV} (hf : P.funcs[f]? = some fn) (hb : fn.body = some c) (hn : fn.ntmps = n) (hle : args.length ≤ n) (h1000 : n ≤ 1000)
    (h : zZ P n c { t := zipA 0 args, s := numB 1000 B } (EndE P fn ev B')) : FnE P f args B ev B' := by
  intro M hh ρ vs hand hs0 hvl hvs
  refine calls_of_wp hf hb ?_
  have hsat : Sat M n hh { t := zipA 0 args, s := numB 1000 B } ρ { tmps := vs.toArray ++ Array.replicate (fn.ntmps - vs.toArray.size) undef, defers := [] } hh.w := by
    refine ⟨hs0.below, hs0.out, hs0.tab, by simp; omega, hs0.defers, fun i => ?_, hs0.blks, hs0.mine, hs0.fix, fun k hk => hh.lo k (by omega), hs0.dist⟩
    show yY _ _ _ ((look (zipA 0 args) i).getD .any) _
    rw [look_zipA]
    simp only [Nat.zero_le, if_true, Nat.sub_zero]
    cases hx : args[i]? with
    | none => exact .any _
    | some x =>
      have hi : i < vs.length := by rw [hvl]; exact (List.getElem?_eq_some_iff.1 hx).1
      have e : ({ tmps := vs.toArray ++ Array.replicate (fn.ntmps - vs.toArray.size) undef, defers := [] } : Act).tmps.getD i undef = vs[i] := by
        simp [Array.getD_eq_getD_getElem?, Array.getElem?_append, hi]
      rw [e]
      exact hvs i x vs[i] hx (List.getElem?_eq_getElem hi)
  refine h M hh ρ _ hh.w _ hsat ?_
  intro e S0 ρ0 a' w' hend hs1 hx
  cases ev with
  | pan x =>
    obtain ⟨he, rfl, hB⟩ := hend
    cases e with
    | panic c =>
      obtain ⟨v, rfl, hv⟩ := hx
      obtain ⟨h1, h2⟩ := hs1.asB hs0.defers.symm hB
      exact ⟨hs1.defers.trans hs0.defers.symm, ρ0, h1, v, rfl, hv.mono fun k c _ hk => h2 k c hk⟩
    | _ => cases he
  | ret x =>
    obtain ⟨he, S', hsub, hg, hB⟩ := hend
    obtain ⟨ρ', hs'⟩ := hsub M n hh ρ0 a' w' hs1
    obtain ⟨h1, h2⟩ := hs'.asB hs0.defers.symm hB
    have fin : a'.defers = [] ∧ ∃ v, (results fn a'.tmps).run P w' = .ok v w' ∧ (∃ ρ', Sat M 0 hh (asB B') ρ' xP w' ∧ EvOK (Mut M (asB B') ρ') ρ' w' (.ret x) (.returned v)) := by
      refine ⟨hs'.defers.trans hs0.defers.symm, ?_⟩
      cases hg with
      | none hr => exact ⟨_, results_none hr _ _ _, ρ', h1, _, rfl, .any _⟩
      | one hr ht =>
        subst ht
        exact ⟨_, results_tmp hr _ _ _, ρ', h1, _, rfl, (hs'.tmps _).mono fun k c _ hk => h2 k c hk⟩
      | p hr hx =>
        obtain ⟨v, g1, g2⟩ := res_oneM hs' hx
        have g3 := xX (P := P) (w := w') fn a'.tmps (rs := [_]) (vs := [v]) hr (by simp only [List.mapM_cons, List.mapM_nil, Sem.run_bind, Sem.run_pure, g1, Result.andThen_ok])
        exact ⟨v, g3, ρ', h1, _, rfl, .p (g2.mono fun k c _ hk => h2 k c hk)⟩
      | tup hr hl hx =>
        obtain ⟨us, g1, g2, g4, g3⟩ := res_allM hs' hx
        have g5 := xX (P := P) (w := w') fn a'.tmps hr g1
        rw [dif_neg (by simp only [List.size_toArray]; omega)] at g5
        refine ⟨_, g5, ρ', h1, _, rfl, .tup _ us (by simpa using g2) fun i c v hc hv => ?_⟩
        rw [List.getElem?_map, Option.map_eq_some_iff] at hc
        obtain ⟨y, hy, rfl⟩ := hc
        exact .p ((g3 i y v hy hv).mono fun k c _ hk => h2 k c hk)
    cases e with
    | ret => exact fin
    | normal => exact fin
    | exit id => rcases he with h | h <;> cases h
    | goto l => rcases he with h | h <;> cases h
    | panic c => rcases he with h | h <;> cases h
    | outgrown => rcases he with h | h <;> cases h
end
end Go.Proofs.YtmfbamiciieooaaGreatDoor
/- Functions that take an own row, append to it, and hand it back. Generic over the program. -/
namespace Go.Proofs.YtmfbamiciieooaaGreatDoor
set_option maxRecDepth 100000
set_option maxHeartbeats 16000000
open Go Go.RowKit
def asR (b : Blk) : AS := { t := [], s := [(1000, b)] }
/-- Function f, of an own row (its first argument) and pure values: it hands back the row, as b'. -/
def FnR (P : Program) (f : FuncId) (rest : List PV) (b b' : Blk) : Prop :=
  ∀ (M : Nat → Nat → Prop) (h : Home) (ρ : Nat → Value) (vs : List Value), (∀ k, h.t k → zU (ρ 1000) = some k) → (∀ k, h.r k = none) → Sat M 0 h (asR b) ρ xP h.w → vs.length = rest.length →
    (∀ (i : Nat) x v, rest[i]? = some x → vs[i]? = some v → Rep (Mut M (asR b) ρ) h.w x v) →
    Calls P f (ρ 1000 :: vs).toArray h.w fun e w' => ∃ ρ', e = .returned (ρ' 1000) ∧ Sat M 0 h (asR b') ρ' xP w'
theorem asR_blk {b c : Blk} {id : Nat} (h : (asR b).blk id = some c) : id = 1000 ∧ c = b := by
  have h1 : (if 1000 = id then some b else none) = some c := h
  split at h1
  · rename_i h2; exact ⟨h2.symm, (Option.some.inj h1).symm⟩
  · cases h1
section
variable {P : Program} {n : Nat} {o : Oper} {S : AS} {d : Nat}
theorem fn_ofR {f : FuncId} {fn : Func} {c : Code} {rest : List PV} {b b' : Blk} {t : Nat} (hf : P.funcs[f]? = some fn) (hb : fn.body = some c) (hn : fn.ntmps = n) (hle : rest.length + 1 ≤ n) (hr : fn.results = #[.tmp t])
    (h : zZ P n c { t := zipA 0 (.own 1000 :: rest.map AV.p), s := [(1000, b)] } (fun e S => (e = .ret ∨ e = .normal) ∧ ∃ S', Sub S S' ∧ S'.tmp t = .own 1000 ∧ S'.blk 1000 = some b')) : FnR P f rest b b' := by
  intro M hh ρ vs hT hR hs0 hvl hvs
  refine calls_of_wp hf hb ?_
  have hsat : Sat M n hh { t := zipA 0 (.own 1000 :: rest.map AV.p), s := [(1000, b)] } ρ { tmps := (ρ 1000 :: vs).toArray ++ Array.replicate (fn.ntmps - (ρ 1000 :: vs).toArray.size) undef, defers := [] } hh.w := by
    refine ⟨hs0.below, hs0.out, hs0.tab, by simp; omega, hs0.defers, fun i => ?_, hs0.blks, hs0.mine, hs0.fix, fun k _ => hR k, hs0.dist⟩
    show yY _ _ _ ((look (zipA 0 (.own 1000 :: rest.map AV.p)) i).getD .any) _
    rw [look_zipA]
    simp only [Nat.zero_le, if_true, Nat.sub_zero]
    cases i with
    | zero =>
      have e : ({ tmps := (ρ 1000 :: vs).toArray ++ Array.replicate (fn.ntmps - (ρ 1000 :: vs).toArray.size) undef, defers := [] } : Act).tmps.getD 0 undef = ρ 1000 := by
        simp [Array.getD_eq_getD_getElem?, Array.getElem?_append]
      rw [e]
      exact .own 1000
    | succ i =>
      rw [List.getElem?_cons_succ, List.getElem?_map]
      cases hx : rest[i]? with
      | none => exact .any _
      | some x =>
        have hi : i < vs.length := by rw [hvl]; exact (List.getElem?_eq_some_iff.1 hx).1
        have e : ({ tmps := (ρ 1000 :: vs).toArray ++ Array.replicate (fn.ntmps - (ρ 1000 :: vs).toArray.size) undef, defers := [] } : Act).tmps.getD (i + 1) undef = vs[i] := by
          simp [Array.getD_eq_getD_getElem?, Array.getElem?_append, hi]
        rw [e]
        exact .p (hvs i x vs[i] hx (List.getElem?_eq_getElem hi))
  refine h M hh ρ _ hh.w _ hsat ?_
  rintro e S0 ρ0 a' w' ⟨he, S', hsub, ht, hblk⟩ hs1 _
  obtain ⟨ρ', hs'⟩ := hsub M n hh ρ0 a' w' hs1
  have hv : a'.tmps.getD t undef = ρ' 1000 := by
    have := hs'.tmps t
    rw [ht] at this
    exact vD this
  have hm : ∀ k c, Mut M (asR b') ρ' k c → Mut M S' ρ' k c := by
    rintro k c (hk | ⟨id, b1, hb1, hk⟩)
    · exact .inl hk
    · obtain ⟨rfl, rfl⟩ := asR_blk hb1
      exact .inr ⟨1000, _, hblk, hk⟩
  have fin : a'.defers = [] ∧ ∃ v, (results fn a'.tmps).run P w' = .ok v w' ∧ (∃ ρ', Ending.returned v = .returned (ρ' 1000) ∧ Sat M 0 hh (asR b') ρ' xP w') := by
    refine ⟨hs'.defers.trans hs0.defers.symm, _, results_tmp hr _ _ _, ρ', by rw [hv], ⟨hs'.below, hs'.out, hs'.tab, rfl, hs0.defers, fun i => .any _, fun id b1 hb1 => ?_, fun id b1 k hb1 hk => ?_, hs'.fix, fun k _ => hR k, fun i j bi bj k hi hj h1 h2 => ?_⟩⟩
    · obtain ⟨rfl, rfl⟩ := asR_blk hb1
      exact (hs'.blks 1000 _ hblk).mono hm
    · obtain ⟨rfl, rfl⟩ := asR_blk hb1
      exact hs'.mine 1000 _ k hblk hk
    · rw [(asR_blk hi).1, (asR_blk hj).1]
  cases e with
  | ret => exact fin
  | normal => exact fin
  | exit id => rcases he with h | h <;> cases h
  | goto l => rcases he with h | h <;> cases h
  | panic c => rcases he with h | h <;> cases h
  | outgrown => rcases he with h | h <;> cases h
/-- where an own row lies -/
theorem row_blk {M : Nat → Nat → Prop} {B : Nat} {ρ : Nat → Value} {w : World} {v : Value} {t sz m : Nat} {cs : List PV} (h : xG M B ρ w v (.prow t sz m cs)) : zU v = v.ownBlock := by
  obtain ⟨ys, ho, _⟩ := h
  exact own_slice ho
/-- The call, run, of a row's value v0: what holds behind it. -/
theorem call_row {f : FuncId} {rest : List PV} {t sz m t' sz' m' : Nat} {cs cs' : List PV} (hf : FnR P f rest (.prow t sz m cs) (.prow t' sz' m' cs')) (hval : ∀ c ∈ cs', ∃ v, c = .val v) {M : Nat → Nat → Prop} {w0 : Home} {ρ : Nat → Value} {a : Act} {w : World} (hs : Sat M n w0 S ρ a w) {v0 : Value} {vs : List Value}
    (hrow : ∀ k c, v0.ownBlock = some k → Mut M S ρ k c) (hown : xG (Mut M S ρ) 0 ρ w v0 (.prow t sz m cs)) (hvl : vs.length = rest.length) (hvs : ∀ (i : Nat) x v, rest[i]? = some x → vs[i]? = some v → Rep (Mut M S ρ) w x v) :
    Calls P f (v0 :: vs).toArray w fun e w' => ∃ v', e = .returned v' ∧ w.grownBy w' v0.ownBlock ∧ (∀ k, zU v' = some k → w.heap.size ≤ k ∨ v0.ownBlock = some k) ∧ xG (fun k c => Mut M S ρ k c ∨ (zU v' = some k ∧ (Blk.prow t' sz' m' cs').turns c)) 0 ρ w' v' (.prow t' sz' m' cs') := by
  have hb0 := row_blk hown
  let T : Nat → Prop := fun k => zU v0 = some k
  have T_mut : ∀ k c, T k → Mut M S ρ k c := fun k c hk => hrow k c (hb0 ▸ hk)
  let M' : Nat → Nat → Prop := fun k c => Mut M S ρ k c ∧ ¬ T k
  let h : Home := ⟨w, T, hs.lays, (fun g hg ht => hs.tabs g 0 hg (T_mut g 0 ht)), (fun _ => none), (fun _ _ h => by cases h), (fun _ _ => rfl), []⟩
  have mutc : ∀ k c, Mut M' (asR (.prow t sz m cs)) (fun _ => v0) k c → Mut M S ρ k c := by
    rintro k c (hk | ⟨id, b, hb, hk, _⟩)
    · exact hk.1
    · exact T_mut k c hk
  have cells : ∀ {ρ1 ρ2 : Nat → Value} {M1 M2 : Nat → Nat → Prop} {w1 : World} {xs : List PV} {ys : List Value}, yA M1 ρ1 w1 (xs.map AV.p) ys → (∀ k c, k < w1.heap.size → M2 k c → M1 k c) → yA M2 ρ2 w1 (xs.map AV.p) ys := by
    intro ρ1 ρ2 M1 M2 w1 xs ys hc hM
    refine ⟨hc.len, fun i c v h1 h2 => ?_, hc.one⟩
    have h3 := hc.each i c v h1 h2
    rw [List.getElem?_map, Option.map_eq_some_iff] at h1
    obtain ⟨y, _, rfl⟩ := h1
    cases h3 with
    | p h4 => exact .p (h4.mono hM)
  have hsat : Sat M' 0 h (asR (.prow t sz m cs)) (fun _ => v0) xP h.w := by
    refine ⟨xO.refl h, fun k c hk hh2 => ?_, fun g c hg hk => hs.tabs g c hg hk.1, rfl, rfl, fun i => .any _, fun id b hb => ?_, fun id b k hb hk => .inr hk, (fun k v hk => by cases hk), (fun k hk => by omega), (fun i j bi bj k hi hj h1 h2 => by rw [(asR_blk hi).1, (asR_blk hj).1])⟩
    · rcases hh2 with hh2 | hh2
      · exact absurd (Mut.lt hs hk.1) (Nat.not_lt.2 hh2)
      · exact hk.2 hh2
    · obtain ⟨rfl, rfl⟩ := asR_blk hb
      obtain ⟨ys, ho, hc⟩ := hown
      exact ⟨ys, ho, cells hc fun k c _ hk => mutc k c hk⟩
  refine (hf M' h (fun _ => v0) vs (fun k hk => hk) (fun _ => rfl) hsat hvl fun i x v h1 h2 => (hvs i x v h1 h2).mono fun k c _ hk => mutc k c hk).mono ?_
  rintro e w' ⟨ρ2, rfl, hs2⟩
  have hg : w.grownBy w' v0.ownBlock := ⟨hs2.below.os, hs2.below.tape, hs2.below.output, hs2.below.size, fun k hk hne => hs2.below.block k hk (fun ht => hne (by rw [← hb0]; exact ht.symm))⟩
  have hblk : (asR (.prow t' sz' m' cs')).blk 1000 = some (.prow t' sz' m' cs') := rfl
  refine ⟨ρ2 1000, rfl, hg, fun k hk => ?_, ?_⟩
  · rcases hs2.mine 1000 _ k hblk hk with h1 | h1
    · exact .inl h1
    · exact .inr (by rw [← hb0]; exact h1)
  · obtain ⟨ys, ho, hc⟩ := hs2.blks 1000 _ hblk
    refine ⟨ys, ho, hc.len, fun i c v h1 h2 => ?_, hc.one⟩
    have h3 := hc.each i c v h1 h2
    rw [List.getElem?_map, Option.map_eq_some_iff] at h1
    obtain ⟨y, hy, rfl⟩ := h1
    obtain ⟨u, rfl⟩ := hval y (List.mem_of_getElem? hy)
    cases h3 with
    | p h4 => cases h4; exact .p (.val _)
/-- the operands of a call by a contract on a row -/
def rowArgs (S : AS) (args : Array Operand) (x : Operand) (rest : List PV) : Prop := ∃ r, args.toList = x :: r ∧ r.map S.get = rest.map AV.p
theorem reps_rest {M : Nat → Nat → Prop} {w0 : Home} {ρ : Nat → Value} {a : Act} {w : World} (hs : Sat M n w0 S ρ a w) {r : List Operand} {rest : List PV} (h : r.map S.get = rest.map AV.p) : ∀ (i : Nat) x v, rest[i]? = some x → (r.map a.eval)[i]? = some v → Rep (Mut M S ρ) w x v := by
  intro i x v hx hv
  rw [List.getElem?_map, Option.map_eq_some_iff] at hv
  obtain ⟨y, hy, rfl⟩ := hv
  have h3 : S.get y = .p x := by
    have h4 : (r.map S.get)[i]? = (rest.map AV.p)[i]? := by rw [h]
    rw [List.getElem?_map, List.getElem?_map, hy, hx] at h4
    simpa using h4
  exact yR hs h3
/-- The call with an own row. -/
theorem s_callR {f : FuncId} {args : Array Operand} {ts : Array TypeId} {x : Operand} {id : Nat} {rest : List PV} {t sz m t' sz' m' : Nat} {cs cs' : List PV} [hc : HasFn P f] (hf : FnR P f rest (.prow t sz m cs) (.prow t' sz' m' cs')) (hval : ∀ c ∈ cs', ∃ v, c = .val v)
    (ho : o.op = .call { callee := .value (.func f), args := args, argTypes := ts }) (ha : rowArgs S args x rest) (hx : S.get x = .own id) (hb : S.blk id = some (.prow t sz m cs)) (hd : o.dst = some d) (hn : d < n) :
    Step P n o S ((S.create id (.prow t' sz' m' cs')).put d (.own id)) := by
  intro M w0 ρ a w K Q hs hK
  obtain ⟨r, har, hr⟩ := ha
  have h1 := hs.rep x
  rw [hx] at h1
  have hv0 := vD h1
  have hown := hs.blks id _ hb
  have hb0 := row_blk hown
  have hrun : (execOp a.eval o).run P w = .ok (.enter f (ρ id :: r.map a.eval).toArray) w := by
    have e : (args.map a.eval) = (ρ id :: r.map a.eval).toArray := by
      apply Array.ext'
      rw [Array.toList_map, har, List.map_cons, hv0]
    unfold execOp
    rw [ho, ← e]
    simp [resolve, Deferred.ofValue, Act.eval, invoke, hc.h]
  unfold Oper.wp
  rw [hrun, Oper.upon_enter]
  refine (call_row hf hval hs (fun k c hk => .inr ⟨id, _, hb, by rw [hb0]; exact hk, trivial⟩) hown (by simpa using congrArg List.length hr) (reps_rest hs hr)).mono ?_
  rintro e w' ⟨v', rfl, hg, hnew, hok⟩
  show K (a.put o.dst v') w'
  rw [hd]
  have hfree : w0.r id = none := by
    obtain ⟨ys, ho2, _⟩ := hown
    exact row_free hs ho2
  have hs' := hs.change id (.prow t' sz' m' cs') v' (ρ id).ownBlock hfree hg (fun k hk => ⟨_, hb, by rw [hb0]; exact hk, fun _ _ => trivial, fun _ h => (h trivial).elim⟩) hnew hok
  refine hK _ _ w' (hs'.put hn ?_)
  have := yY.own (M := Mut M (S.create id (.prow t' sz' m' cs')) (upd ρ id v')) (ρ := upd ρ id v') (w := w') id
  simpa [upd] using this
/-- The call with nil: a row of the frame's own is made. -/
theorem s_callRnil {f : FuncId} {args : Array Operand} {ts : Array TypeId} {x : Operand} {rest : List PV} {t sz t' sz' m' : Nat} {cs' : List PV} [hc : HasFn P f] (hf : FnR P f rest (.prow t sz 0 []) (.prow t' sz' m' cs')) (hval : ∀ c ∈ cs', ∃ v, c = .val v)
    (ho : o.op = .call { callee := .value (.func f), args := args, argTypes := ts }) (ha : rowArgs S args x rest) (hx : S.get x = .p (.val (.slice none 0 0))) (hd : o.dst = some d) (hn : d < n) :
    Step P n o S ((S.create d (.prow t' sz' m' cs')).put d (.own d)) := by
  intro M w0 ρ a w K Q hs hK
  obtain ⟨r, har, hr⟩ := ha
  have hv0 := hs.val hx
  have hown : xG (Mut M S ρ) 0 ρ w (.slice none 0 0) (.prow t sz 0 []) := ⟨[], World.ownsRow_nil w _ t sz, rfl, (fun i c v h => by simp at h), (fun v h => by simp at h)⟩
  have hrun : (execOp a.eval o).run P w = .ok (.enter f (.slice none 0 0 :: r.map a.eval).toArray) w := by
    have e : (args.map a.eval) = (Value.slice none 0 0 :: r.map a.eval).toArray := by
      apply Array.ext'
      rw [Array.toList_map, har, List.map_cons, hv0]
    unfold execOp
    rw [ho, ← e]
    simp [resolve, Deferred.ofValue, Act.eval, invoke, hc.h]
  unfold Oper.wp
  rw [hrun, Oper.upon_enter]
  refine (call_row hf hval hs (fun k c hk => by cases hk) hown (by simpa using congrArg List.length hr) (reps_rest hs hr)).mono ?_
  rintro e w' ⟨v', rfl, hg, hnew, hok⟩
  show K (a.put o.dst v') w'
  rw [hd]
  have hs' := hs.change d (.prow t' sz' m' cs') v' none (hs.free d hn) ⟨hg.os, hg.tape, hg.output, hg.size, fun k hk _ => hg.block k hk (fun e => by cases e)⟩ (fun k hk => by cases hk) (fun k hk => (hnew k hk).elim .inl (fun e => by cases e)) hok
  refine hK _ _ w' (hs'.put hn ?_)
  have := yY.own (M := Mut M (S.create d (.prow t' sz' m' cs')) (upd ρ d v')) (ρ := upd ρ d v') (w := w') d
  simpa [upd] using this
end
end Go.Proofs.YtmfbamiciieooaaGreatDoor
/- The closed facts on the types and the functions of this seat's translation, as instances. Written by inst.py. -/
namespace Go.Proofs.YtmfbamiciieooaaGreatDoor
set_option maxRecDepth 100000
set_option maxHeartbeats 16000000
open Go Go.RowKit
set_option maxRecDepth 100000
instance ty3 : TyA Tryz.prog 3 false 1 := ⟨fun _ => by kernel_rfl, fun _ => by kernel_rfl⟩
instance un3 : Und Tryz.prog 3 (.int .i64) := ⟨Tryz.underlying3⟩
instance ze3 : ZeroA Tryz.prog 3 (Value.int .i64 0) := ⟨fun _ => by kernel_rfl⟩
instance ty4 : TyA Tryz.prog 4 false 1 := ⟨fun _ => by kernel_rfl, fun _ => by kernel_rfl⟩
instance ze4 : ZeroA Tryz.prog 4 (Value.bool false) := ⟨fun _ => by kernel_rfl⟩
instance ty5 : TyA Tryz.prog 5 false 1 := ⟨fun _ => by kernel_rfl, fun _ => by kernel_rfl⟩
instance un5 : Und Tryz.prog 5 (.int .u8) := ⟨Tryz.underlying5⟩
instance in5 : InfoA Tryz.prog 5 (Value.int .u8 0) 1 1 := ⟨by kernel_rfl⟩
instance un9 : Und Tryz.prog 9 (.string) := ⟨Tryz.underlying9⟩
instance ty22 : TyA Tryz.prog 22 false 1 := ⟨fun _ => by kernel_rfl, fun _ => by kernel_rfl⟩
instance un22 : Und Tryz.prog 22 (.slice 5) := ⟨Tryz.underlying22⟩
instance ty24 : TyA Tryz.prog 24 false 1 := ⟨fun _ => by kernel_rfl, fun _ => by kernel_rfl⟩
instance un24 : Und Tryz.prog 24 (.slice 27) := ⟨Tryz.underlying24⟩
instance ty26 : TyA Tryz.prog 26 true 3 := ⟨fun _ => by kernel_rfl, fun _ => by kernel_rfl⟩
instance bu26 : BuildA Tryz.prog 26 [(0, 1), (1, 1), (2, 1)] := ⟨by kernel_rfl, by kernel_rfl⟩
instance fi26_0 : FieldA Tryz.prog 26 0 0 := ⟨fun _ _ _ => by kernel_rfl⟩
instance fi26_1 : FieldA Tryz.prog 26 1 1 := ⟨fun _ _ _ => by kernel_rfl⟩
instance fi26_2 : FieldA Tryz.prog 26 2 2 := ⟨fun _ _ _ => by kernel_rfl⟩
instance ze26 : ZeroA Tryz.prog 26 (Value.agg #[Value.int .i64 0, Value.int .i64 0, Value.slice none 0 0]) := ⟨fun _ => by kernel_rfl⟩
instance ty27 : TyA Tryz.prog 27 false 1 := ⟨fun _ => by kernel_rfl, fun _ => by kernel_rfl⟩
instance un27 : Und Tryz.prog 27 (.int .u64) := ⟨Tryz.underlying27⟩
instance ze27 : ZeroA Tryz.prog 27 (Value.int .u64 0) := ⟨fun _ => by kernel_rfl⟩
instance in27 : InfoA Tryz.prog 27 (Value.int .u64 0) 1 8 := ⟨by kernel_rfl⟩
instance ty28 : TyA Tryz.prog 28 false 1 := ⟨fun _ => by kernel_rfl, fun _ => by kernel_rfl⟩
instance un28 : Und Tryz.prog 28 (.slice 68) := ⟨Tryz.underlying28⟩
instance un29 : Und Tryz.prog 29 (.array 2 28) := ⟨Tryz.underlying29⟩
instance ty31 : TyA Tryz.prog 31 true 3 := ⟨fun _ => by kernel_rfl, fun _ => by kernel_rfl⟩
instance fi31_0 : FieldA Tryz.prog 31 0 0 := ⟨fun _ _ _ => by kernel_rfl⟩
instance fi31_1 : FieldA Tryz.prog 31 1 1 := ⟨fun _ _ _ => by kernel_rfl⟩
instance ze31 : ZeroA Tryz.prog 31 (Value.agg #[Value.int .u64 0, Value.slice none 0 0, Value.slice none 0 0]) := ⟨fun _ => by kernel_rfl⟩
instance ty33 : TyA Tryz.prog 33 true 6 := ⟨fun _ => by kernel_rfl, fun _ => by kernel_rfl⟩
instance bu33 : BuildA Tryz.prog 33 [(0, 3), (3, 3)] := ⟨by kernel_rfl, by kernel_rfl⟩
instance fi33_0 : FieldA Tryz.prog 33 0 0 := ⟨fun _ _ _ => by kernel_rfl⟩
instance fi33_1 : FieldA Tryz.prog 33 1 3 := ⟨fun _ _ _ => by kernel_rfl⟩
instance ze33 : ZeroA Tryz.prog 33 (Value.agg #[Value.int .i64 0, Value.int .i64 0, Value.slice none 0 0, Value.int .u64 0, Value.slice none 0 0, Value.slice none 0 0]) := ⟨fun _ => by kernel_rfl⟩
instance ty37 : TyA Tryz.prog 37 true 4 := ⟨fun _ => by kernel_rfl, fun _ => by kernel_rfl⟩
instance bu37 : BuildA Tryz.prog 37 [(0, 1), (1, 1), (2, 1), (3, 1)] := ⟨by kernel_rfl, by kernel_rfl⟩
instance fi37_0 : FieldA Tryz.prog 37 0 0 := ⟨fun _ _ _ => by kernel_rfl⟩
instance fi37_1 : FieldA Tryz.prog 37 1 1 := ⟨fun _ _ _ => by kernel_rfl⟩
instance ze37 : ZeroA Tryz.prog 37 (Value.agg #[Value.int .i64 0, Value.int .i64 0, Value.int .i64 0, Value.int .u64 0]) := ⟨fun _ => by kernel_rfl⟩
instance ty38 : TyA Tryz.prog 38 false 1 := ⟨fun _ => by kernel_rfl, fun _ => by kernel_rfl⟩
instance ty41 : TyA Tryz.prog 41 true 5 := ⟨fun _ => by kernel_rfl, fun _ => by kernel_rfl⟩
instance bu41 : BuildA Tryz.prog 41 [(0, 1), (1, 1), (2, 1), (3, 1), (4, 1)] := ⟨by kernel_rfl, by kernel_rfl⟩
instance fi41_0 : FieldA Tryz.prog 41 0 0 := ⟨fun _ _ _ => by kernel_rfl⟩
instance fi41_1 : FieldA Tryz.prog 41 1 1 := ⟨fun _ _ _ => by kernel_rfl⟩
instance ze41 : ZeroA Tryz.prog 41 (Value.agg #[Value.int .i64 0, Value.bool false, Value.int .i64 0, Value.int .u64 0, Value.slice none 0 0]) := ⟨fun _ => by kernel_rfl⟩
instance ty50 : TyA Tryz.prog 50 true 6 := ⟨fun _ => by kernel_rfl, fun _ => by kernel_rfl⟩
instance bu50 : BuildA Tryz.prog 50 [(0, 1), (1, 1), (2, 1), (3, 1), (4, 1), (5, 1)] := ⟨by kernel_rfl, by kernel_rfl⟩
instance fi50_0 : FieldA Tryz.prog 50 0 0 := ⟨fun _ _ _ => by kernel_rfl⟩
instance fi50_1 : FieldA Tryz.prog 50 1 1 := ⟨fun _ _ _ => by kernel_rfl⟩
instance fi50_2 : FieldA Tryz.prog 50 2 2 := ⟨fun _ _ _ => by kernel_rfl⟩
instance fi50_3 : FieldA Tryz.prog 50 3 3 := ⟨fun _ _ _ => by kernel_rfl⟩
instance fi50_4 : FieldA Tryz.prog 50 4 4 := ⟨fun _ _ _ => by kernel_rfl⟩
instance ze50 : ZeroA Tryz.prog 50 (Value.agg #[Value.int .i64 0, Value.int .i64 0, Value.int .u64 0, Value.int .u64 0, Value.slice none 0 0, Value.slice none 0 0]) := ⟨fun _ => by kernel_rfl⟩
instance in50 : InfoA Tryz.prog 50 (Value.agg #[Value.int .i64 0, Value.int .i64 0, Value.int .u64 0, Value.int .u64 0, Value.slice none 0 0, Value.slice none 0 0]) 6 80 := ⟨by kernel_rfl⟩
instance ty53 : TyA Tryz.prog 53 false 1 := ⟨fun _ => by kernel_rfl, fun _ => by kernel_rfl⟩
instance un53 : Und Tryz.prog 53 (.slice 55) := ⟨Tryz.underlying53⟩
instance ty55 : TyA Tryz.prog 55 true 3 := ⟨fun _ => by kernel_rfl, fun _ => by kernel_rfl⟩
instance bu55 : BuildA Tryz.prog 55 [(0, 1), (1, 1), (2, 1)] := ⟨by kernel_rfl, by kernel_rfl⟩
instance fv55_0 : FieldT Tryz.prog 55 0 27 0 := ⟨by kernel_rfl, by kernel_rfl⟩
instance fv55_2 : FieldT Tryz.prog 55 2 4 2 := ⟨by kernel_rfl, by kernel_rfl⟩
instance fi55_2 : FieldA Tryz.prog 55 2 2 := ⟨fun _ _ _ => by kernel_rfl⟩
instance ze55 : ZeroA Tryz.prog 55 (Value.agg #[Value.int .u64 0, Value.slice none 0 0, Value.bool false]) := ⟨fun _ => by kernel_rfl⟩
instance in55 : InfoA Tryz.prog 55 (Value.agg #[Value.int .u64 0, Value.slice none 0 0, Value.bool false]) 3 40 := ⟨by kernel_rfl⟩
instance ty68 : TyA Tryz.prog 68 true 2 := ⟨fun _ => by kernel_rfl, fun _ => by kernel_rfl⟩
instance fi68_0 : FieldA Tryz.prog 68 0 0 := ⟨fun _ _ _ => by kernel_rfl⟩
instance fi68_1 : FieldA Tryz.prog 68 1 1 := ⟨fun _ _ _ => by kernel_rfl⟩
instance ze68 : ZeroA Tryz.prog 68 (Value.agg #[Value.slice none 0 0, Value.int .i64 0]) := ⟨fun _ => by kernel_rfl⟩
instance in68 : InfoA Tryz.prog 68 (Value.agg #[Value.slice none 0 0, Value.int .i64 0]) 2 32 := ⟨by kernel_rfl⟩
instance ty70 : TyA Tryz.prog 70 true 6 := ⟨fun _ => by kernel_rfl, fun _ => by kernel_rfl⟩
instance bu70 : BuildA Tryz.prog 70 [(0, 1), (1, 1), (2, 1), (3, 1), (4, 1), (5, 1)] := ⟨by kernel_rfl, by kernel_rfl⟩
instance eq70 : EqA Tryz.prog 70 6 := ⟨by kernel_rfl, by kernel_rfl, by kernel_rfl, by kernel_rfl, by kernel_rfl⟩
instance fi70_0 : FieldA Tryz.prog 70 0 0 := ⟨fun _ _ _ => by kernel_rfl⟩
instance fi70_1 : FieldA Tryz.prog 70 1 1 := ⟨fun _ _ _ => by kernel_rfl⟩
instance fi70_2 : FieldA Tryz.prog 70 2 2 := ⟨fun _ _ _ => by kernel_rfl⟩
instance fi70_3 : FieldA Tryz.prog 70 3 3 := ⟨fun _ _ _ => by kernel_rfl⟩
instance fi70_4 : FieldA Tryz.prog 70 4 4 := ⟨fun _ _ _ => by kernel_rfl⟩
instance fi70_5 : FieldA Tryz.prog 70 5 5 := ⟨fun _ _ _ => by kernel_rfl⟩
instance ze70 : ZeroA Tryz.prog 70 (Value.agg #[Value.int .i64 0, Value.int .u64 0, Value.int .u64 0, Value.int .u64 0, Value.int .u64 0, Value.int .u64 0]) := ⟨fun _ => by kernel_rfl⟩
instance ty87 : TyA Tryz.prog 87 false 1 := ⟨fun _ => by kernel_rfl, fun _ => by kernel_rfl⟩
instance ty91 : TyA Tryz.prog 91 true 4 := ⟨fun _ => by kernel_rfl, fun _ => by kernel_rfl⟩
instance bu91 : BuildA Tryz.prog 91 [(0, 1), (1, 1), (2, 1), (3, 1)] := ⟨by kernel_rfl, by kernel_rfl⟩
instance fi91_0 : FieldA Tryz.prog 91 0 0 := ⟨fun _ _ _ => by kernel_rfl⟩
instance fi91_1 : FieldA Tryz.prog 91 1 1 := ⟨fun _ _ _ => by kernel_rfl⟩
instance fi91_2 : FieldA Tryz.prog 91 2 2 := ⟨fun _ _ _ => by kernel_rfl⟩
instance fi91_3 : FieldA Tryz.prog 91 3 3 := ⟨fun _ _ _ => by kernel_rfl⟩
instance ze91 : ZeroA Tryz.prog 91 (Value.agg #[Value.nilFunc, Value.int .i64 0, Value.int .i64 0, Value.int .u64 0]) := ⟨fun _ => by kernel_rfl⟩
instance un92 : Und Tryz.prog 92 (.map 3 88) := ⟨Tryz.underlying92⟩
instance ty115 : TyA Tryz.prog 115 true 6 := ⟨fun _ => by kernel_rfl, fun _ => by kernel_rfl⟩
instance bu115 : BuildA Tryz.prog 115 [(0, 6)] := ⟨by kernel_rfl, by kernel_rfl⟩
instance fi115_0 : FieldA Tryz.prog 115 0 0 := ⟨fun _ _ _ => by kernel_rfl⟩
instance ze115 : ZeroA Tryz.prog 115 (Value.agg #[Value.int .i64 0, Value.int .i64 0, Value.int .u64 0, Value.int .u64 0, Value.slice none 0 0, Value.slice none 0 0]) := ⟨fun _ => by kernel_rfl⟩
instance un143 : Und Tryz.prog 143 (.slice 147) := ⟨Tryz.underlying143⟩
instance ty147 : TyA Tryz.prog 147 true 2 := ⟨fun _ => by kernel_rfl, fun _ => by kernel_rfl⟩
instance fi147_0 : FieldA Tryz.prog 147 0 0 := ⟨fun _ _ _ => by kernel_rfl⟩
instance fi147_1 : FieldA Tryz.prog 147 1 1 := ⟨fun _ _ _ => by kernel_rfl⟩
instance ze147 : ZeroA Tryz.prog 147 (Value.agg #[Value.int .i64 0, Value.nilFunc]) := ⟨fun _ => by kernel_rfl⟩
instance in147 : InfoA Tryz.prog 147 (Value.agg #[Value.int .i64 0, Value.nilFunc]) 2 16 := ⟨by kernel_rfl⟩
instance ty150 : TyA Tryz.prog 150 false 1 := ⟨fun _ => by kernel_rfl, fun _ => by kernel_rfl⟩
instance un150 : Und Tryz.prog 150 (.int .u32) := ⟨Tryz.underlying150⟩
instance ty152 : TyA Tryz.prog 152 false 1 := ⟨fun _ => by kernel_rfl, fun _ => by kernel_rfl⟩
instance ze152 : ZeroA Tryz.prog 152 (Value.pointer none) := ⟨fun _ => by kernel_rfl⟩
instance bu154 : BuildA Tryz.prog 154 [(0, 1), (1, 1), (2, 1), (3, 1)] := ⟨by kernel_rfl, by kernel_rfl⟩
instance fi154_0 : FieldA Tryz.prog 154 0 0 := ⟨fun _ _ _ => by kernel_rfl⟩
instance fi154_1 : FieldA Tryz.prog 154 1 1 := ⟨fun _ _ _ => by kernel_rfl⟩
instance fi154_2 : FieldA Tryz.prog 154 2 2 := ⟨fun _ _ _ => by kernel_rfl⟩
instance fi154_3 : FieldA Tryz.prog 154 3 3 := ⟨fun _ _ _ => by kernel_rfl⟩
instance ze154 : ZeroA Tryz.prog 154 (Value.agg #[Value.nilFunc, Value.int .i64 0, Value.int .i64 0, Value.int .i64 0]) := ⟨fun _ => by kernel_rfl⟩
instance ty163 : TyA Tryz.prog 163 true 2 := ⟨fun _ => by kernel_rfl, fun _ => by kernel_rfl⟩
instance bu163 : BuildA Tryz.prog 163 [(0, 1), (1, 1)] := ⟨by kernel_rfl, by kernel_rfl⟩
instance fi163_0 : FieldA Tryz.prog 163 0 0 := ⟨fun _ _ _ => by kernel_rfl⟩
instance fi163_1 : FieldA Tryz.prog 163 1 1 := ⟨fun _ _ _ => by kernel_rfl⟩
instance ze163 : ZeroA Tryz.prog 163 (Value.agg #[Value.int .i64 0, Value.int .u64 0]) := ⟨fun _ => by kernel_rfl⟩
instance in163 : InfoA Tryz.prog 163 (Value.agg #[Value.int .i64 0, Value.int .u64 0]) 2 16 := ⟨by kernel_rfl⟩
instance un164 : Und Tryz.prog 164 (.array 6 163) := ⟨Tryz.underlying164⟩
instance ze164 : ZeroA Tryz.prog 164 (Value.agg #[Value.int .i64 0, Value.int .u64 0, Value.int .i64 0, Value.int .u64 0, Value.int .i64 0, Value.int .u64 0, Value.int .i64 0, Value.int .u64 0, Value.int .i64 0, Value.int .u64 0, Value.int .i64 0, Value.int .u64 0]) := ⟨fun _ => by kernel_rfl⟩
instance un191 : Und Tryz.prog 191 (.slice 50) := ⟨Tryz.underlying191⟩
instance un194 : Und Tryz.prog 194 (.slice 197) := ⟨Tryz.underlying194⟩
instance ty197 : TyA Tryz.prog 197 false 1 := ⟨fun _ => by kernel_rfl, fun _ => by kernel_rfl⟩
instance un202 : Und Tryz.prog 202 (.array 16 150) := ⟨Tryz.underlying202⟩
instance hf8 : HasFn Tryz.prog 8 := ⟨fun _ _ => by kernel_rfl⟩
instance hf9 : HasFn Tryz.prog 9 := ⟨fun _ _ => by kernel_rfl⟩
instance hf10 : HasFn Tryz.prog 10 := ⟨fun _ _ => by kernel_rfl⟩
instance hf12 : HasFn Tryz.prog 12 := ⟨fun _ _ => by kernel_rfl⟩
instance hf13 : HasFn Tryz.prog 13 := ⟨fun _ _ => by kernel_rfl⟩
instance hf14 : HasFn Tryz.prog 14 := ⟨fun _ _ => by kernel_rfl⟩
instance hf15 : HasFn Tryz.prog 15 := ⟨fun _ _ => by kernel_rfl⟩
instance hf16 : HasFn Tryz.prog 16 := ⟨fun _ _ => by kernel_rfl⟩
instance hf22 : HasFn Tryz.prog 22 := ⟨fun _ _ => by kernel_rfl⟩
instance hf23 : HasFn Tryz.prog 23 := ⟨fun _ _ => by kernel_rfl⟩
instance hf24 : HasFn Tryz.prog 24 := ⟨fun _ _ => by kernel_rfl⟩
instance hf25 : HasFn Tryz.prog 25 := ⟨fun _ _ => by kernel_rfl⟩
instance hf26 : HasFn Tryz.prog 26 := ⟨fun _ _ => by kernel_rfl⟩
instance hf27 : HasFn Tryz.prog 27 := ⟨fun _ _ => by kernel_rfl⟩
instance hf28 : HasFn Tryz.prog 28 := ⟨fun _ _ => by kernel_rfl⟩
instance hf29 : HasFn Tryz.prog 29 := ⟨fun _ _ => by kernel_rfl⟩
instance hf30 : HasFn Tryz.prog 30 := ⟨fun _ _ => by kernel_rfl⟩
instance hf31 : HasFn Tryz.prog 31 := ⟨fun _ _ => by kernel_rfl⟩
instance hf32 : HasFn Tryz.prog 32 := ⟨fun _ _ => by kernel_rfl⟩
instance hf33 : HasFn Tryz.prog 33 := ⟨fun _ _ => by kernel_rfl⟩
instance hf34 : HasFn Tryz.prog 34 := ⟨fun _ _ => by kernel_rfl⟩
instance hf35 : HasFn Tryz.prog 35 := ⟨fun _ _ => by kernel_rfl⟩
instance hf36 : HasFn Tryz.prog 36 := ⟨fun _ _ => by kernel_rfl⟩
instance hf37 : HasFn Tryz.prog 37 := ⟨fun _ _ => by kernel_rfl⟩
instance hf38 : HasFn Tryz.prog 38 := ⟨fun _ _ => by kernel_rfl⟩
instance hf39 : HasFn Tryz.prog 39 := ⟨fun _ _ => by kernel_rfl⟩
instance hf40 : HasFn Tryz.prog 40 := ⟨fun _ _ => by kernel_rfl⟩
instance hf46 : HasFn Tryz.prog 46 := ⟨fun _ _ => by kernel_rfl⟩
instance hf47 : HasFn Tryz.prog 47 := ⟨fun _ _ => by kernel_rfl⟩
instance hf48 : HasFn Tryz.prog 48 := ⟨fun _ _ => by kernel_rfl⟩
instance hf49 : HasFn Tryz.prog 49 := ⟨fun _ _ => by kernel_rfl⟩
instance hf50 : HasFn Tryz.prog 50 := ⟨fun _ _ => by kernel_rfl⟩
instance hf51 : HasFn Tryz.prog 51 := ⟨fun _ _ => by kernel_rfl⟩
instance hf52 : HasFn Tryz.prog 52 := ⟨fun _ _ => by kernel_rfl⟩
instance hf53 : HasFn Tryz.prog 53 := ⟨fun _ _ => by kernel_rfl⟩
instance hf54 : HasFn Tryz.prog 54 := ⟨fun _ _ => by kernel_rfl⟩
instance hf55 : HasFn Tryz.prog 55 := ⟨fun _ _ => by kernel_rfl⟩
instance hf56 : HasFn Tryz.prog 56 := ⟨fun _ _ => by kernel_rfl⟩
instance hf57 : HasFn Tryz.prog 57 := ⟨fun _ _ => by kernel_rfl⟩
instance hf58 : HasFn Tryz.prog 58 := ⟨fun _ _ => by kernel_rfl⟩
instance hf59 : HasFn Tryz.prog 59 := ⟨fun _ _ => by kernel_rfl⟩
instance hf60 : HasFn Tryz.prog 60 := ⟨fun _ _ => by kernel_rfl⟩
instance hf61 : HasFn Tryz.prog 61 := ⟨fun _ _ => by kernel_rfl⟩
instance hf62 : HasFn Tryz.prog 62 := ⟨fun _ _ => by kernel_rfl⟩
instance hf63 : HasFn Tryz.prog 63 := ⟨fun _ _ => by kernel_rfl⟩
instance hf64 : HasFn Tryz.prog 64 := ⟨fun _ _ => by kernel_rfl⟩
instance hf65 : HasFn Tryz.prog 65 := ⟨fun _ _ => by kernel_rfl⟩
instance hf66 : HasFn Tryz.prog 66 := ⟨fun _ _ => by kernel_rfl⟩
instance hf67 : HasFn Tryz.prog 67 := ⟨fun _ _ => by kernel_rfl⟩
instance hf68 : HasFn Tryz.prog 68 := ⟨fun _ _ => by kernel_rfl⟩
instance hf72 : HasFn Tryz.prog 72 := ⟨fun _ _ => by kernel_rfl⟩
instance hf73 : HasFn Tryz.prog 73 := ⟨fun _ _ => by kernel_rfl⟩
instance hf74 : HasFn Tryz.prog 74 := ⟨fun _ _ => by kernel_rfl⟩
instance hf75 : HasFn Tryz.prog 75 := ⟨fun _ _ => by kernel_rfl⟩
instance hf79 : HasFn Tryz.prog 79 := ⟨fun _ _ => by kernel_rfl⟩
instance hf80 : HasFn Tryz.prog 80 := ⟨fun _ _ => by kernel_rfl⟩
instance hf81 : HasFn Tryz.prog 81 := ⟨fun _ _ => by kernel_rfl⟩
instance hf82 : HasFn Tryz.prog 82 := ⟨fun _ _ => by kernel_rfl⟩
instance hf83 : HasFn Tryz.prog 83 := ⟨fun _ _ => by kernel_rfl⟩
instance hf84 : HasFn Tryz.prog 84 := ⟨fun _ _ => by kernel_rfl⟩
instance hf85 : HasFn Tryz.prog 85 := ⟨fun _ _ => by kernel_rfl⟩
instance hf86 : HasFn Tryz.prog 86 := ⟨fun _ _ => by kernel_rfl⟩
instance hf87 : HasFn Tryz.prog 87 := ⟨fun _ _ => by kernel_rfl⟩
instance hf88 : HasFn Tryz.prog 88 := ⟨fun _ _ => by kernel_rfl⟩
instance hf89 : HasFn Tryz.prog 89 := ⟨fun _ _ => by kernel_rfl⟩
instance hf90 : HasFn Tryz.prog 90 := ⟨fun _ _ => by kernel_rfl⟩
instance hf91 : HasFn Tryz.prog 91 := ⟨fun _ _ => by kernel_rfl⟩
instance hf92 : HasFn Tryz.prog 92 := ⟨fun _ _ => by kernel_rfl⟩
instance hf93 : HasFn Tryz.prog 93 := ⟨fun _ _ => by kernel_rfl⟩
instance hf94 : HasFn Tryz.prog 94 := ⟨fun _ _ => by kernel_rfl⟩
instance hf95 : HasFn Tryz.prog 95 := ⟨fun _ _ => by kernel_rfl⟩
instance hf96 : HasFn Tryz.prog 96 := ⟨fun _ _ => by kernel_rfl⟩
instance hf97 : HasFn Tryz.prog 97 := ⟨fun _ _ => by kernel_rfl⟩
instance hf98 : HasFn Tryz.prog 98 := ⟨fun _ _ => by kernel_rfl⟩
instance hf99 : HasFn Tryz.prog 99 := ⟨fun _ _ => by kernel_rfl⟩
instance hf100 : HasFn Tryz.prog 100 := ⟨fun _ _ => by kernel_rfl⟩
instance hf101 : HasFn Tryz.prog 101 := ⟨fun _ _ => by kernel_rfl⟩
instance hf102 : HasFn Tryz.prog 102 := ⟨fun _ _ => by kernel_rfl⟩
instance hf103 : HasFn Tryz.prog 103 := ⟨fun _ _ => by kernel_rfl⟩
instance hf104 : HasFn Tryz.prog 104 := ⟨fun _ _ => by kernel_rfl⟩
instance hf106 : HasFn Tryz.prog 106 := ⟨fun _ _ => by kernel_rfl⟩
instance hf107 : HasFn Tryz.prog 107 := ⟨fun _ _ => by kernel_rfl⟩
instance hf108 : HasFn Tryz.prog 108 := ⟨fun _ _ => by kernel_rfl⟩
instance hf109 : HasFn Tryz.prog 109 := ⟨fun _ _ => by kernel_rfl⟩
instance hf110 : HasFn Tryz.prog 110 := ⟨fun _ _ => by kernel_rfl⟩
instance hf111 : HasFn Tryz.prog 111 := ⟨fun _ _ => by kernel_rfl⟩
instance hf112 : HasFn Tryz.prog 112 := ⟨fun _ _ => by kernel_rfl⟩
instance hf114 : HasFn Tryz.prog 114 := ⟨fun _ _ => by kernel_rfl⟩
instance hf115 : HasFn Tryz.prog 115 := ⟨fun _ _ => by kernel_rfl⟩
instance hf116 : HasFn Tryz.prog 116 := ⟨fun _ _ => by kernel_rfl⟩
instance hf117 : HasFn Tryz.prog 117 := ⟨fun _ _ => by kernel_rfl⟩
instance hf118 : HasFn Tryz.prog 118 := ⟨fun _ _ => by kernel_rfl⟩
instance hf119 : HasFn Tryz.prog 119 := ⟨fun _ _ => by kernel_rfl⟩
instance hf120 : HasFn Tryz.prog 120 := ⟨fun _ _ => by kernel_rfl⟩
instance hf121 : HasFn Tryz.prog 121 := ⟨fun _ _ => by kernel_rfl⟩
instance hf122 : HasFn Tryz.prog 122 := ⟨fun _ _ => by kernel_rfl⟩
instance hf123 : HasFn Tryz.prog 123 := ⟨fun _ _ => by kernel_rfl⟩
instance hf124 : HasFn Tryz.prog 124 := ⟨fun _ _ => by kernel_rfl⟩
instance hf125 : HasFn Tryz.prog 125 := ⟨fun _ _ => by kernel_rfl⟩
instance hf126 : HasFn Tryz.prog 126 := ⟨fun _ _ => by kernel_rfl⟩
instance hf127 : HasFn Tryz.prog 127 := ⟨fun _ _ => by kernel_rfl⟩
instance hf128 : HasFn Tryz.prog 128 := ⟨fun _ _ => by kernel_rfl⟩
instance hf129 : HasFn Tryz.prog 129 := ⟨fun _ _ => by kernel_rfl⟩
instance hf130 : HasFn Tryz.prog 130 := ⟨fun _ _ => by kernel_rfl⟩
instance hf131 : HasFn Tryz.prog 131 := ⟨fun _ _ => by kernel_rfl⟩
instance hf132 : HasFn Tryz.prog 132 := ⟨fun _ _ => by kernel_rfl⟩
instance hf133 : HasFn Tryz.prog 133 := ⟨fun _ _ => by kernel_rfl⟩
instance hf134 : HasFn Tryz.prog 134 := ⟨fun _ _ => by kernel_rfl⟩
instance hf135 : HasFn Tryz.prog 135 := ⟨fun _ _ => by kernel_rfl⟩
instance hf136 : HasFn Tryz.prog 136 := ⟨fun _ _ => by kernel_rfl⟩
instance hf137 : HasFn Tryz.prog 137 := ⟨fun _ _ => by kernel_rfl⟩
instance hf138 : HasFn Tryz.prog 138 := ⟨fun _ _ => by kernel_rfl⟩
instance hf140 : HasFn Tryz.prog 140 := ⟨fun _ _ => by kernel_rfl⟩
end Go.Proofs.YtmfbamiciieooaaGreatDoor
/- Guarded operations that make a block, or turn the frame. Generic over the program. -/
namespace Go.Proofs.YtmfbamiciieooaaGreatDoor
set_option maxRecDepth 100000
set_option maxHeartbeats 16000000
open Go Go.RowKit
section
variable {P : Program} {n : Nat} {ops : Array Oper} {o : Oper} {rest : List Oper} {S S1 : AS} {d : Nat} {K : Exit → AS → Prop}
end
end Go.Proofs.YtmfbamiciieooaaGreatDoor
