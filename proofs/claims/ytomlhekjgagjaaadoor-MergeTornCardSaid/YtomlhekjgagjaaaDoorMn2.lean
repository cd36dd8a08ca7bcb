/- For every input MergeTorn returns true, and leaves its argument as it was. Conditions: none beyond the given statement. (Part 2 of 9.) -/
import Derived.Test.YtomlhekjgagjaaaDoorMn1
import Derived.Laws.OwnMore
import Derived.ArgAppend
import Derived.Laws.Cover3
import Derived.Deep.Upon
namespace Go.Proofs.YtomlhekjgagjaaaDoor
set_option maxRecDepth 100000
set_option maxHeartbeats 16000000
open Go Go.RowKit
class BuildA (P : Program) (t : Nat) (pl : outParam (List (Nat × Nat))) : Prop where
  st : P.underlying t = some (.struct (P.fieldsOf t))
  pl : (P.fieldsOf t).toList.map (fun f => (P.info? f.type).map fun i => (f.offset, i.size)) = pl.map some
class EqA (P : Program) (t : Nat) (m : outParam Nat) : Prop where
  st : P.underlying t = some (.struct (P.fieldsOf t))
  held : P.stoodInHeld t = false
  guard : P.eqGuardType P.depth t = false
  flat : flatInts P (P.fieldsOf t).toList 0 = true
  len : (P.fieldsOf t).toList.length = m
theorem run_places {P : Program} {w : World} : ∀ (fs : List Field) (pl : List (Nat × Nat)), fs.map (fun f => (P.info? f.type).map fun i => (f.offset, i.size)) = pl.map some →
    (List.mapM (fun f => do pure (f.offset, ← sizeOf f.type)) fs : Sem (List (Nat × Nat))).run P w = .ok pl w
  | [], pl, h => by
    cases pl with
    | nil => simp
    | cons p r => simp at h
  | f :: fs, pl, h => by
    cases pl with
    | nil => simp at h
    | cons p r =>
      simp only [List.map_cons, List.cons.injEq] at h
      obtain ⟨h1, h2⟩ := h
      obtain ⟨i, hi, rfl⟩ := Option.map_eq_some_iff.1 h1
      have ih := run_places (P := P) (w := w) fs r h2
      have hs : (sizeOf f.type).run P w = .ok i.size w := by simp [sizeOf, typeInfo, hi]
      simp only [List.mapM_cons, Sem.run_bind, Sem.run_pure, hs, ih, Result.andThen_ok]
theorem run_build {P : Program} {t : Nat} {pl : List (Nat × Nat)} {z : Value} [hb : BuildA P t pl] [hz : ZeroA P t z] (parts : List (Nat × Value)) (w : World) (cells : Array Value) (h : Instr.fill (fun i => pl[i]?) z.cells.toList.toArray parts = some cells) :
    (Instr.build t parts.toArray).run P w = .ok (.agg cells) w := by
  have h1 := run_places (w := w) _ pl hb.pl
  have h2 : (Array.mapM (fun f => do pure (f.offset, ← sizeOf f.type)) (P.fieldsOf t) : Sem (Array (Nat × Nat))).run P w = .ok pl.toArray w := by
    rw [Array.mapM_eq_mapM_toList]
    simp only [Sem.run_map, h1]
    rfl
  unfold Instr.build
  simp only [Sem.run_bind, hz.h, Result.andThen_ok, run_underlying hb.st, h2]
  have e : (fun i : Nat => pl.toArray[i]?) = fun i : Nat => pl[i]? := by funext i; simp
  rw [Array.toArray_toList] at h
  rw [e, h]
  rfl
section
variable {P : Program} {n : Nat} {o : Oper} {S : AS} {d : Nat} {t : TypeId} {x y : Operand}
theorem vV {ps : Array (Nat × Operand)} {pl : List (Nat × Nat)} {z : Value} {zs : List AV} {cs : List PV} [hb : BuildA P t pl] [hz : ZeroA P t z] (ho : o.op = .build t ps) (h1 : z.cells.toList.all (fun u => u.oneCell') = true)
    (hk : ps.toList.all (fun p => (S.get p.2).kD) = true)
    (hf : fillA (fun i => pl[i]?) (z.cells.toList.map fun u => .p (.val u)) (ps.toList.map fun p => (p.1, S.get p.2)) = some zs) (hp : pures zs = some cs) (hd : o.dst = some d) (hn : d < n) : zA P n o S [] (.p (.agg cs)) none :=
  a_build ho (fun parts w cells h => run_build parts w cells h) (fun u hu => List.all_eq_true.1 h1 u hu) hk hf (pures_spec hp) hd hn
theorem zeros_eq (z : Array Value) (len : Nat) : ((Array.range len).map (z[· % z.size]!)) = ((List.range len).map (z[· % z.size]!)).toArray := by
  apply Array.ext'
  simp [Array.toList_range]
theorem w_buildSlice {ps : Array (Nat × Operand)} {len e sz by_ : Nat} {z : Value} {zs : List AV} [ht : Und P t (.slice e)] [hi : InfoA P e z sz by_] (ho : o.op = .buildSlice t len ps)
    (hl : len ≤ maxLen) (hsmall : ¬ len * sz > 2 ^ 24) (hpos : ¬ len * sz = 0) (hz : ((List.range (len * sz)).map (z.cells[· % z.cells.size]!)).all (fun u => u.oneCell') = true) (hk : ps.toList.all (fun p => (S.get p.2).kD) = true)
    (hf : fillA (fun i => some (i * sz, sz)) (((List.range (len * sz)).map (z.cells[· % z.cells.size]!)).map fun u => .p (.val u)) (ps.toList.map fun p => (p.1, S.get p.2)) = some zs) (hlen : zs.length = len * sz) (hd : o.dst = some d) (hn : d < n) :
    zA P n o S [] (.own d) (some (.row e sz len zs)) := by
  obtain ⟨i, hi1, hi2⟩ := Option.map_eq_some_iff.1 hi.h
  simp only [Prod.mk.injEq] at hi2
  obtain ⟨hzi, hisz, _⟩ := hi2
  subst hisz
  exact a_buildSlice ho (fun parts w cells h => run_buildSlice w t e len _ cells i z ht.h hi1 hzi hsmall hpos (by rw [zeros_eq]; exact h)) hl (fun u hu => List.all_eq_true.1 hz u hu) hk hf hlen hd hn
theorem yB {id off m : Nat} {b : Blk} {av : AV} {agg : Bool} [h : TyA P t agg m] (ho : o.op = .store t x y) (hx : S.get x = .ptr id off) (hb : S.blk id = some b) (hy : S.get y = av) (hk : av.kD = true)
    (hlen : av.xU.length = m) (hle : off + m ≤ b.xs.length) (hlb : b.lentB = false) (hd : o.dst = none) : Step P n o S { S with s := putL S.s id (b.setXs (splice b.xs off av.xU)) } :=
  s_store ho hx hb hy hk h.sz hlen hle hlb hd
theorem w_appendP {id e sz by_ m : Nat} {z : Value} {xs : List AV} {es : List PV} [ht : Und P t (.slice e)] [hi : InfoA P e z sz by_] (ho : o.op = .call { callee := .builtin .append, args := #[x, y], argTypes := #[t, t] }) (hx : S.get x = .own id) (hb : S.blk id = some (.row e sz m xs))
    (hy : S.get y = .p (.sl es)) (hes : ∀ e ∈ es, e.cells.length = sz) (hlim : (m + es.length) * by_ ≤ 140737488355328 ∧ m + es.length ≤ maxLen) (hzs : z.cells.size = sz) (hsz : 0 < sz) (hd : o.dst = some d) (hn : d < n) :
    Step P n o S ((S.create id (.row e sz (m + es.length) (xs ++ (flat es).map AV.p))).put d (.own id)) :=
  s_appendP ho hx hb hy hes ht.h hi.h hzs hsz hlim.2 hlim.1 hd hn
theorem w_appendO {id id2 e ty2 sz by_ m k : Nat} {z : Value} {xs news : List AV} [ht : Und P t (.slice e)] [hi : InfoA P e z sz by_] (ho : o.op = .call { callee := .builtin .append, args := #[x, y], argTypes := #[t, t] }) (hx : S.get x = .own id) (hb : S.blk id = some (.row e sz m xs))
    (hy : S.get y = .own id2) (hb2 : S.blk id2 = some (.row ty2 sz k news)) (hlim : (m + k) * by_ ≤ 140737488355328 ∧ m + k ≤ maxLen) (hzs : z.cells.size = sz) (hsz : 0 < sz) (hd : o.dst = some d) (hn : d < n) :
    Step P n o S ((S.create id (.row e sz (m + k) (xs ++ news))).put d (.own id)) :=
  s_appendO ho hx hb hy hb2 ht.h hi.h hzs hsz hlim.2 hlim.1 hd hn
theorem w_eqlT {xt yt m : TypeId} {ps qs : List PV} {la lb : List (IntKind × Int)} [h : EqA P xt m] (ho : o.op = .binOp .eql xt x y yt) (hx : S.get x = .p (.agg ps)) (hy : S.get y = .p (.agg qs)) (ha : qY ps = some la) (hb : qY qs = some lb) (hab : la.map Prod.fst = lb.map Prod.fst)
    (hlen : la.length = m) (hd : o.dst = some d) (hn : d < n) : zA P n o S [] (.p (.val (.bool (decide (la = lb))))) none :=
  a_eqlT ho hx hy ha hb hab (hlen.trans h.len.symm) h.st h.held h.guard h.flat hd hn
end
theorem zZ.known {P : Program} {n : Nat} {S : AS} {o : Oper} {ops : Array Oper} {rest : List Oper} {K : Exit → AS → Prop} {j t : Nat} {want b : Bool} (_hg : o.guard = some (j, want)) (_ht : (ops[j]?).bind (·.dst) = some t) (_hb : S.tmp t = .p (.val (.bool b))) (_hk : b = true ∨ b = false)
    (h : zZ P n ops (o :: rest) S K) : zZ P n ops (o :: rest) S K := h
inductive Alike : Blk → Blk → Prop
  | refl (b : Blk) : Alike b b
  | rp (t size n : Nat) (xs : List PV) : Alike (.row t size n (xs.map AV.p)) (.prow t size n xs)
  | pr (t size n : Nat) (xs : List PV) : Alike (.prow t size n xs) (.row t size n (xs.map AV.p))
theorem Alike.ok {b b' : Blk} (h : Alike b b') {M : Nat → Nat → Prop} {B : Nat} {ρ : Nat → Value} {w : World} {v : Value} (hb : y7 M B ρ w v b) : y7 M B ρ w v b' := by
  cases h <;> exact hb
theorem Alike.kill {b b' : Blk} (h : Alike b b') (id : Nat) : Alike (b.kill id) (b'.kill id) := by
  cases h with
  | refl => exact .refl _
  | rp t size n xs =>
    show Alike (.row t size n ((xs.map AV.p).map (AV.kill id))) _
    rw [vU]
    exact .rp _ _ _ _
  | pr t size n xs =>
    show Alike _ (.row t size n ((xs.map AV.p).map (AV.kill id)))
    rw [vU]
    exact .pr _ _ _ _
structure wK (S S' : AS) : Prop where
  t : ∀ i, S'.tmp i = S.tmp i
  s : ∀ id, (S.blk id = none ∧ S'.blk id = none) ∨ ∃ b b', S.blk id = some b ∧ S'.blk id = some b' ∧ Alike b b'
theorem wK.refl (S : AS) : wK S S := ⟨fun _ => rfl, fun id => by
  cases h : S.blk id with
  | none => exact .inl ⟨rfl, rfl⟩
  | some b => exact .inr ⟨b, b, rfl, rfl, .refl b⟩⟩
theorem map_p_inj : ∀ {xs ys : List PV}, xs.map AV.p = ys.map AV.p → xs = ys
  | [], [], _ => rfl
  | [], _ :: _, h => by simp at h
  | _ :: _, [], h => by simp at h
  | x :: xs, y :: ys, h => by
    simp only [List.map_cons, List.cons.injEq, AV.p.injEq] at h
    rw [h.1, map_p_inj h.2]
theorem Alike.trans {a b c : Blk} (h : Alike a b) (h' : Alike b c) : Alike a c := by
  cases h with
  | refl => exact h'
  | rp t size n xs =>
    cases h' with
    | refl => exact .rp _ _ _ _
    | pr => exact .refl _
  | pr t size n xs =>
    generalize hb : Blk.row t size n (xs.map AV.p) = b at h'
    cases h' with
    | refl => subst hb; exact .pr _ _ _ _
    | rp t2 size2 n2 ys =>
      simp only [Blk.row.injEq] at hb
      obtain ⟨rfl, rfl, rfl, hxy⟩ := hb
      rw [map_p_inj hxy]
      exact .refl _
    | pr => cases hb
theorem wK.trans {S S1 S2 : AS} (h : wK S S1) (h' : wK S1 S2) : wK S S2 := ⟨fun i => (h'.t i).trans (h.t i), fun id => by
  rcases h.s id with ⟨h1, h2⟩ | ⟨b1, b2, h1, h2, ha⟩
  · rcases h'.s id with ⟨_, h3⟩ | ⟨b3, _, h3, _, _⟩
    · exact .inl ⟨h1, h3⟩
    · rw [h2] at h3; cases h3
  · rcases h'.s id with ⟨h3, _⟩ | ⟨b3, b4, h3, h4, hb⟩
    · rw [h2] at h3; cases h3
    · rw [h2] at h3
      obtain rfl := Option.some.inj h3
      exact .inr ⟨b1, b4, h1, h4, ha.trans hb⟩⟩
theorem wK.mut {S S' : AS} (h : wK S S') {M : Nat → Nat → Prop} {ρ : Nat → Value} {k c : Nat} (hk : Mut M S' ρ k c) : Mut M S ρ k c := by
  rcases hk with hk | ⟨id, b, hb, h2, ht⟩
  · exact .inl hk
  · rcases h.s id with ⟨_, h1⟩ | ⟨b1, b2, h1, h3, ha⟩
    · rw [h1] at hb; cases hb
    · rw [hb] at h3
      obtain rfl := Option.some.inj h3
      exact .inr ⟨id, b1, h1, h2, by cases ha <;> first | exact ht | trivial⟩
theorem wK.sat {S S' : AS} (h : wK S S') {M : Nat → Nat → Prop} {n : Nat} {w0 : Home} {w : World} {ρ : Nat → Value} {a : Act} (hs : Sat M n w0 S ρ a w) : Sat M n w0 S' ρ a w := by
  refine ⟨hs.below, hs.out, hs.tab, hs.size, hs.defers, fun i => ?_, fun id b hb => ?_, fun id b k hb hk => ?_, hs.fix, hs.free, fun i j bi bj k hi hj h1 h2 => ?_⟩
  · rw [h.t i]
    exact (hs.tmps i).mono fun _ _ _ hk => h.mut hk
  · rcases h.s id with ⟨_, h1⟩ | ⟨b1, b2, h1, h2, ha⟩
    · rw [h1] at hb; cases hb
    · rw [hb] at h2
      obtain rfl := Option.some.inj h2
      exact (ha.ok (hs.blks id b1 h1)).mono fun _ _ hk => h.mut hk
  · rcases h.s id with ⟨_, h1⟩ | ⟨b1, b2, h1, h2, ha⟩
    · rw [h1] at hb; cases hb
    · exact hs.mine id b1 k h1 hk
  · rcases h.s i with ⟨_, h3⟩ | ⟨b1, _, h3, _, _⟩
    · rw [h3] at hi; cases hi
    · rcases h.s j with ⟨_, h4⟩ | ⟨b2, _, h4, _, _⟩
      · rw [h4] at hj; cases hj
      · exact hs.dist i j b1 b2 k h3 h4 h1 h2
theorem wK.sub {S S' : AS} (h : wK S S') : Sub S S' := fun _ _ _ ρ _ _ hs => ⟨ρ, h.sat hs⟩
theorem wK.put {S S' : AS} (h : wK S S') (d : Nat) (x : AV) : wK (S.put d x) (S'.put d x) := ⟨fun i => by
  rw [AS.vY, AS.vY]
  split
  · rfl
  · exact h.t i, h.s⟩
theorem wK.create {S S' : AS} (h : wK S S') (id : Nat) {b b' : Blk} (hb : Alike b b') : wK (S.create id b) (S'.create id b') := ⟨fun i => by rw [AS.qZ, AS.qZ, h.t i], fun j => by
  rw [AS.xK, AS.xK]
  split
  · exact .inr ⟨_, _, rfl, rfl, hb.kill id⟩
  · rcases h.s j with ⟨h1, h2⟩ | ⟨b1, b2, h1, h2, ha⟩
    · exact .inl ⟨by rw [h1]; rfl, by rw [h2]; rfl⟩
    · exact .inr ⟨b1.kill id, b2.kill id, by rw [h1]; rfl, by rw [h2]; rfl, ha.kill id⟩⟩
theorem wK.drop {S S' : AS} (h : wK S S') (id : Nat) : wK (S.drop id) (S'.drop id) := ⟨fun i => by
  show (S'.kill id).tmp i = (S.kill id).tmp i
  rw [AS.tmp_kill, AS.tmp_kill, h.t i], fun j => by
  rw [AS.xP, AS.xP]
  split
  · exact .inl ⟨rfl, rfl⟩
  · rcases h.s j with ⟨h1, h2⟩ | ⟨b1, b2, h1, h2, ha⟩
    · exact .inl ⟨by rw [h1]; rfl, by rw [h2]; rfl⟩
    · exact .inr ⟨b1.kill id, b2.kill id, by rw [h1]; rfl, by rw [h2]; rfl, ha.kill id⟩⟩
def AS.tag (S : AS) (id : Nat) (b : Blk) : AS := { S with s := putL S.s id b }
theorem AS.xQ (S : AS) (id : Nat) (b : Blk) (j : Nat) : (S.tag id b).blk j = if id = j then some b else S.blk j := rfl
theorem AS.wQ (S : AS) (id : Nat) (b : Blk) (x : Operand) : (S.tag id b).get x = S.get x := by cases x <;> rfl
theorem vK {S : AS} {id : Nat} {b b' : Blk} (hb : S.blk id = some b) (h : Alike b b') : wK S (S.tag id b') := ⟨fun _ => rfl, fun j => by
  rw [AS.xQ]
  by_cases hj : id = j
  · subst hj
    rw [if_pos rfl]
    exact .inr ⟨b, b', hb, rfl, h⟩
  · rw [if_neg hj]
    exact (wK.refl S).s j⟩
theorem qX {S : AS} {id : Nat} {b b' : Blk} (hb : S.blk id = some b) (h : Alike b' b) : wK (S.tag id b') S := ⟨fun _ => rfl, fun j => by
  rw [AS.xQ]
  by_cases hj : id = j
  · subst hj
    rw [if_pos rfl]
    exact .inr ⟨b', b, rfl, hb, h⟩
  · rw [if_neg hj]
    exact (wK.refl S).s j⟩
theorem Step.same {P : Program} {n : Nat} {o : Oper} {S S1 T T1 : AS} (h : Step P n o S T) (h1 : wK S1 S) (h2 : wK T T1) : Step P n o S1 T1 :=
  fun M w0 ρ a w K Q hs hK => h M w0 ρ a w K Q (h1.sat hs) fun ρ' a' w' hs' => hK ρ' a' w' (h2.sat hs')
theorem zA.nb {P : Program} {n : Nat} {o : Oper} {S : AS} {bs : List Nat} {av : AV} {b b' : Blk} (h : zA P n o S bs av (some b)) (ha : Alike b b') : zA P n o S bs av (some b') := by
  intro S2 hg hbl
  refine (h S2 hg hbl).same (wK.refl _) ?_
  cases o.dst with
  | none => exact wK.refl _
  | some d => exact ((wK.refl S2).create d ha).put d av
theorem zA.tag {P : Program} {n : Nat} {o : Oper} {S : AS} {bs : List Nat} {av : AV} {id : Nat} {b b' : Blk} (hb : S.blk id = some b) (ha : Alike b b') (ha' : Alike b' b) (hin : id ∈ bs) (h : zA P n o (S.tag id b') bs av none) : zA P n o S bs av none := by
  intro S2 hg hbl
  have hb2 : S2.blk id = some b := (hbl id hin).trans hb
  refine (h (S2.tag id b') (fun x hx => by rw [AS.wQ, AS.wQ]; exact hg x hx) (fun j hj => ?_)).same (vK hb2 ha) ?_
  · rw [AS.xQ, AS.xQ]
    split
    · rfl
    · exact hbl j hj
  · cases o.dst with
    | none => exact qX hb2 ha'
    | some d => exact (qX hb2 ha').put d av
def bxs (bs : List Int) : List AV := (byts bs).map AV.p
def wP (e : Nat) (bs : List Int) : Blk := .prow e 1 bs.length (byts bs)
theorem vF (e : Nat) (bs : List Int) : Alike (.row e 1 bs.length (bxs bs)) (wP e bs) := .rp _ _ _ _
theorem rowB_alike' (e : Nat) (bs : List Int) : Alike (wP e bs) (.row e 1 bs.length (bxs bs)) := .pr _ _ _ _
def readB : List AV → Option (List Int)
  | [] => some []
  | .p (.val (.int .u8 b)) :: r => match readB r with
    | some l => some (b :: l)
    | none => none
  | _ => none
theorem readB_spec : ∀ {l : List AV} {bs : List Int}, readB l = some bs → l = bxs bs := by
  intro l
  induction l with
  | nil => intro bs h; simp only [readB, Option.some.injEq] at h; subst h; rfl
  | cons a r ih =>
    intro bs h
    unfold readB at h
    split at h
    · rename_i h0; cases h0
    · rename_i b r' h0
      injection h0 with h1 h2
      subst h1
      subst h2
      split at h
      · rename_i l2 hr
        obtain rfl := Option.some.inj h
        rw [ih hr]
        rfl
      · cases h
    · cases h
theorem qW (bs : List Int) : (byts bs).length = bs.length := by simp [byts]
theorem bxs_len (bs : List Int) : (bxs bs).length = bs.length := by simp [bxs, byts]
theorem byts_one (bs : List Int) : ∀ e ∈ byts bs, e.cells.length = 1 := fun e he => by
  simp only [byts, List.mem_map] at he
  obtain ⟨b, _, rfl⟩ := he
  rfl
theorem bxs_append (cs bs : List Int) : bxs cs ++ bxs bs = bxs (cs ++ bs) := by simp [bxs, byts]
section
variable {P : Program} {n : Nat} {o : Oper} {S : AS} {d : Nat} {t : TypeId} {x y : Operand}
theorem w_buildB {ps : Array (Nat × Operand)} {len e : Nat} {z : Value} {zs : List AV} {bs : List Int} [ht : Und P t (.slice e)] [hi : InfoA P e z 1 1] (ho : o.op = .buildSlice t len ps)
    (hl : len ≤ maxLen) (hsmall : ¬ len * 1 > 2 ^ 24) (hpos : ¬ len * 1 = 0) (hz : ((List.range (len * 1)).map (z.cells[· % z.cells.size]!)).all (fun u => u.oneCell') = true) (hk : ps.toList.all (fun p => (S.get p.2).kD) = true)
    (hf : fillA (fun i => some (i * 1, 1)) (((List.range (len * 1)).map (z.cells[· % z.cells.size]!)).map fun u => .p (.val u)) (ps.toList.map fun p => (p.1, S.get p.2)) = some zs) (hlen : zs.length = len * 1) (hb : readB zs = some bs) (hd : o.dst = some d) (hn : d < n) :
    zA P n o S [] (.own d) (some (wP e bs)) := by
  have h := w_buildSlice (P := P) (S := S) ho hl hsmall hpos hz hk hf hlen hd hn
  have e1 := readB_spec hb
  subst e1
  have e2 : bs.length = len := by rw [bxs_len, Nat.mul_one] at hlen; exact hlen
  subst e2
  exact h.nb (vF e bs)
theorem kZ {id e : Nat} {z : Value} {cs bs : List Int} [ht : Und P t (.slice e)] [hi : InfoA P e z 1 1] (ho : o.op = .call { callee := .builtin .append, args := #[x, y], argTypes := #[t, t] }) (hx : S.get x = .own id) (hb : S.blk id = some (wP e cs))
    (hy : S.get y = .p (.sl (byts bs))) (hlim : cs.length + bs.length ≤ 140737488355328) (hzs : z.cells.size = 1) (hd : o.dst = some d) (hn : d < n) :
    Step P n o S ((S.create id (wP e (cs ++ bs))).put d (.own id)) := by
  have h := w_appendP (P := P) (by_ := 1) (sz := 1) (S := S.tag id (.row e 1 cs.length (bxs cs))) (o := o) (d := d) ho (by rw [AS.wQ]; exact hx) (by rw [AS.xQ, if_pos rfl]) (by rw [AS.wQ]; exact hy) (byts_one bs) (by rw [qW]; simp only [maxLen]; omega) hzs (by decide) hd hn
  have e1 : Blk.row e 1 (cs.length + (byts bs).length) (bxs cs ++ (flat (byts bs)).map AV.p) = .row e 1 (cs ++ bs).length (bxs (cs ++ bs)) := by
    rw [byts_flat, qW]
    show Blk.row e 1 (cs.length + bs.length) (bxs cs ++ bxs bs) = _
    rw [bxs_append]
    simp
  rw [e1] at h
  exact h.same (vK hb (rowB_alike' e cs)) (((qX hb (vF e cs)).create id (vF e (cs ++ bs))).put d _)
theorem w_appOB {id id2 e e2 : Nat} {z : Value} {cs bs : List Int} [ht : Und P t (.slice e)] [hi : InfoA P e z 1 1] (ho : o.op = .call { callee := .builtin .append, args := #[x, y], argTypes := #[t, t] }) (hx : S.get x = .own id) (hb : S.blk id = some (wP e cs))
    (hy : S.get y = .own id2) (hb2 : S.blk id2 = some (wP e2 bs)) (hlim : cs.length + bs.length ≤ 140737488355328) (hzs : z.cells.size = 1) (hd : o.dst = some d) (hn : d < n) :
    Step P n o S ((S.create id (wP e (cs ++ bs))).put d (.own id)) := by
  have hb3 : (S.tag id2 (.row e2 1 bs.length (bxs bs))).blk id = some (wP e cs) ∨ id = id2 ∧ e = e2 ∧ cs = bs := by
    by_cases h : id2 = id
    · subst h
      rw [hb2] at hb
      simp only [wP, Option.some.injEq, Blk.prow.injEq] at hb
      refine .inr ⟨rfl, hb.1.symm, ?_⟩
      have h3 := hb.2.2.2
      have inj : ∀ l m : List Int, byts l = byts m → l = m := by
        intro l
        induction l with
        | nil => intro m h; cases m with
          | nil => rfl
          | cons => simp [byts] at h
        | cons a r ih => intro m h; cases m with
          | nil => simp [byts] at h
          | cons c q =>
            simp only [byts, List.map_cons, List.cons.injEq, PV.val.injEq, Value.int.injEq, true_and] at h
            rw [h.1, ih q h.2]
      exact (inj _ _ h3).symm
    · left
      rw [AS.xQ, if_neg h]
      exact hb
  have go : ∀ {S1 S0 : AS}, S1.get x = .own id → S1.blk id = some (.row e 1 cs.length (bxs cs)) → S1.get y = .own id2 → S1.blk id2 = some (.row e2 1 bs.length (bxs bs)) → wK S S1 → wK S1 S → Step P n o S ((S.create id (wP e (cs ++ bs))).put d (.own id)) := by
    intro S1 _ h1 h2 h3 h4 h5 h6
    have h := w_appendO (P := P) (by_ := 1) (sz := 1) (S := S1) ho h1 h2 h3 h4 (by simp only [maxLen]; omega) hzs (by decide) hd hn
    have e1 : Blk.row e 1 (cs.length + bs.length) (bxs cs ++ bxs bs) = .row e 1 (cs ++ bs).length (bxs (cs ++ bs)) := by
      rw [bxs_append]
      simp
    rw [e1] at h
    exact h.same h5 ((h6.create id (vF e (cs ++ bs))).put d _)
  rcases hb3 with hb3 | ⟨rfl, rfl, rfl⟩
  · have s1 := vK hb2 (rowB_alike' e2 bs)
    have u1 := qX hb2 (vF e2 bs)
    have s2 := vK hb3 (rowB_alike' e cs)
    have u2 := qX hb3 (vF e cs)
    by_cases hne : id = id2
    · subst hne
      rw [AS.xQ, if_pos rfl] at hb3
      cases hb3
    · exact go (S0 := S) (by rw [AS.wQ, AS.wQ]; exact hx) (by rw [AS.xQ, if_pos rfl]) (by rw [AS.wQ, AS.wQ]; exact hy) (by rw [AS.xQ, if_neg hne, AS.xQ, if_pos rfl]) (s1.trans s2) (u2.trans u1)
  · exact go (S0 := S) (by rw [AS.wQ]; exact hx) (by rw [AS.xQ, if_pos rfl]) (by rw [AS.wQ]; exact hy) (by rw [AS.xQ, if_pos rfl]) (vK hb (rowB_alike' e cs)) (qX hb (vF e cs))
theorem wR {d id e : Nat} {bs : List Int} (hd : S.tmp d = .own id) (hb : S.blk id = some (wP e bs)) : Sub S ((S.drop id).put d (.p (.sl (byts bs)))) :=
  ((vK hb (rowB_alike' e bs)).sub.trans (sub_freeze (S := S.tag id (.row e 1 bs.length (bxs bs))) (es := byts bs) hd (by rw [byts_flat, AS.xQ, if_pos rfl]; rfl) (qW bs))).trans (((qX hb (vF e bs)).drop id).put d _).sub
theorem wE {ix : Operand} {e : Nat} {j : Int} {k : IntKind} {bs : List Int} {agg : Bool} [ht : Und P t (.slice e)] [he : TyA P e agg 1] (ho : o.op = .indexAddr t x ix) (hx : S.get x = .p (.sl (byts bs))) (hi : S.get ix = .p (.val (.int k j)))
    (hj : 0 ≤ j ∧ j < bs.length) (hd : o.dst = some d) (hn : d < n) : zA P n o S [] (.pt [.val (.int .u8 (bs.getD j.toNat 0))]) none := by
  obtain ⟨m, rfl⟩ := Int.eq_ofNat_of_zero_le hj.1
  have hm : m < bs.length := by omega
  have hc : (byts bs)[m]? = some (.val (.int .u8 (bs.getD m 0))) := by simp [byts, hm, List.getD]
  exact yY (P := P) (i := m) ho hx hi (byts_one bs) hc hd hn
theorem w_indexO {ix : Operand} {id e ty sz m : Nat} {j : Int} {k : IntKind} {xs : List AV} {agg : Bool} [ht : Und P t (.slice e)] [he : TyA P e agg sz] (ho : o.op = .indexAddr t x ix) (hx : S.get x = .own id) (hb : S.blk id = some (.row ty sz m xs)) (hi : S.get ix = .p (.val (.int k j)))
    (hj : 0 ≤ j ∧ j < m) (hd : o.dst = some d) (hn : d < n) : zA P n o S [id] (.ptr id (j.toNat * sz)) none :=
  zA.pure hd hn fun S2 hg hbl M w0 ρ a w hs => by
    have h1 := hs.rep x
    rw [hg x (by rw [ho]; simp [Op.operands]), hx] at h1
    have h2 := hs.val ((hg ix (by rw [ho]; simp [Op.operands])).trans hi)
    have hv := vN h1
    obtain ⟨ys, hown, _⟩ := hs.blks id _ ((hbl id (by simp)).trans hb)
    rcases hown.2 with ⟨_, h⟩ | ⟨g, cap, cur, hr, _⟩
    · omega
    · refine ⟨.pointer (some ⟨g, j.toNat * sz, none⟩), w, ?_, Below.refl _ _, .ptr id _ g (by rw [hr]; rfl)⟩
      unfold execOp
      rw [ho]
      simp only [hv, hr, h2, Sem.run_bind]
      have : (Instr.indexAt t (.slice (some ⟨g, 0, none⟩) m cap) (.int k j)).run P w = .ok (.pointer (some ⟨g, j.toNat * sz, none⟩)) w := by
        have hel : P.elem t = e := by simp [Program.elem, ht.h]
        rw [run_indexAt_slice w t _ _ _ _ _ (by rw [hel]; exact ht.h), if_pos ⟨by omega, by omega⟩, hel, he.sz w]
        show Result.ok _ w = _
        rw [add_lit, Nat.zero_add]
      rw [this]
      rfl
theorem xH {t' : Nat} {bs : List Int} [ht : Und P t (.slice t')] (ho : o.op = .call { callee := .builtin .len, args := #[x], argTypes := #[t] }) (hx : S.get x = .p (.sl (byts bs))) (hd : o.dst = some d) (hn : d < n) : zA P n o S [] (.p (.val (.int .i64 bs.length))) none := by
  have h := yL (P := P) ho hx hd hn
  rw [qW] at h
  exact h
end
theorem look_mem {α : Type} {l : List (Nat × α)} {i : Nat} {x : α} (h : look l i = some x) : (i, x) ∈ l := by
  induction l with
  | nil => cases h
  | cons p r ih =>
    obtain ⟨k, y⟩ := p
    simp only [look] at h
    split at h
    · rename_i hk
      subst hk
      obtain rfl := Option.some.inj h
      exact List.mem_cons_self
    · exact List.mem_cons_of_mem _ (ih h)
theorem sub_less {S S' : AS} (ht : ∀ p ∈ S'.t, p.2 = S.tmp p.1) (hs : ∀ p ∈ S'.s, S.blk p.1 = some p.2) : Sub S S' :=
  fun M n w0 ρ a w h => by
    have hb : ∀ {id b}, S'.blk id = some b → S.blk id = some b := fun {id b} hb => hs (id, b) (look_mem hb)
    have hm : ∀ k c, k < w.heap.size → Mut M S' ρ k c → Mut M S ρ k c := fun k c _ hk => by
      rcases hk with hk | ⟨id, b, h1, h2⟩
      · exact .inl hk
      · exact .inr ⟨id, b, hb h1, h2⟩
    refine ⟨ρ, ⟨h.below, h.out, h.tab, h.size, h.defers, fun i => ?_, fun id b hbk => ?_, fun id b k hbk hk => h.mine id b k (hb hbk) hk, h.fix, h.free, fun i j bi bj k hi hj => h.dist i j bi bj k (hb hi) (hb hj)⟩⟩
    · show yV _ _ _ ((look S'.t i).getD .any) _
      cases hl : look S'.t i with
      | none => exact .any _
      | some x =>
        have e : x = S.tmp i := ht (i, x) (look_mem hl)
        rw [Option.getD_some, e]
        exact (h.tmps i).mono hm
    · have h1 := h.blks id b (hb hbk)
      cases b with
      | row t size m xs =>
        obtain ⟨ys, ho, hc⟩ := h1
        exact ⟨ys, ho, hc.mono hm⟩
      | prow t size m xs =>
        obtain ⟨ys, ho, hc⟩ := h1
        exact ⟨ys, ho, hc.mono hm⟩
      | box t xs =>
        obtain ⟨g, ys, hv, hg, hh, hc⟩ := h1
        exact ⟨g, ys, hv, hg, hh, hc.mono hm⟩
      | lent t size m xs =>
        obtain ⟨ys, ho, hc⟩ := h1
        exact ⟨ys, ho, hc.mono hm⟩
      | obj mp Q => exact h1
inductive zX (S : AS) : List Nat → List (Nat × AV) → Prop
  | nil : zX S [] []
  | p {i : Nat} {x : PV} {is : List Nat} {l : List (Nat × AV)} (h : S.tmp i = .p x) (t : zX S is l) : zX S (i :: is) ((i, .p x) :: l)
  | own {i id : Nat} {is : List Nat} {l : List (Nat × AV)} (h : S.tmp i = .own id) (t : zX S is l) : zX S (i :: is) ((i, .own id) :: l)
  | ptr {i id off : Nat} {is : List Nat} {l : List (Nat × AV)} (h : S.tmp i = .ptr id off) (t : zX S is l) : zX S (i :: is) ((i, .ptr id off) :: l)
  | pt {i : Nat} {xs : List PV} {is : List Nat} {l : List (Nat × AV)} (h : S.tmp i = .pt xs) (t : zX S is l) : zX S (i :: is) ((i, .pt xs) :: l)
  | tup {i : Nat} {xs : List AV} {is : List Nat} {l : List (Nat × AV)} (h : S.tmp i = .tup xs) (t : zX S is l) : zX S (i :: is) ((i, .tup xs) :: l)
  | ifp {i tt id : Nat} {is : List Nat} {l : List (Nat × AV)} (h : S.tmp i = .ifp tt id) (t : zX S is l) : zX S (i :: is) ((i, .ifp tt id) :: l)
  | clo {i f : Nat} {ks : List Nat} {is : List Nat} {l : List (Nat × AV)} (h : S.tmp i = .clo f ks) (t : zX S is l) : zX S (i :: is) ((i, .clo f ks) :: l)
  | skip {i : Nat} {is : List Nat} {l : List (Nat × AV)} (t : zX S is l) : zX S (i :: is) l
inductive zW (S : AS) : List Nat → List (Nat × Blk) → Prop
  | nil : zW S [] []
  | boxP {i ty : Nat} {xs : List AV} {cs : List PV} {is : List Nat} {l : List (Nat × Blk)} (h : S.blk i = some (.box ty xs)) (hp : pures xs = some cs) (t : zW S is l) : zW S (i :: is) ((i, .box ty (cs.map AV.p)) :: l)
  | wP {i e : Nat} {bs : List Int} {is : List Nat} {l : List (Nat × Blk)} (h : S.blk i = some (wP e bs)) (t : zW S is l) : zW S (i :: is) ((i, wP e bs) :: l)
  | some {i : Nat} {b : Blk} {is : List Nat} {l : List (Nat × Blk)} (h : S.blk i = some b) (t : zW S is l) : zW S (i :: is) ((i, b) :: l)
  | skip {i : Nat} {is : List Nat} {l : List (Nat × Blk)} (t : zW S is l) : zW S (i :: is) l
theorem sub_keep {S : AS} {is js : List Nat} {l : List (Nat × AV)} {m : List (Nat × Blk)} (ht : zX S is l) (hb : zW S js m) : Sub S { t := l, s := m } := by
  refine sub_less ?_ ?_
  · clear hb
    induction ht with
    | nil => intro p hp; cases hp
    | p h _ ih => intro p hp; rcases List.mem_cons.1 hp with rfl | hp; exact h.symm; exact ih p hp
    | own h _ ih => intro p hp; rcases List.mem_cons.1 hp with rfl | hp; exact h.symm; exact ih p hp
    | ptr h _ ih => intro p hp; rcases List.mem_cons.1 hp with rfl | hp; exact h.symm; exact ih p hp
    | pt h _ ih => intro p hp; rcases List.mem_cons.1 hp with rfl | hp; exact h.symm; exact ih p hp
    | tup h _ ih => intro p hp; rcases List.mem_cons.1 hp with rfl | hp; exact h.symm; exact ih p hp
    | clo h _ ih => intro p hp; rcases List.mem_cons.1 hp with rfl | hp; exact h.symm; exact ih p hp
    | ifp h _ ih => intro p hp; rcases List.mem_cons.1 hp with rfl | hp; exact h.symm; exact ih p hp
    | skip _ ih => exact ih
  · clear ht
    induction hb with
    | nil => intro p hp; cases hp
    | boxP h hp _ ih =>
      intro p hp2
      rcases List.mem_cons.1 hp2 with rfl | hp2
      · rw [h, pures_spec hp]
      · exact ih p hp2
    | wP h _ ih => intro p hp; rcases List.mem_cons.1 hp with rfl | hp; exact h; exact ih p hp
    | some h _ ih => intro p hp; rcases List.mem_cons.1 hp with rfl | hp; exact h; exact ih p hp
    | skip _ ih => exact ih
theorem zY.zK {P : Program} {n : Nat} {S : AS} {id : Nat} {ops : List Oper} {K : Exit → AS → Prop} (is js : List Nat) {l : List (Nat × AV)} {m : List (Nat × Blk)} (ht : zX S is l) (hb : zW S js m)
  (h : zZ P n ops.toArray ops { t := l, s := m } K) : zY P n (.region id ops.toArray false) S K := zY.sub (sub_keep ht hb) (zY.region h)
theorem zY.xE {P : Program} {n : Nat} {S : AS} {id : Nat} {ops : List Oper} {K : Exit → AS → Prop} (is js : List Nat) {l : List (Nat × AV)} {m : List (Nat × Blk)} (ht : zX S is l) (hb : zW S js m)
  (h : zY P n (.region id ops.toArray true) { t := l, s := m } K) : zY P n (.region id ops.toArray true) S K := zY.sub (sub_keep ht hb) h
abbrev K_0 : List Nat := [1000, 1001]
abbrev K_1 : List Nat := [1, 67, 83, 104, 109]
abbrev K_2 : List Nat := [2, 4, 42, 76]
abbrev K_3 : List Nat := [0, 2, 3, 4, 5, 6, 7, 8, 10, 15, 39, 58, 71]
abbrev K_4 : List Nat := [0, 1, 2, 6, 7, 8, 9, 10, 21, 33, 39]
abbrev K_5 : List Nat := [0]
abbrev K_6 : List Nat := [3, 4, 1000, 1001, 1002]
abbrev K_7 : List Nat := [0, 2, 3]
abbrev K_8 : List Nat := [1]
abbrev K_9 : List Nat := [1, 2]
abbrev K_a : List Nat := [2, 10, 17, 24, 26, 33]
abbrev K_b : List Nat := [9, 10, 11, 16]
abbrev K_c : List Nat := [4, 9, 10, 11, 19, 20, 42, 69]
abbrev K_d : List Nat := [2, 3, 5, 6, 30, 42]
abbrev K_e : List Nat := [1, 4, 5, 7, 10, 11, 12, 42, 66]
abbrev K_f : List Nat := [2, 4, 10, 18, 20, 22, 28, 57]
abbrev K_g : List Nat := [2, 3, 4, 5, 6, 7, 9, 17, 18, 19, 20, 33, 50, 51, 52, 53]
abbrev K_h : List Nat := [0, 1]
abbrev K_i : List Nat := [7, 1000, 1001, 1002]
abbrev K_j : List Nat := [2, 3, 5, 6, 7, 8, 9, 10, 24]
abbrev K_k : List Nat := [0, 2, 3, 4]
abbrev K_l : List Nat := [0, 3, 7]
abbrev K_m : List Nat := [2]
abbrev K_n : List Nat := [2, 4, 9, 31, 42]
abbrev K_o : List Nat := [2, 5, 8, 9, 11, 25, 27]
abbrev K_p : List Nat := [2, 3, 5, 6, 8, 17, 18, 19, 20]
abbrev K_q : List Nat := [2, 3, 5, 14, 16, 42]
abbrev K_r : List Nat := [1, 2, 9, 14, 15, 16, 32, 33]
abbrev K_s : List Nat := [0, 2]
abbrev K_t : List Nat := [2, 4]
abbrev K_u : List Nat := [2, 3, 4, 8, 9, 10, 16, 17, 18, 19, 28]
abbrev K_v : List Nat := [2, 3, 4]
abbrev K_w : List Nat := [2, 5]
abbrev K_x : List Nat := [0, 3, 4]
abbrev K_y : List Nat := [16, 10, 11]
abbrev K_z : List Nat := [0, 2, 3, 5, 9, 10, 11, 12, 20]
abbrev K_10 : List Nat := [22, 28, 34]
abbrev K_11 : List Nat := [1, 2, 3]
abbrev K_12 : List Nat := [1, 2, 6]
abbrev K_13 : List Nat := [1, 2, 13]
abbrev K_14 : List Nat := [0, 2, 3, 4, 6, 7, 8, 27, 28, 29, 30, 34, 35]
abbrev K_15 : List Nat := [3, 1000, 1001, 1002]
abbrev K_16 : List Nat := [2, 6, 8, 25, 26, 27, 28]
abbrev K_17 : List Nat := [6, 18, 1000]
abbrev K_18 : List Nat := [2, 6, 10, 14, 16, 19, 21, 24]
abbrev K_19 : List Nat := [42]
abbrev K_1a : List Nat := [0, 3, 4, 5, 6]
abbrev K_1b : List Nat := [4, 9, 10, 11, 16, 19, 20, 69]
abbrev K_1c : List Nat := [4, 9, 10, 11, 16, 19, 20, 25, 69]
abbrev K_1d : List Nat := [4]
abbrev K_1e : List Nat := [2, 3, 4, 5, 6, 7]
abbrev K_1f : List Nat := [2, 7, 9, 19, 21, 22, 23, 138, 165, 180]
abbrev K_1g : List Nat := [2, 3, 4, 6, 7, 15, 16, 17, 18, 21, 22]
abbrev K_1h : List Nat := [0, 3]
abbrev K_1i : List Nat := [3]
abbrev K_1j : List Nat := [1, 4, 5, 6]
abbrev K_1k : List Nat := [1, 2, 3, 4]
abbrev K_1l : List Nat := [0, 1, 2]
abbrev K_1m : List Nat := [2, 37]
abbrev K_1n : List Nat := [0, 1, 4, 17]
abbrev K_1o : List Nat := [1, 4, 5, 6, 7, 9, 25, 27, 32]
abbrev K_1p : List Nat := [0, 4, 5]
abbrev K_1q : List Nat := [0, 4, 5, 6, 7, 8, 10]
abbrev K_1r : List Nat := [1, 2, 3, 5]
abbrev K_1s : List Nat := [0, 1, 2, 6]
abbrev K_1t : List Nat := [0, 1, 6, 7, 8, 9, 10]
abbrev K_1u : List Nat := [3, 17, 18, 19]
abbrev K_1v : List Nat := [0, 2, 3, 4, 5, 10, 11, 12, 13]
abbrev K_1w : List Nat := [2, 3, 6, 7, 8, 26, 27, 28, 29]
abbrev K_1x : List Nat := [4, 22]
abbrev K_1y : List Nat := [1, 4, 5, 6, 7]
abbrev K_1z : List Nat := [2, 4, 5, 14]
abbrev K_20 : List Nat := [2, 3, 4, 5]
abbrev K_21 : List Nat := [0, 3, 4, 5, 7]
abbrev K_22 : List Nat := [2, 4, 9, 31]
abbrev K_23 : List Nat := [3, 6, 17, 18, 19]
abbrev K_24 : List Nat := [0, 1, 2, 7]
abbrev K_25 : List Nat := [0, 1, 2, 6, 7, 8]
abbrev K_26 : List Nat := [0, 1, 6, 7, 8, 9]
abbrev K_27 : List Nat := [0, 1, 4]
abbrev K_28 : List Nat := [0, 1, 5]
abbrev K_29 : List Nat := [1, 2, 3, 4, 5]
abbrev K_2a : List Nat := [2, 3, 4, 5, 6]
abbrev K_2b : List Nat := [0, 2, 3, 4, 5]
abbrev K_2c : List Nat := [2, 3]
abbrev K_2d : List Nat := [3, 6, 7, 17, 18, 19]
abbrev K_2e : List Nat := [1, 6, 7, 25]
abbrev K_2f : List Nat := [16, 10, 11, 20, 19, 25]
abbrev K_2g : List Nat := [1, 7, 10]
abbrev K_2h : List Nat := [20, 19, 42]
abbrev K_2i : List Nat := [0, 3, 9, 10, 11]
abbrev K_2j : List Nat := [6, 25, 26, 27]
abbrev K_2k : List Nat := [24]
abbrev K_2l : List Nat := [2, 3, 5, 14, 16]
abbrev K_2m : List Nat := [3, 7, 8, 9]
abbrev K_2n : List Nat := [7, 9, 19, 21, 22, 23]
abbrev K_2o : List Nat := [4, 5, 10, 11, 12]
abbrev K_2p : List Nat := [1, 14, 15]
abbrev K_2q : List Nat := [0, 1, 6, 8, 9]
abbrev K_2r : List Nat := [1000]
abbrev K_2s : List Nat := [0, 2, 3, 6]
abbrev K_2t : List Nat := [0, 1, 3]
abbrev K_2u : List Nat := [42, 1000, 1001]
abbrev K_2v : List Nat := [2, 4, 18]
abbrev K_2w : List Nat := [0, 1, 7, 8]
abbrev K_2x : List Nat := [4, 16, 17, 18]
abbrev K_2y : List Nat := [3, 17, 18, 19, 50, 51, 52]
abbrev K_2z : List Nat := [3, 1000, 1001]
abbrev K_30 : List Nat := [0, 1, 4, 5]
abbrev K_31 : List Nat := [1, 4, 5, 10]
abbrev K_32 : List Nat := [0, 3, 10, 11, 12]
abbrev K_33 : List Nat := [9]
abbrev K_34 : List Nat := [3, 6, 26, 27, 28]
abbrev K_35 : List Nat := [9, 25]
abbrev K_36 : List Nat := [0, 5, 6, 8, 9, 10, 11]
abbrev K_37 : List Nat := [0, 1, 7, 9]
abbrev K_38 : List Nat := [2, 3, 5, 6, 7, 8]
abbrev K_39 : List Nat := [2, 3, 5, 6, 7, 8, 9, 10]
abbrev K_3a : List Nat := [2, 3, 5, 6, 7, 8, 9, 10, 11]
abbrev K_3b : List Nat := [2, 3, 5, 7, 8, 9, 10, 11, 13, 15]
abbrev K_3c : List Nat := [2, 3, 5, 7, 8, 9, 10, 11, 13, 16, 17]
abbrev K_3d : List Nat := [2, 3, 5, 7, 8, 9, 10, 11, 13]
abbrev K_3e : List Nat := [2, 5, 7, 9, 10, 18]
abbrev K_3f : List Nat := [2, 5, 7, 9, 10, 19, 20]
abbrev K_3g : List Nat := [2, 5, 7, 9, 19]
abbrev K_3h : List Nat := [1, 2, 4, 6]
abbrev K_3i : List Nat := [2, 3, 4, 6, 15, 16, 17, 21]
abbrev K_3j : List Nat := [2, 3, 4, 15, 16, 17]
abbrev K_3k : List Nat := [0, 6]
abbrev K_3l : List Nat := [0, 1, 3, 50, 51, 53]
abbrev K_3m : List Nat := [4, 5, 9]
abbrev K_3n : List Nat := [42, 4, 5, 40]
abbrev K_3o : List Nat := [4, 5, 6, 7]
abbrev K_3p : List Nat := [4, 5]
abbrev K_3q : List Nat := [0, 2, 3, 4, 6, 7, 27, 28, 29, 34]
abbrev K_3r : List Nat := [0, 2, 3, 4, 27, 28, 29]
abbrev K_3s : List Nat := [1, 4, 5, 7]
abbrev K_3t : List Nat := [2, 5, 8, 11, 25, 27]
abbrev K_3u : List Nat := [0, 2, 6]
abbrev K_3v : List Nat := [0, 1, 2, 3]
abbrev K_3w : List Nat := [0, 1, 2, 3, 4]
abbrev K_3x : List Nat := [0, 2, 5, 6]
abbrev K_3y : List Nat := [0, 5, 6, 8]
abbrev K_3z : List Nat := [0, 5, 6, 8, 9]
abbrev K_40 : List Nat := [0, 5, 6, 8, 9, 10]
abbrev K_41 : List Nat := [2, 7, 9, 19, 21]
abbrev K_42 : List Nat := [2, 7, 9, 19, 21, 22]
abbrev K_43 : List Nat := [2, 7, 19, 22]
section
variable {P : Program} {n : Nat} {S : AS} (id : Nat) {ops : List Oper} {K : Exit → AS → Prop} (is js : List Nat) {l : List (Nat × AV)} {m : List (Nat × Blk)}
theorem zY.iq {o_ : Array Oper} {dr : Bool} (h : zY P n (.region id o_ dr) S K) : zY P n (.region id o_ dr) S K := h
theorem zY.rqa (h : zZ P n ops.toArray ops { t := l, s := m } K) (ht : zX S is l := by repeat' first | exact zX.nil | apply zX.p rfl) (hb : zW S js m := by repeat' first | exact zW.nil | apply zW.skip) : zY P n (.region id ops.toArray false) S K := zY.zK is js ht hb h
theorem zY.rqb (h : zZ P n ops.toArray ops { t := l, s := m } K) (ht : zX S is l := by repeat' first | exact zX.nil | apply zX.p rfl | apply zX.own rfl | apply zX.skip) (hb : zW S js m := by repeat' first | exact zW.nil | apply zW.some rfl | apply zW.skip) : zY P n (.region id ops.toArray false) S K := zY.zK is js ht hb h
theorem zY.rqc (h : zZ P n ops.toArray ops { t := l, s := m } K) (ht : zX S is l := by repeat' first | exact zX.nil | apply zX.p rfl | apply zX.ifp rfl | apply zX.skip) (hb : zW S js m := by repeat' first | exact zW.nil | apply zW.boxP rfl rfl | apply zW.some rfl) : zY P n (.region id ops.toArray false) S K := zY.zK is js ht hb h
theorem zY.rqd (h : zZ P n ops.toArray ops { t := l, s := m } K) (ht : zX S is l := by repeat' first | exact zX.nil | apply zX.p rfl | apply zX.ptr rfl) (hb : zW S js m := by repeat' first | exact zW.nil | apply zW.boxP rfl rfl) : zY P n (.region id ops.toArray false) S K := zY.zK is js ht hb h
theorem zY.rqe (h : zZ P n ops.toArray ops { t := l, s := m } K) (ht : zX S is l := by repeat' first | exact zX.nil | apply zX.p rfl | apply zX.ptr rfl | apply zX.own rfl | apply zX.skip) (hb : zW S js m := by repeat' first | exact zW.nil | apply zW.boxP rfl rfl | apply zW.some rfl | apply zW.skip) : zY P n (.region id ops.toArray false) S K := zY.zK is js ht hb h
theorem zY.rqf (h : zZ P n ops.toArray ops { t := l, s := m } K) (ht : zX S is l := by repeat' first | exact zX.nil | apply zX.p rfl) (hb : zW S js m := by repeat' first | exact zW.nil | apply zW.boxP rfl rfl | apply zW.skip) : zY P n (.region id ops.toArray false) S K := zY.zK is js ht hb h
theorem zY.rqg (h : zZ P n ops.toArray ops { t := l, s := m } K) (ht : zX S is l := by repeat' first | exact zX.nil | apply zX.p rfl | apply zX.skip) (hb : zW S js m := by repeat' first | exact zW.nil | apply zW.skip) : zY P n (.region id ops.toArray false) S K := zY.zK is js ht hb h
theorem zY.rqh (h : zZ P n ops.toArray ops { t := l, s := m } K) (ht : zX S is l := by repeat' first | exact zX.nil | apply zX.p rfl | apply zX.ptr rfl) (hb : zW S js m := by repeat' first | exact zW.nil | apply zW.boxP rfl rfl | apply zW.skip) : zY P n (.region id ops.toArray false) S K := zY.zK is js ht hb h
theorem zY.rqi (h : zZ P n ops.toArray ops { t := l, s := m } K) (ht : zX S is l := by repeat' first | exact zX.nil | apply zX.p rfl | apply zX.ptr rfl) (hb : zW S js m := by repeat' first | exact zW.nil | apply zW.some rfl | apply zW.skip) : zY P n (.region id ops.toArray false) S K := zY.zK is js ht hb h
theorem zY.rqj (h : zZ P n ops.toArray ops { t := l, s := m } K) (ht : zX S is l := by repeat' first | exact zX.nil | apply zX.p rfl | apply zX.ptr rfl) (hb : zW S js m := by repeat' first | exact zW.nil | apply zW.boxP rfl rfl | apply zW.some rfl) : zY P n (.region id ops.toArray false) S K := zY.zK is js ht hb h
theorem zY.rqk (h : zZ P n ops.toArray ops { t := l, s := m } K) (ht : zX S is l := by repeat' first | exact zX.nil | apply zX.p rfl | apply zX.ptr rfl | apply zX.skip) (hb : zW S js m := by repeat' first | exact zW.nil | apply zW.some rfl | apply zW.skip) : zY P n (.region id ops.toArray false) S K := zY.zK is js ht hb h
theorem zY.rql (h : zZ P n ops.toArray ops { t := l, s := m } K) (ht : zX S is l := by repeat' first | exact zX.nil | apply zX.p rfl | apply zX.ptr rfl) (hb : zW S js m := by repeat' first | exact zW.nil | apply zW.boxP rfl rfl | apply zW.some rfl | apply zW.skip) : zY P n (.region id ops.toArray false) S K := zY.zK is js ht hb h
theorem zY.rqm (h : zZ P n ops.toArray ops { t := l, s := m } K) (ht : zX S is l := by repeat' first | exact zX.nil | apply zX.p rfl | apply zX.ptr rfl | apply zX.own rfl | apply zX.skip) (hb : zW S js m := by repeat' first | exact zW.nil | apply zW.some rfl | apply zW.skip) : zY P n (.region id ops.toArray false) S K := zY.zK is js ht hb h
theorem zY.rqn (h : zZ P n ops.toArray ops { t := l, s := m } K) (ht : zX S is l := by repeat' first | exact zX.nil | apply zX.p rfl | apply zX.own rfl) (hb : zW S js m := by repeat' first | exact zW.nil | apply zW.wP rfl | apply zW.skip) : zY P n (.region id ops.toArray false) S K := zY.zK is js ht hb h
theorem zY.rqo (h : zZ P n ops.toArray ops { t := l, s := m } K) (ht : zX S is l := by repeat' first | exact zX.nil | apply zX.p rfl | apply zX.own rfl | apply zX.skip) (hb : zW S js m := by repeat' first | exact zW.nil | apply zW.wP rfl | apply zW.skip) : zY P n (.region id ops.toArray false) S K := zY.zK is js ht hb h
theorem zY.rqp (h : zZ P n ops.toArray ops { t := l, s := m } K) (ht : zX S is l := by repeat' first | exact zX.nil | apply zX.ptr rfl) (hb : zW S js m := by repeat' first | exact zW.nil | apply zW.boxP rfl rfl | apply zW.some rfl | apply zW.skip) : zY P n (.region id ops.toArray false) S K := zY.zK is js ht hb h
theorem zY.rqq (h : zZ P n ops.toArray ops { t := l, s := m } K) (ht : zX S is l := by repeat' first | exact zX.nil | apply zX.p rfl | apply zX.ptr rfl | apply zX.own rfl | apply zX.skip) (hb : zW S js m := by repeat' first | exact zW.nil | apply zW.boxP rfl rfl | apply zW.wP rfl | apply zW.skip) : zY P n (.region id ops.toArray false) S K := zY.zK is js ht hb h
theorem zY.rqr (h : zZ P n ops.toArray ops { t := l, s := m } K) (ht : zX S is l := by repeat' first | exact zX.nil | apply zX.p rfl | apply zX.ptr rfl | apply zX.own rfl | apply zX.skip) (hb : zW S js m := by repeat' first | exact zW.nil | apply zW.boxP rfl rfl | apply zW.wP rfl | apply zW.some rfl | apply zW.skip) : zY P n (.region id ops.toArray false) S K := zY.zK is js ht hb h
theorem zY.rqs (h : zY P n (.region id ops.toArray true) { t := l, s := m } K) (ht : zX S is l := by repeat' first | exact zX.nil | apply zX.p rfl | apply zX.ptr rfl) (hb : zW S js m := by repeat' first | exact zW.nil | apply zW.boxP rfl rfl | apply zW.some rfl) : zY P n (.region id ops.toArray true) S K := zY.xE is js ht hb h
theorem zY.rqt (h : zY P n (.region id ops.toArray true) { t := l, s := m } K) (ht : zX S is l := by repeat' first | exact zX.nil | apply zX.p rfl | apply zX.own rfl | apply zX.skip) (hb : zW S js m := by repeat' first | exact zW.nil | apply zW.some rfl | apply zW.skip) : zY P n (.region id ops.toArray true) S K := zY.xE is js ht hb h
theorem zY.rqu (h : zZ P n ops.toArray ops { t := l, s := m } K) (ht : zX S is l := by repeat' first | exact zX.nil | apply zX.p rfl | apply zX.ptr rfl | apply zX.own rfl) (hb : zW S js m := by repeat' first | exact zW.nil | apply zW.boxP rfl rfl | apply zW.wP rfl | apply zW.skip) : zY P n (.region id ops.toArray false) S K := zY.zK is js ht hb h
end
theorem zD {S : AS} (is js : List Nat) {l : List (Nat × AV)} {m : List (Nat × Blk)} (ht : zX S is l := by repeat' first | exact zX.nil | apply zX.p rfl | apply zX.ptr rfl | apply zX.own rfl | apply zX.clo rfl | apply zX.ifp rfl | apply zX.pt rfl | apply zX.tup rfl | apply zX.skip) (hb : zW S js m := by repeat' first | exact zW.nil | apply zW.boxP rfl rfl | apply zW.wP rfl | apply zW.some rfl | apply zW.skip) : Sub S { t := l, s := m } := sub_keep ht hb
inductive ResV (P : Program) (S : AS) : ResultVar → PV → Prop
  | tmp {t : Nat} {x : PV} (h : S.tmp t = .p x) : ResV P S (.tmp t) x
  | cell1 {a t id off m : Nat} {b : Blk} {c : PV} [ht : TyA P t false m] (h : S.tmp a = .ptr id off) (hb : S.blk id = some b) (hc : b.xs[off]? = some (.p c)) : ResV P S (.cell a t) c
  | cellN {a t id off m : Nat} {b : Blk} {cs : List PV} [ht : TyA P t true m] (h : S.tmp a = .ptr id off) (hb : S.blk id = some b) (hc : pures ((b.xs.drop off).take m) = some cs) (hl : cs.length = m) : ResV P S (.cell a t) (.agg cs)
inductive ResVs (P : Program) (S : AS) : List ResultVar → List PV → Prop
  | nil : ResVs P S [] []
  | cons {r : ResultVar} {x : PV} {rs : List ResultVar} {xs : List PV} (h : ResV P S r x) (t : ResVs P S rs xs) : ResVs P S (r :: rs) (x :: xs)
inductive xG (P : Program) (fn : Func) (S : AS) : RV → Prop
  | p {r : ResultVar} {x : PV} (hr : fn.results = #[r]) (h : ResV P S r x) : xG P fn S (.p x)
  | tup {rs : List ResultVar} {l : List PV} (hr : fn.results = rs.toArray) (hl : rs.length ≠ 1) (h : ResVs P S rs l) : xG P fn S (.tup l)
  | row {t id ty size n : Nat} {xs : List PV} (hr : fn.results = #[.tmp t]) (ht : S.tmp t = .own id) (hb : S.blk id = some (.row ty size n (xs.map AV.p))) : xG P fn S (.row ty size n xs)
theorem xG.tupE {P : Program} {fn : Func} {S : AS} {rs : List ResultVar} {l l' : List PV} (hr : fn.results = rs.toArray) (hl : rs.length ≠ 1) (h : ResVs P S rs l) (e : l' = l) : xG P fn S (.tup l') := by
  subst e
  exact .tup hr hl h
def resOne (tmps : Array Value) : ResultVar → Sem Value
  | .tmp t => pure (tmps.getD t undef)
  | .cell a t => do loadVar t (← asAddr (tmps.getD a undef))
theorem res_oneM {P : Program} {M : Nat → Nat → Prop} {n : Nat} {w0 : Home} {w : World} {S : AS} {ρ : Nat → Value} {a : Act} (hs : Sat M n w0 S ρ a w) {r : ResultVar} {x : PV} (h : ResV P S r x) :
    ∃ v, (resOne a.tmps r).run P w = .ok v w ∧ Rep (Mut M S ρ) w x v := by
  cases h with
  | @tmp t _ h =>
    have h1 := hs.tmps t
    rw [h] at h1
    exact ⟨_, rfl, rep_p h1⟩
  | @cell1 p t id off m b c ht h hb hc =>
    have h1 := hs.tmps p
    rw [h] at h1
    obtain ⟨g, hgv, hv⟩ := kC h1
    obtain ⟨ys, hcs, hcell⟩ := (hs.blks id b hb).cells hgv
    have h0 : off < b.xs.length := (List.getElem?_eq_some_iff.1 hc).1
    have hy : ys[off]? = some (ys[off]'(by rw [hcs.len]; exact h0)) := List.getElem?_eq_getElem _
    refine ⟨_, ?_, rep_p (hcs.each off _ _ hc hy)⟩
    have := loadAt_one (P := P) (ht.ag w) (hcell off _ hy).1
    simp only [Instr.loadAt, Instr.sureAddr, Sem.run_bind, Sem.run_pure, Result.andThen_ok] at this
    simp only [resOne, hv, asAddr, Sem.run_bind, Sem.run_pure, Result.andThen_ok]
    exact this
  | @cellN p t id off m b cs ht h hb hc hl =>
    have h1 := hs.tmps p
    rw [h] at h1
    obtain ⟨g, hgv, hv⟩ := kC h1
    obtain ⟨ys, hcs, hcell⟩ := (hs.blks id b hb).cells hgv
    have hcm := pures_spec hc
    have hlen : ((b.xs.drop off).take m).length = m := by rw [hcm, List.length_map, hl]
    have hlen2 : ((ys.drop off).take m).length = m := by
      simp only [List.length_take, List.length_drop] at hlen ⊢
      rw [hcs.len]
      exact hlen
    have get : ∀ (j : Nat) y, ((ys.drop off).take m)[j]? = some y → j < m ∧ ys[off + j]? = some y := by
      intro j y hy
      rw [List.getElem?_take] at hy
      split at hy
      · rename_i hj
        rw [List.getElem?_drop] at hy
        exact ⟨hj, hy⟩
      · cases hy
    refine ⟨.agg ((ys.drop off).take m).toArray, ?_, .agg _ _ (by rw [hlen2, hl]) (fun i c v h1 h2 => ?_) (fun v hv => hcs.one v (List.mem_of_mem_drop (List.mem_of_mem_take hv)))⟩
    · have := loadAt_many (P := P) (w := w) (t := t) (g := g) (o := off) (ys := (ys.drop off).take m) (ht.ag w) (ht.sz w) hlen2 (fun j y hy => (hcell (off + j) y (get j y hy).2).1)
      simp only [Instr.loadAt, Instr.sureAddr, Sem.run_bind, Sem.run_pure, Result.andThen_ok] at this
      simp only [resOne, hv, asAddr, Sem.run_bind, Sem.run_pure, Result.andThen_ok]
      exact this
    · obtain ⟨hj, hy⟩ := get i v h2
      have h3 : b.xs[off + i]? = some (.p c) := by
        have h4 : ((b.xs.drop off).take m)[i]? = (cs.map AV.p)[i]? := by rw [hcm]
        rw [List.getElem?_take, if_pos hj, List.getElem?_drop, List.getElem?_map, h1] at h4
        exact h4
      exact rep_p (hcs.each (off + i) (.p c) v h3 hy)
theorem res_allM {P : Program} {M : Nat → Nat → Prop} {n : Nat} {w0 : Home} {w : World} {S : AS} {ρ : Nat → Value} {a : Act} (hs : Sat M n w0 S ρ a w) {rs : List ResultVar} {l : List PV} (h : ResVs P S rs l) :
    ∃ vs : List Value, (List.mapM (resOne a.tmps) rs).run P w = .ok vs w ∧ vs.length = l.length ∧ rs.length = l.length ∧ ∀ (i : Nat) x u, l[i]? = some x → vs[i]? = some u → Rep (Mut M S ρ) w x u := by
  induction h with
  | nil => exact ⟨[], by simp, rfl, rfl, fun i x u h => by simp at h⟩
  | @cons r x rs xs h _ ih =>
    obtain ⟨v, h1, h2⟩ := res_oneM hs h
    obtain ⟨vs, h3, h4, h6, h5⟩ := ih
    refine ⟨v :: vs, by simp only [List.mapM_cons, Sem.run_bind, Sem.run_pure, h1, h3, Result.andThen_ok], by simp [h4], by simp [h6], fun i y u hy hu => ?_⟩
    cases i with
    | zero => simp at hy hu; subst hy; subst hu; exact h2
    | succ i => exact h5 i y u (by simpa using hy) (by simpa using hu)
theorem res_one {P : Program} {M : Nat → Nat → Prop} {n : Nat} {w0 : Home} {w : World} {S : AS} {ρ : Nat → Value} {a : Act} (hs : Sat M n w0 S ρ a w) {r : ResultVar} {x : PV} (h : ResV P S r x) :
    ∃ v, (resOne a.tmps r).run P w = .ok v w ∧ Rep M w x v := by
  obtain ⟨v, h1, h2⟩ := res_oneM hs h
  exact ⟨v, h1, h2.outer⟩
theorem res_all {P : Program} {M : Nat → Nat → Prop} {n : Nat} {w0 : Home} {w : World} {S : AS} {ρ : Nat → Value} {a : Act} (hs : Sat M n w0 S ρ a w) {rs : List ResultVar} {l : List PV} (h : ResVs P S rs l) :
    ∃ vs : List Value, (List.mapM (resOne a.tmps) rs).run P w = .ok vs w ∧ vs.length = l.length ∧ rs.length = l.length ∧ ∀ (i : Nat) x u, l[i]? = some x → vs[i]? = some u → Rep M w x u := by
  obtain ⟨vs, h1, h2, h3, h4⟩ := res_allM hs h
  exact ⟨vs, h1, h2, h3, fun i x u hx hu => (h4 i x u hx hu).outer⟩
theorem qV {P : Program} {w : World} (fn : Func) (tmps : Array Value) {rs : List ResultVar} {vs : List Value} (hr : fn.results = rs.toArray) (h : (List.mapM (resOne tmps) rs).run P w = .ok vs w) :
    (results fn tmps).run P w = .ok (if h : vs.toArray.size = 1 then vs.toArray[0] else .tuple vs.toArray) w := by
  have e : (fun (x : ResultVar) => match x with | .tmp t => pure (tmps.getD t undef) | .cell a t => do loadVar t (← asAddr (tmps.getD a undef))) = resOne tmps := by
    funext r
    cases r <;> rfl
  unfold results
  rw [hr]
  show Sem.run P (do let vs ← Array.mapM (fun (x : ResultVar) => match x with | .tmp t => pure (tmps.getD t undef) | .cell a t => do loadVar t (← asAddr (tmps.getD a undef))) rs.toArray; pure (if h : vs.size = 1 then vs[0] else .tuple vs)) w = _
  rw [e, List.mapM_toArray]
  simp only [Sem.run_bind, Sem.run_map, h]
  rfl
theorem wU {P : Program} {f : FuncId} {fn : Func} {c : Code} {args : List PV} {r : RV} {n : Nat} (hf : P.funcs[f]? = some fn) (hb : fn.body = some c) (hn : fn.ntmps = n) (hle : args.length ≤ n)
    (h : zY P n c (AS.entry args) (fun e S => (e = .ret ∨ e = .normal) ∧ ∃ S', Sub S S' ∧ xG P fn S' r)) : Fn P f args r := by
  intro M w vs hT hM hvl hvs
  refine calls_of_wp hf hb ?_
  have hsat : Sat M n (Home.plain w hT.1) (AS.entry args) (fun _ => undef) { tmps := vs.toArray ++ Array.replicate (fn.ntmps - vs.toArray.size) undef, defers := [] } w := by
    refine ⟨xM.refl (Home.plain w hT.1), (fun k c hk hh => by rcases hh with hh | hh; exact absurd (hM k c hk) (Nat.not_lt.2 hh); exact hh), hT.2, by simp; omega, rfl, fun i => ?_, (fun id b hb => by cases hb), (fun id b k hb => by cases hb), (fun k v hk => by cases hk), (fun _ _ => rfl), (fun i j bi bj k hi => by cases hi)⟩
    show yV _ _ _ ((look (zipArgs 0 args) i).getD .any) _
    rw [look_zipArgs]
    simp only [Nat.zero_le, if_true, Nat.sub_zero]
    cases hx : args[i]? with
    | none => exact .any _
    | some x =>
      have hi : i < vs.length := by rw [hvl]; exact (List.getElem?_eq_some_iff.1 hx).1
      have e : ({ tmps := vs.toArray ++ Array.replicate (fn.ntmps - vs.toArray.size) undef, defers := [] } : Act).tmps.getD i undef = vs[i] := by
        simp [Array.getD_eq_getD_getElem?, Array.getElem?_append, hi]
      rw [e]
      refine .p ((hvs i x vs[i] hx (List.getElem?_eq_getElem hi)).mono ?_)
      rintro k c _ (hk | ⟨id, b, hb, _⟩)
      · exact hk
      · cases hb
  refine h M (Home.plain w hT.1) _ _ w _ hsat ?_
  rintro e S0 ρ0 a' w' ⟨he, S', hsub, hg⟩ hs0
  obtain ⟨ρ', hs'⟩ := hsub M n (Home.plain w hT.1) ρ0 a' w' hs0
  have fin : a'.defers = [] ∧ ∃ v, (results fn a'.tmps).run P w' = .ok v w' ∧ (∃ v', Ending.returned v = .returned v' ∧ RepR M w w' r v' ∧ Below w.heap.size w w') := by
    refine ⟨hs'.defers, ?_⟩
    cases hg with
    | p hr hx =>
      obtain ⟨v, h1, h2⟩ := res_one hs' hx
      have h3 := qV (P := P) (w := w') fn a'.tmps (rs := [_]) (vs := [v]) hr (by simp only [List.mapM_cons, List.mapM_nil, Sem.run_bind, Sem.run_pure, h1, Result.andThen_ok])
      exact ⟨v, h3, _, rfl, h2, hs'.below.plain⟩
    | tup hr hl hx =>
      obtain ⟨us, h1, h2, h4, h3⟩ := res_all hs' hx
      have h5 := qV (P := P) (w := w') fn a'.tmps hr h1
      rw [dif_neg (by simp only [List.size_toArray]; omega)] at h5
      exact ⟨_, h5, _, rfl, ⟨us, rfl, h2, h3⟩, hs'.below.plain⟩
    | @row t id ty size m xs hr ht hblk =>
      have h1 := hs'.tmps t
      rw [ht] at h1
      refine ⟨_, results_tmp hr _ _ _, _, rfl, ?_, hs'.below.plain⟩
      have h2 := hs'.blks id _ hblk
      have e : a'.tmps.getD t undef = ρ' id := vN h1
      obtain ⟨ys, ho, hc⟩ := h2
      rw [e]
      refine ⟨ys, ownsRow_rebase ho (fun k hk => (hs'.mine id _ k hblk hk).elim (fun h => h) (fun h => h.elim)), by simpa using hc.len, fun i c v h3 h4 => ?_, hc.one⟩
      have h5 := hc.each i (.p c) v (by rw [List.getElem?_map, h3]; rfl) h4
      cases h5 with
      | p h6 =>
        refine h6.mono ?_
        rintro k c _ (hk | hk)
        · exact Or.inl hk
        · exact Or.inr ⟨id, _, hblk, hk, trivial⟩
  intro _
  cases e with
  | ret => exact fin
  | normal => exact fin
  | exit id => rcases he with h | h <;> cases h
  | goto l => rcases he with h | h <;> cases h
  | panic c => rcases he with h | h <;> cases h
  | outgrown => rcases he with h | h <;> cases h
theorem AC.snoc {P : Program} {n : Nat} {l : List Oper} {S S' : AS} {o : Oper} {os tl tl' : List Oper} {xs : List AI} {x : AI} (h : AC P n l S os xs S' tl) (ht : tl = o :: tl') (hg : GStep P n l S' o x) : AC P n l S os (xs ++ [x]) (S'.out o.dst x.av x.nb) tl' := by
  induction h with
  | done S os => subst ht; exact .step hg (.done _ _)
  | step h1 _ ih => exact .step h1 (ih ht hg)
def Draws (P : Program) (n : Nat) (id : Nat) (l : List Oper) (S0 : AS) (K : Exit → AS → Prop) (rev : List AI) (S : AS) (os : List Oper) : Prop :=
  AC P n l S0 l rev.reverse S os → zY P n (.region id l.toArray true) S0 K
section
variable {P : Program} {n id : Nat} {l os : List Oper} {S0 S : AS} {K : Exit → AS → Prop} {rev : List AI} {o : Oper} {d : Nat}
theorem zY.draws {S : AS} (h : Draws P n id l S K [] S l) : zY P n (.region id l.toArray true) S K := h (.done _ _)
theorem Draws.is (h : Draws P n id l S0 K rev S os) : Draws P n id l S0 K rev S os := h
theorem Draws.step {x : AI} (hg : GStep P n l S o x) (h : Draws P n id l S0 K (x :: rev) (S.out o.dst x.av x.nb) os) : Draws P n id l S0 K rev S (o :: os) := fun hc => h (by
  rw [List.reverse_cons]
  exact hc.snoc rfl hg)
theorem Draws.done (hm : P.follows .mixedOrders = true) (hsch : schedB l rev.reverse.length (rev.reverse.map (·.bs)) = true) (hmade : madeB l rev.reverse S0 = true) (ht : zL P n K S os) : Draws P n id l S0 K rev S os :=
  fun hc => zY.draw2 hm hc hsch hmade ht
theorem Draws.v {bs : List Nat} {av : AV} (hg : o.guard = none) (hd : o.dst = some d) (ha : zA P n o S bs av none) (h : Draws P n id l S0 K (⟨bs, av, none⟩ :: rev) (S.put d av) os) : Draws P n id l S0 K rev S (o :: os) :=
  .step (.inl ⟨hg, ha⟩) (by rw [hd]; exact h)
theorem Draws.m {bs : List Nat} {av : AV} {b : Blk} (hg : o.guard = none) (hd : o.dst = some d) (ha : zA P n o S bs av (some b)) (h : Draws P n id l S0 K (⟨bs, av, some b⟩ :: rev) ((S.create d b).put d av) os) : Draws P n id l S0 K rev S (o :: os) :=
  .step (.inl ⟨hg, ha⟩) (by rw [hd]; exact h)
theorem Draws.gY {bs : List Nat} {av : AV} {j t : Nat} {want b : Bool} (hg : o.guard = some (j, want)) (ht : yO l j = some t) (htn : t < n) (hb : S.tmp t = .p (.val (.bool b))) (hbw : b = want) (hd : o.dst = some d) (ha : zA P n o S bs av none) (h : Draws P n id l S0 K (⟨bs, av, none⟩ :: rev) (S.put d av) os) : Draws P n id l S0 K rev S (o :: os) :=
  .step (.inr ⟨j, want, t, _, hg, ht, htn, hb, .inl ⟨by simp [wantB, hbw], ha⟩⟩) (by rw [hd]; exact h)
theorem Draws.gNT {j t : Nat} {b : Bool} (hg : o.guard = some (j, true)) (ht : yO l j = some t) (htn : t < n) (hb : S.tmp t = .p (.val (.bool b))) (hbw : b = false) (hd : o.dst = some d) (hdn : d < n) (h : Draws P n id l S0 K (⟨[], wX, none⟩ :: rev) (S.put d wX) os) : Draws P n id l S0 K rev S (o :: os) :=
  .step (.inr ⟨j, true, t, _, hg, ht, htn, hb, .inr ⟨by simp [wantB, hbw], rfl, rfl, d, hd, hdn⟩⟩) (by rw [hd]; exact h)
theorem Draws.gNF {j t : Nat} {b : Bool} (hg : o.guard = some (j, false)) (ht : yO l j = some t) (htn : t < n) (hb : S.tmp t = .p (.val (.bool b))) (hbw : b = true) (hd : o.dst = some d) (hdn : d < n) (h : Draws P n id l S0 K (⟨[], wX, none⟩ :: rev) (S.put d wX) os) : Draws P n id l S0 K rev S (o :: os) :=
  .step (.inr ⟨j, false, t, _, hg, ht, htn, hb, .inr ⟨by simp [wantB, hbw], rfl, rfl, d, hd, hdn⟩⟩) (by rw [hd]; exact h)
theorem Draws.gU {j t : Nat} {want : Bool} (hg : o.guard = some (j, want)) (ht : yO l j = some t) (htn : t < n) (hb : S.tmp t = wX) (hd : o.dst = some d) (hdn : d < n) (h : Draws P n id l S0 K (⟨[], wX, none⟩ :: rev) (S.put d wX) os) : Draws P n id l S0 K rev S (o :: os) :=
  .step (.inr ⟨j, want, t, _, hg, ht, htn, hb, .inr ⟨rfl, rfl, rfl, d, hd, hdn⟩⟩) (by rw [hd]; exact h)
theorem Draws.split {j t : Nat} {want b : Bool} (_hg : o.guard = some (j, want)) (_ht : yO l j = some t) (_hb : S.tmp t = .p (.val (.bool b)))
    (h1 : b = true → Draws P n id l S0 K rev S (o :: os)) (h2 : b = false → Draws P n id l S0 K rev S (o :: os)) : Draws P n id l S0 K rev S (o :: os) := by
  cases b
  · exact h2 rfl
  · exact h1 rfl
theorem Draws.known {j t : Nat} {want b : Bool} (_hg : o.guard = some (j, want)) (_ht : yO l j = some t) (_hb : S.tmp t = .p (.val (.bool b))) (_hk : b = true ∨ b = false)
    (h : Draws P n id l S0 K rev S (o :: os)) : Draws P n id l S0 K rev S (o :: os) := h
end
attribute [irreducible] Draws
section
variable {next : AS → Prop} {K : Exit → AS → Prop} {S : AS} {id id' l : Nat}
theorem zH.n (h : next S) : zH next K .normal S := h
theorem zH.r (h : K .ret S) : zH next K .ret S := h
theorem zH.e (h : K (.exit id) S) : zH next K (.exit id) S := h
theorem zH.g (h : K (.goto l) S) : zH next K (.goto l) S := h
theorem zS.n (h : K .normal S) : zS id K .normal S := h
theorem zS.r (h : K .ret S) : zS id K .ret S := h
theorem zS.g (h : K (.goto l) S) : zS id K (.goto l) S := h
theorem zS.eY (h : K .normal S) : zS id K (.exit id) S := by
  show if id = id then K .normal S else K (.exit id) S
  rw [if_pos rfl]
  exact h
theorem zS.eN (hne : (id' == id) = false) (h : K (.exit id') S) : zS id K (.exit id') S := by
  show if id' = id then K .normal S else K (.exit id') S
  rw [if_neg (by intro e; subst e; simp at hne)]
  exact h
end
section
variable {P : Program} {n : Nat} {S : AS} {ops : Array Oper} {l : List Oper}
theorem zZ.is {K : Exit → AS → Prop} (h : zZ P n ops l S K) : zZ P n ops l S K := h
theorem zY.is {c : Code} {K : Exit → AS → Prop} (h : zY P n c S K) : zY P n c S K := h
theorem zY.isR {id : Nat} {ops : Array Oper} {dr : Bool} {K : Exit → AS → Prop} (h : zY P n (.region id ops dr) S K) : zY P n (.region id ops dr) S K := h
theorem zL.is {K : Exit → AS → Prop} (h : zL P n K S l) : zL P n K S l := h
end
end Go.Proofs.YtomlhekjgagjaaaDoor
namespace Go.Proofs.YtomlhekjgagjaaaDoor
set_option maxRecDepth 100000
set_option maxHeartbeats 16000000
open Go Go.RowKit
theorem bT {b : Bool} (h : b = true) : b = true := h
theorem bF {b : Bool} (h : b = false) : b = false := h
section
variable {P : Program} {n : Nat} {o : Oper} {S : AS} {d : Nat} {x y : Operand} {xt yt : TypeId} {k : IntKind} {a b : Int} {r : Bool}
theorem yM (ho : o.op = .binOp .eql xt x y yt) (hx : S.get x = .p (.val (.int k a))) (hy : S.get y = .p (.val (.int k b))) (hr : decide (a = b) = r) (hd : o.dst = some d) (hn : d < n) : zA P n o S [] (.p (.val (.bool r))) none := hr ▸ a_eql ho hx hy hd hn
theorem vJ (ho : o.op = .binOp .neq xt x y yt) (hx : S.get x = .p (.val (.int k a))) (hy : S.get y = .p (.val (.int k b))) (hr : (!decide (a = b)) = r) (hd : o.dst = some d) (hn : d < n) : zA P n o S [] (.p (.val (.bool r))) none := hr ▸ a_neq ho hx hy hd hn
theorem yZ (ho : o.op = .binOp .lss xt x y yt) (hx : S.get x = .p (.val (.int k a))) (hy : S.get y = .p (.val (.int k b))) (hr : decide (a < b) = r) (hd : o.dst = some d) (hn : d < n) : zA P n o S [] (.p (.val (.bool r))) none := hr ▸ a_lss ho hx hy hd hn
theorem r_leq (ho : o.op = .binOp .leq xt x y yt) (hx : S.get x = .p (.val (.int k a))) (hy : S.get y = .p (.val (.int k b))) (hr : decide (a ≤ b) = r) (hd : o.dst = some d) (hn : d < n) : zA P n o S [] (.p (.val (.bool r))) none := hr ▸ a_leq ho hx hy hd hn
theorem qL (ho : o.op = .binOp .gtr xt x y yt) (hx : S.get x = .p (.val (.int k a))) (hy : S.get y = .p (.val (.int k b))) (hr : decide (b < a) = r) (hd : o.dst = some d) (hn : d < n) : zA P n o S [] (.p (.val (.bool r))) none := hr ▸ a_gtr ho hx hy hd hn
theorem qM (ho : o.op = .binOp .geq xt x y yt) (hx : S.get x = .p (.val (.int k a))) (hy : S.get y = .p (.val (.int k b))) (hr : decide (b ≤ a) = r) (hd : o.dst = some d) (hn : d < n) : zA P n o S [] (.p (.val (.bool r))) none := hr ▸ a_geq ho hx hy hd hn
theorem a_xor {z : Int} (ho : o.op = .binOp .xor xt x y yt) (hx : S.get x = .p (.val (.int k a))) (hy : S.get y = .p (.val (.int k b))) (hr : bits .xor k a b = z) (hd : o.dst = some d) (hn : d < n) : zA P n o S [] (.p (.val (.int k z))) none :=
  vX ho hx hy hd hn fun w => by subst hr; simp [eqGuard, binOp, go_sem]
theorem a_cmpl {z : Int} (ho : o.op = .unOp .xor xt x) (hx : S.get x = .p (.val (.int k a))) (hu : k.signed = false) (hr : bits .xor k k.max a = z) (hd : o.dst = some d) (hn : d < n) : zA P n o S [] (.p (.val (.int k z))) none :=
  a_unOp ho hx hd hn fun w => by subst hr; simp [unary_xor, hu, go_sem]
theorem xR {u : Bool} (ho : o.op = .unOp .not xt x) (hx : S.get x = .p (.val (.bool u))) (hr : (!u) = r) (hd : o.dst = some d) (hn : d < n) : zA P n o S [] (.p (.val (.bool r))) none := hr ▸ a_notB ho hx hd hn
theorem r_eqlT {m : TypeId} {ps qs : List PV} {la lb : List (IntKind × Int)} [h : EqA P xt m] (ho : o.op = .binOp .eql xt x y yt) (hx : S.get x = .p (.agg ps)) (hy : S.get y = .p (.agg qs)) (ha : qY ps = some la) (hb : qY qs = some lb) (hab : la.map Prod.fst = lb.map Prod.fst)
    (hlen : la.length = m) (hr : decide (la = lb) = r) (hd : o.dst = some d) (hn : d < n) : zA P n o S [] (.p (.val (.bool r))) none := hr ▸ w_eqlT ho hx hy ha hb hab hlen hd hn
theorem r_neqT {m : TypeId} {ps qs : List PV} {la lb : List (IntKind × Int)} [h : EqA P xt m] (ho : o.op = .binOp .neq xt x y yt) (hx : S.get x = .p (.agg ps)) (hy : S.get y = .p (.agg qs)) (ha : qY ps = some la) (hb : qY qs = some lb) (hab : la.map Prod.fst = lb.map Prod.fst)
    (hlen : la.length = m) (hr : (!decide (la = lb)) = r) (hd : o.dst = some d) (hn : d < n) : zA P n o S [] (.p (.val (.bool r))) none :=
  zA.pure hd hn fun S2 hg _ M w0 ρ a w hs => by
    subst hr
    have r1 := xJ hs ((hg x (by rw [ho]; simp [Op.operands])).trans hx)
    have r2 := xJ hs ((hg y (by rw [ho]; simp [Op.operands])).trans hy)
    obtain ⟨vs, hva, hl, he⟩ := rep_agg r1
    obtain ⟨us, hvb, hl2, he2⟩ := rep_agg r2
    have h5 := intsOf_vals ha hl he
    have h6 := intsOf_vals hb hl2 he2
    subst h5
    subst h6
    refine ⟨_, w, ?_, Below.refl _ _, .p (.val _)⟩
    unfold execOp
    rw [ho]
    simp only [hva, hvb, Sem.run_bind, run_eqGuard_agg w _ xt x y _ _ h.guard, Result.andThen_ok, run_neq_struct, run_equalIn_agg w 9999 xt _ _ h.st h.held]
    rw [eqFields_ints w 9998 _ 0 _ la lb h.flat rfl hab.symm (by simpa using hlen.trans h.len.symm)]
    rfl
theorem flat_drop_take {sz : Nat} : ∀ (es : List PV) (l c : Nat), (∀ e ∈ es, e.cells.length = sz) → flat ((es.drop l).take c) = ((flat es).drop (l * sz)).take (c * sz) := by
  have tk : ∀ (es : List PV) (c : Nat), (∀ e ∈ es, e.cells.length = sz) → flat (es.take c) = (flat es).take (c * sz) := by
    intro es
    induction es with
    | nil => intro c _; simp [flat]
    | cons e r ih =>
      intro c h
      cases c with
      | zero => simp [flat]
      | succ c =>
        have he := h e (by simp)
        have h1 := ih c fun e he => h e (by simp [he])
        simp only [flat, List.take_succ_cons, List.flatMap_cons] at h1 ⊢
        rw [h1, List.take_append, he]
        have e1 : (c + 1) * sz - sz = c * sz := by rw [Nat.add_mul, Nat.one_mul, Nat.add_sub_cancel]
        rw [e1, List.take_of_length_le (i := (c + 1) * sz) (l := e.cells) (by rw [he, Nat.add_mul]; omega)]
  have dr : ∀ (es : List PV) (l : Nat), (∀ e ∈ es, e.cells.length = sz) → flat (es.drop l) = (flat es).drop (l * sz) := by
    intro es
    induction es with
    | nil => intro l _; simp [flat]
    | cons e r ih =>
      intro l h
      cases l with
      | zero => simp
      | succ l =>
        have he := h e (by simp)
        have h1 := ih l fun e he => h e (by simp [he])
        simp only [flat, List.drop_succ_cons, List.flatMap_cons] at h1 ⊢
        rw [h1, List.drop_append, he]
        have e1 : (l + 1) * sz - sz = l * sz := by rw [Nat.add_mul, Nat.one_mul, Nat.add_sub_cancel]
        rw [e1, List.drop_of_length_le (i := (l + 1) * sz) (l := e.cells) (by rw [he, Nat.add_mul]; omega)]
        rfl
  intro es l c h
  rw [tk _ c fun e he => h e (List.mem_of_mem_drop he), dr es l h]
theorem rep_slice {M : Nat → Nat → Prop} {w : World} {es : List PV} {sz : Nat} (hes : ∀ e ∈ es, e.cells.length = sz) {g off cap : Nat} {ys : List Value} (hl : RepL M w (flat es) ys) (hcell : ∀ (j : Nat) y, ys[j]? = some y → w.cell? ⟨g, off + j, none⟩ = some y) (hM : ∀ j, j < ys.length → ¬ M g (off + j)) (hgl : g < w.heap.size) (hcap : es.length ≤ cap) (hm : cap ≤ maxLen)
    (l h : Nat) (h1 : l ≤ h) (h2 : h ≤ es.length) : Rep M w (.sl ((es.drop l).take (h - l))) (sliced (some ⟨g, off, none⟩) l h cap sz) := by
  have hlen : ((es.drop l).take (h - l)).length = h - l := by rw [List.length_take, List.length_drop]; omega
  have hy : RepL M w (flat ((es.drop l).take (h - l))) ((ys.drop (l * sz)).take ((h - l) * sz)) := by
    rw [flat_drop_take es l (h - l) hes]
    refine ⟨by simp only [List.length_take, List.length_drop, hl.len], fun i c v hc hv => ?_, fun v hv => hl.one v (List.mem_of_mem_drop (List.mem_of_mem_take hv))⟩
    rw [List.getElem?_take] at hc hv
    split at hc
    · rename_i hi
      rw [if_pos hi] at hv
      rw [List.getElem?_drop] at hc hv
      exact hl.each _ c v hc hv
    · cases hc
  have hc : ∀ (j : Nat) y, ((ys.drop (l * sz)).take ((h - l) * sz))[j]? = some y → w.cell? ⟨g, off + l * sz + j, none⟩ = some y := fun j y hj => by
    rw [List.getElem?_take] at hj
    split at hj
    · rw [List.getElem?_drop] at hj
      have := hcell _ y hj
      rw [← Nat.add_assoc] at this
      exact this
    · cases hj
  unfold sliced
  by_cases hcl : cap = l
  · rw [if_pos hcl]
    have e0 : h - l = 0 := by omega
    rw [e0] at hy hc ⊢
    simp only [List.take_zero] at hy ⊢
    have : flat ([] : List PV) = [] := rfl
    exact .sl [] g off 0 (cap - l) [] rfl rfl (fun j y hj => by cases hj) (fun j c y hj => by cases hj) (fun v hv => by cases hv) (fun j hj => by simp at hj) hgl (Nat.zero_le _) (by omega)
  · rw [if_neg hcl]
    have ea : (some (⟨g, off, none⟩ : Addr)).map (·.add (l * sz)) = some ⟨g, off + l * sz, none⟩ := by rw [Option.map_some, add_lit]
    rw [ea]
    exact .sl _ g (off + l * sz) (h - l) (cap - l) _ hlen.symm hy.len hc hy.each hy.one (fun j hj => by rw [Nat.add_assoc]; exact hM (l * sz + j) (by rw [List.length_take, List.length_drop] at hj; omega)) hgl (by omega) (by omega)
theorem a_sliceLH {t : TypeId} {e sz : Nat} {es : List PV} {l h : Int} {k k2 : IntKind} {agg : Bool} {xl xh : Operand} [ht : Und P t (.slice e)] [he : TyA P e agg sz] (ho : o.op = .slice t x (some xl) (some xh) none) (hx : S.get x = .p (.sl es)) (hes : ∀ e ∈ es, e.cells.length = sz)
    (hl : S.get xl = .p (.val (.int k l))) (hh : S.get xh = .p (.val (.int k2 h))) (hb : 0 ≤ l ∧ l ≤ h ∧ h ≤ es.length) (hd : o.dst = some d) (hn : d < n) : zA P n o S [] (.p (.sl ((es.drop l.toNat).take (h.toNat - l.toNat)))) none :=
  zA.pure hd hn fun S2 hg _ M w0 ρ a w hs => by
    have r1 := xJ hs ((hg x (by rw [ho]; simp [Op.operands])).trans hx)
    have r2 := hs.val ((hg xl (by rw [ho]; simp [Op.operands])).trans hl)
    have r3 := hs.val ((hg xh (by rw [ho]; simp [Op.operands])).trans hh)
    have hel : P.elem t = e := by simp [Program.elem, ht.h]
    have ht2 : P.underlying t = some (.slice (P.elem t)) := by rw [hel]; exact ht.h
    rcases rep_sl r1 with ⟨⟨b, hv⟩, h0⟩ | ⟨g, off, cap, ys, hv, hly, hcell, hM, hgl, hcap, hm⟩
    · subst h0
      have e1 : l = 0 := by have := hb.2.2; simp at this; omega
      have e2 : h = 0 := by have := hb.2.2; simp at this; omega
      subst e1
      subst e2
      refine ⟨.slice b 0 0, w, ?_, Below.refl _ _, .p .nil⟩
      unfold execOp
      rw [ho]
      simp only [Option.map_some, Option.map_none, hv, r2, r3, Sem.run_bind, run_sliceAt_slice w t _ _ _ _ ht2, run_slice_lh w t b 0 0 ht2 k k2 0 0 (by omega) (by omega) (by omega)]
      rw [hel, he.sz w]
      rfl
    · refine ⟨_, w, ?_, Below.refl _ _, .p (rep_slice hes hly hcell hM hgl hcap hm l.toNat h.toNat (by omega) (by omega))⟩
      unfold execOp
      rw [ho]
      simp only [Option.map_some, Option.map_none, hv, r2, r3, Sem.run_bind, run_sliceAt_slice w t _ _ _ _ ht2, run_slice_lh w t (some ⟨g, off, none⟩) es.length cap ht2 k k2 l h hb.1 hb.2.1 (by omega)]
      rw [hel, he.sz w]
      rfl
theorem a_sliceH {t : TypeId} {e sz : Nat} {es : List PV} {h : Int} {k2 : IntKind} {agg : Bool} {xh : Operand} [ht : Und P t (.slice e)] [he : TyA P e agg sz] (ho : o.op = .slice t x none (some xh) none) (hx : S.get x = .p (.sl es)) (hes : ∀ e ∈ es, e.cells.length = sz)
    (hh : S.get xh = .p (.val (.int k2 h))) (hb : 0 ≤ h ∧ h ≤ es.length) (hd : o.dst = some d) (hn : d < n) : zA P n o S [] (.p (.sl (es.take h.toNat))) none :=
  zA.pure hd hn fun S2 hg _ M w0 ρ a w hs => by
    have r1 := xJ hs ((hg x (by rw [ho]; simp [Op.operands])).trans hx)
    have r3 := hs.val ((hg xh (by rw [ho]; simp [Op.operands])).trans hh)
    have hel : P.elem t = e := by simp [Program.elem, ht.h]
    have ht2 : P.underlying t = some (.slice (P.elem t)) := by rw [hel]; exact ht.h
    rcases rep_sl r1 with ⟨⟨b, hv⟩, h0⟩ | ⟨g, off, cap, ys, hv, hly, hcell, hM, hgl, hcap, hm⟩
    · subst h0
      have e2 : h = 0 := by have := hb.2; simp at this; omega
      subst e2
      refine ⟨.slice b 0 0, w, ?_, Below.refl _ _, .p .nil⟩
      unfold execOp
      rw [ho]
      simp only [Option.map_some, Option.map_none, hv, r3, Sem.run_bind, run_sliceAt_slice w t _ _ _ _ ht2, run_slice_h w t b 0 0 ht2 k2 0 (by omega) (by omega)]
      rw [hel, he.sz w]
      rfl
    · have hr := rep_slice hes hly hcell hM hgl hcap hm 0 h.toNat (by omega) (by omega)
      rw [List.drop_zero, Nat.sub_zero] at hr
      refine ⟨_, w, ?_, Below.refl _ _, .p hr⟩
      unfold execOp
      rw [ho]
      simp only [Option.map_some, Option.map_none, hv, r3, Sem.run_bind, run_sliceAt_slice w t _ _ _ _ ht2, run_slice_h w t (some ⟨g, off, none⟩) es.length cap ht2 k2 h hb.1 (by omega)]
      rw [hel, he.sz w]
      rfl
theorem a_sliceL {t : TypeId} {e sz : Nat} {es : List PV} {l : Int} {k : IntKind} {agg : Bool} {xl : Operand} [ht : Und P t (.slice e)] [he : TyA P e agg sz] (ho : o.op = .slice t x (some xl) none none) (hx : S.get x = .p (.sl es)) (hes : ∀ e ∈ es, e.cells.length = sz)
    (hl : S.get xl = .p (.val (.int k l))) (hb : 0 ≤ l ∧ l ≤ es.length) (hd : o.dst = some d) (hn : d < n) : zA P n o S [] (.p (.sl (es.drop l.toNat))) none :=
  zA.pure hd hn fun S2 hg _ M w0 ρ a w hs => by
    have r1 := xJ hs ((hg x (by rw [ho]; simp [Op.operands])).trans hx)
    have r2 := hs.val ((hg xl (by rw [ho]; simp [Op.operands])).trans hl)
    have hel : P.elem t = e := by simp [Program.elem, ht.h]
    have ht2 : P.underlying t = some (.slice (P.elem t)) := by rw [hel]; exact ht.h
    rcases rep_sl r1 with ⟨⟨b, hv⟩, h0⟩ | ⟨g, off, cap, ys, hv, hly, hcell, hM, hgl, hcap, hm⟩
    · subst h0
      have e2 : l = 0 := by have := hb.2; simp at this; omega
      subst e2
      refine ⟨.slice b 0 0, w, ?_, Below.refl _ _, .p .nil⟩
      unfold execOp
      rw [ho]
      simp only [Option.map_some, Option.map_none, hv, r2, Sem.run_bind, run_sliceAt_slice w t _ _ _ _ ht2, run_slice_l w t b 0 0 ht2 k 0 (by omega) (by omega)]
      rw [hel, he.sz w]
      rfl
    · have hr := rep_slice hes hly hcell hM hgl hcap hm l.toNat es.length (by omega) (by omega)
      rw [List.take_of_length_le (by rw [List.length_drop]; omega)] at hr
      refine ⟨_, w, ?_, Below.refl _ _, .p hr⟩
      unfold execOp
      rw [ho]
      simp only [Option.map_some, Option.map_none, hv, r2, Sem.run_bind, run_sliceAt_slice w t _ _ _ _ ht2, run_slice_l w t (some ⟨g, off, none⟩) es.length cap ht2 k l hb.1 hb.2]
      rw [hel, he.sz w]
      rfl
theorem byts_drop (bs : List Int) (l : Nat) : (byts bs).drop l = byts (bs.drop l) := by simp [byts, List.map_drop]
theorem byts_take (bs : List Int) (l : Nat) : (byts bs).take l = byts (bs.take l) := by simp [byts, List.map_take]
theorem w_sliceHB {t : TypeId} {e : Nat} {bs : List Int} {h : Int} {k2 : IntKind} {agg : Bool} {xh : Operand} [ht : Und P t (.slice e)] [he : TyA P e agg 1] (ho : o.op = .slice t x none (some xh) none) (hx : S.get x = .p (.sl (byts bs)))
    (hh : S.get xh = .p (.val (.int k2 h))) (hb : 0 ≤ h ∧ h ≤ bs.length) (hd : o.dst = some d) (hn : d < n) : zA P n o S [] (.p (.sl (byts (bs.take h.toNat)))) none :=
  byts_take bs h.toNat ▸ a_sliceH ho hx (byts_one bs) hh (by rw [qW]; exact hb) hd hn
theorem vG {t : TypeId} {e : Nat} {bs : List Int} {l h : Int} {k k2 : IntKind} {agg : Bool} {xl xh : Operand} [ht : Und P t (.slice e)] [he : TyA P e agg 1] (ho : o.op = .slice t x (some xl) (some xh) none) (hx : S.get x = .p (.sl (byts bs)))
    (hl : S.get xl = .p (.val (.int k l))) (hh : S.get xh = .p (.val (.int k2 h))) (hb : 0 ≤ l ∧ l ≤ h ∧ h ≤ bs.length) (hd : o.dst = some d) (hn : d < n) : zA P n o S [] (.p (.sl (byts ((bs.drop l.toNat).take (h.toNat - l.toNat))))) none := by
  have := a_sliceLH (P := P) (S := S) ho hx (byts_one bs) hl hh (by rw [qW]; exact hb) hd hn
  rw [byts_drop, byts_take] at this
  exact this
theorem w_indexG {t : TypeId} {ix : Operand} {g : Nat} {j : Int} {xs : List (IntKind × Int)} {p : IntKind × Int} {agg : Bool} {m e : Nat} [ht : Und P t (.array m e)] [he : TyA P e agg 1] (ho : o.op = .indexAddr t x ix) (hx : S.get x = .glob g) (hi : S.get ix = .p (.val (.int k j)))
    (hg : seatTbl g = some xs) (hm : xs.length = m) (hj : 0 ≤ j) (hp : xs[j.toNat]? = some p) (hd : o.dst = some d) (hn : d < n) : zA P n o S [] (.pt [.val (.int p.1 p.2)]) none :=
  zA.pure hd hn fun S2 hgt _ M w0 ρ a w hs => by
    have h1 := hs.rep x
    rw [hgt x (by rw [ho]; simp [Op.operands]), hx] at h1
    have h2 := hs.val ((hgt ix (by rw [ho]; simp [Op.operands])).trans hi)
    obtain ⟨t1, t2, t3⟩ := hs.tbl hg
    generalize hv : a.eval x = v at h1
    cases h1
    have hlt : j.toNat < xs.length := (List.getElem?_eq_some_iff.1 hp).1
    refine ⟨.pointer (some ⟨g, j.toNat, none⟩), w, ?_, Below.refl _ _, .pt [.val (.int p.1 p.2)] g j.toNat [.int p.1 p.2] ⟨rfl, (fun i c v h3 h4 => by
      cases i with
      | zero => simp at h3 h4; subst h3; subst h4; exact .val _
      | succ i => simp at h3), (fun v h3 => by simp at h3; subst h3; rfl)⟩ (fun i y hy => by
      cases i with
      | zero => simp at hy; subst hy; exact t3 j.toNat p hp
      | succ i => simp at hy) (fun i _ => t1 _) t2⟩
    unfold execOp
    rw [ho]
    have hel : P.elem t = e := by simp [Program.elem, ht.h]
    have hal : P.arrayLen t = m := by simp [Program.arrayLen, ht.h]
    simp only [hv, h2, Sem.run_bind]
    rw [run_indexAt_array w t _ _ _ (by rw [hel, hal]; exact ht.h), hal, if_pos ⟨hj, by omega⟩, hel, he.sz w]
    show (Result.ok (Value.pointer (some (Addr.add ⟨g, 0, none⟩ (j.toNat * 1)))) w).andThen _ = _
    rw [add_lit, Nat.mul_one, Nat.zero_add]
    rfl
theorem w_build0 {t e : TypeId} {z : Value} {sz by_ : Nat} [ht : Und P t (.slice e)] [hi : InfoA P e z sz by_] (ho : o.op = .buildSlice t 0 #[]) (hd : o.dst = some d) (hn : d < n) : zA P n o S [] (.own d) (some (.row e sz 0 [])) :=
  zA.made hd hn fun S2 hg _ M w0 ρ a w hs => by
    obtain ⟨i, hi1, hi2⟩ := Option.map_eq_some_iff.1 hi.h
    simp only [Prod.mk.injEq] at hi2
    obtain ⟨hzi, hisz, _⟩ := hi2
    refine ⟨.slice (some ⟨w.heap.size, 0, none⟩) 0 0, w.alloc (.cells #[] e), ?_, World.grownBy_alloc w _ none, fun k hk => ?_, ⟨[], ⟨by simp, .inr ⟨w.heap.size, 0, #[], rfl, Nat.zero_le _, by rw [heap_alloc_new], Nat.le_refl _, by decide, by simp, by simp⟩⟩, ⟨rfl, (fun i c v h => by simp at h), (fun v h => by simp at h)⟩⟩, .inl rfl⟩
    · unfold execOp
      rw [ho]
      simp [Instr.buildSlice, run_underlying ht.h, sizeOf, typeInfo, hi1, Instr.fill, newRow]
      have e0 : Array.range 0 = #[] := Array.ext' (by rw [Array.toList_range]; rfl)
      rw [e0, Array.map_empty]
    · simp only [zT, Option.some.injEq] at hk; omega
theorem w_build0B {t e : TypeId} {z : Value} [ht : Und P t (.slice e)] [hi : InfoA P e z 1 1] (ho : o.op = .buildSlice t 0 #[]) (hd : o.dst = some d) (hn : d < n) : zA P n o S [] (.own d) (some (wP e [])) :=
  (w_build0 (P := P) (sz := 1) (by_ := 1) ho hd hn).nb (vF e [])
end
class FieldT (P : Program) (s f : Nat) (ft off : outParam Nat) : Prop where
  st : P.underlying s = some (.struct (P.fieldsOf s))
  at_ : ((P.fieldsOf s)[f]?).map (fun fl => (fl.type, fl.offset)) = some (ft, off)
section
variable {P : Program} {n : Nat} {o : Oper} {S : AS} {d : Nat} {x : Operand}
theorem w_iface {t : Nat} {y : PV} (hc : P.concrete t = true) (ho : o.op = .makeInterface t x) (hx : S.get x = .p y) (hd : o.dst = some d) (hn : d < n) : zA P n o S [] (.p (.ifc t y)) none :=
  zA.pure hd hn fun S2 hg _ M w0 ρ a w hs => by
    have h1 := xJ hs ((hg x (by rw [ho]; simp [Op.operands])).trans hx)
    refine ⟨.iface t (a.eval x), w, ?_, Below.refl _ _, .p (.ifc t y _ h1)⟩
    unfold execOp
    rw [ho]
    simp only [Sem.run_bind, run_makeInterface w t _ hc]
    rfl
def groupP (sz : Nat) : Nat → List PV → List PV
  | 0, _ => []
  | m + 1, cs => (if sz = 1 then (cs.getD 0 (.sl [])) else .agg (cs.take sz)) :: groupP sz m (cs.drop sz)
theorem wO {t e sz by_ len : Nat} {ps : Array (Nat × Operand)} {z : Value} {zs : List AV} {cs es : List PV} [ht : Und P t (.slice e)] [hi : InfoA P e z sz by_] (ho : o.op = .buildSlice t len ps)
    (hl : len ≤ maxLen) (hsmall : ¬ len * sz > 2 ^ 24) (hpos : ¬ len * sz = 0) (hz : ((List.range (len * sz)).map (z.cells[· % z.cells.size]!)).all (fun u => u.oneCell') = true) (hk : ps.toList.all (fun p => (S.get p.2).kD) = true)
    (hf : fillA (fun i => some (i * sz, sz)) (((List.range (len * sz)).map (z.cells[· % z.cells.size]!)).map fun u => .p (.val u)) (ps.toList.map fun p => (p.1, S.get p.2)) = some zs) (hp : pures zs = some cs) (hes : groupP sz len cs = es) (hfl : flat es = cs) (hel : es.length = len) (hlen : cs.length = len * sz) (hd : o.dst = some d) (hn : d < n) :
    zA P n o S [] (.p (.sl es)) none :=
  zA.pure hd hn fun S2 hg _ M w0 ρ a w hs => by
    obtain ⟨i, hi1, hi2⟩ := Option.map_eq_some_iff.1 hi.h
    simp only [Prod.mk.injEq] at hi2
    obtain ⟨hzi, hisz, _⟩ := hi2
    subst hisz
    have hargs : ∀ p ∈ ps.toList, S2.get p.2 = S.get p.2 := fun p hp => hg p.2 (by rw [ho]; simp only [Op.operands, List.mem_map]; exact ⟨p, hp, rfl⟩)
    obtain ⟨us, h1, h2⟩ := fill_rep (fun j => some (j * i.size, i.size)) S.get a.eval ps.toList _ zs _ (parts_ok hs hargs hk) hf (zerosA (fun u hu => List.all_eq_true.1 hz u hu))
    have hcs := pures_spec hp
    have hul : us.length = len * i.size := by rw [h2.len, hcs, List.length_map, hlen]
    have hb : Below w.heap.size w (w.alloc (.cells us.toArray e)) := (Below.refl _ _).alloc (Nat.le_refl _) _
    refine ⟨.slice (some ⟨w.heap.size, 0, none⟩) len len, w.alloc (.cells us.toArray e), ?_, hb, .p (.sl es w.heap.size 0 len len us hel.symm (by rw [hfl, hul, hlen]) (fun j y hy => ?_) (fun j c y hcj hy => ?_) h2.one (fun _ _ hm => Nat.lt_irrefl _ (Mut.lt hs hm)) ?_ (Nat.le_refl _) hl)⟩
    · unfold execOp
      rw [ho]
      have e1 : (ps.map fun (j, x) => (j, a.eval x)) = (ps.toList.map fun p => (p.1, a.eval p.2)).toArray := by apply Array.ext'; simp
      have hrun := run_buildSlice w t e len (ps.toList.map fun p => (p.1, a.eval p.2)).toArray us.toArray i z ht.h hi1 hzi hsmall hpos (by rw [zeros_eq]; exact h1)
      simp only [e1, Sem.run_bind, hrun]
      rfl
    · rw [Nat.zero_add]
      exact cell_at (by rw [heap_alloc_new]) hy
    · rw [hfl] at hcj
      have h3 := h2.each j (.p c) y (by rw [hcs, List.getElem?_map, hcj]; rfl) hy
      exact (rep_p h3).keep (.of_below _ hb)
    · exact (Array.getElem?_eq_some_iff.1 (heap_alloc_new w (.cells us.toArray e))).1
end
end Go.Proofs.YtomlhekjgagjaaaDoor
namespace Go.Proofs.YtomlhekjgagjaaaDoor
set_option maxRecDepth 100000
set_option maxHeartbeats 16000000
open Go Go.RowKit
def AV.ren (σ : Nat → Nat) : AV → AV
  | .own k => .own (σ k)
  | .ptr k o => .ptr (σ k) o
  | .ifp t k => .ifp t (σ k)
  | .clo f ks => .clo f (ks.map σ)
  | .tup vs => .tup (vs.map fun x => match x with
    | .p y => .p y
    | _ => .any)
  | x => x
def Blk.ren (σ : Nat → Nat) : Blk → Blk
  | .row t s n xs => .row t s n (xs.map (AV.ren σ))
  | .prow t s n xs => .prow t s n xs
  | .box t xs => .box t (xs.map (AV.ren σ))
  | .lent t s n xs => .lent t s n xs
  | .obj mp Q => .obj mp Q
def AV.okE (m : Nat) : AV → Bool
  | .own k => decide (1000 ≤ k ∧ k < 1000 + m)
  | .ptr k _ => decide (1000 ≤ k ∧ k < 1000 + m)
  | .ifp _ k => decide (1000 ≤ k ∧ k < 1000 + m)
  | .clo _ ks => ks.all fun k => decide (1000 ≤ k ∧ k < 1000 + m)
  | .tup vs => vs.all fun x => match x with
    | .p _ => true
    | _ => false
  | _ => true
def Blk.okE (m : Nat) : Blk → Bool
  | .box _ xs => xs.all (AV.okE m)
  | .obj _ _ => true
  | _ => false
def numB : Nat → List Blk → List (Nat × Blk)
  | _, [] => []
  | i, b :: r => (i, b) :: numB (i + 1) r
theorem look_numB : ∀ (B : List Blk) (i j : Nat), look (numB i B) j = if i ≤ j then B[j - i]? else none := by
  intro B
  induction B with
  | nil => intro i j; simp [numB, look]
  | cons b r ih =>
    intro i j
    simp only [numB, look]
    by_cases h1 : i = j
    · subst h1
      simp
    · rw [if_neg h1, ih (i + 1) j]
      by_cases h2 : i ≤ j
      · have e : j - i = (j - (i + 1)) + 1 := by omega
        rw [if_pos h2, if_pos (by omega), e, List.getElem?_cons_succ]
      · rw [if_neg h2, if_neg (by omega)]
def sig (ids : List Nat) (k : Nat) : Nat := ids.getD (k - 1000) 0
def qN : Act := { tmps := #[], defers := [] }
def asB (B : List Blk) : AS := { t := [], s := numB 1000 B }
structure Handed (h : Home) (B : List Blk) (ρ : Nat → Value) : Prop where
  r : ∀ i, i < B.length → h.r (1000 + i) = some (ρ (1000 + i))
  t : ∀ k, h.t k → ∃ i, i < B.length ∧ zT (ρ (1000 + i)) = some k
inductive EV where
  | ret (x : AV)
  | pan (x : AV)
def EvOK (M : Nat → Nat → Prop) (ρ : Nat → Value) (w : World) : EV → Ending → Prop
  | .ret x, e => ∃ v, e = .returned v ∧ yV M ρ w x v
  | .pan x, e => ∃ v, e = .panicked [{ v := v, recovered := false }] ∧ yV M ρ w x v
def FnE (P : Program) (f : FuncId) (args : List AV) (B : List Blk) (ev : EV) (B' : List Blk) : Prop :=
  ∀ (M : Nat → Nat → Prop) (h : Home) (ρ : Nat → Value) (vs : List Value), Handed h B ρ → Sat M 0 h (asB B) ρ qN h.w → vs.length = args.length →
    (∀ (i : Nat) x v, args[i]? = some x → vs[i]? = some v → yV (Mut M (asB B) ρ) ρ h.w x v) →
    Calls P f vs.toArray h.w fun e w' => ∃ ρ', Sat M 0 h (asB B') ρ' qN w' ∧ EvOK (Mut M (asB B') ρ') ρ' w' ev e
section
variable {M : Nat → Nat → Prop} {n : Nat} {w0 : Home} {w : World} {S : AS} {ρ : Nat → Value} {a : Act}
theorem vH (B : List Blk) (i : Nat) : (asB B).blk (1000 + i) = B[i]? := by
  show look (numB 1000 B) (1000 + i) = _
  have e : 1000 + i - 1000 = i := by omega
  rw [look_numB, if_pos (by omega), e]
theorem yN {B : List Blk} {id : Nat} {b : Blk} (h : (asB B).blk id = some b) : ∃ i, id = 1000 + i ∧ B[i]? = some b := by
  have h1 : look (numB 1000 B) id = some b := h
  rw [look_numB] at h1
  split at h1
  · exact ⟨id - 1000, by omega, h1⟩
  · cases h1
theorem yV.inn {M M' : Nat → Nat → Prop} {ids : List Nat} {m : Nat} {ρ : Nat → Value} {w : World} {x : AV} {v : Value} (h : yV M ρ w (x.ren (sig ids)) v) (hk : x.okE m = true) (hM : ∀ k c, k < w.heap.size → M' k c → M k c) : yV M' (fun k => ρ (sig ids k)) w x v := by
  cases x with
  | any => exact .any _
  | p x => cases h with | p h => exact .p (h.mono hM)
  | own k =>
    have h1 := vN h
    rw [h1]
    exact .own (ρ := fun k => ρ (sig ids k)) k
  | ptr k o =>
    cases h with
    | ptr _ _ g h => exact .ptr k o g h
  | ifp t k =>
    cases h with
    | ifp _ _ g h => exact .ifp t k g h
  | pt xs =>
    cases h with
    | pt _ g o ys h hc hM2 hg => exact .pt xs g o ys (h.mono hM) hc (fun j hj h1 => hM2 j hj (hM g _ hg h1)) hg
  | tup vs =>
    have h0 : yV M ρ w (.tup _) v := h
    cases h0 with
    | tup _ us hl h1 =>
      refine .tup _ us (by simpa using hl) fun i c u hc hu => ?_
      have hp := List.all_eq_true.1 hk c (List.mem_of_getElem? hc)
      cases c with
      | p y =>
        have h2 := h1 i (.p y) u (by rw [List.getElem?_map, hc]; rfl) hu
        cases h2 with
        | p h3 => exact .p (h3.mono hM)
      | _ => cases hp
  | clo f ks =>
    have h0 : yV M ρ w (.clo f (ks.map (sig ids))) v := h
    cases h0 with
    | clo _ _ vs hl h1 =>
      refine .clo f ks vs (by simpa using hl) fun i k v hk hv => ?_
      exact h1 i (sig ids k) v (by rw [List.getElem?_map, hk]; rfl) hv
  | glob g =>
    have h0 : yV M ρ w (.glob g) v := h
    cases h0
    exact .glob g
theorem yV.outw {M M' : Nat → Nat → Prop} {ids : List Nat} {m : Nat} {ρ ρ2 : Nat → Value} {w : World} {x : AV} {v : Value} (h : yV M ρ2 w x v) (hk : x.okE m = true) (hM : ∀ k c, k < w.heap.size → M' k c → M k c)
    (hρ : ∀ k, 1000 ≤ k → k < 1000 + m → ρ2 k = ρ (sig ids k)) : yV M' ρ w (x.ren (sig ids)) v := by
  cases x with
  | any => exact .any _
  | p x => cases h with | p h => exact .p (h.mono hM)
  | own k =>
    have h1 := vN h
    simp only [AV.okE, decide_eq_true_eq] at hk
    rw [h1, hρ k hk.1 hk.2]
    exact .own _
  | ptr k o =>
    simp only [AV.okE, decide_eq_true_eq] at hk
    cases h with
    | ptr _ _ g h =>
      rw [hρ k hk.1 hk.2] at h
      exact .ptr _ o g h
  | ifp t k =>
    simp only [AV.okE, decide_eq_true_eq] at hk
    cases h with
    | ifp _ _ g h =>
      rw [hρ k hk.1 hk.2] at h
      exact .ifp t _ g h
  | pt xs =>
    cases h with
    | pt _ g o ys h hc hM2 hg => exact .pt xs g o ys (h.mono hM) hc (fun j hj h1 => hM2 j hj (hM g _ hg h1)) hg
  | tup vs =>
    cases h with
    | tup _ us hl h1 =>
      refine .tup _ us (by simpa using hl) fun i c u hc hu => ?_
      rw [List.getElem?_map, Option.map_eq_some_iff] at hc
      obtain ⟨c', hc', rfl⟩ := hc
      have hp := List.all_eq_true.1 hk c' (List.mem_of_getElem? hc')
      cases c' with
      | p y =>
        have h2 := h1 i (.p y) u hc' hu
        cases h2 with
        | p h3 => exact .p (h3.mono hM)
      | _ => cases hp
  | clo f ks =>
    cases h with
    | clo _ _ vs hl h1 =>
      refine .clo f (ks.map (sig ids)) vs (by simpa using hl) fun i k v hk2 hv => ?_
      rw [List.getElem?_map, Option.map_eq_some_iff] at hk2
      obtain ⟨k', hk', rfl⟩ := hk2
      have hok := List.all_eq_true.1 hk k' (List.mem_of_getElem? hk')
      simp only [decide_eq_true_eq] at hok
      rw [← hρ k' hok.1 hok.2]
      exact h1 i k' v hk' hv
  | glob g =>
    cases h
    exact .glob g
theorem yK.inn {M M' : Nat → Nat → Prop} {ids : List Nat} {m : Nat} {ρ : Nat → Value} {w : World} {xs : List AV} {ys : List Value} (h : yK M ρ w (xs.map (AV.ren (sig ids))) ys) (hk : xs.all (AV.okE m) = true) (hM : ∀ k c, k < w.heap.size → M' k c → M k c) :
    yK M' (fun k => ρ (sig ids k)) w xs ys :=
  ⟨by simpa using h.len, fun i c v hc hv => yV.inn (h.each i _ v (by rw [List.getElem?_map, hc]; rfl) hv) (List.all_eq_true.1 hk c (List.mem_of_getElem? hc)) hM, h.one⟩
theorem yK.outw {M M' : Nat → Nat → Prop} {ids : List Nat} {m : Nat} {ρ ρ2 : Nat → Value} {w : World} {xs : List AV} {ys : List Value} (h : yK M ρ2 w xs ys) (hk : xs.all (AV.okE m) = true) (hM : ∀ k c, k < w.heap.size → M' k c → M k c)
    (hρ : ∀ k, 1000 ≤ k → k < 1000 + m → ρ2 k = ρ (sig ids k)) : yK M' ρ w (xs.map (AV.ren (sig ids))) ys :=
  ⟨by simpa using h.len, fun i c v hc hv => by
    rw [List.getElem?_map, Option.map_eq_some_iff] at hc
    obtain ⟨c', hc', rfl⟩ := hc
    exact yV.outw (h.each i c' v hc' hv) (List.all_eq_true.1 hk c' (List.mem_of_getElem? hc')) hM hρ, h.one⟩
def putBs : List Nat → List Blk → List (Nat × Blk) → List (Nat × Blk)
  | id :: is, b :: bs, s => putL (putBs is bs s) id b
  | _, _, s => s
def AS.after (S : AS) (ids : List Nat) (B : List Blk) : AS := { S with s := putBs ids (B.map (Blk.ren (sig ids))) S.s }
theorem kW : ∀ {l : List Nat}, l.Nodup → ∀ {i j x : Nat}, l[i]? = some x → l[j]? = some x → i = j
  | [], _, i, j, x, hi, _ => by simp at hi
  | a :: r, h, i, j, x, hi, hj => by
    rw [List.nodup_cons] at h
    cases i with
    | zero =>
      cases j with
      | zero => rfl
      | succ j =>
        simp at hi
        subst hi
        exact absurd (List.mem_of_getElem? (by simpa using hj)) h.1
    | succ i =>
      cases j with
      | zero =>
        simp at hj
        subst hj
        exact absurd (List.mem_of_getElem? (by simpa using hi)) h.1
      | succ j => exact congrArg (· + 1) (kW h.2 (i := i) (j := j) (x := x) (by simpa using hi) (by simpa using hj))
theorem look_putBs : ∀ (ids : List Nat) (B : List Blk) (s : List (Nat × Blk)) (j : Nat), ids.length = B.length → ids.Nodup → look (putBs ids B s) j = if j ∈ ids then B[ids.idxOf j]? else look s j := by
  intro ids
  induction ids with
  | nil => intro B s j hl hn; match B, hl with
    | [], _ => simp [putBs]
  | cons id r ih =>
    intro B s j hl hn
    match B, hl with
    | b :: bs, hl =>
      simp only [putBs, qA]
      rw [List.nodup_cons] at hn
      by_cases h1 : id = j
      · subst h1
        simp
      · rw [if_neg h1, ih bs s j (by simpa using hl) hn.2]
        have h2 : j ≠ id := fun e => h1 e.symm
        by_cases h3 : j ∈ r
        · have e : List.idxOf j (id :: r) = List.idxOf j r + 1 := by
            have hb : (id == j) = false := by simpa using h1
            rw [List.idxOf_cons, hb]
            rfl
          rw [if_pos h3, if_pos (List.mem_cons_of_mem _ h3), e, List.getElem?_cons_succ]
        · rw [if_neg h3, if_neg (by simp [h2, h3])]
end
section
variable {P : Program} {n : Nat} {o : Oper} {S : AS} {d : Nat}
structure Hands (S : AS) (ids : List Nat) (B : List Blk) : Prop where
  len : ids.length = B.length
  nodup : ids.Nodup
  ok : B.all (Blk.okE B.length) = true
  at_ : ∀ (i : Nat) id b, ids[i]? = some id → B[i]? = some b → S.blk id = some (b.ren (sig ids))
theorem kY {ids : List Nat} {i id : Nat} (h : ids[i]? = some id) : sig ids (1000 + i) = id := by
  unfold sig
  have e : 1000 + i - 1000 = i := by omega
  rw [e]
  simp [List.getD, h]
def EvOut (m : Nat) (σ : Nat → Nat) (Mu : Nat → Nat → Prop) (ρ : Nat → Value) (w : World) : EV → Ending → Prop
  | .ret x, e => x.okE m = true → ∃ v, e = .returned v ∧ yV Mu ρ w (x.ren σ) v
  | .pan x, e => x.okE m = true → ∃ v, e = .panicked [{ v := v, recovered := false }] ∧ yV Mu ρ w (x.ren σ) v
theorem Blk.qC {b : Blk} {m : Nat} (h : b.okE m = true) (c : Nat) : b.turns c := by
  cases b with
  | lent t s n xs => cases h
  | _ => trivial
theorem Blk.vB {b : Blk} {σ : Nat → Nat} (c : Nat) : (b.ren σ).turns c ↔ b.turns c := by cases b <;> exact Iff.rfl
theorem call_effC {C : (Ending → World → Prop) → Prop} (hmono : ∀ R R' : Ending → World → Prop, (∀ e w', R e w' → R' e w') → C R → C R') {xs : List AV} {ids : List Nat} {B B' : List Blk} {ev : EV} (hh : Hands S ids B) (hB' : B'.length = B.length) (hok' : B'.all (Blk.okE B.length) = true) (hxs : xs.all (AV.okE B.length) = true)
    {M : Nat → Nat → Prop} {w0 : Home} {ρ : Nat → Value} {a : Act} {w : World} (hs : Sat M n w0 S ρ a w) {vs : List Value}
    (hvs : ∀ (i : Nat) x v, xs[i]? = some x → vs[i]? = some v → yV (Mut M S ρ) ρ w (x.ren (sig ids)) v)
    (hf : ∀ (M' : Nat → Nat → Prop) (h : Home) (ρ' : Nat → Value), h.w = w → h.d = [] → Handed h B ρ' → Sat M' 0 h (asB B) ρ' qN w → (∀ (i : Nat) x v, xs[i]? = some x → vs[i]? = some v → yV (Mut M' (asB B) ρ') ρ' w x v) → (∀ k, 1000 ≤ k → k < 1000 + B.length → ρ' k = ρ (sig ids k)) →
      C fun e w' => ∃ ρ2, Sat M' 0 h (asB B') ρ2 qN w' ∧ EvOK (Mut M' (asB B') ρ2) ρ2 w' ev e) :
    C fun e w' => Sat M n w0 (S.after ids B') ρ a w' ∧ EvOut B.length (sig ids) (Mut M (S.after ids B') ρ) ρ w' ev e := by
  have hlen := hh.len
  have at_i : ∀ i, i < B.length → ∃ id b, ids[i]? = some id ∧ B[i]? = some b ∧ S.blk id = some (b.ren (sig ids)) ∧ sig ids (1000 + i) = id := fun i hi => by
    have h1 : ids[i]? = some (ids[i]'(by omega)) := List.getElem?_eq_getElem _
    have h2 : B[i]? = some B[i] := List.getElem?_eq_getElem _
    exact ⟨_, _, h1, h2, hh.at_ i _ _ h1 h2, kY h1⟩
  have box_i : ∀ i, i < B.length → ∃ mp g, ρ (sig ids (1000 + i)) = objV mp g := fun i hi => by
    obtain ⟨id, b, h1, h2, h3, h4⟩ := at_i i hi
    have hb := hs.blks id _ h3
    have hbo := List.all_eq_true.1 hh.ok b (List.mem_of_getElem? h2)
    rw [h4]
    cases b with
    | box t cs =>
      obtain ⟨g, ys, hv, _⟩ := hb
      exact ⟨false, g, hv⟩
    | row t s m cs => cases hbo
    | prow t s m cs => cases hbo
    | lent t s m cs => cases hbo
    | obj mp Q =>
      obtain ⟨g, o, hv, _⟩ := hb
      exact ⟨mp, g, hv⟩
  let T : Nat → Prop := fun k => ∃ i, i < B.length ∧ zT (ρ (sig ids (1000 + i))) = some k
  have T_mut : ∀ k c, T k → Mut M S ρ k c := fun k c ⟨i, hi, hk⟩ => by
    obtain ⟨id, b, h1, h2, h3, h4⟩ := at_i i hi
    rw [h4] at hk
    exact .inr ⟨id, _, h3, hk, (Blk.vB c).2 (Blk.qC (List.all_eq_true.1 hh.ok b (List.mem_of_getElem? h2)) c)⟩
  have T_has : ∀ k, T k → w0.has k := fun k ⟨i, hi, hk⟩ => by
    obtain ⟨id, b, h1, h2, h3, h4⟩ := at_i i hi
    rw [h4] at hk
    exact hs.mine id _ k h3 hk
  let M' : Nat → Nat → Prop := fun k c => Mut M S ρ k c ∧ ¬ T k
  let h : Home := ⟨w, T, hs.lays, (fun g hg ht => hs.tabs g 0 hg (T_mut g 0 ht)), fun k => if 1000 ≤ k ∧ k < 1000 + B.length then some (ρ (sig ids k)) else none, (fun k v hk => by
      by_cases hc : 1000 ≤ k ∧ k < 1000 + B.length
      · simp only [hc, and_self, if_true, Option.some.injEq] at hk
        obtain ⟨mp, g, hg⟩ := box_i (k - 1000) (by omega)
        have e : 1000 + (k - 1000) = k := by omega
        rw [e] at hg
        exact ⟨mp, g, by rw [← hk, hg]⟩
      · rw [if_neg hc] at hk; cases hk), (fun k hk => if_neg (by omega)), []⟩
  have hr_i : ∀ k, 1000 ≤ k → k < 1000 + B.length → h.r k = some (ρ (sig ids k)) := fun k h1 h2 => if_pos ⟨h1, h2⟩
  have mutc : ∀ k c, Mut M' (asB B) (fun k => ρ (sig ids k)) k c → Mut M S ρ k c := by
    rintro k c (hk | ⟨id, b, hb, hk, _⟩)
    · exact hk.1
    · obtain ⟨i, rfl, hbi⟩ := yN hb
      exact T_mut k c ⟨i, (List.getElem?_eq_some_iff.1 hbi).1, hk⟩
  have hsat : Sat M' 0 h (asB B) (fun k => ρ (sig ids k)) qN h.w := by
    refine ⟨xM.refl h, fun k c hk hh2 => ?_, fun g c hg hk => ?_, rfl, rfl, fun i => .any _, fun id b hb => ?_, fun id b k hb hk => ?_, fun k v hk => ?_, fun k hk => by omega, fun i j bi bj k hi hj h1 h2 => ?_⟩
    · rcases hh2 with hh2 | hh2
      · exact absurd (Mut.lt hs hk.1) (Nat.not_lt.2 hh2)
      · exact hk.2 hh2
    · exact hs.tabs g c hg hk.1
    · obtain ⟨i, rfl, hbi⟩ := yN hb
      have hi : i < B.length := (List.getElem?_eq_some_iff.1 hbi).1
      obtain ⟨id, b2, h1, h2, h3, h4⟩ := at_i i hi
      rw [hbi] at h2
      obtain rfl := Option.some.inj h2
      have hbo := List.all_eq_true.1 hh.ok b (List.mem_of_getElem? hbi)
      have hb2 := hs.blks id _ h3
      cases b with
      | box t cs =>
        obtain ⟨g, ys, hv, hg, hhp, hc⟩ := hb2
        exact ⟨g, ys, by show ρ (sig ids (1000 + i)) = _; rw [h4]; exact hv, hg, hhp, yK.inn hc hbo fun k c _ hk => mutc k c hk⟩
      | row t s m cs => cases hbo
      | prow t s m cs => cases hbo
      | lent t s m cs => cases hbo
      | obj mp Q =>
        obtain ⟨g, o, hv, hg, hhp, hq⟩ := hb2
        exact ⟨g, o, by show ρ (sig ids (1000 + i)) = _; rw [h4]; exact hv, hg, hhp, hq⟩
    · obtain ⟨i, rfl, hbi⟩ := yN hb
      exact .inr ⟨i, (List.getElem?_eq_some_iff.1 hbi).1, hk⟩
    · by_cases hc : 1000 ≤ k ∧ k < 1000 + B.length
      · rw [hr_i k hc.1 hc.2] at hk
        exact Option.some.inj hk
      · have : h.r k = none := if_neg hc
        rw [this] at hk; cases hk
    · obtain ⟨i', rfl, hbi⟩ := yN hi
      obtain ⟨j', rfl, hbj⟩ := yN hj
      obtain ⟨id, b1, p1, p2, p3, p4⟩ := at_i i' (List.getElem?_eq_some_iff.1 hbi).1
      obtain ⟨jd, b2, q1, q2, q3, q4⟩ := at_i j' (List.getElem?_eq_some_iff.1 hbj).1
      rw [p4] at h1
      rw [q4] at h2
      have e := hs.dist id jd _ _ k p3 q3 h1 h2
      subst e
      rw [kW hh.nodup p1 q1]
  refine hmono _ _ ?_ (hf M' h _ rfl rfl ⟨fun i hi => hr_i _ (by omega) (by omega), fun k hk => hk⟩ hsat (fun i x v h1 h2 => yV.inn (hvs i x v h1 h2) (List.all_eq_true.1 hxs x (List.mem_of_getElem? h1)) fun k c _ hk => mutc k c hk) (fun _ _ _ => rfl))
  rintro e w' ⟨ρ2, hs2, hev⟩
  have hρ : ∀ k, 1000 ≤ k → k < 1000 + B.length → ρ2 k = ρ (sig ids k) := fun k h1 h2 => hs2.fix k _ (hr_i k h1 h2)
  have hblk : ∀ j, (S.after ids B').blk j = if j ∈ ids then (B'.map (Blk.ren (sig ids)))[ids.idxOf j]? else S.blk j := fun j => look_putBs ids _ S.s j (by simp [hlen, hB']) hh.nodup
  have mem_at : ∀ j, j ∈ ids → ∃ i b b', ids.idxOf j = i ∧ i < B.length ∧ ids[i]? = some j ∧ B[i]? = some b ∧ B'[i]? = some b' ∧ S.blk j = some (b.ren (sig ids)) ∧ sig ids (1000 + i) = j := fun j hj => by
    have h1 : ids.idxOf j < ids.length := List.idxOf_lt_length_of_mem hj
    have h2 : ids[ids.idxOf j]? = some j := by rw [List.getElem?_eq_getElem h1, List.getElem_idxOf h1]
    obtain ⟨id, b, h3, h4, h5, h6⟩ := at_i (ids.idxOf j) (by omega)
    rw [h2] at h3
    obtain rfl := Option.some.inj h3
    exact ⟨_, b, B'[ids.idxOf j]'(by omega), rfl, by omega, h2, h4, List.getElem?_eq_getElem _, h5, h6⟩
  have keys : ∀ j b, (S.after ids B').blk j = some b → ∃ b0, S.blk j = some b0 ∧ ∀ c, b.turns c → b0.turns c := fun j b hb => by
    rw [hblk] at hb
    by_cases hj : j ∈ ids
    · obtain ⟨i, b0, b', _, _, _, h3, _, h5, _⟩ := mem_at j hj
      exact ⟨_, h5, fun c _ => (Blk.vB c).2 (Blk.qC (List.all_eq_true.1 hh.ok b0 (List.mem_of_getElem? h3)) c)⟩
    · rw [if_neg hj] at hb
      exact ⟨b, hb, fun _ h => h⟩
  have keys' : ∀ j b, S.blk j = some b → ∃ b0, (S.after ids B').blk j = some b0 := fun j b hb => by
    rw [hblk]
    by_cases hj : j ∈ ids
    · obtain ⟨i, b0, b', h1, _, _, _, h4, _, _⟩ := mem_at j hj
      rw [if_pos hj, h1]
      exact ⟨_, by rw [List.getElem?_map, h4]; rfl⟩
    · rw [if_neg hj]
      exact ⟨b, hb⟩
  have mut1 : ∀ k c, Mut M (S.after ids B') ρ k c → Mut M S ρ k c := by
    rintro k c (hk | ⟨j, b, hb, hk, ht⟩)
    · exact .inl hk
    · obtain ⟨b0, h0, h0t⟩ := keys j b hb
      exact .inr ⟨j, b0, h0, hk, h0t c ht⟩
  have mut2 : ∀ k c, Mut M S ρ k c → Mut M' (asB B') ρ2 k c := fun k c hk => by
    by_cases ht : T k
    · obtain ⟨i, hi, hk2⟩ := ht
      refine .inr ⟨1000 + i, B'[i]'(by omega), by rw [vH]; exact List.getElem?_eq_getElem _, ?_, Blk.qC (List.all_eq_true.1 hok' _ (List.getElem_mem _)) c⟩
      rw [hρ (1000 + i) (by omega) (by omega)]
      exact hk2
    · exact .inl ⟨hk, ht⟩
  have grow : Keeps (Mut M S ρ) w w' := ⟨hs2.below.size, fun k c hk hnm => World.cell?_of_block (w := w) (hs2.below.block k hk (fun ht => hnm (T_mut k c ht)))⟩
  have sat' : Sat M n w0 (S.after ids B') ρ a w' := by
    refine ⟨⟨hs2.below.os.trans hs.below.os, hs2.below.tape.trans hs.below.tape, hs2.below.output.trans hs.below.output, Nat.le_trans hs.below.size hs2.below.size, fun k hk ht => ?_⟩, hs.out, hs.tab, hs.size, hs.defers, fun i => ((hs.tmps i).keep grow).mono fun k c _ hk => mut1 k c hk, fun j b hb => ?_, fun j b k hb hk => ?_, hs.fix, hs.free, fun i j bi bj k hi hj h1 h2 => ?_⟩
    · refine (hs2.below.block k (Nat.lt_of_lt_of_le hk hs.below.size) (fun hT => ?_)).trans (hs.below.block k hk ht)
      rcases T_has k hT with h1 | h1
      · omega
      · exact ht h1
    · rw [hblk] at hb
      by_cases hj : j ∈ ids
      · obtain ⟨i, b0, b', h1, hi, h2, h3, h4, h5, h6⟩ := mem_at j hj
        rw [if_pos hj, h1, List.getElem?_map, h4] at hb
        obtain rfl := Option.some.inj hb
        have hb2 := hs2.blks (1000 + i) b' (by rw [vH]; exact h4)
        have hbo := List.all_eq_true.1 hok' b' (List.mem_of_getElem? h4)
        cases b' with
        | box t cs =>
          obtain ⟨g, ys, hv, hg, hhp, hc⟩ := hb2
          rw [hρ (1000 + i) (by omega) (by omega), h6] at hv
          exact ⟨g, ys, hv, hg, hhp, yK.outw hc hbo (fun k c _ hk => mut2 k c (mut1 k c hk)) hρ⟩
        | row t s m cs => cases hbo
        | prow t s m cs => cases hbo
        | lent t s m cs => cases hbo
        | obj mp Q =>
          obtain ⟨g, o, hv, hg, hhp, hq⟩ := hb2
          rw [hρ (1000 + i) (by omega) (by omega), h6] at hv
          exact ⟨g, o, hv, hg, hhp, hq⟩
      · rw [if_neg hj] at hb
        refine (y7.keep (hs.blks j b hb) (fun k hk => ?_) grow (fun k c _ hk => hk)).mono mut1
        refine hs2.below.block k (Mut.kJ hs hb hk) (fun ⟨i, hi, hk2⟩ => ?_)
        obtain ⟨id, b2, p1, p2, p3, p4⟩ := at_i i hi
        rw [p4] at hk2
        have := hs.dist j id _ _ k hb p3 hk hk2
        subst this
        exact hj (List.mem_of_getElem? p1)
    · obtain ⟨b0, h0, _⟩ := keys j b hb
      exact hs.mine j b0 k h0 hk
    · obtain ⟨b1, h3, _⟩ := keys i bi hi
      obtain ⟨b2, h4, _⟩ := keys j bj hj
      exact hs.dist i j b1 b2 k h3 h4 h1 h2
  refine ⟨sat', ?_⟩
  cases ev with
  | ret x =>
    intro hx
    obtain ⟨v, he, hv⟩ := hev
    exact ⟨v, he, yV.outw hv hx (fun k c _ hk => mut2 k c (mut1 k c hk)) hρ⟩
  | pan x =>
    intro hx
    obtain ⟨v, he, hv⟩ := hev
    exact ⟨v, he, yV.outw hv hx (fun k c _ hk => mut2 k c (mut1 k c hk)) hρ⟩
theorem call_eff {f : FuncId} {xs : List AV} {ids : List Nat} {B B' : List Blk} {ev : EV} (hf : FnE P f xs B ev B') (hh : Hands S ids B) (hB' : B'.length = B.length) (hok' : B'.all (Blk.okE B.length) = true) (hxs : xs.all (AV.okE B.length) = true)
    {M : Nat → Nat → Prop} {w0 : Home} {ρ : Nat → Value} {a : Act} {w : World} (hs : Sat M n w0 S ρ a w) {vs : List Value} (hvl : vs.length = xs.length)
    (hvs : ∀ (i : Nat) x v, xs[i]? = some x → vs[i]? = some v → yV (Mut M S ρ) ρ w (x.ren (sig ids)) v) :
    Calls P f vs.toArray w fun e w' => Sat M n w0 (S.after ids B') ρ a w' ∧ EvOut B.length (sig ids) (Mut M (S.after ids B') ρ) ρ w' ev e :=
  call_effC (C := Calls P f vs.toArray w) (fun _ _ h c => c.mono h) hh hB' hok' hxs hs hvs fun M' h ρ' hw _ hand hsat hr _ => by
    subst hw
    exact hf M' h ρ' vs hand hsat hvl hr
end
section
variable {P : Program} {n : Nat} {o : Oper} {S : AS} {d : Nat} {t : TypeId} {x y : Operand} {ops : Array Oper} {rest : List Oper} {K : Exit → AS → Prop}
theorem a_assignC {f : Nat} {ids : List Nat} (ho : o.op = .assign x) (hx : S.get x = .clo f ids) (hd : o.dst = some d) (hn : d < n) : zA P n o S [] (.clo f ids) none := hx ▸ a_move (.inr ho) hd hn
theorem w_makeFunc {f : Nat} {cs : Array Operand} {ids : List Nat} (ho : o.op = .makeFunc (.func f) #[] cs) (hc : cs.toList.map S.get = ids.map fun i => .ptr i 0) (hd : o.dst = some d) (hn : d < n) : zA P n o S [] (.clo f ids) none :=
  zA.pure hd hn fun S2 hg _ M w0 ρ a w hs => by
    refine ⟨.func (.func f) #[] (cs.toList.map a.eval).toArray, w, ?_, Below.refl _ _, .clo f ids _ ?_ fun i k v hk hv => ?_⟩
    · unfold execOp
      rw [ho]
      have e : cs.map a.eval = (cs.toList.map a.eval).toArray := by apply Array.ext'; simp
      simp [Instr.makeFunc, e]
    · have := congrArg List.length hc
      simpa using this
    · rw [List.getElem?_map, Option.map_eq_some_iff] at hv
      obtain ⟨z, hz, rfl⟩ := hv
      have h3 : S.get z = .ptr k 0 := by
        have h4 : (cs.toList.map S.get)[i]? = (ids.map fun i => AV.ptr i 0)[i]? := by rw [hc]
        rw [List.getElem?_map, List.getElem?_map, hz, hk] at h4
        simpa using h4
      have h5 := hs.rep z
      rw [hg z (by rw [ho]; simp only [Op.operands]; simp; exact Array.mem_def.2 (List.mem_of_getElem? hz)), h3] at h5
      obtain ⟨g, h6, h7⟩ := kC h5
      exact ⟨g, h6, h7⟩
def readIds : List AV → Option (List Nat)
  | [] => some []
  | .ptr i 0 :: r => match readIds r with
    | some l => some (i :: l)
    | none => none
  | _ => none
theorem readIds_spec : ∀ {l : List AV} {ids : List Nat}, readIds l = some ids → l = ids.map fun i => .ptr i 0
  | [], ids, h => by simp only [readIds, Option.some.injEq] at h; subst h; rfl
  | x :: r, ids, h => by
    unfold readIds at h
    split at h
    · rename_i h0; cases h0
    · rename_i i r' h0
      injection h0 with h1 h2
      subst h1
      subst h2
      split at h
      · rename_i l hl
        obtain rfl := Option.some.inj h
        rw [readIds_spec hl]
        rfl
      · cases h
    · cases h
theorem w_mkFunc {f : Nat} {cs : Array Operand} {ids : List Nat} (ho : o.op = .makeFunc (.func f) #[] cs) (hc : readIds (cs.toList.map S.get) = some ids) (hd : o.dst = some d) (hn : d < n) : zA P n o S [] (.clo f ids) none := w_makeFunc ho (readIds_spec hc) hd hn
def AtB (S : AS) (ids : List Nat) : List Nat → List Blk → Prop
  | [], [] => True
  | i :: is, b :: bs => S.blk i = some (b.ren (sig ids)) ∧ AtB S ids is bs
  | _, _ => False
theorem hands_of {ids : List Nat} {B : List Blk} (hn : ids.Nodup) (hok : B.all (Blk.okE B.length) = true) (h : AtB S ids ids B) : Hands S ids B := by
  have key : ∀ (is : List Nat) (bs : List Blk), AtB S ids is bs → is.length = bs.length ∧ ∀ (i : Nat) id b, is[i]? = some id → bs[i]? = some b → S.blk id = some (b.ren (sig ids)) := by
    intro is
    induction is with
    | nil => intro bs h; cases bs with
      | nil => exact ⟨rfl, fun i id b h => by simp at h⟩
      | cons => exact h.elim
    | cons x r ih => intro bs h; cases bs with
      | nil => exact h.elim
      | cons b q =>
        obtain ⟨h1, h2⟩ := ih q h.2
        refine ⟨by simp [h1], fun i id c hi hc => ?_⟩
        cases i with
        | zero => simp at hi hc; subst hi; subst hc; exact h.1
        | succ i => exact h2 i id c (by simpa using hi) (by simpa using hc)
  obtain ⟨h1, h2⟩ := key ids B h
  exact ⟨h1, hn, hok, h2⟩
def Enters (P : Program) (o : Oper) (S : AS) (f : FuncId) (avs : List AV) : Prop :=
  ∀ (M : Nat → Nat → Prop) (n : Nat) (w0 : Home) (ρ : Nat → Value) (a : Act) (w : World), Sat M n w0 S ρ a w → ∃ vs : List Value, (execOp a.eval o).run P w = .ok (.enter f vs.toArray) w ∧ vs.length = avs.length ∧
    ∀ (i : Nat) x v, avs[i]? = some x → vs[i]? = some v → yV (Mut M S ρ) ρ w x v
theorem reps_get {M : Nat → Nat → Prop} {n : Nat} {w0 : Home} {ρ : Nat → Value} {a : Act} {w : World} (hs : Sat M n w0 S ρ a w) (args : List Operand) : ∀ (i : Nat) x v, (args.map S.get)[i]? = some x → (args.map a.eval)[i]? = some v → yV (Mut M S ρ) ρ w x v := by
  intro i x v hx hv
  rw [List.getElem?_map, Option.map_eq_some_iff] at hx hv
  obtain ⟨y, hy, rfl⟩ := hx
  obtain ⟨z, hz, rfl⟩ := hv
  rw [hy] at hz
  obtain rfl := Option.some.inj hz
  exact hs.rep y
theorem yT {f : FuncId} {args : Array Operand} {ts : Array TypeId} [hc : HasFn P f] (ho : o.op = .call { callee := .value (.func f), args := args, argTypes := ts }) : Enters P o S f (args.toList.map S.get) :=
  fun M n w0 ρ a w hs => by
    refine ⟨args.toList.map a.eval, ?_, by simp, reps_get hs args.toList⟩
    have e : (args.toList.map a.eval).toArray = args.map a.eval := by apply Array.ext'; simp
    unfold execOp
    rw [ho, e]
    simp [resolve, Deferred.ofValue, Act.eval, invoke, hc.h]
theorem reps_ren {M : Nat → Nat → Prop} {ρ : Nat → Value} {w : World} {xs avs : List AV} {ids : List Nat} {vs : List Value} (hx : avs = xs.map (AV.ren (sig ids))) (h : ∀ (i : Nat) x v, avs[i]? = some x → vs[i]? = some v → yV M ρ w x v) :
    ∀ (i : Nat) x v, xs[i]? = some x → vs[i]? = some v → yV M ρ w (x.ren (sig ids)) v := fun i x v h1 h2 => h i _ v (by rw [hx, List.getElem?_map, h1]; rfl) h2
theorem z8.eRet {f : FuncId} {avs xs : List AV} {B B' : List Blk} {rx : AV} {N : AS → Prop} (ids : List Nat) (hf : FnE P f xs B (.ret rx) B') (hd : o.dst = some d) (hn : d < n) (he : Enters P o S f avs) (hx : avs = xs.map (AV.ren (sig ids))) (hh : Hands S ids B)
    (hB' : B'.length = B.length) (hok' : B'.all (Blk.okE B.length) = true) (hxs : xs.all (AV.okE B.length) = true) (hrx : rx.okE B.length = true) (hr : N ((S.after ids B').put d (rx.ren (sig ids)))) : z8 P n o S K N := by
  intro M w0 ρ a w KK Q hs hK _
  obtain ⟨vs, he1, he2, he3⟩ := he M n w0 ρ a w hs
  unfold Oper.wp
  rw [he1, Oper.upon_enter]
  refine (call_eff hf hh hB' hok' hxs hs (by rw [he2, hx, List.length_map]) (reps_ren hx he3)).mono ?_
  rintro e w' ⟨hs', hev⟩
  obtain ⟨v, rfl, hv⟩ := hev hrx
  show KK (a.put o.dst v) w'
  rw [hd]
  exact hK _ ρ _ w' hr (hs'.put hn hv)
theorem zZ.ofT (hg : o.guard = none) (h : z8 P n o S K (fun S1 => zZ P n ops rest S1 K)) : zZ P n ops (o :: rest) S K := by
  intro M w0 ρ a w Q hs hK
  unfold wpList
  rw [if_pos (by simp [Region.wanted, hg])]
  exact .inl (h M w0 ρ a w _ Q hs (fun S1 ρ' a' w' hN hs' => hN M w0 ρ' a' w' Q hs' hK) hK)
theorem zZ.ofTg {j t : Nat} {want b : Bool} (hg : o.guard = some (j, want)) (ht : (ops[j]?).bind (·.dst) = some t) (htn : t < n) (hb : S.tmp t = .p (.val (.bool b))) (hbw : b = want)
    (h : z8 P n o S K (fun S1 => zZ P n ops rest S1 K)) : zZ P n ops (o :: rest) S K := by
  intro M w0 ρ a w Q hs hK
  unfold wpList
  rw [hs.wanted hg ht htn hb, if_pos (by subst hbw; simp [wantB])]
  exact .inl (h M w0 ρ a w _ Q hs (fun S1 ρ' a' w' hN hs' => hN M w0 ρ' a' w' Q hs' hK) hK)
theorem zL.ofT (hg : o.guard = none) (h : z8 P n o S K (fun S1 => zL P n K S1 rest)) : zL P n K S (o :: rest) := ⟨hg, h⟩
theorem z8.panic {t : Nat} {y : PV} {N : AS → Prop} (ho : o.op = .panic x) (hx : S.get x = .p (.ifc t y)) (hr : K (.panic []) { S with x := .p (.ifc t y) }) : z8 P n o S K N := by
  intro M w0 ρ a w KK Q hs _ hK
  have h1 := hs.rep x
  rw [hx] at h1
  have h2 := rep_p h1
  obtain ⟨u, hu⟩ : ∃ u, a.eval x = .iface t u := by
    generalize a.eval x = v at h2
    cases h2 with
    | ifc _ _ u h => exact ⟨u, rfl⟩
  have h3 : (execOp a.eval o).run P w = .halt (.panic (a.eval x)) w := by
    unfold execOp
    rw [ho]
    simp only [hu]
    rfl
  unfold Oper.wp
  rw [h3, Oper.upon_panic]
  exact hK (.panic _) _ ρ a w hr ⟨hs.below, hs.out, hs.tab, hs.size, hs.defers, hs.tmps, hs.blks, hs.mine, hs.fix, hs.free, hs.dist⟩ ⟨_, rfl, h1⟩
def zipA : Nat → List AV → List (Nat × AV)
  | _, [] => []
  | i, x :: r => (i, x) :: zipA (i + 1) r
theorem look_zipA : ∀ (xs : List AV) (i j : Nat), look (zipA i xs) j = if i ≤ j then xs[j - i]? else none := by
  intro xs
  induction xs with
  | nil => intro i j; simp [zipA, look]
  | cons b r ih =>
    intro i j
    simp only [zipA, look]
    by_cases h1 : i = j
    · subst h1
      simp
    · rw [if_neg h1, ih (i + 1) j]
      by_cases h2 : i ≤ j
      · have e : j - i = (j - (i + 1)) + 1 := by omega
        rw [if_pos h2, if_pos (by omega), e, List.getElem?_cons_succ]
      · rw [if_neg h2, if_neg (by omega)]
inductive GivesA (P : Program) (fn : Func) (S : AS) : AV → Prop
  | none (hr : fn.results = #[]) : GivesA P fn S .any
  | one {t : Nat} {x : AV} (hr : fn.results = #[.tmp t]) (h : S.tmp t = x) : GivesA P fn S x
  | p {r : ResultVar} {x : PV} (hr : fn.results = #[r]) (h : ResV P S r x) : GivesA P fn S (.p x)
  | tup {rs : List ResultVar} {l : List PV} (hr : fn.results = rs.toArray) (hl : rs.length ≠ 1) (h : ResVs P S rs l) : GivesA P fn S (.tup (l.map AV.p))
def HasB (S : AS) (B : List Blk) : Prop := ∀ (i : Nat) b, B[i]? = some b → S.blk (1000 + i) = some b
def EndE (P : Program) (fn : Func) (ev : EV) (B' : List Blk) (e : Exit) (S : AS) : Prop :=
  match ev with
  | .ret x => (e = .ret ∨ e = .normal) ∧ ∃ S', Sub S S' ∧ GivesA P fn S' x ∧ HasB S' B'
  | .pan x => e = .panic [] ∧ S.x = x ∧ HasB S B'
def hasL (S : AS) : Nat → List Blk → Prop
  | _, [] => True
  | i, b :: r => S.blk i = some b ∧ hasL S (i + 1) r
theorem Sat.asB {M : Nat → Nat → Prop} {w0 : Home} {ρ : Nat → Value} {a : Act} {w : World} {B : List Blk} (hs : Sat M n w0 S ρ a w) (hd : w0.d = []) (hb : HasB S B) : Sat M 0 w0 (asB B) ρ qN w ∧ ∀ k c, Mut M (Proofs.YtomlhekjgagjaaaDoor.asB B) ρ k c → Mut M S ρ k c := by
  have hm : ∀ k c, Mut M (Proofs.YtomlhekjgagjaaaDoor.asB B) ρ k c → Mut M S ρ k c := by
    rintro k c (hk | ⟨id, b, hb1, hk⟩)
    · exact .inl hk
    · obtain ⟨i, rfl, h1⟩ := yN hb1
      exact .inr ⟨_, b, hb i b h1, hk⟩
  refine ⟨⟨hs.below, hs.out, hs.tab, rfl, hd.symm, fun i => .any _, fun id b hb1 => ?_, fun id b k hb1 hk => ?_, hs.fix, fun k hk => by omega, fun i j bi bj k hi hj h1 h2 => ?_⟩, hm⟩
  · obtain ⟨i, rfl, h1⟩ := yN hb1
    exact (hs.blks _ b (hb i b h1)).mono hm
  · obtain ⟨i, rfl, h1⟩ := yN hb1
    exact hs.mine _ b k (hb i b h1) hk
  · obtain ⟨i', rfl, h3⟩ := yN hi
    obtain ⟨j', rfl, h4⟩ := yN hj
    exact hs.dist _ _ bi bj k (hb i' bi h3) (hb j' bj h4) h1 h2
end
end Go.Proofs.YtomlhekjgagjaaaDoor
namespace Go.Proofs.YtomlhekjgagjaaaDoor
set_option maxRecDepth 100000
set_option maxHeartbeats 16000000
open Go Go.RowKit
def FnX (P : Program) (f : FuncId) (args : List AV) (B : List Blk) (x : AV) (B' New : List Blk) : Prop :=
  ∀ (M : Nat → Nat → Prop) (h : Home) (ρ : Nat → Value) (vs : List Value), Handed h B ρ → (∀ k, 1000 + B.length ≤ k → h.r k = none) → Sat M 0 h (asB B) ρ qN h.w → vs.length = args.length →
    (∀ (i : Nat) x v, args[i]? = some x → vs[i]? = some v → yV (Mut M (asB B) ρ) ρ h.w x v) →
    Calls P f vs.toArray h.w fun e w' => ∃ ρ' v, e = .returned v ∧ Sat M 0 h (asB (B' ++ New)) ρ' qN w' ∧ yV (Mut M (asB (B' ++ New)) ρ') ρ' w' x v
section
variable {M : Nat → Nat → Prop} {n : Nat} {w0 : Home} {w : World} {S : AS} {ρ : Nat → Value} {a : Act}
theorem Sat.dropU (h : Sat M n w0 S ρ a w) (id : Nat) (u : Value) (hr : w0.r id = none) : Sat M n w0 (S.drop id) (upd ρ id u) a w := by
  have hu : ∀ j, j ≠ id → upd ρ id u j = ρ j := fun j hj => by simp [upd, hj]
  have hm : ∀ k c, Mut M (S.drop id) (upd ρ id u) k c → Mut M S ρ k c := fun k c hk => by
    rcases hk with hk | ⟨j, b, hb, hk, ht⟩
    · exact .inl hk
    · rw [AS.xP] at hb
      split at hb
      · cases hb
      · rename_i hne
        obtain ⟨b1, h1, rfl⟩ := Option.map_eq_some_iff.1 hb
        rw [hu j (fun e => hne e.symm)] at hk
        exact .inr ⟨j, b1, h1, hk, (Blk.turns_kill b1 id c).1 ht⟩
  have hk : ∀ {x : AV} {v : Value}, yV (Mut M S ρ) ρ w x v → yV (Mut M (S.drop id) (upd ρ id u)) (upd ρ id u) w (x.kill id) v := fun {x v} hx => (hx.killed id u).mono fun k c _ hk => hm k c hk
  refine ⟨h.below, h.out, h.tab, h.size, h.defers, fun i => ?_, fun j b hb => ?_, fun j b k hb hk => ?_, fun k v hv => ?_, h.free, fun i j bi bj k hi hj h1 h2 => ?_⟩
  · have e : (S.drop id).tmp i = (S.tmp i).kill id := S.tmp_kill id i
    rw [e]
    exact hk (h.tmps i)
  · rw [AS.xP] at hb
    split at hb
    · cases hb
    · rename_i hne
      obtain ⟨b1, h1, rfl⟩ := Option.map_eq_some_iff.1 hb
      have := h.blks j b1 h1
      rw [hu j (fun e => hne e.symm)]
      cases b1 with
      | row t size m xs =>
        obtain ⟨ys, ho, hc⟩ := this
        exact ⟨ys, ho, (hc.killed id u).mono fun k c _ hk => hm k c hk⟩
      | prow t size m xs =>
        obtain ⟨ys, ho, hc⟩ := this
        exact ⟨ys, ho, (vU xs id ▸ hc.killed id u : yK _ _ _ (xs.map AV.p) ys).mono fun k c _ hk => hm k c hk⟩
      | box t xs =>
        obtain ⟨g, ys, hv, hg, hh, hc⟩ := this
        exact ⟨g, ys, hv, hg, hh, (hc.killed id u).mono fun k c _ hk => hm k c hk⟩
      | lent t size m xs =>
        obtain ⟨ys, ho, hc⟩ := this
        exact ⟨ys, ho, (vU xs id ▸ hc.killed id u : yK _ _ _ (xs.map AV.p) ys).mono fun k c _ hk => hm k c hk⟩
      | obj mp Q => exact this
  · rw [AS.xP] at hb
    split at hb
    · cases hb
    · rename_i hne
      obtain ⟨b1, h1, _⟩ := Option.map_eq_some_iff.1 hb
      rw [hu j (fun e => hne e.symm)] at hk
      exact h.mine j b1 k h1 hk
  · by_cases e : k = id
    · subst e
      rw [hr] at hv; cases hv
    · rw [hu k e]
      exact h.fix k v hv
  · rw [AS.xP] at hi hj
    split at hi
    · cases hi
    · rename_i hi1
      split at hj
      · cases hj
      · rename_i hj1
        obtain ⟨b1, h3, _⟩ := Option.map_eq_some_iff.1 hi
        obtain ⟨b2, h4, _⟩ := Option.map_eq_some_iff.1 hj
        rw [hu i (fun e => hi1 e.symm)] at h1
        rw [hu j (fun e => hj1 e.symm)] at h2
        exact h.dist i j b1 b2 k h3 h4 h1 h2
theorem y7.monoW {M M' : Nat → Nat → Prop} {B : Nat} {ρ : Nat → Value} {w : World} {v : Value} {b : Blk} (h : y7 M B ρ w v b) (hM : ∀ k c, k < w.heap.size → M' k c → M k c) : y7 M' B ρ w v b := by
  cases b with
  | row t size m xs => obtain ⟨ys, ho, hc⟩ := h; exact ⟨ys, ho, hc.mono hM⟩
  | prow t size m xs => obtain ⟨ys, ho, hc⟩ := h; exact ⟨ys, ho, hc.mono hM⟩
  | lent t size m xs => obtain ⟨ys, ho, hc⟩ := h; exact ⟨ys, ho, hc.mono hM⟩
  | obj mp Q => exact h
  | box t xs => obtain ⟨g, ys, hv, hg, hh, hc⟩ := h; exact ⟨g, ys, hv, hg, hh, hc.mono hM⟩
def AS.drops (S : AS) (ids : List Nat) : AS := ids.foldl AS.drop S
theorem Sat.drops : ∀ (ids : List Nat) {S : AS} {ρ : Nat → Value}, Sat M n w0 S ρ a w → (∀ j ∈ ids, w0.r j = none) → ∀ ρ', (∀ j, j ∉ ids → ρ' j = ρ j) → Sat M n w0 (S.drops ids) ρ' a w
  | [], S, ρ, h, _, ρ', e => by
    have : ρ' = ρ := funext fun j => e j (by simp)
    subst this
    exact h
  | id :: r, S, ρ, h, hr, ρ', e => by
    show Sat M n w0 ((S.drop id).drops r) ρ' a w
    refine Sat.drops r (h.dropU id (ρ' id) (hr id (by simp))) (fun j hj => hr j (by simp [hj])) ρ' fun j hj => ?_
    by_cases h1 : j = id
    · subst h1
      simp [upd]
    · rw [e j (by simp [h1, hj])]
      simp [upd, h1]
theorem drops_none : ∀ (ids : List Nat) {S : AS} {j : Nat}, S.blk j = none → (S.drops ids).blk j = none
  | [], _, _, h => h
  | id :: r, S, j, h => drops_none r (S := S.drop id) (by rw [AS.xP, h]; simp)
theorem drops_blk : ∀ (ids : List Nat) {S : AS} {j : Nat}, j ∈ ids → (S.drops ids).blk j = none
  | id :: r, S, j, h => by
    show ((S.drop id).drops r).blk j = none
    by_cases h1 : id = j
    · exact drops_none r (by rw [AS.xP, if_pos h1])
    · exact drops_blk r ((List.mem_cons.1 h).resolve_left fun e => h1 e.symm)
theorem drops_mut : ∀ (ids : List Nat) {S : AS} {k c : Nat}, Mut M (S.drops ids) ρ k c → Mut M S ρ k c
  | [], _, _, _, h => h
  | id :: r, S, k, c, h => Mut.drop (drops_mut r (S := S.drop id) h)
end
section
variable {P : Program} {n : Nat} {o : Oper} {S : AS} {d : Nat}
theorem call_new {f : FuncId} {xs : List AV} {ids nids : List Nat} {B B' New : List Blk} {rx : AV} (hf : FnX P f xs B rx B' New) (hh : Hands S ids B) (hB' : B'.length = B.length) (hnl : nids.length = New.length) (hnd : (ids ++ nids).Nodup)
    (hok' : (B' ++ New).all (Blk.okE (B' ++ New).length) = true) (hxs : xs.all (AV.okE B.length) = true) (hrx : rx.okE (B' ++ New).length = true) (hno : ∀ j ∈ nids, S.blk j = none)
    {M : Nat → Nat → Prop} {w0 : Home} {ρ : Nat → Value} {a : Act} {w : World} (hs : Sat M n w0 S ρ a w) (hfree : ∀ ρ', (∀ j, j ∉ nids → ρ' j = ρ j) → Sat M n w0 S ρ' a w) {vs : List Value} (hvl : vs.length = xs.length)
    (hvs : ∀ (i : Nat) x v, xs[i]? = some x → vs[i]? = some v → yV (Mut M S ρ) ρ w (x.ren (sig ids)) v) :
    Calls P f vs.toArray w fun e w' => ∃ ρ' v, e = .returned v ∧ Sat M n w0 (S.after (ids ++ nids) (B' ++ New)) ρ' a w' ∧ yV (Mut M (S.after (ids ++ nids) (B' ++ New)) ρ') ρ' w' (rx.ren (sig (ids ++ nids))) v := by
  have hlen := hh.len
  have hLL : (ids ++ nids).length = (B' ++ New).length := by simp [hlen, hB', hnl]
  have at_i : ∀ i, i < B.length → ∃ id b, ids[i]? = some id ∧ B[i]? = some b ∧ S.blk id = some (b.ren (sig ids)) ∧ sig ids (1000 + i) = id := fun i hi => by
    have h1 : ids[i]? = some (ids[i]'(by omega)) := List.getElem?_eq_getElem _
    have h2 : B[i]? = some B[i] := List.getElem?_eq_getElem _
    exact ⟨_, _, h1, h2, hh.at_ i _ _ h1 h2, kY h1⟩
  have box_i : ∀ i, i < B.length → ∃ mp g, ρ (sig ids (1000 + i)) = objV mp g := fun i hi => by
    obtain ⟨id, b, h1, h2, h3, h4⟩ := at_i i hi
    have hb := hs.blks id _ h3
    have hbo := List.all_eq_true.1 hh.ok b (List.mem_of_getElem? h2)
    rw [h4]
    cases b with
    | box t cs =>
      obtain ⟨g, ys, hv, _⟩ := hb
      exact ⟨false, g, hv⟩
    | row t s m cs => cases hbo
    | prow t s m cs => cases hbo
    | lent t s m cs => cases hbo
    | obj mp Q =>
      obtain ⟨g, o, hv, _⟩ := hb
      exact ⟨mp, g, hv⟩
  let T : Nat → Prop := fun k => ∃ i, i < B.length ∧ zT (ρ (sig ids (1000 + i))) = some k
  have T_mut : ∀ k c, T k → Mut M S ρ k c := fun k c ⟨i, hi, hk⟩ => by
    obtain ⟨id, b, h1, h2, h3, h4⟩ := at_i i hi
    rw [h4] at hk
    exact .inr ⟨id, _, h3, hk, (Blk.vB c).2 (Blk.qC (List.all_eq_true.1 hh.ok b (List.mem_of_getElem? h2)) c)⟩
  have T_has : ∀ k, T k → w0.has k := fun k ⟨i, hi, hk⟩ => by
    obtain ⟨id, b, h1, h2, h3, h4⟩ := at_i i hi
    rw [h4] at hk
    exact hs.mine id _ k h3 hk
  let M' : Nat → Nat → Prop := fun k c => Mut M S ρ k c ∧ ¬ T k
  let h : Home := ⟨w, T, hs.lays, (fun g hg ht => hs.tabs g 0 hg (T_mut g 0 ht)), fun k => if 1000 ≤ k ∧ k < 1000 + B.length then some (ρ (sig ids k)) else none, (fun k v hk => by
      by_cases hc : 1000 ≤ k ∧ k < 1000 + B.length
      · simp only [hc, and_self, if_true, Option.some.injEq] at hk
        obtain ⟨mp, g, hg⟩ := box_i (k - 1000) (by omega)
        have e : 1000 + (k - 1000) = k := by omega
        rw [e] at hg
        exact ⟨mp, g, by rw [← hk, hg]⟩
      · rw [if_neg hc] at hk; cases hk), (fun k hk => if_neg (by omega)), []⟩
  have hr_i : ∀ k, 1000 ≤ k → k < 1000 + B.length → h.r k = some (ρ (sig ids k)) := fun k h1 h2 => if_pos ⟨h1, h2⟩
  have mutc : ∀ k c, Mut M' (asB B) (fun k => ρ (sig ids k)) k c → Mut M S ρ k c := by
    rintro k c (hk | ⟨id, b, hb, hk, _⟩)
    · exact hk.1
    · obtain ⟨i, rfl, hbi⟩ := yN hb
      exact T_mut k c ⟨i, (List.getElem?_eq_some_iff.1 hbi).1, hk⟩
  have hsat : Sat M' 0 h (asB B) (fun k => ρ (sig ids k)) qN h.w := by
    refine ⟨xM.refl h, fun k c hk hh2 => ?_, fun g c hg hk => ?_, rfl, rfl, fun i => .any _, fun id b hb => ?_, fun id b k hb hk => ?_, fun k v hk => ?_, fun k hk => by omega, fun i j bi bj k hi hj h1 h2 => ?_⟩
    · rcases hh2 with hh2 | hh2
      · exact absurd (Mut.lt hs hk.1) (Nat.not_lt.2 hh2)
      · exact hk.2 hh2
    · exact hs.tabs g c hg hk.1
    · obtain ⟨i, rfl, hbi⟩ := yN hb
      have hi : i < B.length := (List.getElem?_eq_some_iff.1 hbi).1
      obtain ⟨id, b2, h1, h2, h3, h4⟩ := at_i i hi
      rw [hbi] at h2
      obtain rfl := Option.some.inj h2
      have hbo := List.all_eq_true.1 hh.ok b (List.mem_of_getElem? hbi)
      have hb2 := hs.blks id _ h3
      cases b with
      | box t cs =>
        obtain ⟨g, ys, hv, hg, hhp, hc⟩ := hb2
        exact ⟨g, ys, by show ρ (sig ids (1000 + i)) = _; rw [h4]; exact hv, hg, hhp, yK.inn hc hbo fun k c _ hk => mutc k c hk⟩
      | row t s m cs => cases hbo
      | prow t s m cs => cases hbo
      | lent t s m cs => cases hbo
      | obj mp Q =>
        obtain ⟨g, o, hv, hg, hhp, hq⟩ := hb2
        exact ⟨g, o, by show ρ (sig ids (1000 + i)) = _; rw [h4]; exact hv, hg, hhp, hq⟩
    · obtain ⟨i, rfl, hbi⟩ := yN hb
      exact .inr ⟨i, (List.getElem?_eq_some_iff.1 hbi).1, hk⟩
    · by_cases hc : 1000 ≤ k ∧ k < 1000 + B.length
      · rw [hr_i k hc.1 hc.2] at hk
        exact Option.some.inj hk
      · have : h.r k = none := if_neg hc
        rw [this] at hk; cases hk
    · obtain ⟨i', rfl, hbi⟩ := yN hi
      obtain ⟨j', rfl, hbj⟩ := yN hj
      obtain ⟨id, b1, p1, p2, p3, p4⟩ := at_i i' (List.getElem?_eq_some_iff.1 hbi).1
      obtain ⟨jd, b2, q1, q2, q3, q4⟩ := at_i j' (List.getElem?_eq_some_iff.1 hbj).1
      rw [p4] at h1
      rw [q4] at h2
      have e := hs.dist id jd _ _ k p3 q3 h1 h2
      subst e
      rw [kW hh.nodup p1 q1]
  have hcall := hf M' h _ vs ⟨fun i hi => hr_i _ (by omega) (by omega), fun k hk => hk⟩ (fun k hk => if_neg (by omega)) hsat hvl (fun i x v h1 h2 => yV.inn (hvs i x v h1 h2) (List.all_eq_true.1 hxs x (List.mem_of_getElem? h1)) fun k c _ hk => mutc k c hk)
  refine Calls.mono hcall ?_
  rintro e w' ⟨ρ2, v, rfl, hs2, hrep⟩
  have hρ1 : ∀ k, 1000 ≤ k → k < 1000 + B.length → ρ2 k = ρ (sig ids k) := fun k h1 h2 => hs2.fix k _ (hr_i k h1 h2)
  -- the names' values behind the call
  let ρ3 : Nat → Value := fun j => if j ∈ nids then ρ2 (1000 + (ids ++ nids).idxOf j) else ρ j
  have hs3 : Sat M n w0 S ρ3 a w := hfree ρ3 fun j hj => if_neg hj
  have idx_at : ∀ i j, (ids ++ nids)[i]? = some j → (ids ++ nids).idxOf j = i := fun i j hi => by
    have hm : j ∈ ids ++ nids := List.mem_of_getElem? hi
    have h1 : (ids ++ nids).idxOf j < (ids ++ nids).length := List.idxOf_lt_length_of_mem hm
    have h2 : (ids ++ nids)[(ids ++ nids).idxOf j]? = some j := by rw [List.getElem?_eq_getElem h1, List.getElem_idxOf h1]
    exact kW hnd h2 hi
  have old_not : ∀ j, j ∈ ids → j ∉ nids := fun j h1 h2 => (List.nodup_append.1 hnd).2.2 j h1 j h2 rfl
  have old3 : ∀ j, j ∈ ids → ρ3 j = ρ j := fun j hj => if_neg (old_not j hj)
  have hρ : ∀ k, 1000 ≤ k → k < 1000 + (B' ++ New).length → ρ2 k = ρ3 (sig (ids ++ nids) k) := fun k h1 h2 => by
    obtain ⟨i, rfl⟩ : ∃ i, k = 1000 + i := ⟨k - 1000, by omega⟩
    have hi : i < (ids ++ nids).length := by omega
    have hat : (ids ++ nids)[i]? = some (ids ++ nids)[i] := List.getElem?_eq_getElem hi
    rw [kY hat]
    by_cases hlt : i < ids.length
    · have e1 : (ids ++ nids)[i] = ids[i] := List.getElem_append_left hlt
      have e2 : ids[i]? = some ids[i] := List.getElem?_eq_getElem hlt
      rw [e1, old3 _ (List.getElem_mem _), hρ1 (1000 + i) (by omega) (by omega), kY e2]
    · have e1 : (ids ++ nids)[i] ∈ nids := by
        rw [List.getElem_append_right (by omega)]
        exact List.getElem_mem _
      show _ = if _ then _ else _
      rw [if_pos e1, idx_at i _ hat]
  have hblk : ∀ j, (S.after (ids ++ nids) (B' ++ New)).blk j = if j ∈ ids ++ nids then ((B' ++ New).map (Blk.ren (sig (ids ++ nids))))[(ids ++ nids).idxOf j]? else S.blk j := fun j => look_putBs _ _ S.s j (by rw [List.length_map]; exact hLL) hnd
  have mem_at : ∀ j, j ∈ ids ++ nids → ∃ i b, (ids ++ nids).idxOf j = i ∧ i < (B' ++ New).length ∧ (ids ++ nids)[i]? = some j ∧ (B' ++ New)[i]? = some b ∧ sig (ids ++ nids) (1000 + i) = j := fun j hj => by
    have h1 : (ids ++ nids).idxOf j < (ids ++ nids).length := List.idxOf_lt_length_of_mem hj
    have h2 : (ids ++ nids)[(ids ++ nids).idxOf j]? = some j := by rw [List.getElem?_eq_getElem h1, List.getElem_idxOf h1]
    have h3 : (ids ++ nids).idxOf j < (B' ++ New).length := by omega
    exact ⟨_, _, rfl, h3, h2, List.getElem?_eq_getElem h3, kY h2⟩
  have T_old : ∀ j k, j ∈ ids → zT (ρ j) = some k → T k := fun j k hj hk => by
    obtain ⟨i, hi, he⟩ := List.getElem_of_mem hj
    refine ⟨i, by omega, ?_⟩
    have : ids[i]? = some j := by rw [List.getElem?_eq_getElem hi, he]
    rw [kY this]; exact hk
  have new_ge : ∀ j k, j ∈ nids → zT (ρ3 j) = some k → w.heap.size ≤ k := fun j k hj hk => by
    obtain ⟨i, b, h1, h2, h3, h4, h5⟩ := mem_at j (List.mem_append_right _ hj)
    have e3 : ρ2 (1000 + i) = ρ3 j := by rw [hρ (1000 + i) (by omega) (by omega), h5]
    have hb : (asB (B' ++ New)).blk (1000 + i) = some b := by rw [vH]; exact h4
    rcases hs2.mine (1000 + i) b k hb (by rw [e3]; exact hk) with h6 | ⟨i', h6, h7⟩
    · exact h6
    · have h8 : i' < (B' ++ New).length := by simp; omega
      have hb' : (asB (B' ++ New)).blk (1000 + i') = some (B' ++ New)[i'] := by rw [vH]; exact List.getElem?_eq_getElem h8
      have e := hs2.dist _ _ _ _ k hb hb' (by rw [e3]; exact hk) (by rw [hρ1 (1000 + i') (by omega) (by omega)]; exact h7)
      have e' : i = i' := by omega
      subst e'
      have : (ids ++ nids)[i]? = ids[i]? := List.getElem?_append_left (by omega)
      rw [this] at h3
      exact absurd hj (old_not j (List.mem_of_getElem? h3))
  have mut3 : ∀ k c, Mut M (S.after (ids ++ nids) (B' ++ New)) ρ3 k c → Mut M' (asB (B' ++ New)) ρ2 k c := fun k c hk => by
    by_cases ht : T k
    · obtain ⟨i, hi, hk2⟩ := ht
      have h8 : i < (B' ++ New).length := by simp; omega
      refine .inr ⟨1000 + i, (B' ++ New)[i], by rw [vH]; exact List.getElem?_eq_getElem h8, ?_, Blk.qC (List.all_eq_true.1 hok' _ (List.getElem_mem _)) c⟩
      rw [hρ1 (1000 + i) (by omega) (by omega)]
      exact hk2
    · rcases hk with hk | ⟨j, b, hb, hk, htn⟩
      · exact .inl ⟨.inl hk, ht⟩
      · rw [hblk] at hb
        by_cases hj : j ∈ ids ++ nids
        · obtain ⟨i, b', h1, h2, h3, h4, h5⟩ := mem_at j hj
          refine .inr ⟨1000 + i, b', by rw [vH]; exact h4, ?_, Blk.qC (List.all_eq_true.1 hok' b' (List.mem_of_getElem? h4)) c⟩
          rw [hρ (1000 + i) (by omega) (by omega), h5]
          exact hk
        · rw [if_neg hj] at hb
          refine .inl ⟨.inr ⟨j, b, hb, ?_, htn⟩, ht⟩
          have : ρ3 j = ρ j := if_neg fun h => hj (List.mem_append_right _ h)
          rw [← this]; exact hk
  have mut1 : ∀ k c, k < w.heap.size → Mut M (S.after (ids ++ nids) (B' ++ New)) ρ3 k c → Mut M S ρ3 k c := by
    rintro k c hlt (hk | ⟨j, b, hb, hk, ht⟩)
    · exact .inl hk
    · rw [hblk] at hb
      by_cases hj : j ∈ ids ++ nids
      · rcases List.mem_append.1 hj with hj | hj
        · rw [old3 j hj] at hk
          obtain ⟨i, hi, he⟩ := List.getElem_of_mem hj
          obtain ⟨id, b0, h1, h2, h3, h4⟩ := at_i i (by omega)
          have : ids[i]? = some j := by rw [List.getElem?_eq_getElem hi, he]
          rw [this] at h1
          obtain rfl := Option.some.inj h1
          exact .inr ⟨j, _, h3, by rw [old3 j hj]; exact hk, (Blk.vB c).2 (Blk.qC (List.all_eq_true.1 hh.ok b0 (List.mem_of_getElem? h2)) c)⟩
        · have := new_ge j k hj hk
          omega
      · rw [if_neg hj] at hb
        exact .inr ⟨j, b, hb, hk, ht⟩
  have mutS : ∀ k c, Mut M S ρ3 k c ↔ Mut M S ρ k c := fun k c => by
    constructor
    all_goals
      rintro (hk | ⟨j, b, hb, hk, ht⟩)
      · exact .inl hk
      · have hj : j ∉ nids := fun h => by rw [hno j h] at hb; cases hb
        have e : ρ3 j = ρ j := if_neg hj
        exact .inr ⟨j, b, hb, by first | rw [← e]; exact hk | rw [e]; exact hk, ht⟩
  have grow : Keeps (Mut M S ρ3) w w' := ⟨hs2.below.size, fun k c hk hnm => World.cell?_of_block (w := w) (hs2.below.block k hk (fun ht => hnm ((mutS k c).2 (T_mut k c ht))))⟩
  refine ⟨ρ3, v, rfl, ?_, yV.outw hrep hrx (fun k c _ hk => mut3 k c hk) hρ⟩
  refine ⟨⟨hs2.below.os.trans hs.below.os, hs2.below.tape.trans hs.below.tape, hs2.below.output.trans hs.below.output, Nat.le_trans hs.below.size hs2.below.size, fun k hk ht => ?_⟩, hs.out, hs.tab, hs.size, hs.defers, fun i => ?_, fun j b hb => ?_, fun j b k hb hk => ?_, hs3.fix, hs.free, fun i j bi bj k hi hj h1 h2 => ?_⟩
  · refine (hs2.below.block k (Nat.lt_of_lt_of_le hk hs.below.size) (fun hT => ?_)).trans (hs.below.block k hk ht)
    rcases T_has k hT with h1 | h1
    · omega
    · exact ht h1
  · exact ((hs3.tmps i).mono (M' := Mut M (S.after (ids ++ nids) (B' ++ New)) ρ3) mut1).keep ⟨hs2.below.size, fun k c hk hnm => World.cell?_of_block (w := w) (hs2.below.block k hk (fun ht => hnm (by
      obtain ⟨i, hi, hk2⟩ := ht
      obtain ⟨id, b0, h1, h2, h3, h4⟩ := at_i i hi
      rw [h4] at hk2
      have hm : id ∈ ids := List.mem_of_getElem? h1
      obtain ⟨i2, b2, q1, q2, q3, q4, q5⟩ := mem_at id (List.mem_append_left _ hm)
      refine .inr ⟨id, b2.ren (sig (ids ++ nids)), ?_, by rw [old3 id hm]; exact hk2, (Blk.vB c).2 (Blk.qC (List.all_eq_true.1 hok' b2 (List.mem_of_getElem? q4)) c)⟩
      rw [hblk, if_pos (List.mem_append_left _ hm), q1, List.getElem?_map, q4]; rfl)))⟩
  · rw [hblk] at hb
    by_cases hj : j ∈ ids ++ nids
    · obtain ⟨i, b', h1, hi, h2, h4, h6⟩ := mem_at j hj
      rw [if_pos hj, h1, List.getElem?_map, h4] at hb
      obtain rfl := Option.some.inj hb
      have hb2 := hs2.blks (1000 + i) b' (by rw [vH]; exact h4)
      have hbo := List.all_eq_true.1 hok' b' (List.mem_of_getElem? h4)
      cases b' with
      | box t cs =>
        obtain ⟨g, ys, hv, hg, hhp, hc⟩ := hb2
        rw [hρ (1000 + i) (by omega) (by omega), h6] at hv
        exact ⟨g, ys, hv, hg, hhp, yK.outw hc hbo (fun k c _ hk => mut3 k c hk) hρ⟩
      | row t s m cs => cases hbo
      | prow t s m cs => cases hbo
      | lent t s m cs => cases hbo
      | obj mp Q =>
        obtain ⟨g, o, hv, hg, hhp, hq⟩ := hb2
        rw [hρ (1000 + i) (by omega) (by omega), h6] at hv
        exact ⟨g, o, hv, hg, hhp, hq⟩
    · rw [if_neg hj] at hb
      have hjn : j ∉ nids := fun h => hj (List.mem_append_right _ h)
      have e3 : ρ3 j = ρ j := if_neg hjn
      have hlt : ∀ k, zT (ρ3 j) = some k → k < w.heap.size := fun k hk => Mut.kJ hs3 hb hk
      have hb3 := (hs3.blks j b hb).monoW (M' := Mut M (S.after (ids ++ nids) (B' ++ New)) ρ3) mut1
      refine y7.keep hb3 (fun k hk => ?_) ⟨hs2.below.size, fun k c hk hnm => World.cell?_of_block (w := w) (hs2.below.block k hk (fun ht => hnm (by
        obtain ⟨i, hi, hk2⟩ := ht
        obtain ⟨id, b0, h1, h2, h3, h4⟩ := at_i i hi
        rw [h4] at hk2
        have hm : id ∈ ids := List.mem_of_getElem? h1
        obtain ⟨i2, b2, q1, q2, q3, q4, q5⟩ := mem_at id (List.mem_append_left _ hm)
        refine .inr ⟨id, b2.ren (sig (ids ++ nids)), ?_, by rw [old3 id hm]; exact hk2, (Blk.vB c).2 (Blk.qC (List.all_eq_true.1 hok' b2 (List.mem_of_getElem? q4)) c)⟩
        rw [hblk, if_pos (List.mem_append_left _ hm), q1, List.getElem?_map, q4]; rfl)))⟩ (fun k c _ hk => hk)
      refine hs2.below.block k (hlt k hk) (fun ⟨i, hi, hk2⟩ => ?_)
      obtain ⟨id, b2, p1, p2, p3, p4⟩ := at_i i hi
      rw [p4] at hk2
      rw [e3] at hk
      have := hs.dist j id _ _ k hb p3 hk hk2
      subst this
      exact hj (List.mem_append_left _ (List.mem_of_getElem? p1))
  · rw [hblk] at hb
    by_cases hj : j ∈ ids ++ nids
    · rcases List.mem_append.1 hj with hj2 | hj2
      · rw [old3 j hj2] at hk
        exact T_has k (T_old j k hj2 hk)
      · exact .inl (Nat.le_trans hs.below.size (new_ge j k hj2 hk))
    · rw [if_neg hj] at hb
      exact hs3.mine j b k hb hk
  · rw [hblk] at hi hj
    by_cases hi2 : i ∈ ids ++ nids
    · obtain ⟨ii, bI, p1, p2, p3, p4, p5⟩ := mem_at i hi2
      have eI : ρ2 (1000 + ii) = ρ3 i := by rw [hρ (1000 + ii) (by omega) (by omega), p5]
      by_cases hj2 : j ∈ ids ++ nids
      · obtain ⟨jj, bJ, q1, q2, q3, q4, q5⟩ := mem_at j hj2
        have eJ : ρ2 (1000 + jj) = ρ3 j := by rw [hρ (1000 + jj) (by omega) (by omega), q5]
        have e := hs2.dist (1000 + ii) (1000 + jj) bI bJ k (by rw [vH]; exact p4) (by rw [vH]; exact q4) (by rw [eI]; exact h1) (by rw [eJ]; exact h2)
        have e' : ii = jj := by omega
        subst e'
        rw [p3] at q3
        exact Option.some.inj q3
      · rw [if_neg hj2] at hj
        have hlt := Mut.kJ hs3 hj h2
        rcases List.mem_append.1 hi2 with hi3 | hi3
        · rw [old3 i hi3] at h1
          obtain ⟨i', h6, h7⟩ := T_old i k hi3 h1
          obtain ⟨id, b0, r1, r2, r3, r4⟩ := at_i i' h6
          have e3 : ρ3 j = ρ j := if_neg fun h => hj2 (List.mem_append_right _ h)
          rw [r4] at h7
          rw [e3] at h2
          have e := hs.dist id j _ _ k r3 hj h7 h2
          subst e
          exact absurd (List.mem_append_left _ (List.mem_of_getElem? r1)) hj2
        · have := new_ge i k hi3 h1
          omega
    · rw [if_neg hi2] at hi
      have hlt := Mut.kJ hs3 hi h1
      by_cases hj2 : j ∈ ids ++ nids
      · rcases List.mem_append.1 hj2 with hj3 | hj3
        · rw [old3 j hj3] at h2
          obtain ⟨i', h6, h7⟩ := T_old j k hj3 h2
          obtain ⟨id, b0, r1, r2, r3, r4⟩ := at_i i' h6
          have e3 : ρ3 i = ρ i := if_neg fun h => hi2 (List.mem_append_right _ h)
          rw [r4] at h7
          rw [e3] at h1
          have e := hs.dist id i _ _ k r3 hi h7 h1
          subst e
          exact absurd (List.mem_append_left _ (List.mem_of_getElem? r1)) hi2
        · have := new_ge j k hj3 h2
          omega
      · rw [if_neg hj2] at hj
        exact hs3.dist i j bi bj k hi hj h1 h2
theorem z8.eNew {f : FuncId} {avs xs : List AV} {B B' New : List Blk} {rx : AV} {K : Exit → AS → Prop} {N : AS → Prop} (ids nids : List Nat) (hf : FnX P f xs B rx B' New) (hd : o.dst = some d) (hn : d < n) (he : Enters P o S f avs) (hx : avs = xs.map (AV.ren (sig ids))) (hh : Hands (S.drops nids) ids B) (hlo : nids.all (fun k => decide (k < 1000)) = true)
    (hB' : B'.length = B.length) (hnl : nids.length = New.length) (hnd : (ids ++ nids).Nodup) (hok' : (B' ++ New).all (Blk.okE (B' ++ New).length) = true) (hxs : xs.all (AV.okE B.length) = true) (hrx : rx.okE (B' ++ New).length = true)
    (hr : N (((S.drops nids).after (ids ++ nids) (B' ++ New)).put d (rx.ren (sig (ids ++ nids))))) : z8 P n o S K N := by
  intro M w0 ρ a w KK Q hs hK _
  obtain ⟨vs, he1, he2, he3⟩ := he M n w0 ρ a w hs
  unfold Oper.wp
  rw [he1, Oper.upon_enter]
  have hlo' : ∀ j ∈ nids, w0.r j = none := fun j hj => w0.lo j (by simpa using List.all_eq_true.1 hlo j hj)
  have hall := Sat.drops nids hs hlo'
  refine Calls.mono (call_new hf hh hB' hnl hnd hok' hxs hrx (fun j hj => drops_blk nids hj) (hall ρ fun _ _ => rfl) hall (by rw [he2, hx, List.length_map]) fun i x v h1 h2 => ?_) ?_
  · exact (reps_ren hx he3 i x v h1 h2).mono fun k c _ hk => drops_mut nids hk
  · rintro e w' ⟨ρ', v, rfl, hs', hv⟩
    show KK (a.put o.dst v) w'
    rw [hd]
    exact hK _ ρ' _ w' hr (hs'.put hn hv)
theorem fn_ofX {f : FuncId} {fn : Func} {c : Code} {args : List AV} {B B' New : List Blk} {x : AV} (IDS : List Nat) (hf : P.funcs[f]? = some fn) (hb : fn.body = some c) (hn : fn.ntmps = n) (hle : args.length ≤ n) (h1000 : n ≤ 1000) (hids : IDS.take B.length = (List.range B.length).map (1000 + ·)) (hrx : x.okE (B' ++ New).length = true)
    (h : zY P n c { t := zipA 0 args, s := numB 1000 B } (fun e S => (e = .ret ∨ e = .normal) ∧ ∃ S', Sub S S' ∧ GivesA P fn S' (x.ren (sig IDS)) ∧ Hands S' IDS (B' ++ New))) : FnX P f args B x B' New := by
  intro M hh ρ vs hand hnone hs0 hvl hvs
  refine calls_of_wp hf hb ?_
  have hsat : Sat M n hh { t := zipA 0 args, s := numB 1000 B } ρ { tmps := vs.toArray ++ Array.replicate (fn.ntmps - vs.toArray.size) undef, defers := [] } hh.w := by
    refine ⟨hs0.below, hs0.out, hs0.tab, by simp; omega, hs0.defers, fun i => ?_, hs0.blks, hs0.mine, hs0.fix, fun k hk => hh.lo k (by omega), hs0.dist⟩
    show yV _ _ _ ((look (zipA 0 args) i).getD .any) _
    rw [look_zipA]
    simp only [Nat.zero_le, if_true, Nat.sub_zero]
    cases hx : args[i]? with
    | none => exact .any _
    | some x =>
      have hi : i < vs.length := by rw [hvl]; exact (List.getElem?_eq_some_iff.1 hx).1
      have e : ({ tmps := vs.toArray ++ Array.replicate (fn.ntmps - vs.toArray.size) undef, defers := [] } : Act).tmps.getD i undef = vs[i] := by
        simp [Array.getD_eq_getD_getElem?, Array.getElem?_append, hi]
      rw [e]
      exact hvs i x vs[i] hx (List.getElem?_eq_getElem hi)
  refine h M hh ρ _ hh.w _ hsat ?_
  rintro e S0 ρ0 a' w' ⟨he, S', hsub, hg, hH⟩ hs1 hx
  obtain ⟨ρ', hs'⟩ := hsub M n hh ρ0 a' w' hs1
  have at_i : ∀ i b, (B' ++ New)[i]? = some b → ∃ id, IDS[i]? = some id ∧ S'.blk id = some (b.ren (sig IDS)) ∧ sig IDS (1000 + i) = id := fun i b hb => by
    have hi : i < IDS.length := by rw [hH.len]; exact (List.getElem?_eq_some_iff.1 hb).1
    have h1 : IDS[i]? = some IDS[i] := List.getElem?_eq_getElem hi
    exact ⟨_, h1, hH.at_ i _ b h1 hb, kY h1⟩
  have low : ∀ i, i < B.length → sig IDS (1000 + i) = 1000 + i := fun i hi => by
    have h1 : (IDS.take B.length)[i]? = some (1000 + i) := by rw [hids, List.getElem?_map, List.getElem?_range hi]; rfl
    rw [List.getElem?_take, if_pos hi] at h1
    exact kY h1
  have mutc : ∀ k c, Mut M (asB (B' ++ New)) (fun k => ρ' (sig IDS k)) k c → Mut M S' ρ' k c := by
    rintro k c (hk | ⟨id, b, hb, hk, ht⟩)
    · exact .inl hk
    · obtain ⟨i, rfl, hbi⟩ := yN hb
      obtain ⟨id, h1, h2, h3⟩ := at_i i b hbi
      exact .inr ⟨id, _, h2, by rw [← h3]; exact hk, (Blk.vB c).2 ht⟩
  have hfin : Sat M 0 hh (asB (B' ++ New)) (fun k => ρ' (sig IDS k)) qN w' := by
    refine ⟨hs'.below, hs'.out, hs'.tab, rfl, hs0.defers, fun i => .any _, fun id b hb => ?_, fun id b k hb hk => ?_, fun k v hk => ?_, fun k hk => by omega, fun i j bi bj k hi hj h1 h2 => ?_⟩
    · obtain ⟨i, rfl, hbi⟩ := yN hb
      obtain ⟨id, h1, h2, h3⟩ := at_i i b hbi
      have hbo := List.all_eq_true.1 hH.ok b (List.mem_of_getElem? hbi)
      have hb2 := hs'.blks id _ h2
      cases b with
      | box t cs =>
        obtain ⟨g, ys, hv, hg, hhp, hc⟩ := hb2
        exact ⟨g, ys, by show ρ' (sig IDS (1000 + i)) = _; rw [h3]; exact hv, hg, hhp, yK.inn hc hbo fun k c _ hk => mutc k c hk⟩
      | row t s m cs => cases hbo
      | prow t s m cs => cases hbo
      | lent t s m cs => cases hbo
      | obj mp Q =>
        obtain ⟨g, o, hv, hg, hhp, hq⟩ := hb2
        exact ⟨g, o, by show ρ' (sig IDS (1000 + i)) = _; rw [h3]; exact hv, hg, hhp, hq⟩
    · obtain ⟨i, rfl, hbi⟩ := yN hb
      obtain ⟨id, h1, h2, h3⟩ := at_i i b hbi
      exact hs'.mine id _ k h2 (by rw [← h3]; exact hk)
    · rcases Nat.lt_or_ge k 1000 with h1 | h1
      · rw [hh.lo k h1] at hk; cases hk
      · rcases Nat.lt_or_ge k (1000 + B.length) with h2 | h2
        · have e := low (k - 1000) (by omega)
          have e2 : 1000 + (k - 1000) = k := by omega
          rw [e2] at e
          show ρ' (sig IDS k) = v
          rw [e]
          exact hs'.fix k v hk
        · rw [hnone k h2] at hk; cases hk
    · obtain ⟨i', rfl, hbi⟩ := yN hi
      obtain ⟨j', rfl, hbj⟩ := yN hj
      obtain ⟨id, p1, p2, p3⟩ := at_i i' bi hbi
      obtain ⟨jd, q1, q2, q3⟩ := at_i j' bj hbj
      have e := hs'.dist id jd _ _ k p2 q2 (by rw [← p3]; exact h1) (by rw [← q3]; exact h2)
      subst e
      rw [kW hH.nodup p1 q1]
  have fin : a'.defers = [] ∧ ∃ v, (results fn a'.tmps).run P w' = .ok v w' ∧ (∃ ρ' v2, Ending.returned v = .returned v2 ∧ Sat M 0 hh (asB (B' ++ New)) ρ' qN w' ∧ yV (Mut M (asB (B' ++ New)) ρ') ρ' w' x v2) := by
    refine ⟨hs'.defers.trans hs0.defers.symm, ?_⟩
    generalize hy : x.ren (sig IDS) = y at hg
    cases hg with
    | none hr => exact ⟨_, results_none hr _ _ _, _, _, rfl, hfin, yV.inn (ids := IDS) (ρ := ρ') (M := Mut M S' ρ') (by rw [hy]; exact .any _) hrx fun k c _ hk => mutc k c hk⟩
    | one hr ht =>
      refine ⟨_, results_tmp hr _ _ _, _, _, rfl, hfin, yV.inn (ids := IDS) (ρ := ρ') (M := Mut M S' ρ') ?_ hrx fun k c _ hk => mutc k c hk⟩
      rw [hy, ← ht]
      exact hs'.tmps _
    | p hr hx =>
      obtain ⟨v, g1, g2⟩ := res_oneM hs' hx
      have g3 := qV (P := P) (w := w') fn a'.tmps (rs := [_]) (vs := [v]) hr (by simp only [List.mapM_cons, List.mapM_nil, Sem.run_bind, Sem.run_pure, g1, Result.andThen_ok])
      exact ⟨v, g3, _, _, rfl, hfin, yV.inn (ids := IDS) (ρ := ρ') (M := Mut M S' ρ') (by rw [hy]; exact .p g2) hrx fun k c _ hk => mutc k c hk⟩
    | tup hr hl hx =>
      obtain ⟨us, g1, g2, g4, g3⟩ := res_allM hs' hx
      have g5 := qV (P := P) (w := w') fn a'.tmps hr g1
      rw [dif_neg (by simp only [List.size_toArray]; omega)] at g5
      refine ⟨_, g5, _, _, rfl, hfin, yV.inn (ids := IDS) (ρ := ρ') (M := Mut M S' ρ') ?_ hrx fun k c _ hk => mutc k c hk⟩
      rw [hy]
      refine .tup _ us (by simpa using g2) fun i c v hc hv => ?_
      rw [List.getElem?_map, Option.map_eq_some_iff] at hc
      obtain ⟨y, hy, rfl⟩ := hc
      exact .p (g3 i y v hy hv)
  cases e with
  | ret => exact fin
  | normal => exact fin
  | exit id => rcases he with h | h <;> cases h
  | goto l => rcases he with h | h <;> cases h
  | panic c => rcases he with h | h <;> cases h
  | outgrown => rcases he with h | h <;> cases h
end
end Go.Proofs.YtomlhekjgagjaaaDoor
namespace Go.Proofs.YtomlhekjgagjaaaDoor
set_option maxRecDepth 100000
set_option maxHeartbeats 16000000
open Go Go.RowKit
def readyD (l : List Oper) (done : List Nat) : List Nat := (List.range l.length).filter fun i => !done.contains i && (match l[i]? with
  | some o => o.after.toList.all fun e => !Region.binds .any e || done.contains e.on
  | none => false)
theorem readyD_iff {l : List Oper} {listed : Array Bool} {done : List Nat} (hs : listed.size = l.length) (h : ∀ i, listed.getD i false = done.contains i) (i : Nat) : i ∈ Region.ready .any l.toArray listed ↔ i ∈ readyD l done := by
  unfold Region.ready readyD
  simp only [List.size_toArray, List.mem_filter, List.mem_range]
  refine ⟨fun ⟨h1, h2⟩ => ⟨h1, ?_⟩, fun ⟨h1, h2⟩ => ⟨h1, ?_⟩⟩
  · have e1 : listed.getD i true = listed.getD i false := by simp [Array.getD_eq_getD_getElem?, hs, h1]
    simp only [List.getElem?_toArray, List.getElem?_eq_getElem h1, Option.map_some, Option.getD_some, Bool.and_eq_true, Bool.not_eq_true', List.all_eq_true] at h2 ⊢
    refine ⟨?_, fun e he => ?_⟩
    · rw [← h i, ← e1]; exact h2.1
    · have := Array.all_eq_true'.1 h2.2 e (by simpa using he)
      rw [← h e.on]
      exact this
  · have e1 : listed.getD i true = listed.getD i false := by simp [Array.getD_eq_getD_getElem?, hs, h1]
    simp only [List.getElem?_toArray, List.getElem?_eq_getElem h1, Option.map_some, Option.getD_some, Bool.and_eq_true, Bool.not_eq_true', List.all_eq_true] at h2 ⊢
    refine ⟨?_, Array.all_eq_true'.2 fun e he => ?_⟩
    · rw [e1, h i]; exact h2.1
    · have := h2.2 e (by simpa using he)
      rw [← h e.on] at this
      exact this
def wI (P : Program) (n : Nat) (l : List Oper) (K : Exit → AS → Prop) : Nat → List Nat → AS → Prop
  | 0, done, S => readyD l done = [] ∧ K .normal S
  | m + 1, done, S => readyD l done ≠ [] ∧ ∀ i ∈ readyD l done, ∃ o, l[i]? = some o ∧ o.guard = none ∧ z8 P n o S K fun S1 => wI P n l K m (i :: done) S1
def DOne (P : Program) (n : Nat) (l : List Oper) (K : Exit → AS → Prop) (m : Nat) (done : List Nat) (S : AS) (i : Nat) : Prop :=
  ∃ o, l[i]? = some o ∧ o.guard = none ∧ z8 P n o S K fun S1 => wI P n l K m (i :: done) S1
def vR (p : Nat → Prop) : List Nat → Prop
  | [] => True
  | i :: r => p i ∧ vR p r
theorem vR.all {p : Nat → Prop} : ∀ {rs : List Nat}, vR p rs → ∀ i ∈ rs, p i
  | [], _, i, hi => by simp at hi
  | j :: r, h, i, hi => by
    rcases List.mem_cons.1 hi with rfl | hi
    · exact h.1
    · exact vR.all h.2 i hi
theorem vR.nil {p : Nat → Prop} : vR p [] := trivial
theorem vR.cons {p : Nat → Prop} {i : Nat} {r : List Nat} (h : p i) (hr : vR p r) : vR p (i :: r) := ⟨h, hr⟩
section
variable {P : Program} {n : Nat} {l : List Oper} {K : Exit → AS → Prop} {fu : Nat} {done : List Nat} {S S1 : AS} {i d : Nat} {o : Oper}
theorem wI.is (h : wI P n l K fu done S) : wI P n l K fu done S := h
theorem wI.fin (hr : readyD l done = []) (h : K .normal S) : wI P n l K 0 done S := ⟨hr, h⟩
theorem wI.many (hr : (readyD l done).isEmpty = false) (h : vR (DOne P n l K fu done S) (readyD l done)) : wI P n l K (fu + 1) done S :=
  ⟨(fun e => by rw [e] at hr; cases hr), h.all⟩
theorem DOne.is (h : DOne P n l K fu done S i) : DOne P n l K fu done S i := h
theorem DOne.v {bs : List Nat} {av : AV} (ho : l[i]? = some o) (hg : o.guard = none) (hd : o.dst = some d) (h : zA P n o S bs av none) (hr : wI P n l K fu (i :: done) (S.put d av)) : DOne P n l K fu done S i :=
  ⟨o, ho, hg, Step.t h.step (by rw [hd]; exact hr)⟩
theorem DOne.m {bs : List Nat} {av : AV} {b : Blk} (ho : l[i]? = some o) (hg : o.guard = none) (hd : o.dst = some d) (h : zA P n o S bs av (some b)) (hr : wI P n l K fu (i :: done) ((S.create d b).put d av)) : DOne P n l K fu done S i :=
  ⟨o, ho, hg, Step.t h.step (by rw [hd]; exact hr)⟩
theorem DOne.w (ho : l[i]? = some o) (hg : o.guard = none) (h : Step P n o S S1) (hr : wI P n l K fu (i :: done) S1) : DOne P n l K fu done S i := ⟨o, ho, hg, h.t hr⟩
theorem DOne.ofT (ho : l[i]? = some o) (hg : o.guard = none) (h : z8 P n o S K fun S1 => wI P n l K fu (i :: done) S1) : DOne P n l K fu done S i := ⟨o, ho, hg, h⟩
end
attribute [irreducible] wI DOne
end Go.Proofs.YtomlhekjgagjaaaDoor
namespace Go.Proofs.YtomlhekjgagjaaaDoor
set_option maxRecDepth 100000
set_option maxHeartbeats 16000000
open Go Go.RowKit
section
variable {P : Program} {n : Nat} {o : Oper} {S : AS} {d : Nat} {t : TypeId}
end
end Go.Proofs.YtomlhekjgagjaaaDoor
namespace Go.Proofs.YtomlhekjgagjaaaDoor
set_option maxRecDepth 100000
set_option maxHeartbeats 16000000
open Go Go.RowKit
def x9 (e sz : Nat) (es : List PV) : Blk := .prow e sz es.length (flat es)
theorem vI (e sz : Nat) (es : List PV) : Alike (.row e sz es.length ((flat es).map AV.p)) (x9 e sz es) := .rp _ _ _ _
theorem qQ (e sz : Nat) (es : List PV) : Alike (x9 e sz es) (.row e sz es.length ((flat es).map AV.p)) := .pr _ _ _ _
theorem flat_append (xs ys : List PV) : flat (xs ++ ys) = flat xs ++ flat ys := by simp [flat]
section
variable {P : Program} {n : Nat} {o : Oper} {S : AS} {d : Nat} {t : TypeId} {x y : Operand}
theorem qF {id e sz by_ : Nat} {z : Value} {cs bs : List PV} [ht : Und P t (.slice e)] [hi : InfoA P e z sz by_] (ho : o.op = .call { callee := .builtin .append, args := #[x, y], argTypes := #[t, t] }) (hx : S.get x = .own id) (hb : S.blk id = some (x9 e sz cs))
    (hy : S.get y = .p (.sl bs)) (hes : ∀ e ∈ bs, e.cells.length = sz) (hlim : (cs.length + bs.length) * by_ ≤ 140737488355328 ∧ cs.length + bs.length ≤ maxLen) (hzs : z.cells.size = sz) (hsz : 0 < sz) (hd : o.dst = some d) (hn : d < n) :
    Step P n o S ((S.create id (x9 e sz (cs ++ bs))).put d (.own id)) := by
  have h := w_appendP (P := P) (S := S.tag id (.row e sz cs.length ((flat cs).map AV.p))) (o := o) (d := d) ho (by rw [AS.wQ]; exact hx) (by rw [AS.xQ, if_pos rfl]) (by rw [AS.wQ]; exact hy) hes hlim hzs hsz hd hn
  have e1 : Blk.row e sz (cs.length + bs.length) ((flat cs).map AV.p ++ (flat bs).map AV.p) = .row e sz (cs ++ bs).length ((flat (cs ++ bs)).map AV.p) := by
    rw [flat_append, List.map_append, List.length_append]
  rw [e1] at h
  exact h.same (vK hb (qQ e sz cs)) (((qX hb (vI e sz cs)).create id (vI e sz (cs ++ bs))).put d _)
theorem w_lenV {id e sz t' : Nat} {es : List PV} [ht : Und P t (.slice t')] (ho : o.op = .call { callee := .builtin .len, args := #[x], argTypes := #[t] }) (hx : S.get x = .own id) (hb : S.blk id = some (x9 e sz es)) (hd : o.dst = some d) (hn : d < n) : zA P n o S [id] (.p (.val (.int .i64 es.length))) none :=
  zA.tag hb (qQ e sz es) (vI e sz es) (by simp) (w_lenO (S := S.tag id (.row e sz es.length ((flat es).map AV.p))) ho (by rw [AS.wQ]; exact hx) (by rw [AS.xQ, if_pos rfl]) hd hn)
theorem qO {ix : Operand} {id e ty sz : Nat} {j : Int} {k : IntKind} {es : List PV} {agg : Bool} [ht : Und P t (.slice e)] [he : TyA P e agg sz] (ho : o.op = .indexAddr t x ix) (hx : S.get x = .own id) (hb : S.blk id = some (x9 ty sz es)) (hi : S.get ix = .p (.val (.int k j)))
    (hj : 0 ≤ j ∧ j < es.length) (hd : o.dst = some d) (hn : d < n) : zA P n o S [id] (.ptr id (j.toNat * sz)) none :=
  zA.tag hb (qQ ty sz es) (vI ty sz es) (by simp) (w_indexO (S := S.tag id (.row ty sz es.length ((flat es).map AV.p))) ho (by rw [AS.wQ]; exact hx) (by rw [AS.xQ, if_pos rfl]) (by rw [AS.wQ]; exact hi) hj hd hn)
theorem flat_set {sz : Nat} : ∀ {es : List PV} {i : Nat} {v : PV}, (∀ e ∈ es, e.cells.length = sz) → v.cells.length = sz → i < es.length → splice (flat es) (i * sz) v.cells = flat (es.set i v)
  | [], i, v, _, _, h => by simp at h
  | e :: es, 0, v, he, hv, _ => by
    have h1 := he e (by simp)
    have : flat (e :: es) = e.cells ++ flat es := by simp [flat]
    rw [Nat.zero_mul, this, List.set_cons_zero]
    have h2 : flat (v :: es) = v.cells ++ flat es := by simp [flat]
    rw [h2]
    apply List.ext_getElem?
    intro j
    rw [xV (by simp; omega)]
    by_cases hj : j < v.cells.length
    · rw [if_neg (by omega), if_pos (by omega), List.getElem?_append_left hj, Nat.sub_zero]
    · rw [if_neg (by omega), if_neg (by omega), List.getElem?_append_right (by omega), List.getElem?_append_right (by omega), h1, hv]
  | e :: es, i + 1, v, he, hv, hi => by
    have h1 := he e (by simp)
    have ih := flat_set (es := es) (i := i) (v := v) (fun e h => he e (by simp [h])) hv (by simpa using hi)
    have h3 : flat (e :: es) = e.cells ++ flat es := by simp [flat]
    have h4 : flat ((e :: es).set (i + 1) v) = e.cells ++ flat (es.set i v) := by simp [flat]
    have hfl := flat_len (es := es) (sz := sz) (fun e h => he e (by simp [h]))
    have hi' : i < es.length := by simpa using hi
    have hle : i * sz + sz ≤ (flat es).length := by
      rw [hfl]
      have : (i + 1) * sz ≤ es.length * sz := Nat.mul_le_mul_right _ hi'
      rw [Nat.add_mul] at this
      omega
    rw [h3, h4, ← ih]
    apply List.ext_getElem?
    intro j
    have e1 : (i + 1) * sz = sz + i * sz := by rw [Nat.add_mul]; omega
    rw [xV (by rw [List.length_append, h1, hv, e1]; omega), e1]
    by_cases hj : j < e.cells.length
    · rw [if_pos (show j < sz + i * sz by omega), List.getElem?_append_left hj, List.getElem?_append_left hj]
    · rw [List.getElem?_append_right (by omega), List.getElem?_append_right (by omega), xV (by rw [hv]; omega), h1, hv]
      by_cases h5 : j < sz + i * sz
      · rw [if_pos h5, if_pos (show j - sz < i * sz by omega)]
      · rw [if_neg h5, if_neg (show ¬ j - sz < i * sz by omega)]
        by_cases h6 : j < sz + i * sz + sz
        · rw [if_pos h6, if_pos (show j - sz < i * sz + sz by omega)]
          congr 1
          omega
        · rw [if_neg h6, if_neg (show ¬ j - sz < i * sz + sz by omega)]
theorem splice_map {α β : Type} (f : α → β) (l : List α) (o : Nat) (v : List α) : splice (l.map f) o (v.map f) = (splice l o v).map f := by simp [splice, List.map_take, List.map_drop]
theorem w_storeV {id off i e sz : Nat} {es : List PV} {v : PV} {agg : Bool} [h : TyA P t agg sz] (ho : o.op = .store t x y) (hx : S.get x = .ptr id off) (hb : S.blk id = some (x9 e sz es)) (hy : S.get y = .p v) (hk : (AV.p v).kD = true) (hes : ∀ e ∈ es, e.cells.length = sz) (hv : v.cells.length = sz) (hoff : off = i * sz) (hi : i < es.length) (hd : o.dst = none) :
    Step P n o S (S.tag id (x9 e sz (es.set i v))) := by
  subst hoff
  have hfl := flat_len hes
  have hle : i * sz + sz ≤ (flat es).length := by
    rw [hfl]
    have : (i + 1) * sz ≤ es.length * sz := Nat.mul_le_mul_right _ hi
    rw [Nat.add_mul] at this
    omega
  have h1 := yB (P := P) (n := n) (S := S.tag id (.row e sz es.length ((flat es).map AV.p))) (o := o) (agg := agg) (m := sz) ho (by rw [AS.wQ]; exact hx) (by rw [AS.xQ, if_pos rfl]) (by rw [AS.wQ, hy]) hk (by show (v.cells.map AV.p).length = sz; rw [List.length_map, hv]) (by show i * sz + sz ≤ ((flat es).map AV.p).length; rw [List.length_map]; exact hle) rfl hd
  have e1 : (Blk.row e sz es.length ((flat es).map AV.p)).setXs (splice (Blk.row e sz es.length ((flat es).map AV.p)).xs (i * sz) (AV.p v).xU) = .row e sz (es.set i v).length ((flat (es.set i v)).map AV.p) := by
    show Blk.row e sz es.length (splice ((flat es).map AV.p) (i * sz) (v.cells.map AV.p)) = _
    rw [splice_map, flat_set hes hv hi, List.length_set]
  rw [e1] at h1
  refine h1.same (vK hb (qQ e sz es)) ⟨fun _ => rfl, fun j => ?_⟩
  show (if id = j then some _ else if id = j then some _ else S.blk j) = none ∧ (if id = j then some _ else S.blk j) = none ∨ ∃ b b', (if id = j then some _ else if id = j then some _ else S.blk j) = some b ∧ (if id = j then some _ else S.blk j) = some b' ∧ Alike b b'
  by_cases hj : id = j
  · subst hj
    rw [if_pos rfl, if_pos rfl]
    exact .inr ⟨_, _, rfl, rfl, vI e sz (es.set i v)⟩
  · rw [if_neg hj, if_neg hj, if_neg hj]
    cases S.blk j with
    | none => exact .inl ⟨rfl, rfl⟩
    | some b => exact .inr ⟨b, b, rfl, rfl, .refl b⟩
theorem flat_at {sz : Nat} {es : List PV} (hes : ∀ e ∈ es, e.cells.length = sz) {i : Nat} {c : PV} (hc : es[i]? = some c) : ((flat es).drop (i * sz)).take sz = c.cells := flat_get hes hc
theorem w_loadVN {id off i e sz : Nat} {es cs : List PV} [h : TyA P t true sz] (ho : o.op = .load t x) (hx : S.get x = .ptr id off) (hb : S.blk id = some (x9 e sz es)) (hes : ∀ e ∈ es, e.cells.length = sz) (hoff : off = i * sz) (hc : es[i]? = some (.agg cs)) (hd : o.dst = some d) (hn : d < n) : zA P n o S [id] (.p (.agg cs)) none := by
  subst hoff
  refine a_loadRN (b := x9 e sz es) ho hx hb ?_ (hes _ (List.mem_of_getElem? hc)) h.ag h.sz hd hn
  show (((flat es).map AV.p).drop (i * sz)).take sz = cs.map AV.p
  rw [← List.map_drop, ← List.map_take, flat_at hes hc]
  rfl
theorem flat_rep {zp : PV} {sz : Nat} (hz : zp.cells.length = sz) (hsz : 0 < sz) : ∀ {m j : Nat}, j < m * sz → (flat (List.replicate m zp))[j]? = zp.cells[j % sz]?
  | 0, j, h => by omega
  | m + 1, j, h => by
    have e : flat (List.replicate (m + 1) zp) = zp.cells ++ flat (List.replicate m zp) := by simp [flat, List.replicate_succ]
    rw [e]
    by_cases hj : j < sz
    · rw [List.getElem?_append_left (by omega), Nat.mod_eq_of_lt hj]
    · rw [Nat.add_mul] at h
      rw [List.getElem?_append_right (by omega), hz, flat_rep hz hsz (by omega), Nat.mod_eq_sub_mod (show sz ≤ j by omega)]
end
end Go.Proofs.YtomlhekjgagjaaaDoor
namespace Go.Proofs.YtomlhekjgagjaaaDoor
set_option maxRecDepth 100000
set_option maxHeartbeats 16000000
open Go Go.RowKit
def AV.frz (id : Nat) (x : PV) : AV → AV
  | .own j => if j = id then .p x else .own j
  | y => y.kill id
def Blk.frz (id : Nat) (x : PV) : Blk → Blk
  | .row t s n xs => .row t s n (xs.map (AV.frz id x))
  | .prow t s n xs => .prow t s n xs
  | .box t xs => .box t (xs.map (AV.frz id x))
  | .lent t s n xs => .lent t s n xs
  | .obj mp Q => .obj mp Q
def AS.frz (S : AS) (id : Nat) (x : PV) : AS := { t := S.t.map fun p => (p.1, p.2.frz id x), s := (dropL S.s id).map fun p => (p.1, p.2.frz id x) }
theorem AS.tmp_frz (S : AS) (id : Nat) (x : PV) (i : Nat) : (S.frz id x).tmp i = (S.tmp i).frz id x := by
  simp only [AS.tmp, AS.frz, look_map]
  cases look S.t i <;> rfl
theorem AS.blk_frz (S : AS) (id : Nat) (x : PV) (j : Nat) : (S.frz id x).blk j = if id = j then none else (S.blk j).map (Blk.frz id x) := by
  simp only [AS.blk, AS.frz, look_map, look_dropL]
  by_cases hj : id = j
  · rw [if_pos hj, if_pos hj]; rfl
  · rw [if_neg hj, if_neg hj]
theorem Blk.turns_frz (b : Blk) (id : Nat) (x : PV) (c : Nat) : (b.frz id x).turns c ↔ b.turns c := by cases b <;> exact Iff.rfl
theorem yV.frz {M : Nat → Nat → Prop} {ρ : Nat → Value} {w : World} {y : AV} {v : Value} {id : Nat} {x : PV} (h : yV M ρ w y v) (hx : Rep M w x (ρ id)) : yV M ρ w (y.frz id x) v := by
  have hk := h.killed id (ρ id)
  rw [upd_self] at hk
  cases y with
  | own j =>
    show yV M ρ w (if j = id then .p x else .own j) v
    by_cases hj : j = id
    · subst hj
      rw [if_pos rfl, vN h]
      exact .p hx
    · rw [if_neg hj]
      exact h
  | _ => exact hk
theorem yK.frz {M : Nat → Nat → Prop} {ρ : Nat → Value} {w : World} {xs : List AV} {ys : List Value} {id : Nat} {x : PV} (h : yK M ρ w xs ys) (hx : Rep M w x (ρ id)) : yK M ρ w (xs.map (AV.frz id x)) ys :=
  ⟨by simp [h.len], fun i c v hc hv => by
    rw [List.getElem?_map, Option.map_eq_some_iff] at hc
    obtain ⟨c', hc', rfl⟩ := hc
    exact (h.each i c' v hc' hv).frz hx, h.one⟩
section
variable {M : Nat → Nat → Prop} {n : Nat} {w0 : Home} {w w' : World} {S : AS} {ρ : Nat → Value} {a : Act}
theorem Mut.frz {id k c : Nat} {x : PV} (h : Mut M (S.frz id x) ρ k c) : Mut M (S.drop id) ρ k c := by
  rcases h with h | ⟨j, b, hb, hk, ht⟩
  · exact .inl h
  · rw [AS.blk_frz] at hb
    split at hb
    · cases hb
    · rename_i hne
      obtain ⟨b1, h1, rfl⟩ := Option.map_eq_some_iff.1 hb
      exact .inr ⟨j, b1.kill id, by rw [AS.xP, if_neg hne, h1]; rfl, hk, (Blk.turns_kill b1 id c).2 ((Blk.turns_frz b1 id x c).1 ht)⟩
theorem Sat.frz_of (h : Sat M n w0 S ρ a w) {id : Nat} {x : PV} (hx : Rep (Mut M (S.drop id) ρ) w x (ρ id)) : Sat M n w0 (S.frz id x) ρ a w := by
  have hx' : Rep (Mut M (S.frz id x) ρ) w x (ρ id) := hx.mono fun _ _ _ hk => Mut.frz hk
  have hm : ∀ k c, k < w.heap.size → Mut M (S.frz id x) ρ k c → Mut M S ρ k c := fun k c _ hk => Mut.drop (Mut.frz hk)
  refine ⟨h.below, h.out, h.tab, h.size, h.defers, fun i => ?_, fun j b hb => ?_, fun j b k hb hk => ?_, h.fix, h.free, fun i j bi bj k hi hj => ?_⟩
  · rw [AS.tmp_frz]
    exact ((h.tmps i).mono hm).frz hx'
  · rw [AS.blk_frz] at hb
    split at hb
    · cases hb
    · obtain ⟨b1, h1, rfl⟩ := Option.map_eq_some_iff.1 hb
      have := h.blks j b1 h1
      cases b1 with
      | row t size m xs =>
        obtain ⟨ys, ho, hc⟩ := this
        exact ⟨ys, ho, (hc.mono hm).frz hx'⟩
      | prow t size m xs =>
        obtain ⟨ys, ho, hc⟩ := this
        exact ⟨ys, ho, hc.mono hm⟩
      | lent t size m xs =>
        obtain ⟨ys, ho, hc⟩ := this
        exact ⟨ys, ho, hc.mono hm⟩
      | obj mp Q => exact this
      | box t xs =>
        obtain ⟨g, ys, hv, hg, hh, hc⟩ := this
        exact ⟨g, ys, hv, hg, hh, (hc.mono hm).frz hx'⟩
  · rw [AS.blk_frz] at hb
    split at hb
    · cases hb
    · obtain ⟨b1, h1, _⟩ := Option.map_eq_some_iff.1 hb
      exact h.mine j b1 k h1 hk
  · rw [AS.blk_frz] at hi hj
    split at hi
    · cases hi
    · split at hj
      · cases hj
      · obtain ⟨b1, h1, _⟩ := Option.map_eq_some_iff.1 hi
        obtain ⟨b2, h2, _⟩ := Option.map_eq_some_iff.1 hj
        exact h.dist i j b1 b2 k h1 h2
end
theorem sub_frz {S : AS} {id e sz : Nat} {es : List PV} (hb : S.blk id = some (x9 e sz es)) : Sub S (S.frz id (.sl es)) :=
  fun M n w0 ρ a w hs => by
    refine ⟨ρ, hs.frz_of ?_⟩
    have h1 := ((vK hb (qQ e sz es)).sat hs).frozen (id := id) (es := es) (by rw [AS.xQ, if_pos rfl]) rfl
    refine h1.mono fun k c _ hk => ?_
    rcases hk with hk | ⟨j, b, hj, hk, ht⟩
    · exact .inl hk
    · rw [AS.xP] at hj
      split at hj
      · cases hj
      · rename_i hne
        refine .inr ⟨j, b, ?_, hk, ht⟩
        rw [AS.xP, if_neg hne, AS.xQ, if_neg hne]
        exact hj
def lentV (e sz : Nat) (es : List PV) : Blk := .lent e sz es.length (flat es)
end Go.Proofs.YtomlhekjgagjaaaDoor
namespace Go.Proofs.YtomlhekjgagjaaaDoor
set_option maxRecDepth 100000
set_option maxHeartbeats 16000000
open Go Go.RowKit
section
variable {P : Program} {n : Nat} {o : Oper} {S : AS} {d : Nat} {t : TypeId} {x y : Operand}
theorem enters_val {f : FuncId} {args : Array Operand} {ts : Array TypeId} [hc : HasFn P f] (ho : o.op = .call { callee := .value x, args := args, argTypes := ts }) (hx : S.get x = .p (.val (.func (.func f) #[] #[]))) : Enters P o S f (args.toList.map S.get) :=
  fun M n w0 ρ a w hs => by
    have hv := hs.val hx
    refine ⟨args.toList.map a.eval, ?_, by simp, reps_get hs args.toList⟩
    have e : (args.toList.map a.eval).toArray = args.map a.eval := by apply Array.ext'; simp
    unfold execOp
    rw [ho, e]
    simp [resolve, Deferred.ofValue, hv, invoke, hc.h]
theorem FnE.ofFn {f : FuncId} {xs : List PV} {r : PV} (h : Fn P f xs (.p r)) : FnE P f (xs.map AV.p) [] (.ret (.p r)) [] := by
  intro M hh ρ vs _ hs hvl hvs
  have := h (Mut M (asB []) ρ) hh.w vs ⟨hs.lays, hs.tabs⟩ (fun k c hk => Mut.lt hs hk) (by simpa using hvl) (fun i x v h1 h2 => rep_p (hvs i (.p x) v (by rw [List.getElem?_map, h1]; rfl) h2))
  exact this.mono fun e w' ⟨v, he, hr, hb⟩ => ⟨ρ, hs.ext hb, v, he, .p hr⟩
theorem r_eqlNil {yt : TypeId} {es : List PV} {r : Bool} {e : TypeId} [ht : Und P t (.slice e)] (ho : o.op = .binOp .eql t x y yt) (hx : S.get x = .p (.sl es)) (hy : S.get y = .p (.val (.slice none 0 0))) (hne : es ≠ []) (hr : false = r) (hd : o.dst = some d) (hn : d < n) : zA P n o S [] (.p (.val (.bool r))) none := by
  subst hr
  exact zA.pure hd hn fun S2 hg _ M w0 ρ a w hs => by
    have r1 := xJ hs ((hg x (by rw [ho]; simp [Op.operands])).trans hx)
    have r2 := hs.val ((hg y (by rw [ho]; simp [Op.operands])).trans hy)
    rcases rep_sl r1 with ⟨_, h0⟩ | ⟨g, off, cap, ys, hv, _⟩
    · exact (hne h0).elim
    · refine ⟨.bool false, w, ?_, Below.refl _ _, .p (.val _)⟩
      unfold execOp
      rw [ho]
      simp only [hv, r2, Sem.run_bind]
      simp [eqGuard, binOp, run_equal_slice_nil w t e (some ⟨g, off, none⟩) es.length cap ht.h]
end
end Go.Proofs.YtomlhekjgagjaaaDoor
namespace Go.Proofs.YtomlhekjgagjaaaDoor
set_option maxRecDepth 100000
set_option maxHeartbeats 16000000
open Go Go.RowKit
section
variable {P : Program} {n : Nat} {o : Oper} {S : AS} {d : Nat} {t : TypeId} {x y : Operand}
theorem wC {e sz by_ : Nat} {z : Value} [ht : Und P t (.slice e)] [hi : InfoA P e z sz by_] (ho : o.op = .buildSlice t 0 #[]) (hd : o.dst = some d) (hn : d < n) : zA P n o S [] (.own d) (some (x9 e sz [])) := (w_build0 ho hd hn).nb (vI e sz [])
theorem w_callRowV {f : Nat} {args : Array Operand} {ts : Array TypeId} {xs : List PV} {e sz : Nat} {es : List PV} [hc : HasFn P f] (hf : Fn P f xs (.row e sz es.length (flat es))) (ho : o.op = .call { callee := .value (.func f), args := args, argTypes := ts })
    (hx : args.toList.map S.get = xs.map AV.p) (hd : o.dst = some d) (hn : d < n) : zA P n o S [] (.own d) (some (x9 e sz es)) := by
  intro S2 hg _ M w0 ρ a w K Q hs hK
  have hargs : ∀ x ∈ args.toList, S2.get x = S.get x := fun x hx => hg x (by rw [ho]; simp [Op.operands, Call.operands]; exact .inr (by simpa using hx))
  have he : (execOp a.eval o).run P w = .ok (.enter f (args.map a.eval)) w := by
    unfold execOp
    rw [ho]
    simp [resolve, Deferred.ofValue, Act.eval, invoke, hc.h]
  unfold Oper.wp
  rw [he, Oper.upon_enter]
  have hlen : (args.toList.map a.eval).length = xs.length := by
    have := congrArg List.length hx
    simpa using this
  have := hf (Mut M S2 ρ) w (args.toList.map a.eval) ⟨hs.lays, hs.tabs⟩ (fun k c hk => Mut.lt hs hk) hlen (fun i x v h1 h2 => by
    rw [List.getElem?_map, Option.map_eq_some_iff] at h2
    obtain ⟨y, hy, rfl⟩ := h2
    have h3 : S.get y = .p x := by
      have h4 : (args.toList.map S.get)[i]? = (xs.map AV.p)[i]? := by rw [hx]
      rw [List.getElem?_map, List.getElem?_map, hy, h1] at h4
      simpa using h4
    exact xJ hs ((hargs y (List.mem_of_getElem? hy)).trans h3))
  have e1 : (args.toList.map a.eval).toArray = args.map a.eval := by apply Array.ext'; simp
  rw [e1] at this
  refine this.mono ?_
  rintro en w' ⟨v, rfl, ⟨ys, hown, hl⟩, hb⟩
  show K (a.put o.dst v) w'
  rw [hd] at hK ⊢
  have hnew : ∀ k, zT v = some k → w.heap.size ≤ k := fun k hk => by
    rcases hown.2 with ⟨rfl, _⟩ | ⟨g, cap, cur, rfl, hg2, _⟩
    · cases hk
    · simp only [zT, Option.some.injEq] at hk; omega
  have hs' := hs.change d (x9 e sz es) v none (hs.free d hn) (w' := w') ⟨hb.os, hb.tape, hb.output, hb.size, fun k hk _ => hb.block k hk⟩ (fun k hk => by cases hk) (fun k hk => .inl (hnew k hk))
    ⟨ys, ownsRow_rebase hown (fun _ _ => Nat.zero_le _), ⟨by simpa using hl.len, fun i c u h1 h2 => by
      rw [List.getElem?_map, Option.map_eq_some_iff] at h1
      obtain ⟨y, hy, rfl⟩ := h1
      exact .p ((hl.each i y u hy h2).mono fun k c _ hk => hk.elim .inl fun h => .inr h.1), hl.one⟩⟩
  refine hK _ _ w' (hs'.put hn ?_)
  have := yV.own (M := Mut M (S2.create d (x9 e sz es)) (upd ρ d v)) (ρ := upd ρ d v) (w := w') d
  simpa [upd] using this
def Blk.isRow : Blk → Bool
  | .box _ _ => false
  | _ => true
theorem own_cell {M : Nat → Nat → Prop} {n : Nat} {w0 : Home} {w : World} {S : AS} {ρ : Nat → Value} {a : Act} (hs : Sat M n w0 S ρ a w) {id2 : Nat} {b2 : Blk} (hb2 : S.blk id2 = some b2) (hrow : b2.isRow = true) : (ρ id2).cells.toList = [ρ id2] ∧ (ρ id2).oneCell' = true := by
  have h := hs.blks id2 _ hb2
  have key : ∀ {e sz m : Nat} {ys : List Value}, w.ownsRow 0 e sz (ρ id2) m ys → (ρ id2).cells.toList = [ρ id2] ∧ (ρ id2).oneCell' = true := fun hown => by
    rcases hown.2 with ⟨e, _⟩ | ⟨g', cap, cur, e, _⟩ <;> (rw [e]; exact ⟨rfl, rfl⟩)
  cases b2 with
  | box _ _ => cases hrow
  | obj mp Q => obtain ⟨g, o, e, _⟩ := h; rw [e]; cases mp <;> exact ⟨rfl, rfl⟩
  | row _ _ _ _ => obtain ⟨ys, h, _⟩ := h; exact key h
  | prow _ _ _ _ => obtain ⟨ys, h, _⟩ := h; exact key h
  | lent _ _ _ _ => obtain ⟨ys, h, _⟩ := h; exact key h
theorem own_cells {M : Nat → Nat → Prop} {n : Nat} {w0 : Home} {w : World} {S : AS} {ρ : Nat → Value} {a : Act} (hs : Sat M n w0 S ρ a w) {id2 : Nat} {b2 : Blk} {v : Value} (hb2 : S.blk id2 = some b2) (hrow : b2.isRow = true) (h2 : yV (Mut M S ρ) ρ w (.own id2) v) :
    yK (Mut M S ρ) ρ w (AV.own id2).xU v.cells.toList := by
  obtain rfl : v = ρ id2 := by cases h2; rfl
  obtain ⟨h3, h4⟩ := own_cell hs hb2 hrow
  rw [h3]
  exact ⟨rfl, fun i c u h1 h3 => by
    cases i with
    | zero => simp [AV.xU] at h1 h3; subst h1; subst h3; exact .own id2
    | succ i => simp [AV.xU] at h1, fun u hu => by simp at hu; subst hu; exact h4⟩
theorem s_storeO {id off id2 : Nat} {b b2 : Blk} (ho : o.op = .store t x y) (hx : S.get x = .ptr id off) (hb : S.blk id = some b) (hy : S.get y = .own id2) (hb2 : S.blk id2 = some b2) (hrow : b2.isRow = true) (hm : ∀ w, (sizeOf t).run P w = .ok 1 w)
    (hle : off + 1 ≤ b.xs.length) (hlb : b.lentB = false) (hd : o.dst = none) : Step P n o S { S with s := putL S.s id (b.setXs (splice b.xs off (AV.own id2).xU)) } := by
  have hlen : (AV.own id2).xU.length = 1 := rfl
  intro M w0 ρ a w K Q hs hK
  have hfr := Blk.turns_of hlb
  have h1 := hs.rep x
  rw [hx] at h1
  obtain ⟨g, hgv, hv⟩ := kC h1
  have h2 := hs.rep y
  rw [hy] at h2
  have hcy : yK (Mut M S ρ) ρ w (AV.own id2).xU (a.eval y).cells.toList := own_cells hs hb2 hrow h2
  have hB := hs.blks id b hb
  have key : ∃ cur ty, w.heap[g]? = some (.cells cur ty (0, 0)) ∧ off + (a.eval y).cells.toList.length ≤ cur.size ∧
      (∀ w' : World, w.grownBy w' (some g) → w'.heap[g]? = some (.cells (splice cur.toList off (a.eval y).cells.toList).toArray ty (0, 0)) → y7 (Mut M S ρ) 0 ρ w' (ρ id) (b.setXs (splice b.xs off (AV.own id2).xU))) := by
    have keeps : ∀ {w' : World}, w.grownBy w' (some g) → Keeps (Mut M S ρ) w w' := fun {w'} hg => ⟨hg.size, fun k c hk hnm => World.cell?_of_block (w := w) (hg.block k hk (fun e => hnm (.inr ⟨id, b, hb, by rw [hgv]; exact e.symm, hfr c⟩)))⟩
    cases b with
    | lent ty size k xs => cases hlb
    | obj mp Q => cases hlb
    | box ty xs =>
      obtain ⟨g', ys, e, hg, hh, hc⟩ := hB
      have eg : g' = g := by rw [e] at hgv; simpa [zT] using hgv
      subst eg
      refine ⟨ys.toArray, ty, hh, ?_, fun w' hgr hh' => ⟨g', splice ys off (a.eval y).cells.toList, e, hg, by simpa using hh', (hc.splice hcy (by rw [hlen]; exact hle)).keep (keeps hgr)⟩⟩
      have e1 := hcy.len
      have e2 := hc.len
      have e3 : off + 1 ≤ xs.length := hle
      simp only [List.size_toArray]
      omega
    | row ty size k xs =>
      obtain ⟨ys, ⟨hl, ho2⟩, hc⟩ := hB
      have e1 := hcy.len
      have e2 := hc.len
      have e3 : off + 1 ≤ xs.length := hle
      rcases ho2 with ⟨e, _⟩ | ⟨g', cap, cur, e, hbg, hh, hkc, hcm, hcs, htk⟩
      · rw [e] at hgv; simp [zT] at hgv
      · have eg : g' = g := by rw [e] at hgv; simpa [zT] using hgv
        subst eg
        have hsz : k * size ≤ cur.size := by rw [hcs]; exact Nat.mul_le_mul_right _ hkc
        refine ⟨cur, ty, hh, by omega, fun w' hgr hh' => ⟨splice ys off (a.eval y).cells.toList, ⟨by rw [wD (by omega)]; exact hl, .inr ⟨g', cap, _, e, hbg, hh', hkc, hcm, ?_, ?_⟩⟩, (hc.splice hcy (by rw [hlen]; exact hle)).keep (keeps hgr)⟩⟩
        · simp only [List.size_toArray]
          rw [wD (by simp only [Array.length_toList] at *; omega)]
          simpa using hcs
        · apply List.ext_getElem?
          intro i
          rw [List.getElem?_take]
          rw [xV (by simp only [Array.length_toList] at *; omega), xV (by omega)]
          have hi : ∀ (i : Nat), i < k * size → cur.toList[i]? = ys[i]? := fun i hi => by rw [← htk, List.getElem?_take, if_pos hi]
          by_cases h3 : i < k * size
          · rw [if_pos h3]
            split
            · exact hi i h3
            · split
              · rfl
              · exact hi i h3
          · rw [if_neg h3]
            rw [if_neg (by omega), if_neg (by omega)]
            exact (List.getElem?_eq_none (by omega)).symm
    | prow ty size k xs =>
      obtain ⟨ys, ⟨hl, ho2⟩, hc⟩ := hB
      have e1 := hcy.len
      have e2 := hc.len
      have e3 : off + 1 ≤ (xs.map AV.p).length := hle
      rcases ho2 with ⟨e, _⟩ | ⟨g', cap, cur, e, hbg, hh, hkc, hcm, hcs, htk⟩
      · rw [e] at hgv; simp [zT] at hgv
      · have eg : g' = g := by rw [e] at hgv; simpa [zT] using hgv
        subst eg
        have hsz : k * size ≤ cur.size := by rw [hcs]; exact Nat.mul_le_mul_right _ hkc
        refine ⟨cur, ty, hh, by omega, fun w' hgr hh' => ⟨splice ys off (a.eval y).cells.toList, ⟨by rw [wD (by omega)]; exact hl, .inr ⟨g', cap, _, e, hbg, hh', hkc, hcm, ?_, ?_⟩⟩, (hc.splice hcy (by rw [hlen]; exact hle)).keep (keeps hgr)⟩⟩
        · simp only [List.size_toArray]
          rw [wD (by simp only [Array.length_toList] at *; omega)]
          simpa using hcs
        · apply List.ext_getElem?
          intro i
          rw [List.getElem?_take]
          rw [xV (by simp only [Array.length_toList] at *; omega), xV (by omega)]
          have hi : ∀ (i : Nat), i < k * size → cur.toList[i]? = ys[i]? := fun i hi => by rw [← htk, List.getElem?_take, if_pos hi]
          by_cases h3 : i < k * size
          · rw [if_pos h3]
            split
            · exact hi i h3
            · split
              · rfl
              · exact hi i h3
          · rw [if_neg h3]
            rw [if_neg (by omega), if_neg (by omega)]
            exact (List.getElem?_eq_none (by omega)).symm
  obtain ⟨cur, ty, hh, hfit, hfin⟩ := key
  have hst := run_storeCells_at P g off ty (a.eval y).cells.toList 0 cur w hh (by simpa using hfit) hcy.one
  have hsz : (a.eval y).cells.size = 1 := by have := hcy.len; rw [hlen] at this; simpa using this
  have hrun : (execOp a.eval o).run P w = .ok .skip (w.setRow g (splice cur.toList off (a.eval y).cells.toList).toArray) := by
    unfold execOp
    rw [ho]
    simp only [hv, Instr.storeAt, Instr.sureAddr, storeVar, Sem.run_bind, Sem.run_pure, Result.andThen_ok, hm, hsz, ne_eq, not_true_eq_false, if_false]
    simp only [Nat.add_zero] at hst
    rw [hst]
    rfl
  have hgr : w.grownBy (w.setRow g (splice cur.toList off (a.eval y).cells.toList).toArray) (some g) := ⟨rfl, rfl, rfl, by simp, fun k _ hk => setRow_other w g k _ (fun e => hk (by rw [e]))⟩
  unfold Oper.wp
  rw [hrun]
  show K (a.put o.dst undef) _
  rw [hd]
  exact hK ρ a _ (hs.turn hb hgv hgr hfr (hfin _ hgr (setRow_heap w g cur _ ty _ hh)))
theorem w_storeO {id off id2 : Nat} {b b2 : Blk} {agg : Bool} [h : TyA P t agg 1] (ho : o.op = .store t x y) (hx : S.get x = .ptr id off) (hb : S.blk id = some b) (hy : S.get y = .own id2) (hb2 : S.blk id2 = some b2) (hrow : b2.isRow = true)
    (hle : off + 1 ≤ b.xs.length) (hlb : b.lentB = false) (hd : o.dst = none) : Step P n o S { S with s := putL S.s id (b.setXs (splice b.xs off [AV.own id2])) } :=
  s_storeO ho hx hb hy hb2 hrow h.sz hle hlb hd
end
theorem givesRowV {P : Program} {fn : Func} {S : AS} {t id e sz : Nat} {es : List PV} (hr : fn.results = #[.tmp t]) (ht : S.tmp t = .own id) (hb : S.blk id = some (x9 e sz es)) : ∃ S', Sub S S' ∧ xG P fn S' (.row e sz es.length (flat es)) :=
  ⟨_, (vK hb (qQ e sz es)).sub, .row hr ht (by rw [AS.xQ, if_pos rfl])⟩
end Go.Proofs.YtomlhekjgagjaaaDoor
namespace Go.Proofs.YtomlhekjgagjaaaDoor
set_option maxRecDepth 100000
set_option maxHeartbeats 16000000
open Go Go.RowKit
theorem RepL.append {M : Nat → Nat → Prop} {w : World} {xs xs' : List PV} {ys ys' : List Value} (h : RepL M w xs ys) (h' : RepL M w xs' ys') : RepL M w (xs ++ xs') (ys ++ ys') :=
  ⟨by rw [List.length_append, List.length_append, h.len, h'.len], fun i c v h1 h2 => by
    by_cases hi : i < xs.length
    · rw [List.getElem?_append_left hi] at h1
      rw [List.getElem?_append_left (by rw [h.len]; exact hi)] at h2
      exact h.each i c v h1 h2
    · rw [List.getElem?_append_right (by omega)] at h1
      rw [List.getElem?_append_right (by rw [h.len]; omega), h.len] at h2
      exact h'.each _ c v h1 h2, fun v hv => by
    rcases List.mem_append.1 hv with hv | hv
    · exact h.one v hv
    · exact h'.one v hv⟩
section
variable {P : Program} {n : Nat} {ops : Array Oper} {S : AS} {K : Exit → AS → Prop}
theorem w_callFV {o : Oper} {d : Nat} {x : Operand} {f : FuncId} {args : Array Operand} {ts : Array TypeId} {ys : List PV} {r : PV} [hc : HasFn P f] (hf : Fn P f ys (.p r))
    (ho : o.op = .call { callee := .value x, args := args, argTypes := ts }) (hx : S.get x = .p (.val (.func (.func f) #[] #[]))) (hargs : args.toList.map S.get = ys.map AV.p) (hd : o.dst = some d) (hn : d < n) :
    zA P n o S [] (.p r) none := by
  intro S2 hg _ M w0 ρ a w KK Q hs hK
  have hx2 : S2.get x = .p (.val (.func (.func f) #[] #[])) := by rw [hg x (by rw [ho]; simp [Op.operands, Call.operands]), hx]
  have ha2 : args.toList.map S2.get = ys.map AV.p := by
    rw [← hargs]
    exact List.map_congr_left fun y hy => hg y (by rw [ho]; simp [Op.operands, Call.operands]; exact .inr (by simpa using hy))
  have st := z8.eRet (P := P) (n := n) (o := o) (S := S2) (K := fun _ _ => False) (N := fun S1 => S1 = (S2.after [] []).put d (.p r)) [] (FnE.ofFn hf) hd hn (enters_val ho hx2) (by
    rw [ha2, List.map_map]
    rfl) (hands_of (by simp) (by simp) trivial) rfl (by simp) (by
    simp only [List.all_map]
    exact List.all_eq_true.2 fun _ _ => rfl) rfl rfl
  refine st M w0 ρ a w KK Q hs ?_ ?_
  · intro S1 ρ' a' w' hN hs'
    subst hN
    rw [hd] at hK
    exact hK ρ' a' w' hs'
  · intro e S' _ _ _ h
    exact h.elim
end
end Go.Proofs.YtomlhekjgagjaaaDoor
namespace Go.Proofs.YtomlhekjgagjaaaDoor
set_option maxRecDepth 100000
set_option maxHeartbeats 16000000
open Go Go.RowKit
theorem cells_own {M : Nat → Nat → Prop} {n : Nat} {w0 : Home} {w : World} {S : AS} {ρ : Nat → Value} {a : Act} (hs : Sat M n w0 S ρ a w) {id2 : Nat} {b2 : Blk} {v : Value} (hb2 : S.blk id2 = some b2) (hrow : b2.isRow = true) (h2 : yV (Mut M S ρ) ρ w (.own id2) v) :
    yK (Mut M S ρ) ρ w (AV.own id2).xU v.cells.toList := own_cells hs hb2 hrow h2
def partB (S : AS) (av : AV) : Bool := av.kD || (match av with
  | .own id => (match S.blk id with | some b => b.isRow | none => false)
  | _ => false)
section
variable {P : Program} {n : Nat} {ops : Array Oper} {S : AS} {K : Exit → AS → Prop}
end
theorem rowB_V (e : Nat) (bs : List Int) : wP e bs = x9 e 1 (byts bs) := by
  unfold wP x9
  rw [byts_flat, qW]
theorem wS {S : AS} (id e sz : Nat) (es : List PV) (hb : S.blk id = some (x9 e sz es)) : Sub S (S.frz id (.sl es)) := sub_frz hb
theorem sub_frzB {S : AS} (id : Nat) {e : Nat} {bs : List Int} (hb : S.blk id = some (wP e bs)) : Sub S (S.frz id (.sl (byts bs))) := sub_frz (hb.trans (congrArg some (rowB_V e bs)))
end Go.Proofs.YtomlhekjgagjaaaDoor
