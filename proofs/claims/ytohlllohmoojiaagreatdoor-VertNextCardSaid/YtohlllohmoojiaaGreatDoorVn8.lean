/- What an operation on vertices asks next, or answers, is as the document says, whatever it was told. (Part 8 of 10.) -/
import Derived.Test.YtohlllohmoojiaaGreatDoorVn7
import Derived.Laws.IdiomRangeMap
import Derived.RangeFuncRecord
namespace Go.Proofs.YtohlllohmoojiaaGreatDoor
open Go Go.RowKit
set_option maxRecDepth 100000
set_option maxHeartbeats 16000000
section
def PV.one : PV → Bool
  | .val v => v.oneCell'
  | _ => false
def PV.plain : PV → Bool
  | .val v => v.oneCell'
  | .agg cs => cs.all PV.one
  | _ => false
def PV.v1 : PV → Value
  | .val v => v
  | _ => undef
def PV.vv : PV → Value
  | .val v => v
  | .agg cs => .agg (cs.map PV.v1).toArray
  | _ => undef
def PV.ofV : Value → PV
  | .agg cs => .agg (cs.toList.map PV.val)
  | v => .val v
theorem rep_one {M : Nat → Nat → Prop} {w : World} {x : PV} (h : x.one = true) : Rep M w x x.v1 ∧ x.v1.oneCell' = true := by
  cases x with
  | val v => exact ⟨.val v, h⟩
  | _ => cases h
theorem rep_plain {M : Nat → Nat → Prop} {w : World} {x : PV} (h : x.plain = true) : Rep M w x x.vv := by
  cases x with
  | val v => exact .val v
  | agg cs =>
    have h1 := List.all_eq_true.1 (show cs.all PV.one = true from h)
    refine .agg cs _ (by simp) (fun i c v hc hv => ?_) fun v hv => ?_
    · rw [List.getElem?_map, hc] at hv
      cases hv
      exact (rep_one (h1 c (List.mem_of_getElem? hc))).1
    · obtain ⟨c, hc, rfl⟩ := List.mem_map.1 hv
      exact (rep_one (M := M) (w := w) (h1 c hc)).2
  | _ => cases h
theorem rep_is {M : Nat → Nat → Prop} {w : World} {x : PV} {v : Value} (h : x.plain = true) (hr : Rep M w x v) : v = x.vv := by
  cases x with
  | val u => exact rep_val hr
  | agg cs =>
    obtain ⟨vs, rfl, hl, he⟩ := rep_agg hr
    have h1 := List.all_eq_true.1 (show cs.all PV.one = true from h)
    show _ = Value.agg (cs.map PV.v1).toArray
    congr 2
    apply List.ext_getElem?
    intro i
    rw [List.getElem?_map]
    cases hc : cs[i]? with
    | none =>
      rw [List.getElem?_eq_none_iff] at hc
      rw [List.getElem?_eq_none (by omega)]
      rfl
    | some c =>
      have hi : i < vs.length := by have := (List.getElem?_eq_some_iff.1 hc).1; omega
      rw [List.getElem?_eq_getElem hi]
      have h2 := he i c vs[i] hc (List.getElem?_eq_getElem hi)
      have h3 := h1 c (List.mem_of_getElem? hc)
      cases c with
      | val u => rw [rep_val h2]; rfl
      | _ => cases h3
  | _ => cases h
abbrev ML := List (Int × PV)
def mget : ML → Int → Option PV
  | [], _ => none
  | (k, x) :: r, j => if k = j then some x else mget r j
structure MapQ (L : ML) (es : Array MapEntry) (clock : Nat) : Prop where
  is : es.toList.map (fun e => (e.key, e.val)) = L.map fun p => (Value.int .u64 p.1, p.2.vv)
  old : ∀ e ∈ es.toList, e.born < clock
  nodup : (es.toList.map (·.born)).Nodup
  keys : (L.map (·.1)).Nodup
  plain : ∀ p ∈ L, p.2.plain = true
def IsMap (L : ML) (_ : Nat) (o : Obj) : Prop := ∃ es clock, o = .map es clock ∧ MapQ L es clock
def mapB (L : ML) : Blk := .obj true (IsMap L)
theorem MapQ.nil : MapQ [] #[] 0 := ⟨rfl, fun e he => by simp at he, by simp, by simp, fun p hp => by cases hp⟩
theorem mget_mem : ∀ {L : ML} {j : Int} {x : PV}, mget L j = some x → (j, x) ∈ L
  | (k, y) :: r, j, x, h => by
    by_cases hk : k = j
    · subst hk; simp [mget] at h; simp [h]
    · simp only [mget, hk, if_false] at h
      exact List.mem_cons_of_mem _ (mget_mem h)
section
variable {P : Program} {w : World} {t e key : Nat}
end
section
variable {P : Program} {w : World} {t e key : Nat}
end
section
variable {P : Program} {n : Nat} {o : Oper} {S : AS} {d : Nat} {t : TypeId} {x y : Operand}
theorem w_makeMap (ho : o.op = .makeMap t none) (hd : o.dst = some d) (hn : d < n) : zV P n o S [] (.own d) (some (mapB [])) :=
  zV.made hd hn fun S2 hg _ M w0 ρ a w hs => by
    refine ⟨.map (some w.heap.size), w.alloc (.map #[] 0), ?_, World.grownBy_alloc w _ none, fun k hk => ?_, ?_, .inl rfl⟩
    · unfold execOp
      rw [ho]
      simp [Instr.makeMap, newObj, Sem.run]
    · simp only [yX, Option.some.injEq] at hk; omega
    · exact ⟨w.heap.size, .map #[] 0, rfl, Nat.zero_le _, by rw [heap_alloc_new], _, _, rfl, MapQ.nil⟩
theorem Sat.mapAt {M : Nat → Nat → Prop} {w0 : Home} {w : World} {ρ : Nat → Value} {a : Act} (hs : Sat M n w0 S ρ a w) {x : Operand} {id : Nat} {Q : Nat → Obj → Prop} {L : ML} (hx : S.get x = .own id) (hb : S.blk id = some (.obj true Q)) (hQ : ∀ g o, Q g o → IsMap L g o) :
    ∃ m es clock, a.eval x = .map (some m) ∧ ρ id = .map (some m) ∧ w.heap[m]? = some (.map es clock) ∧ MapQ L es clock ∧ Q m (.map es clock) := by
  have h1 := hs.rep x
  rw [hx] at h1
  have h2 := qB h1
  obtain ⟨g, o, h3, _, h4, h5⟩ := hs.blks id _ hb
  obtain ⟨es, clock, rfl, h6⟩ := hQ g o h5
  exact ⟨g, es, clock, by rw [h2, h3]; rfl, by rw [h3]; rfl, h4, h6, h5⟩
end
def mapAt (m : Nat) (es : Array MapEntry) (clock : Nat) : Blk := .obj true fun g o => g = m ∧ o = .map es clock
section
variable {P : Program} {n : Nat} {o : Oper} {S : AS} {d : Nat} {t : TypeId} {x y : Operand}
end
end
section
structure MapQI (L : ML) (es : Array MapEntry) (clock : Nat) : Prop where
  is : es.toList.map (fun e => (e.key, e.val)) = L.map fun p => (Value.int .i64 p.1, p.2.vv)
  plain : ∀ p ∈ L, p.2.plain = true
def IsMapI (L : ML) (_ : Nat) (o : Obj) : Prop := ∃ es clock, o = .map es clock ∧ MapQI L es clock
def mapBI (L : ML) : Blk := .obj true (IsMapI L)
theorem entries_consI {L : ML} {l : List MapEntry} (h : l.map (fun e => (e.key, e.val)) = L.map fun p => (Value.int .i64 p.1, p.2.vv)) : (l = [] ∧ L = []) ∨ ∃ e l' k x L', l = e :: l' ∧ L = (k, x) :: L' ∧ e.key = .int .i64 k ∧ e.val = x.vv ∧ l'.map (fun e => (e.key, e.val)) = L'.map fun p => (Value.int .i64 p.1, p.2.vv) := by
  cases l with
  | nil => cases L with
    | nil => exact .inl ⟨rfl, rfl⟩
    | cons => simp at h
  | cons e l' => cases L with
    | nil => simp at h
    | cons p L' =>
      simp only [List.map_cons, List.cons.injEq, Prod.mk.injEq] at h
      exact .inr ⟨e, l', p.1, p.2, L', rfl, rfl, h.1.1, h.1.2, h.2⟩
theorem findNow_mapI (j : Int) : ∀ (l : List MapEntry) (L : ML) (i : Nat), l.map (fun e => (e.key, e.val)) = L.map (fun p => (Value.int .i64 p.1, p.2.vv)) →
    (mget L j = none ∧ Instr.findNow (.int .i64) (.int .i64 j) l i = some none) ∨ ∃ q x, mget L j = some x ∧ Instr.findNow (.int .i64) (.int .i64 j) l i = some (some (i + q, x.vv)) := by
  intro l
  induction l with
  | nil =>
    intro L i h
    rcases entries_consI h with ⟨_, rfl⟩ | ⟨_, _, _, _, _, h, _⟩
    · exact .inl ⟨rfl, rfl⟩
    · cases h
  | cons e l ih =>
    intro L i h
    rcases entries_consI h with ⟨h, _⟩ | ⟨e', l', k, x, L', h1, rfl, h3, h4, h5⟩
    · cases h
    · injection h1 with h1 h2
      subst h1 h2
      by_cases hk : k = j
      · subst hk
        refine .inr ⟨0, x, by simp [mget], ?_⟩
        simp [Instr.findNow, h3, Instr.sameNow, h4]
      · have hk' : (j == k) = false := by simpa using fun h => hk h.symm
        rcases ih L' (i + 1) h5 with ⟨h6, h7⟩ | ⟨q, y, h8, h9⟩
        · refine .inl ⟨by simp [mget, hk, h6], ?_⟩
          simp [Instr.findNow, h3, Instr.sameNow, hk', h7]
        · refine .inr ⟨q + 1, y, by simp [mget, hk, h8], ?_⟩
          have e1 : i + 1 + q = i + (q + 1) := by omega
          simp [Instr.findNow, h3, Instr.sameNow, hk', h9, e1]
section
variable {P : Program} {w : World} {t e key : Nat}
theorem checkKey_intI {key : Nat} (b : Bool) (j : Int) (hk : P.underlying key = some (.int .i64)) : (Instr.checkKey b 10000 key (.int .i64 j)).run P w = .ok () w := by
  unfold Instr.checkKey
  simp [run_underlying hk]
theorem findKey_runI {j : Int} {L : ML} {es : Array MapEntry} {clock : Nat} (hk : P.underlying key = some (.int .i64)) (hQ : MapQI L es clock) :
    (mget L j = none ∧ (Instr.findKey key (.int .i64 j) es.toList).run P w = .ok none w) ∨ ∃ q x, mget L j = some x ∧ (Instr.findKey key (.int .i64 j) es.toList).run P w = .ok (some (q, x.vv)) w := by
  rcases findNow_mapI j es.toList L 0 hQ.is with ⟨h1, h2⟩ | ⟨q, x, h3, h4⟩
  · refine .inl ⟨h1, ?_⟩
    simp [Instr.findKey, run_underlying hk, h2]
  · refine .inr ⟨q, x, h3, ?_⟩
    simp [Instr.findKey, run_underlying hk, h4]
theorem lookup_runI {m : Nat} {j : Int} {L : ML} {es : Array MapEntry} {clock : Nat} {z : Value} (ht : P.underlying t = some (.map key e)) (hk : P.underlying key = some (.int .i64)) (hz : (zeroValue e).run P w = .ok z w) (hb : w.heap[m]? = some (.map es clock)) (hQ : MapQI L es clock) :
    (Instr.lookup t (.map (some m)) (.int .i64 j) true).run P w = .ok (match mget L j with | some x => .tuple #[x.vv, .bool true] | none => .tuple #[z, .bool false]) w := by
  rcases findKey_runI (P := P) (w := w) (j := j) hk hQ with ⟨h1, h2⟩ | ⟨q, x, h1, h2⟩
  · rw [h1]
    simp [Instr.lookup, run_underlying ht, MapKept.run_getObj_map hb, checkKey_intI _ _ hk, h2, hz]
  · rw [h1]
    simp [Instr.lookup, run_underlying ht, MapKept.run_getObj_map hb, checkKey_intI _ _ hk, h2]
theorem insert_runI {m : Nat} {j : Int} {L : ML} {es : Array MapEntry} {clock : Nat} {y : PV} (ht : P.underlying t = some (.map key e)) (hk : P.underlying key = some (.int .i64)) (hb : w.heap[m]? = some (.map es clock)) (hQ : MapQI L es clock) (hy : y.plain = true) (hn : mget L j = none) :
    ∃ es' clock', (Instr.mapUpdate t (.map (some m)) (.int .i64 j) y.vv).run P w = .ok () (w.putObj m (.map es' clock')) ∧ MapQI (L ++ [(j, y)]) es' clock' := by
  have hset : ∀ o, (setObj m o).run P w = .ok () (w.putObj m o) := fun o => by
    simp [setObj, Sem.run, hb, World.putObj]
  rcases findKey_runI (P := P) (w := w) (j := j) hk hQ with ⟨h1, h2⟩ | ⟨q, x, h1, _⟩
  · refine ⟨es.push { key := .int .i64 j, val := y.vv, born := clock }, clock + 1, ?_, ⟨by simp [hQ.is], fun p hp => ?_⟩⟩
    · simp [Instr.mapUpdate, run_underlying ht, MapKept.run_getObj_map hb, checkKey_intI _ _ hk, h2, hset]
    · rcases List.mem_append.1 hp with hp | hp
      · exact hQ.plain p hp
      · simp at hp; subst hp; exact hy
  · rw [hn] at h1; cases h1
end
section
variable {P : Program} {n : Nat} {o : Oper} {S : AS} {d : Nat} {t : TypeId} {x y : Operand}
theorem Sat.mapAtI {M : Nat → Nat → Prop} {w0 : Home} {w : World} {ρ : Nat → Value} {a : Act} (hs : Sat M n w0 S ρ a w) {x : Operand} {id : Nat} {L : ML} (hx : S.get x = .own id) (hb : S.blk id = some (mapBI L)) :
    ∃ m es clock, a.eval x = .map (some m) ∧ ρ id = .map (some m) ∧ w.heap[m]? = some (.map es clock) ∧ MapQI L es clock := by
  have h1 := hs.rep x
  rw [hx] at h1
  have h2 := qB h1
  obtain ⟨g, o, h3, _, h4, es, clock, rfl, h6⟩ := hs.blks id _ hb
  exact ⟨g, es, clock, by rw [h2, h3]; rfl, by rw [h3]; rfl, h4, h6⟩
theorem w_lookupI {k : Operand} {id key e : Nat} {j : Int} {L : ML} {zv : Value} {r : Option PV} [ht : Und P t (.map key e)] [hk : Und P key (.int .i64)] [hz : ZeroA P e zv] (hm : mget L j = r) (ho : o.op = .lookup t x k true) (hx : S.get x = .own id) (hb : S.blk id = some (mapBI L)) (hj : S.get k = .p (.val (.int .i64 j)))
    (hzp : (PV.ofV zv).plain = true) (hzv : (PV.ofV zv).vv = zv) (hd : o.dst = some d) (hn : d < n) : zV P n o S [id] (.tup [.p (r.getD (PV.ofV zv)), .p (.val (.bool r.isSome))]) none :=
  zV.pure hd hn fun S2 hg hbl M w0 ρ a w hs => by
    have hb2 : S2.blk id = some (mapBI L) := (hbl id (by simp)).trans hb
    obtain ⟨m, es, clock, h1, _, h3, h4⟩ := hs.mapAtI (x := x) ((hg x (by rw [ho]; simp [Op.operands])).trans hx) hb2
    have h5 := hs.val ((hg k (by rw [ho]; simp [Op.operands])).trans hj)
    have h6 := lookup_runI (P := P) (w := w) (j := j) (z := zv) ht.h hk.h (hz.h w) h3 h4
    subst hm
    have hz0 : Rep (Mut M S2 ρ) w (PV.ofV zv) zv := by have := rep_plain (M := Mut M S2 ρ) (w := w) hzp; rwa [hzv] at this
    have hr : ∀ u, (Instr.lookup t (.map (some m)) (.int .i64 j) true).run P w = .ok u w → (execOp a.eval o).run P w = .ok (.value u) w := fun u h => by
      unfold execOp
      rw [ho]
      simp only [h1, h5]
      simp [h]
    cases hmm : mget L j with
    | none =>
      rw [hmm] at h6
      refine ⟨_, w, hr _ h6, Below.refl _ _, .tup _ [zv, .bool false] rfl fun i c u hc hu => ?_⟩
      match i with
      | 0 => cases hc; cases hu; exact .p hz0
      | 1 => cases hc; cases hu; exact .p (.val _)
      | i + 2 => cases hc
    | some v =>
      rw [hmm] at h6
      refine ⟨_, w, hr _ h6, Below.refl _ _, .tup _ [v.vv, .bool true] rfl fun i c u hc hu => ?_⟩
      match i with
      | 0 => cases hc; cases hu; exact .p (rep_plain (h4.plain _ (mget_mem hmm)))
      | 1 => cases hc; cases hu; exact .p (.val _)
      | i + 2 => cases hc
theorem w_lookupT {k : Operand} {id key e : Nat} {j : Int} {L : ML} {zv : Value} {v : PV} [ht : Und P t (.map key e)] [hk : Und P key (.int .i64)] [hz : ZeroA P e zv] (hm : mget L j = some v) (ho : o.op = .lookup t x k true) (hx : S.get x = .own id) (hb : S.blk id = some (mapBI L)) (hj : S.get k = .p (.val (.int .i64 j)))
    (hzp : (PV.ofV zv).plain = true) (hzv : (PV.ofV zv).vv = zv) (hd : o.dst = some d) (hn : d < n) : zV P n o S [id] (.tup [.p v, .p (.val (.bool true))]) none := w_lookupI hm ho hx hb hj hzp hzv hd hn
theorem w_lookupF {k : Operand} {id key e : Nat} {j : Int} {L : ML} {zv : Value} [ht : Und P t (.map key e)] [hk : Und P key (.int .i64)] [hz : ZeroA P e zv] (hm : mget L j = none) (ho : o.op = .lookup t x k true) (hx : S.get x = .own id) (hb : S.blk id = some (mapBI L)) (hj : S.get k = .p (.val (.int .i64 j)))
    (hzp : (PV.ofV zv).plain = true) (hzv : (PV.ofV zv).vv = zv) (hd : o.dst = some d) (hn : d < n) : zV P n o S [id] (.tup [.p (PV.ofV zv), .p (.val (.bool false))]) none := w_lookupI hm ho hx hb hj hzp hzv hd hn
theorem s_insertI {k : Operand} {id key e : Nat} {j : Int} {L : ML} {v : PV} [ht : Und P t (.map key e)] [hk : Und P key (.int .i64)] (ho : o.op = .insert t x k y) (hx : S.get x = .own id) (hb : S.blk id = some (mapBI L)) (hj : S.get k = .p (.val (.int .i64 j))) (hy : S.get y = .p v) (hv : v.plain = true) (hm : mget L j = none) (hd : o.dst = none) :
    Step P n o S { S with s := putL S.s id (mapBI (L ++ [(j, v)])) } := by
  intro M w0 ρ a w K Q hs hK
  obtain ⟨m, es, clock, h1, h2, h3, h4⟩ := hs.mapAtI (x := x) hx hb
  have h5 := hs.val hj
  have h6 := hs.rep y
  rw [hy] at h6
  have h7 : a.eval y = v.vv := by
    generalize a.eval y = u at h6
    cases h6 with
    | p h => exact rep_is hv h
  obtain ⟨es', clock', h8, h9⟩ := insert_runI (P := P) (w := w) (j := j) (y := v) ht.h hk.h h3 h4 hv hm
  unfold Oper.wp
  have he : (execOp a.eval o).run P w = .ok .skip (w.putObj m (.map es' clock')) := by
    unfold execOp
    rw [ho]
    simp only [h1, h5, h7]
    simp [h8]
  rw [he]
  show K (a.put o.dst undef) _
  rw [hd]
  have hg : w.grownBy (w.putObj m (.map es' clock')) (some m) := by
    refine ⟨rfl, rfl, rfl, by simp [World.putObj], fun q hq hne => ?_⟩
    exact World.putObj_heap_other fun e => hne (by rw [e])
  exact hK ρ a _ (hs.turn hb (by rw [h2]; rfl) hg (fun _ => trivial) ⟨m, .map es' clock', by rw [h2]; rfl, Nat.zero_le _, World.putObj_heap_same (Array.getElem?_eq_some_iff.1 h3).1, _, _, rfl, h9⟩)
theorem s_insert0 {k : Operand} {id key e : Nat} {j : Int} {v : PV} [ht : Und P t (.map key e)] [hk : Und P key (.int .i64)] (ho : o.op = .insert t x k y) (hx : S.get x = .own id) (hb : S.blk id = some (mapB [])) (hj : S.get k = .p (.val (.int .i64 j))) (hy : S.get y = .p v) (hv : v.plain = true) (hd : o.dst = none) :
    Step P n o S { S with s := putL S.s id (mapBI [(j, v)]) } := by
  intro M w0 ρ a w K Q hs hK
  obtain ⟨m, es, clock, h1, h2, h3, h4, _⟩ := hs.mapAt (x := x) hx hb fun _ _ h => h
  have h5 := hs.val hj
  have h6 := hs.rep y
  rw [hy] at h6
  have h7 : a.eval y = v.vv := by
    generalize a.eval y = u at h6
    cases h6 with
    | p h => exact rep_is hv h
  obtain ⟨es', clock', h8, h9⟩ := insert_runI (P := P) (w := w) (j := j) (y := v) (L := []) ht.h hk.h h3 ⟨h4.is, fun p hp => by cases hp⟩ hv rfl
  unfold Oper.wp
  have he : (execOp a.eval o).run P w = .ok .skip (w.putObj m (.map es' clock')) := by
    unfold execOp
    rw [ho]
    simp only [h1, h5, h7]
    simp [h8]
  rw [he]
  show K (a.put o.dst undef) _
  rw [hd]
  have hg : w.grownBy (w.putObj m (.map es' clock')) (some m) := by
    refine ⟨rfl, rfl, rfl, by simp [World.putObj], fun q hq hne => ?_⟩
    exact World.putObj_heap_other fun e => hne (by rw [e])
  exact hK ρ a _ (hs.turn hb (by rw [h2]; rfl) hg (fun _ => trivial) ⟨m, .map es' clock', by rw [h2]; rfl, Nat.zero_le _, World.putObj_heap_same (Array.getElem?_eq_some_iff.1 h3).1, _, _, rfl, h9⟩)
end
end
section
set_option maxRecDepth 100000
instance ty84 : TyA Tryz.prog 84 false 1 := ⟨fun _ => by kernel_rfl, fun _ => by kernel_rfl⟩
instance ze84 : ZeroA Tryz.prog 84 (Value.nilFunc) := ⟨fun _ => by kernel_rfl⟩
instance ty223 : TyA Tryz.prog 223 false 1 := ⟨fun _ => by kernel_rfl, fun _ => by kernel_rfl⟩
instance bu225 : BuildA Tryz.prog 225 [(0, 1), (1, 1)] := ⟨by kernel_rfl, by kernel_rfl⟩
end
section
attribute [local irreducible] zY zZ Step zV Sub zF zA Fn
def outRN (o : OutN) : AV := .p (qZ o.e o.is o.n o.w)
end
section
attribute [local irreducible] zY zZ Step zV Sub zF zA Fn zK zI
def fnB (f : FuncId) : Blk := .box 84 [.p (.val (.func (.func f) #[] #[]))]
def bkV (H : Hnd) (f : FuncId) (t me k : Int) : List Blk := [fnB f, doB H, yL t, yL me, wordB k]
def vopOf (f : FuncId) (t me k : Int) : Pr OutB := if f = 41 then vaddP t me k else if f = 42 then vremP t k else vhasP t k
def IsOp (f : FuncId) : Prop := f = 41 ∨ f = 42 ∨ f = 43
theorem fine_vopOf {f : FuncId} (t me : Int) {k : Int} (hU : U k) : (vopOf f t me k).yV AltOK := by
  unfold vopOf
  split
  · exact fine_vadd t me hU
  · split
    · exact fine_vrem t k
    · exact fine_vhas t k
theorem vopOf_h (H : Hnd) (s0 : H.σ) {f : FuncId} (hf : IsOp f) {t me k : Int} (ht : Small t) (h0 : 0 ≤ t) (hm : Small me) (hU : U k) : FnH H f [.ag (workC H t me k)] [] outBV (fun _ => []) AltOK s0 (vopOf f t me k) := by
  rcases hf with rfl | rfl | rfl
  · exact vadd_h H s0 ht h0 hm hU
  · exact vrem_h H s0 ht
  · exact vhas_h H s0 ht
theorem isOp_has {f : FuncId} (h : IsOp f) : HasFn Tryz.prog f := by
  rcases h with rfl | rfl | rfl <;> infer_instance
theorem next11V_h (H : Hnd) (s0 : H.σ) {f : FuncId} (hf : IsOp f) {t me k : Int} (ht : Small t) (h0 : 0 ≤ t) (hm : Small me) (hU : U k) : FnH H 46 [.ptr 1003 0, .ptr 1004 0, .ptr 1005 0, .ptr 1006 0, .ptr 1007 0] (bkV H f t me k) outBV (fun _ => bkV H f t me k) AltOK s0 (vopOf f t me k) := by
  have := isOp_has hf
  unfold bkV fnB doB yL wordB Hnd.doA
  refine yO Tryz.func46 rfl Tryz.ntmps46 (Nat.le_of_ble_eq_true rfl) (by decide) (fine_vopOf t me hU) fun hok hns => ?_
  repeat' (first | (refine zY.is ?_; first | refine zY.nil ?_ | (refine zY.at_ 14 rfl ?_; refine zY.rc (.v yZ (.v yZ (.w zO (.v zW .e)))) ?_) | (refine zY.in_ [13] rfl ?_; refine zY.ofT rfl (zA.hd (i := []) (f := vopOf_h H _ hf ht h0 hm hU) (r := fun x s e g hk => ?_) (p := fun q s e => ?_) (t := ?_)))) | (refine zZ.is ?_; first | refine zZ.seq ?_ | (refine zZ.iR 0 ?_; refine zZ.rc [0, 1, 2, 3, 4] [5, 1000, 1001, 1002, 1003, 1004, 1005, 1006, 1007] (r := (.m zT (.v zW .e))) (h := ?_)) | (refine zZ.iR 1 ?_; refine zZ.rc [0, 1, 2, 3, 4, 5, 6] [5, 1000, 1001, 1002, 1003, 1004, 1005, 1006, 1007] (r := (.v zL (.v vQ (.v zL (.v zL (.v zL (.v v10_2 .e))))))) (h := ?_)) | refine zZ.ret ?_) | refine zK.n ?_ | refine zK.p ?_)
  all_goals (first | exact fun e => hns (by clear hns; simp only [run_bind, zD, zB, Held.zQ, Held.zC, Held.zJ, cond_true, cond_false, *]) | exact .pan (q := q) rfl aQ_ (by repeat' first | exact trivial | exact ⟨_, rfl, rfl⟩ | constructor) (by simp only [run_bind, zD, zB, Held.zQ, Held.zC, Held.zJ, cond_true, cond_false, *]) | exact .ret (x := x) (by exact .inl rfl) (by exact .tup rfl (by decide) (.cons (.cellN rfl rfl (by rfl) (by rfl)) (.cons (.tmp rfl) .nil))) aQ_ (by simp only [run_bind, zD, zB, Held.zQ, Held.zC, Held.zJ, cond_true, cond_false, *] <;> rfl))
theorem u1_U : U 1 := by unfold U; decide
theorem in_h (H : Hnd) (s0 : H.σ) {f : FuncId} (hf : IsOp f) {t me k : Int} (ht : Small t) (h0 : 0 ≤ t) (hm : Small me) (hU : U k) : FnH H 45 [H.doA, .p (.val (.int .i64 me)), .clo 46 [1003, 1004, 1005, 1006, 1007]] (bkV H f t me k) outRN (fun _ => bkV H f t me k) yes s0 (inP me (vopOf f t me k)) := by
  unfold bkV Hnd.doA
  refine yO Tryz.func45 rfl Tryz.ntmps45 (Nat.le_of_ble_eq_true rfl) (by decide) (fine_in me (fine_vopOf t me hU)) fun hok hns => ?_
  repeat' (first | (refine zY.is ?_; first | refine zY.nil ?_ | (refine zY.at_ 11 rfl ?_; refine zY.rc (.v kE .e) ?_) | (refine zY.at_ 16 rfl ?_; refine zY.rc (.v wW (.v yZ (.v yZ (.m zT (.w zO (.v zW .e)))))) ?_) | (refine zY.in_ [10] rfl ?_; refine zY.ofT rfl (zA.hd (i := []) (f := qM H _ 7) (r := fun x s e g hk => ?_) (p := fun q s e => ?_) (t := ?_))) | (refine zY.in_ [15] rfl ?_; refine zY.ofT rfl (zA.hd (i := []) (f := pin_h H _ hm) (r := fun x s e g hk => ?_) (p := fun q s e => ?_) (t := ?_))) | (refine zY.in_ [18] rfl ?_; refine zY.ofT rfl (zA.hd (i := [1003, 1004, 1005, 1006, 1007]) (f := next11V_h H _ hf ht h0 hm hU) (r := fun x s e g hk => ?_) (p := fun q s e => ?_) (t := ?_))) | (refine zY.in_ [24] rfl ?_; refine zY.ofT rfl (zA.hd (i := []) (f := kJ H _ 7 1 u1_U) (r := fun x s e g hk => ?_) (p := fun q s e => ?_) (t := ?_))) | (refine zY.in_ [28] rfl ?_; refine zY.ofT rfl (zA.hd (i := []) (f := unpin_h H _ hm) (r := fun x s e g hk => ?_) (p := fun q s e => ?_) (t := ?_)))) | (refine zZ.is ?_; first | refine zZ.seq ?_ | (refine zZ.iR 0 ?_; refine zZ.rc [0, 1, 2] [6, 7, 1000, 1001, 1002, 1003, 1004, 1005, 1006, 1007] (r := (.m zT .e)) (h := ?_)) | (refine zZ.iR 1 ?_; refine zZ.rc [0, 1, 2, 6] [6, 7, 1000, 1001, 1002, 1003, 1004, 1005, 1006, 1007] (r := (.v xI .e)) (h := ?_)) | (refine zZ.iR 2 ?_; refine zZ.rc [0, 1, 2, 6] [6, 7, 1000, 1001, 1002, 1003, 1004, 1005, 1006, 1007] (r := (.v yD (.w zO .e))) (h := ?_)) | (refine zZ.iR 3 ?_; refine zZ.rc [0, 1, 2, 6] [6, 7, 1000, 1001, 1002, 1003, 1004, 1005, 1006, 1007] (r := (.v xI (.v zX .e))) (h := ?_)) | (refine zZ.iR 4 ?_; refine zZ.rc [0, 1, 2, 6] [6, 7, 1000, 1001, 1002, 1003, 1004, 1005, 1006, 1007] (r := (.v xI .e)) (h := ?_)) | (refine zZ.iR 5 ?_; refine zZ.rc [0, 1, 6, 7, 8] [6, 7, 1000, 1001, 1002, 1003, 1004, 1005, 1006, 1007] (r := (.v zX (.v wU .e))) (h := ?_)) | (refine zZ.iR 6 ?_; refine zZ.rc [0, 1, 6, 7] [6, 7, 1000, 1001, 1002, 1003, 1004, 1005, 1006, 1007] (r := (.v xI .e)) (h := ?_)) | (refine zZ.iR 7 ?_; refine zZ.rc [0, 1, 6, 7] [6, 7, 1000, 1001, 1002, 1003, 1004, 1005, 1006, 1007] (r := (.v yD (.w zO .e))) (h := ?_)) | (refine zZ.iR 8 ?_; refine zZ.rc [0, 1, 6, 7] [6, 7, 1000, 1001, 1002, 1003, 1004, 1005, 1006, 1007] (r := (.v xI (.v zX .e))) (h := ?_)) | (refine zZ.iR 9 ?_; refine zZ.rc [6, 7] [6, 7, 1000, 1001, 1002, 1003, 1004, 1005, 1006, 1007] (r := (.v xC (.w zO .e))) (h := ?_)) | refine zZ.cond rfl (fun h => ?_) (fun h => ?_) | refine zZ.skip ?_ | refine zZ.ret ?_) | refine zK.n ?_ | refine zK.r ?_ | refine zK.p ?_)
  all_goals try simp only [Bool.not_eq_true', Bool.not_eq_false'] at *
  all_goals first
    | exact .ret (x := ⟨6, false, 0, 0⟩) (.inl rfl) (.p rfl (.cellN rfl rfl (by rfl) (by rfl))) aQ_ (by simp only [inP, run_bind, zD, zB, Held.zQ, cond_true, cond_false, *, Bool.not_false])
    | exact .ret (x := ⟨7, false, 0, 0⟩) (.inl rfl) (.p rfl (.cellN rfl rfl (by rfl) (by rfl))) aQ_ (by simp only [inP, leaveP, run_bind, zD, zB, Held.zQ, cond_true, cond_false, *, Bool.not_true])
    | skip
  all_goals (first | exact fun e => hns (by clear hns; simp only [inP, leaveP, Bool.not_true, run_bind, zD, zB, Held.zQ, Held.zC, Held.zJ, cond_true, cond_false, *]) | exact .pan (q := q) rfl aQ_ (by repeat' first | exact trivial | exact ⟨_, rfl, rfl⟩ | constructor) (by simp only [inP, leaveP, Bool.not_true, run_bind, zD, zB, Held.zQ, Held.zC, Held.zJ, cond_true, cond_false, *]) | skip)
  rename_i w0 sa ea ga ha0 u1 sb eb gb hb0 o sc ec gc hc0 hz
  have ha : o.alt = o.is := gc h
  rw [ha]
  exact .ret (x := ⟨o.e, o.is, 0, 0⟩) (s' := s) (.inl rfl) (.p rfl (.cellN rfl rfl (by rfl) (by rfl))) aQ_ (by simp only [inP, leaveP, run_bind, zD, zB, Held.zQ, cond_true, cond_false, *, Bool.not_true])
def fV (f : FuncId) : PV := .val (.func (.func f) #[] #[])
def doesL : ML := [(11, fV 41), (12, fV 42), (13, fV 43)]
theorem nextV1_h (H : Hnd) (s0 : H.σ) {t me k u v w : Int} (ht : Small t) (h0 : 0 ≤ t) (hm : Small me) : FnH H 40 [H.doA, .ptr 1003 0, .ptr 1004 0, .ptr 1005 0] [opB k u v w, yL me, yL t] outRN (fun _ => [opB k u v w, yL me, yL t]) yes s0 (qW t me k u) := by
  have cv := vertex_fn u
  have hU := vkF_U u
  have fin : ∀ f, IsOp f → (k = 11 ∧ f = 41 ∨ k = 12 ∧ f = 42 ∨ k = 13 ∧ f = 43) → vOK u = true → qW t me k u = inP me (vopOf f t me (vkF u)) := fun f _ h hu => by
    unfold qW vopB vopOf
    rw [hu]
    rcases h with ⟨rfl, rfl⟩ | ⟨rfl, rfl⟩ | ⟨rfl, rfl⟩ <;> rfl
  unfold Hnd.doA opB yL
  refine yO Tryz.func40 rfl Tryz.ntmps40 (Nat.le_of_ble_eq_true rfl) (by decide) (fine_vop t me k u) fun hok hns => ?_
  by_cases hk3 : k = 11 ∨ k = 12 ∨ k = 13
  case neg =>
    have hg : mget doesL k = none := by
      unfold doesL mget mget mget mget
      rw [if_neg (by omega), if_neg (by omega), if_neg (by omega)]
    repeat' (first | refine zY.w rfl (s_insert0 rfl rfl rfl rfl rfl rfl rfl) ?_ | refine zY.w rfl (s_insertI rfl rfl rfl rfl rfl rfl (by rfl) rfl) ?_ | (refine zY.at_ 17 rfl ?_; refine zY.v rfl rfl (w_lookupF hg rfl rfl rfl rfl rfl rfl rfl (by decide)) ?_) | (refine zY.is ?_; first | refine zY.nil ?_ | (refine zY.at_ 12 rfl ?_; refine zY.rc (.v v0_1 (.v v1_1 .e)) ?_) | (refine zY.at_ 13 rfl ?_; refine zY.rc (.v wW (.v yZ (.v yZ (.m zT (.w zO (.v zW .e)))))) ?_)) | (refine zZ.is ?_; first | refine zZ.seq ?_ | (refine zZ.iR 0 ?_; refine zZ.rc [0, 1, 2, 3] [4, 5, 7, 9, 11, 1000, 1001, 1002, 1003, 1004, 1005] (r := (.m m18_3 (.m zT .e))) (h := ?_)) | (refine zZ.iR 1 ?_; refine zZ.rc [1, 2, 3, 4, 5] [4, 5, 7, 9, 11, 1000, 1001, 1002, 1003, 1004, 1005] (r := (.m m22_0 .e)) (h := ?_)) | (refine zZ.iR 2 ?_; refine zZ.rc [1, 2, 3, 4, 5, 6] [4, 5, 7, 9, 11, 1000, 1001, 1002, 1003, 1004, 1005] (r := (.v v0_1 (.v zH (.v zL .e)))) (h := ?_)) | (refine zZ.iR 3 ?_; refine zZ.rc [1, 2, 3, 4, 5, 7, 8] [4, 5, 7, 9, 11, 1000, 1001, 1002, 1003, 1004, 1005] (r := (.v zX (.v qI .e))) (h := ?_)) | (refine zZ.iR 4 ?_; refine zZ.rc [1, 2, 3, 4, 5, 7] [4, 5, 7, 9, 11, 1000, 1001, 1002, 1003, 1004, 1005] (r := (.v yD (.w zO .e))) (h := ?_)) | refine zZ.yB rfl bA ?_ | refine zZ.ret ?_) | refine zK.n ?_ | refine zK.r ?_)
    all_goals exact .ret (x := ⟨1, false, 0, 0⟩) (s' := s0) (.inl rfl) (.p rfl (.cellN rfl rfl (by rfl) (by rfl))) aQ_ (by unfold qW; rw [decide_eq_false (by omega), decide_eq_false (by omega), decide_eq_false (by omega)]; rfl)
  case pos =>
    obtain ⟨f, hf, hkf, hg⟩ : ∃ f, IsOp f ∧ (k = 11 ∧ f = 41 ∨ k = 12 ∧ f = 42 ∨ k = 13 ∧ f = 43) ∧ mget doesL k = some (fV f) := by
      rcases hk3 with rfl | rfl | rfl
      · exact ⟨_, .inl rfl, .inl ⟨rfl, rfl⟩, rfl⟩
      · exact ⟨_, .inr (.inl rfl), .inr (.inl ⟨rfl, rfl⟩), rfl⟩
      · exact ⟨_, .inr (.inr rfl), .inr (.inr ⟨rfl, rfl⟩), rfl⟩
    cases hu : vOK u
    case false =>
      have hE : vkE u = 4 := by unfold vkE; rw [hu]; rfl
      rw [hE] at cv
      repeat' (first | refine zY.w rfl (s_insert0 rfl rfl rfl rfl rfl rfl rfl) ?_ | refine zY.w rfl (s_insertI rfl rfl rfl rfl rfl rfl (by rfl) rfl) ?_ | (refine zY.at_ 17 rfl ?_; refine zY.v rfl rfl (w_lookupT hg rfl rfl rfl rfl rfl rfl rfl (by decide)) ?_) | (refine zY.is ?_; first | refine zY.nil ?_ | (refine zY.at_ 12 rfl ?_; refine zY.rc (.v v0_1 (.v v1_1 .e)) ?_) | (refine zY.at_ 13 rfl ?_; refine zY.rc (.v wW (.v yZ (.v yZ (.m zT (.w zO (.v zW .e)))))) ?_) | (refine zY.at_ 23 rfl ?_; refine zY.rc (.v wW (.v yZ (.v yZ (.m zT (.w zO (.v zW .e)))))) ?_) | (refine zY.in_ [26] rfl ?_; refine zY.v rfl rfl (yR (cv) rfl rfl rfl (by decide)) ?_)) | (refine zZ.is ?_; first | refine zZ.seq ?_ | (refine zZ.iR 0 ?_; refine zZ.rc [0, 1, 2, 3] [4, 5, 7, 9, 11, 1000, 1001, 1002, 1003, 1004, 1005] (r := (.m m18_3 (.m zT .e))) (h := ?_)) | (refine zZ.iR 1 ?_; refine zZ.rc [1, 2, 3, 4, 5] [4, 5, 7, 9, 11, 1000, 1001, 1002, 1003, 1004, 1005] (r := (.m m22_0 .e)) (h := ?_)) | (refine zZ.iR 2 ?_; refine zZ.rc [1, 2, 3, 4, 5, 6] [4, 5, 7, 9, 11, 1000, 1001, 1002, 1003, 1004, 1005] (r := (.v v0_1 (.v zH (.v zL .e)))) (h := ?_)) | (refine zZ.iR 3 ?_; refine zZ.rc [1, 2, 3, 4, 5, 7, 8] [4, 5, 7, 9, 11, 1000, 1001, 1002, 1003, 1004, 1005] (r := (.v zX (.v vS .e))) (h := ?_)) | (refine zZ.iR 5 ?_; refine zZ.rc [1, 2, 3, 4, 5, 7] [4, 5, 7, 9, 11, 1000, 1001, 1002, 1003, 1004, 1005] (r := (.v zH (.v zL .e))) (h := ?_)) | (refine zZ.iR 6 ?_; refine zZ.rc [2, 3, 4, 5, 7, 9, 10] [4, 5, 7, 9, 11, 1000, 1001, 1002, 1003, 1004, 1005] (r := (.v zX (.v v42_4 .e))) (h := ?_)) | (refine zZ.iR 7 ?_; refine zZ.rc [2, 3, 4, 5, 7, 9, 10] [4, 5, 7, 9, 11, 1000, 1001, 1002, 1003, 1004, 1005] (r := (.v zX (.v yD (.w zO .e)))) (h := ?_)) | refine zZ.yB rfl bA ?_ | refine zZ.yA rfl bA ?_ | refine zZ.skip ?_ | refine zZ.ret ?_) | refine zK.n ?_ | refine zK.r ?_)
      all_goals exact .ret (x := ⟨4, false, 0, 0⟩) (s' := s0) (.inl rfl) (.p rfl (.cellN rfl rfl (by rfl) (by rfl))) aQ_ (by unfold qW; rw [hu]; rcases hk3 with rfl | rfl | rfl <;> rfl)
    case true =>
      have hE : vkE u = 0 := by unfold vkE; rw [hu]; rfl
      rw [hE] at cv
      rw [fin f hf hkf hu] at hns ⊢
      repeat' (first | refine zY.w rfl (s_insert0 rfl rfl rfl rfl rfl rfl rfl) ?_ | refine zY.w rfl (s_insertI rfl rfl rfl rfl rfl rfl (by rfl) rfl) ?_ | (refine zY.at_ 17 rfl ?_; refine zY.v rfl rfl (w_lookupT hg rfl rfl rfl rfl rfl rfl rfl (by decide)) ?_) | (refine zY.is ?_; first | refine zY.nil ?_ | (refine zY.at_ 12 rfl ?_; refine zY.rc (.v v0_1 (.v v1_1 .e)) ?_) | (refine zY.at_ 13 rfl ?_; refine zY.rc (.v wW (.v yZ (.v yZ (.m zT (.w zO (.v zW .e)))))) ?_) | (refine zY.at_ 23 rfl ?_; refine zY.rc (.v wW (.v yZ (.v yZ (.m zT (.w zO (.v zW .e)))))) ?_) | refine zY.rc (.w zO .e) ?_ | (refine zY.in_ [26] rfl ?_; refine zY.v rfl rfl (yR (cv) rfl rfl rfl (by decide)) ?_) | (refine zY.in_ [36] rfl ?_; refine zY.ofT rfl (zA.hd (i := [7, 4, 1005, 1004, 9]) (f := in_h H _ hf ht h0 hm hU) (r := fun x s e g hk => ?_) (p := fun q s e => ?_) (t := ?_)))) | (refine zZ.is ?_; first | refine zZ.seq ?_ | (refine zZ.iR 0 ?_; refine zZ.rc [0, 1, 2, 3] [4, 5, 7, 9, 11, 1000, 1001, 1002, 1003, 1004, 1005] (r := (.m m18_3 (.m zT .e))) (h := ?_)) | (refine zZ.iR 1 ?_; refine zZ.rc [1, 2, 3, 4, 5] [4, 5, 7, 9, 11, 1000, 1001, 1002, 1003, 1004, 1005] (r := (.m m22_0 .e)) (h := ?_)) | (refine zZ.iR 2 ?_; refine zZ.rc [1, 2, 3, 4, 5, 6] [4, 5, 7, 9, 11, 1000, 1001, 1002, 1003, 1004, 1005] (r := (.v v0_1 (.v zH (.v zL .e)))) (h := ?_)) | (refine zZ.iR 3 ?_; refine zZ.rc [1, 2, 3, 4, 5, 7, 8] [4, 5, 7, 9, 11, 1000, 1001, 1002, 1003, 1004, 1005] (r := (.v zX (.v vS .e))) (h := ?_)) | (refine zZ.iR 5 ?_; refine zZ.rc [1, 2, 3, 4, 5, 7] [4, 5, 7, 9, 11, 1000, 1001, 1002, 1003, 1004, 1005] (r := (.v zH (.v zL .e))) (h := ?_)) | (refine zZ.iR 6 ?_; refine zZ.rc [2, 3, 4, 5, 7, 9, 10] [4, 5, 7, 9, 11, 1000, 1001, 1002, 1003, 1004, 1005] (r := (.v zX (.v v42_5 .e))) (h := ?_)) | (refine zZ.iR 8 ?_; refine zZ.rc [2, 3, 4, 5, 7, 9] [4, 5, 7, 9, 11, 1000, 1001, 1002, 1003, 1004, 1005] (r := (.v vQ (.v zL (.v v14_0 .e)))) (h := ?_)) | refine zZ.yA rfl bA ?_ | refine zZ.skip ?_ | refine zZ.ret ?_) | refine zK.n ?_ | refine zK.p ?_)
      all_goals (first | exact fun e => hns (by clear hns; simp only [run_bind, zD, zB, Held.zQ, Held.zC, Held.zJ, cond_true, cond_false, *]) | exact .pan (q := q) rfl aQ_ (by repeat' first | exact trivial | exact ⟨_, rfl, rfl⟩ | constructor) (by simp only [run_bind, zD, zB, Held.zQ, Held.zC, Held.zJ, cond_true, cond_false, *]) | exact .ret (x := x) (by exact .inl rfl) (by exact .p rfl (.cellN rfl rfl (by rfl) (by rfl))) aQ_ (by simp only [run_bind, zD, zB, Held.zQ, Held.zC, Held.zJ, cond_true, cond_false, *] <;> rfl))
end
section
attribute [local irreducible] zY zZ Step zV Sub zF zA Fn
def runVS (k u v w me t : Int) (L : List yQ) : AS := { t := [(6, .ptr 6 0), (5, .ptr 5 0), (4, .ptr 4 0), (3, .ptr 3 0), (0, .clo 40 [1000, 1001, 1002]), (1, .p (logV L))], s := [(6, isB false), (5, wS 0 false 0 0), (4, accB 0 0 0 0 xZ), (3, logB L), (1000, opB k u v w), (1001, yL me), (1002, yL t)] }
def runVT : List (Nat × AV) := [(0, .clo 40 [1004, 1005, 1006]), (3, .ptr 1000 0), (4, .ptr 1001 0), (5, .ptr 1002 0), (6, .ptr 1003 0)]
theorem runV_done (L : List yQ) (hL : xB L) {t me k u v w : Int} (ht : Small t) (h0 : 0 ≤ t) (hm : Small me) {o : OutN} {j : Nat} (hr : (qW t me k u).run (y9 L) 0 = .done o j) :
    FnE Tryz.prog 26 [.clo 40 [1000, 1001, 1002], .p (logV L)] [opB k u v w, yL me, yL t] (.ret (.tup ([accV 0 0 0 0 xZ, qZ o.e o.is o.n o.w, .val (.bool true)].map .p))) [opB k u v w, yL me, yL t] := by
  have hn := (nextV1_h (hLog L hL) (0 : Nat) (k := k) (u := u) (v := v) (w := w) ht h0 hm).done (Nat.zero_le _) hr
  have hn2 : FnE Tryz.prog 40 [.clo 74 [1000, 1001], .ptr 1003 0, .ptr 1004 0, .ptr 1005 0] [atB 0, logB L, isB false, opB k u v w, yL me, yL t] (.ret (outRN o)) [atB j, logB L, isB false, opB k u v w, yL me, yL t] := hn.2.2
  refine fn_ofD (S1 := runVS k u v w me t L) (ids := [3, 4, 5, 6, 1000, 1001, 1002]) (Bi := [logB L, accB 0 0 0 0 xZ, wS 0 false 0 0, isB false, opB k u v w, yL me, yL t]) (Bi' := [logB L, accB 0 0 0 0 xZ, wS o.e o.is o.n o.w, isB true, opB k u v w, yL me, yL t]) (T := runVT) (dj := [1001, 1002, 1003])
    Tryz.func26 rfl Tryz.ntmps26 (Nat.le_of_ble_eq_true rfl) (by decide) ?_ rfl rfl (by decide) rfl (by rfl) rfl rfl rfl (by rfl) (by rfl) (qG (by decide) rfl aQ_) rfl rfl rfl (by
      intro p hp
      simp only [runVT, List.mem_cons, List.not_mem_nil, or_false] at hp
      rcases hp with rfl | rfl | rfl | rfl | rfl <;> exact ⟨rfl, by decide⟩) ?_ rfl rfl (x9 aQ_)
  case refine_1 =>
    repeat' (first | (refine zY.nil ?_) | (refine zZ.is ?_; (refine zZ.iR 0 ?_; refine zZ.rc [0, 1] [3, 4, 5, 6, 7, 1000, 1001, 1002] (r := (.m m18_2 (.m zT (.m zT (.m zT .e))))) (h := ?_))))
    exact ⟨rfl, rfl⟩
  case refine_2 =>
    unfold runVT
    repeat' (first | (refine zY.is ?_; first | refine zY.nil ?_ | refine zY.rc (.w zO .e) ?_ | (refine zY.in_ [11] rfl ?_; refine zY.ofT rfl (zA.eR [7, 1000, 1003, 1004, 1005, 1006] (hn2) ?_))) | (refine zZ.is ?_; first | refine zZ.seq ?_ | (refine zZ.iR 2 ?_; refine zZ.rc [0, 3, 4, 5, 6] [3, 4, 5, 6, 7, 1000, 1001, 1002, 1003, 1004, 1005, 1006] (r := (.m zT (.w zO .e))) (h := ?_)) | (refine zZ.iR 3 ?_; refine zZ.rc [0, 3, 4, 5, 6, 7] [3, 4, 5, 6, 7, 1000, 1001, 1002, 1003, 1004, 1005, 1006] (r := (.v xI (.v v14_0 .e))) (h := ?_)) | (refine zZ.iR 4 ?_; refine zZ.rk [4, 5, 6] [3, 4, 5, 6, 7, 1000, 1001, 1002, 1003, 1004, 1005, 1006] ?_; refine zZ.drawGo (by kernel_rfl) ?_) | refine zZ.ret ?_) | (refine DGo.at_ [] ?_; refine DGo.all [0, 1] (by kernel_rfl) ?_) | (refine DGo.at_ [1] ?_; refine DGo.all [0] (by kernel_rfl) ?_) | (refine DGo.at_ [0, 1] ?_; refine DGo.all [2] (by kernel_rfl) ?_) | (refine DGo.at_ [2, 0, 1] ?_; refine DGo.all [3] (by kernel_rfl) ?_) | (refine DGo.at_ [3, 2, 0, 1] ?_; refine DGo.all [4] (by kernel_rfl) ?_) | (refine DGo.at_ [4, 3, 2, 0, 1] ?_; refine DGo.fin (by kernel_rfl) ?_) | (refine DGo.at_ [0] ?_; refine DGo.all [1, 2] (by kernel_rfl) ?_) | (refine DGo.at_ [2, 0] ?_; refine DGo.all [1] (by kernel_rfl) ?_) | (refine DGo.at_ [1, 2, 0] ?_; refine DGo.all [3] (by kernel_rfl) ?_) | (refine DGo.at_ [3, 1, 2, 0] ?_; refine DGo.all [4] (by kernel_rfl) ?_) | (refine DGo.at_ [4, 3, 1, 2, 0] ?_; refine DGo.fin (by kernel_rfl) ?_) | (refine DGo.at_ [1, 0] ?_; refine DGo.all [2] (by kernel_rfl) ?_) | (refine DGo.at_ [2, 1, 0] ?_; refine DGo.all [3] (by kernel_rfl) ?_) | (refine DGo.at_ [3, 2, 1, 0] ?_; refine DGo.all [4] (by kernel_rfl) ?_) | (refine DGo.at_ [4, 3, 2, 1, 0] ?_; refine DGo.fin (by kernel_rfl) ?_) | refine zP.cons ?_ ?_ | exact zP.nil | (refine zS.at_ 0 ?_; refine zS.v rfl rfl rfl (w_build rfl (by rfl) (by rfl) (by rfl) (by rfl) rfl (by decide)) ?_) | (refine zS.at_ 1 ?_; refine zS.v rfl rfl rfl (xX rfl rfl rfl (by rfl) (by rfl) rfl (by decide)) ?_) | (refine zS.at_ 2 ?_; refine zS.w rfl rfl (by exact y8 rfl rfl rfl rfl rfl (by rfl) (by exact Nat.le_of_ble_eq_true rfl) rfl rfl) ?_) | (refine zS.at_ 3 ?_; refine zS.w rfl rfl (by exact y8 rfl rfl rfl rfl rfl (by rfl) (by exact Nat.le_of_ble_eq_true rfl) rfl rfl) ?_) | (refine zS.at_ 4 ?_; refine zS.w rfl rfl (by exact y8 rfl rfl rfl rfl rfl (by rfl) (by exact Nat.le_of_ble_eq_true rfl) rfl rfl) ?_))
    all_goals exact ⟨_, _, _, run1_none o.e o.is o.n o.w true, .inl ⟨rfl, by first | exact .inl rfl | exact .inr rfl⟩, qG (by decide) rfl aQ_, rfl, rfl, .tup rfl (by decide) (.cons (.cellN rfl rfl (by rfl) (by rfl)) (.cons (.cellN rfl rfl (by rfl) (by rfl)) (.cons (.cell1 rfl rfl rfl) .nil))), x9 aQ_⟩
theorem runV_need (L : List yQ) (hL : xB L) {t me k u v w : Int} (ht : Small t) (h0 : 0 ≤ t) (hm : Small me) {q : Ned} {j : Nat} (hr : (qW t me k u).run (y9 L) 0 = .need q j) :
    FnE Tryz.prog 26 [.clo 40 [1000, 1001, 1002], .p (logV L)] [opB k u v w, yL me, yL t] (.ret (.tup ([accQ q, qZ 0 false 0 0, .val (.bool false)].map .p))) [(opB k u v w).forget, (yL me).forget, (yL t).forget] := by
  have hn := (nextV1_h (hLog L hL) (0 : Nat) (k := k) (u := u) (v := v) (w := w) ht h0 hm).need (Nat.zero_le _) hr
  have hn2 : FnE Tryz.prog 40 [.clo 74 [1000, 1001], .ptr 1003 0, .ptr 1004 0, .ptr 1005 0] [atB 0, logB L, isB false, opB k u v w, yL me, yL t] (.pan (needA (accQ q))) [atB j, logB L, isB false, (opB k u v w).forget, (yL me).forget, (yL t).forget] := hn.2
  unfold accQ at hn2 ⊢
  refine fn_ofD (S1 := runVS k u v w me t L) (ids := [3, 4, 5, 6, 1000, 1001, 1002]) (Bi := [logB L, accB 0 0 0 0 xZ, wS 0 false 0 0, isB false, opB k u v w, yL me, yL t]) (Bi' := [logB L, accB q.kind q.cell q.a q.b q.d, wS 0 false 0 0, isB false, (opB k u v w).forget, (yL me).forget, (yL t).forget]) (T := runVT) (dj := [1001, 1002, 1003])
    Tryz.func26 rfl Tryz.ntmps26 (Nat.le_of_ble_eq_true rfl) (by decide) ?_ rfl rfl (by decide) rfl (by rfl) rfl rfl rfl (by rfl) (by rfl) (qG (by decide) rfl aQ_) rfl rfl rfl (by
      intro p hp
      simp only [runVT, List.mem_cons, List.not_mem_nil, or_false] at hp
      rcases hp with rfl | rfl | rfl | rfl | rfl <;> exact ⟨rfl, by decide⟩) ?_ rfl rfl (x9 aQ_)
  case refine_1 =>
    repeat' (first | (refine zY.nil ?_) | (refine zZ.is ?_; (refine zZ.iR 0 ?_; refine zZ.rc [0, 1] [3, 4, 5, 6, 7, 1000, 1001, 1002] (r := (.m m18_2 (.m zT (.m zT (.m zT .e))))) (h := ?_))))
    exact ⟨rfl, rfl⟩
  case refine_2 =>
    unfold runVT
    repeat' (first | (refine zY.is ?_; first | refine zY.nil ?_ | (refine zY.in_ [11] rfl ?_; refine zY.ofT rfl (zA.eP [7, 1000, 1003, 1004, 1005, 1006] (hn2) ?_))) | (refine zZ.is ?_; first | refine zZ.seq ?_ | (refine zZ.iR 2 ?_; refine zZ.rc [0, 3, 4, 5, 6] [3, 4, 5, 6, 7, 1000, 1001, 1002, 1003, 1004, 1005, 1006] (r := (.m zT (.w zO .e))) (h := ?_)) | (refine zZ.iR 3 ?_; refine zZ.rc [0, 3, 4, 5, 6, 7] [3, 4, 5, 6, 7, 1000, 1001, 1002, 1003, 1004, 1005, 1006] (r := (.v xI (.v v14_0 .e))) (h := ?_))))
    all_goals exact ⟨_, _, _, run1_need q.kind q.cell q.a q.b q.d 0 false 0 0 false, .inr ⟨_, rfl, rfl, rfl⟩, qG (by decide) rfl aQ_, rfl, rfl, .tup rfl (by decide) (.cons (.cellN rfl rfl (by rfl) (by rfl)) (.cons (.cellN rfl rfl (by rfl) (by rfl)) (.cons (.cell1 rfl rfl rfl) .nil))), x9 aQ_⟩
theorem nextV_done (L : List yQ) (hL : xB L) {t me : Int} (c : Int) {k u v w : Int} (ht : Small t) (h0 : 0 ≤ t) (hm : Small me) {o : OutN} {j : Nat} (hr : (qW t me k u).run (y9 L) 0 = .done o j) :
    Fn Tryz.prog 15 [.val (.int .i64 t), .val (.int .i64 c), .val (.int .i64 me), opV k u v w, logV L] (.tup [accV 0 0 0 0 xZ, qZ o.e o.is o.n o.w, .val (.bool true)]) := by
  have hr := runV_done L hL (v := v) (w := w) ht h0 hm hr
  refine yT Tryz.func15 rfl Tryz.ntmps15 (Nat.le_of_ble_eq_true rfl) ?_
  repeat' (first | (refine zY.is ?_; first | refine zY.nil ?_ | (refine zY.at_ 16 rfl ?_; refine zY.rc (.v yZ (.v yZ (.v yZ (.w zO (.w zO (.v zW .e)))))) ?_) | (refine zY.in_ [15] rfl ?_; refine zY.ofT rfl (zA.eR [8, 7, 5] (hr) ?_))) | (refine zZ.is ?_; first | refine zZ.seq ?_ | (refine zZ.iR 0 ?_; refine zZ.rc [0, 2, 3, 4] [5, 7, 8, 10, 11] (r := (.m m18_1 (.m m18_1 (.m yI (.m zT (.m zT (.v zW .e))))))) (h := ?_)) | (refine zZ.iR 1 ?_; refine zZ.rc [4, 5, 7, 8, 10, 11, 12] [5, 7, 8, 10, 11] (r := (.v v14_0 (.v zX .e))) (h := ?_)) | refine zZ.ret ?_))
  all_goals exact ⟨by first | exact .inl rfl | exact .inr rfl, _, Sub.refl _, .tupE rfl (by decide) (.cons (.cellN rfl rfl (by rfl) (by rfl)) (.cons (.cellN rfl rfl (by rfl) (by rfl)) (.cons (.tmp rfl) .nil))) rfl⟩
theorem nextV_need (L : List yQ) (hL : xB L) {t me : Int} (c : Int) {k u v w : Int} (ht : Small t) (h0 : 0 ≤ t) (hm : Small me) {q : Ned} {j : Nat} (hr : (qW t me k u).run (y9 L) 0 = .need q j) :
    Fn Tryz.prog 15 [.val (.int .i64 t), .val (.int .i64 c), .val (.int .i64 me), opV k u v w, logV L] (.tup [accQ q, qZ 0 false 0 0, .val (.bool false)]) := by
  have hr := runV_need L hL (v := v) (w := w) ht h0 hm hr
  unfold accQ at hr ⊢
  refine yT Tryz.func15 rfl Tryz.ntmps15 (Nat.le_of_ble_eq_true rfl) ?_
  repeat' (first | (refine zY.is ?_; first | refine zY.nil ?_ | (refine zY.at_ 16 rfl ?_; refine zY.rc (.v yZ (.v yZ (.v yZ (.w zO (.w zO (.v zW .e)))))) ?_) | (refine zY.in_ [15] rfl ?_; refine zY.ofT rfl (zA.eR [8, 7, 5] (hr) ?_))) | (refine zZ.is ?_; first | refine zZ.seq ?_ | (refine zZ.iR 0 ?_; refine zZ.rc [0, 2, 3, 4] [5, 7, 8, 10, 11] (r := (.m m18_1 (.m m18_1 (.m yI (.m zT (.m zT (.v zW .e))))))) (h := ?_)) | (refine zZ.iR 1 ?_; refine zZ.rc [4, 5, 7, 8, 10, 11, 12] [5, 7, 8, 10, 11] (r := (.v v14_0 (.v zX .e))) (h := ?_)) | refine zZ.ret ?_))
  all_goals exact ⟨by first | exact .inl rfl | exact .inr rfl, _, Sub.refl _, .tupE rfl (by decide) (.cons (.cellN rfl rfl (by rfl) (by rfl)) (.cons (.cellN rfl rfl (by rfl) (by rfl)) (.cons (.tmp rfl) .nil))) rfl⟩
end
section
attribute [local irreducible] zY zZ Step zV Sub zF zA Fn
def wds (ws : List Int) : List PV := ws.map fun n => .val (.int .u64 n)
theorem wds_len (ws : List Int) : (wds ws).length = ws.length := by simp [wds]
theorem wds_one (ws : List Int) : ∀ e ∈ wds ws, e.cells = [e] := fun e he => by
  obtain ⟨x, _, rfl⟩ := List.mem_map.1 he
  rfl
theorem wds_cells (ws : List Int) : ∀ e ∈ wds ws, e.cells.length = 1 := fun e he => by rw [wds_one ws e he]; rfl
theorem grow_lim (n k : Nat) (h : n ≤ 1000000) (hk : k ≤ 1000) : (([] : List PV).length + n) * k ≤ 140737488355328 ∧ ([] : List PV).length + n ≤ maxLen := by
  have h2 : n * k ≤ 1000000 * 1000 := Nat.mul_le_mul h hk
  simp only [List.length_nil, Nat.zero_add, maxLen]
  omega
theorem cloneW_fn (ws : List Int) (h0 : 1 ≤ ws.length) (h1 : ws.length ≤ 1000000) : Fn Tryz.prog 142 [.sl (wds ws)] (.row 22 1 (wds ws).length (flat (wds ws))) := by
  have g1 := wds_cells ws
  have g2 : wds ws ≠ [] := fun e => by have := congrArg List.length e; rw [wds_len, List.length_nil] at this; omega
  have g3 := grow_lim (wds ws).length 8 (by rw [wds_len]; exact h1) (by decide)
  refine yT Tryz.func142 rfl Tryz.ntmps142 (Nat.le_of_ble_eq_true rfl) ?_
  repeat' (first | (refine zY.nil ?_) | (refine zZ.is ?_; first | refine zZ.seq ?_ | (refine zZ.iR 0 ?_; refine zZ.rc [0] [2, 5] (r := (.v zW .e)) (h := ?_)) | (refine zZ.iR 1 ?_; refine zZ.rc [0, 2] [2, 5] (r := (.v zX (.v v41_41 .e))) (h := ?_)) | (refine zZ.iR 3 ?_; refine zZ.rc [0, 2] [2, 5] (r := (.m m20_0 (.v zX (.w w55_2 (.v v1_1 .e))))) (h := ?_)) | refine zZ.yA rfl bA ?_ | refine zZ.skip ?_ | refine zZ.ret ?_))
  all_goals exact ⟨by first | exact .inl rfl | exact .inr rfl, givesRowV rfl rfl rfl⟩
def funV (f : Nat) : Value := .func (.func f) #[] #[]
def turnsL : List PV := [.agg [.val (.int .i64 0), .val (funV 205)], .agg [.val (.int .i64 1), .val (funV 206)], .agg [.val (.int .i64 2), .val (funV 207)], .agg [.val (.int .i64 3), .val (funV 208)], .agg [.val (.int .i64 4), .val (funV 209)]]
theorem turns_fn : Fn Tryz.prog 188 [] (.p (.sl turnsL)) := by
  refine yT Tryz.func188 rfl Tryz.ntmps188 (Nat.le_of_ble_eq_true rfl) ?_
  have ps_ := trivial
  repeat' (first | (refine zY.nil ?_) | (refine zZ.is ?_; first | refine zZ.seq ?_ | (refine zZ.iR 0 ?_; refine zZ.rc [] [0, 6] (r := (.v zW .e)) (h := ?_)) | (refine zZ.iR 1 ?_; refine zZ.rc [0] [0, 6] (r := (.v yD (.v yD (.v yD (.v yD (.v yD (.v v20_0 (.v zW .e)))))))) (h := ?_)) | refine zZ.ret ?_))
  all_goals exact ⟨by first | exact .inl rfl | exact .inr rfl, _, Sub.refl _, .p rfl (.tmp rfl)⟩
def turnR (kind old a b : Int) : Int × Int := if kind = 0 then (old, old) else if kind = 1 then (0, a) else if kind = 2 then (if old = a then (1, b) else (0, old)) else if kind = 3 then (old, IntKind.u64.wrap (old + a)) else (old, a)
theorem turn1_fn (old kind cell a b : Int) (d w : PV) : Fn Tryz.prog 205 [.val (.int .u64 old), .agg [.val (.int .i64 kind), .val (.int .i64 cell), .val (.int .u64 a), .val (.int .u64 b), d, w]] (.tup [.val (.int .u64 old), .val (.int .u64 old)]) := by
  refine yT Tryz.func205 rfl Tryz.ntmps205 (Nat.le_of_ble_eq_true rfl) ?_
  repeat' (first | (refine zY.nil ?_) | (refine zZ.is ?_; first | refine zZ.seq ?_ | (refine zZ.iR 0 ?_; refine zZ.rc [0, 1] [3] (r := (.m yI (.v zW (.v zW .e)))) (h := ?_)) | (refine zZ.iR 1 ?_; refine zZ.rc [0, 4, 5] [3] (r := (.v zX (.v zX (.v zW (.v zW .e))))) (h := ?_)) | refine zZ.ret ?_))
  all_goals exact ⟨by first | exact .inl rfl | exact .inr rfl, _, Sub.refl _, .tupE rfl (by decide) (.cons (.tmp rfl) (.cons (.tmp rfl) .nil)) rfl⟩
theorem turn2_fn (old kind cell a b : Int) (d w : PV) : Fn Tryz.prog 206 [.val (.int .u64 old), .agg [.val (.int .i64 kind), .val (.int .i64 cell), .val (.int .u64 a), .val (.int .u64 b), d, w]] (.tup [.val (.int .u64 0), .val (.int .u64 a)]) := by
  refine yT Tryz.func206 rfl Tryz.ntmps206 (Nat.le_of_ble_eq_true rfl) ?_
  repeat' (first | (refine zY.nil ?_) | (refine zZ.is ?_; first | refine zZ.seq ?_ | (refine zZ.iR 0 ?_; refine zZ.rc [1] [3] (r := (.m yI (.v zW (.v zW .e)))) (h := ?_)) | (refine zZ.iR 1 ?_; refine zZ.dc [3, 4, 5] [3] (r := (.v zH (.v zL (.v zW (.v zW .e))))) (q := .e) (h := ?_)) | refine zZ.ret ?_) | (refine zF.nil ?_))
  all_goals exact ⟨by first | exact .inl rfl | exact .inr rfl, _, Sub.refl _, .tupE rfl (by decide) (.cons (.tmp rfl) (.cons (.tmp rfl) .nil)) rfl⟩
theorem turn3_fn (old kind cell a b : Int) (d w : PV) : Fn Tryz.prog 207 [.val (.int .u64 old), .agg [.val (.int .i64 kind), .val (.int .i64 cell), .val (.int .u64 a), .val (.int .u64 b), d, w]] (.tup [.val (.int .u64 (turnR 2 old a b).1), .val (.int .u64 (turnR 2 old a b).2)]) := by
  refine yT Tryz.func207 rfl Tryz.ntmps207 (Nat.le_of_ble_eq_true rfl) ?_
  repeat' (first | (refine zY.nil ?_) | (refine zZ.is ?_; first | refine zZ.seq ?_ | (refine zZ.iR 0 ?_; refine zZ.rc [0, 1] [3] (r := (.m yI (.v zW (.v zW .e)))) (h := ?_)) | (refine zZ.iR 1 ?_; refine zZ.rc [0, 3, 4, 5] [3] (r := (.v zX (.v zH (.v zL (.v wT .e))))) (h := ?_)) | (refine zZ.iR 2 ?_; refine zZ.dc [0, 3, 4, 5] [3] (r := (.v zH (.v zL (.v zW (.v zW .e))))) (q := .e) (h := ?_)) | (refine zZ.iR 3 ?_; refine zZ.rc [0, 4, 5] [3] (r := (.v zX (.v zW (.v zW .e)))) (h := ?_)) | refine zZ.cond rfl (fun h => ?_) (fun h => ?_) | refine zZ.skip ?_ | refine zZ.ret ?_) | refine zK.r ?_ | (refine zF.nil ?_))
  all_goals exact ⟨by first | exact .inl rfl | exact .inr rfl, _, Sub.refl _, .tupE rfl (by decide) (.cons (.tmp rfl) (.cons (.tmp rfl) .nil)) (by simp_all [turnR])⟩
theorem turn4_fn (old kind cell a b : Int) (d w : PV) : Fn Tryz.prog 208 [.val (.int .u64 old), .agg [.val (.int .i64 kind), .val (.int .i64 cell), .val (.int .u64 a), .val (.int .u64 b), d, w]] (.tup [.val (.int .u64 old), .val (.int .u64 (IntKind.u64.wrap (old + a)))]) := by
  refine yT Tryz.func208 rfl Tryz.ntmps208 (Nat.le_of_ble_eq_true rfl) ?_
  repeat' (first | (refine zY.nil ?_) | (refine zZ.is ?_; first | refine zZ.seq ?_ | (refine zZ.iR 0 ?_; refine zZ.rc [0, 1] [3] (r := (.m yI (.v zW (.v zW .e)))) (h := ?_)) | (refine zZ.iR 1 ?_; refine zZ.dc [0, 3, 4, 5] [3] (r := (.v zX (.v zX (.v zH (.v zL (.v v30_6 (.v zW (.v zW .e)))))))) (q := .e) (h := ?_)) | refine zZ.ret ?_) | (refine zF.nil ?_))
  all_goals exact ⟨by first | exact .inl rfl | exact .inr rfl, _, Sub.refl _, .tupE rfl (by decide) (.cons (.tmp rfl) (.cons (.tmp rfl) .nil)) rfl⟩
theorem turn5_fn (old kind cell a b : Int) (d w : PV) : Fn Tryz.prog 209 [.val (.int .u64 old), .agg [.val (.int .i64 kind), .val (.int .i64 cell), .val (.int .u64 a), .val (.int .u64 b), d, w]] (.tup [.val (.int .u64 old), .val (.int .u64 (a))]) := by
  refine yT Tryz.func209 rfl Tryz.ntmps209 (Nat.le_of_ble_eq_true rfl) ?_
  repeat' (first | (refine zY.nil ?_) | (refine zZ.is ?_; first | refine zZ.seq ?_ | (refine zZ.iR 0 ?_; refine zZ.rc [0, 1] [3] (r := (.m yI (.v zW (.v zW .e)))) (h := ?_)) | (refine zZ.iR 1 ?_; refine zZ.dc [0, 3, 4, 5] [3] (r := (.v zX (.v zH (.v zL (.v zW (.v zW .e)))))) (q := .e) (h := ?_)) | refine zZ.ret ?_) | (refine zF.nil ?_))
  all_goals exact ⟨by first | exact .inl rfl | exact .inr rfl, _, Sub.refl _, .tupE rfl (by decide) (.cons (.tmp rfl) (.cons (.tmp rfl) .nil)) rfl⟩
end
section
attribute [local irreducible] zY zZ Step zV Sub zF zA Fn
def memV (t c : Int) (ws : List Int) : PV := .agg [.val (.int .i64 t), .val (.int .i64 c), .sl (wds ws)]
def resN (n : Int) : PV := .agg [.val (.int .u64 n), .val (.slice none 0 0), .val (.bool false)]
theorem turns_cells : ∀ e ∈ turnsL, e.cells.length = 2 := fun e he => by
  simp only [turnsL, List.mem_cons, List.not_mem_nil, or_false] at he
  rcases he with rfl | rfl | rfl | rfl | rfl <;> rfl
theorem wds_set (ws : List Int) (i : Nat) (x : Int) : (wds ws).set i (.val (.int .u64 x)) = wds (ws.set i x) := by simp [wds, List.map_set]
theorem wds_at {ws : List Int} {i : Nat} {x : Int} (h : ws[i]? = some x) : (wds ws)[i]? = some (.val (.int .u64 x)) := by simp [wds, h]
theorem set_same {ws : List Int} {i : Nat} {x : Int} (h : ws[i]? = some x) : ws.set i x = ws := by
  apply List.ext_getElem?
  intro j
  rw [List.getElem?_set]
  by_cases hj : i = j
  · subst hj
    have := (List.getElem?_eq_some_iff.1 h).1
    rw [if_pos rfl, if_pos this, h]
  · rw [if_neg hj]
theorem eq_of_nd {x y : Int} (h : (!decide (x = y)) = false) : x = y := by simpa using h
theorem turns_at {k : Nat} (hk : k ≤ 4) (old cell a b : Int) (d w : PV) : ∃ f, HasFn Tryz.prog f ∧ turnsL[k]? = some (.agg [.val (.int .i64 ((k : Nat) : Int)), .val (.func (.func f) #[] #[])]) ∧
    FnE Tryz.prog f [.p (.val (.int .u64 old)), .p (.agg [.val (.int .i64 ((k : Nat) : Int)), .val (.int .i64 cell), .val (.int .u64 a), .val (.int .u64 b), d, w])] [] (.ret (.tup ([.val (.int .u64 (turnR k old a b).1), .val (.int .u64 (turnR k old a b).2)].map .p))) [] := by
  have h5 : k = 0 ∨ k = 1 ∨ k = 2 ∨ k = 3 ∨ k = 4 := by omega
  rcases h5 with rfl | rfl | rfl | rfl | rfl
  · exact ⟨_, inferInstance, rfl, FnE.ofFnT (turn1_fn old 0 cell a b d w)⟩
  · exact ⟨_, inferInstance, rfl, FnE.ofFnT (turn2_fn old 1 cell a b d w)⟩
  · exact ⟨_, inferInstance, rfl, FnE.ofFnT (turn3_fn old 2 cell a b d w)⟩
  · exact ⟨_, inferInstance, rfl, FnE.ofFnT (turn4_fn old 3 cell a b d w)⟩
  · exact ⟨_, inferInstance, rfl, FnE.ofFnT (turn5_fn old 4 cell a b d w)⟩
theorem words_end {t c n n' : Int} {ws' : List Int} {W : List PV} (h1 : W = wds ws') (h2 : n = n') : [memV t c ws', resN n'] = [.agg [.val (.int .i64 t), .val (.int .i64 c), .sl W], .agg [.val (.int .u64 n), .val (.slice none 0 0), .val (.bool false)]] := by
  subst h1 h2
  rfl
def wordsS (t c kind a b old : Int) (i : Nat) (ws : List Int) (d : PV) (k : Nat) : AS :=
  { t := [(2, .ptr 2 0), (3, .ptr 3 0), (4, .ptr 4 0), (5, .ptr 5 0), (6, .p (.val (.int .u64 old))), (30, .p (.sl turnsL)), (31, .p (.val (.int .i64 5))), (32, .p (.val (.int .i64 (k : Nat))))],
    s := [(2, .box 53 [.p (.val (.int .i64 t)), .p (.val (.int .i64 c)), .p (.sl (wds ws))]), (3, .box 34 [.p (.val (.int .i64 kind)), .p (.val (.int .i64 i)), .p (.val (.int .u64 a)), .p (.val (.int .u64 b)), .p d, .p xZ]),
      (4, .box 53 [.p (.val (.int .i64 0)), .p (.val (.int .i64 0)), .p (.val (.slice none 0 0))]), (5, .box 125 [.p (.val (.int .u64 0)), .p (.val (.slice none 0 0)), .p (.val (.bool false))])] }
theorem words_fn (t c kd a b old : Int) (hkd : 0 ≤ kd ∧ kd ≤ 4) (i : Nat) (ws : List Int) (d : PV) (hi : ws[i]? = some old) (h1 : ws.length ≤ 1000000) :
    Fn Tryz.prog 143 [memV t c ws, accV kd i a b d] (.tup [memV t c (ws.set i (turnR kd old a b).2), resN (turnR kd old a b).1]) := by
  have hlt : i < ws.length := (List.getElem?_eq_some_iff.1 hi).1
  have g1 := wds_cells ws
  have g2 := turns_cells
  have g3 := wds_at hi
  have g4 : decide ((i : Int) < 0) = false := decide_eq_false (by omega)
  have g5 : decide (((wds ws).length : Int) ≤ (i : Int)) = false := decide_eq_false (by rw [wds_len]; omega)
  have g6 : (0 : Int) ≤ (i : Int) ∧ (i : Int) < (wds ws).length := by rw [wds_len]; omega
  have g7 : (i : Int).toNat < (wds ws).length := by rw [wds_len]; omega
  have c1 := cloneW_fn ws (by omega) h1
  refine yT Tryz.func143 rfl Tryz.ntmps143 (Nat.le_of_ble_eq_true rfl) ?_
  repeat' (first | (refine zY.is ?_; first | refine zY.nil ?_ | (refine zY.at_ 31 rfl ?_; refine zY.rc (.v v57_1 (.v zX .e)) ?_) | (refine zY.in_ [30] rfl ?_; refine zY.v rfl rfl (zG (turns_fn) rfl rfl rfl (by decide)) ?_)) | (refine zZ.is ?_; first | refine zZ.seq ?_ | (refine zZ.iR 0 ?_; refine zZ.rc [0, 1] [2, 3, 4, 5, 8, 19, 30, 31, 46, 54] (r := (.m yI (.m yI (.m zT (.m zT .e))))) (h := ?_)) | (refine zZ.iR 1 ?_; refine zZ.rc [2, 3, 4, 5] [2, 3, 4, 5, 8, 19, 30, 31, 46, 54] (r := (.v zH (.v zL (.v yU (.v zX (.gY zH (.gY zL (.gY zH (.gY zL (.gY v57_1 (.gY v46_0 (.v yP .e)))))))))))) (h := ?_)) | (refine zZ.iR 3 ?_; refine zZ.rc [2, 3, 4, 5] [2, 3, 4, 5, 8, 19, 30, 31, 46, 54] (r := (.v zH (.v zL (.v zH (.v zL (.v v7_18 (.v v2_1 (.v zW .e)))))))) (h := ?_)) | (refine zZ.iR 4 ?_; refine zZ.rc [2, 3, 4, 5, 6] [2, 3, 4, 5, 8, 19, 30, 31, 46, 54] (r := .e) (h := ?_)) | refine zZ.yA rfl bA ?_ | refine zZ.skip ?_ | refine zZ.block ?_))
  refine zZ.loop (wordsS t c kd a b old i ws d) (fun k => (k : Int) ≤ kd) (fun k => 5 - k) 0 ?h0 hkd.1 ?rd
  case h0 =>
    exact zM K_13 K_14
  case rd =>
    rintro k hk
    obtain ⟨f, hp, hT, hf⟩ := turns_at (k := k) (by omega) old i a b d xZ
    have g8 : (0 : Int) ≤ ((k : Nat) : Int) ∧ ((k : Nat) : Int) < turnsL.length := by show _ ∧ _ < (5 : Int); omega
    have g9 : turnsL[((k : Nat) : Int).toNat]? = some _ := hT
    have gl : decide (((k : Nat) : Int) < 5) = true := decide_eq_true (by omega)
    have gw : IntKind.i64.wrap (((k : Nat) : Int) + 1) = ((k + 1 : Nat) : Int) := by rw [wrap_i64 _ (by omega)]; omega
    by_cases hke : (k : Int) = kd
    case neg =>
      have gd : (!decide (((k : Nat) : Int) = kd)) = true := by simp; exact hke
      repeat' (first | (refine zY.nil ?_) | (refine zZ.is ?_; first | refine zZ.seq ?_ | (refine zZ.iR 5 ?_; refine zZ.rc [2, 3, 4, 5, 6, 8, 9, 10, 30, 31, 32, 33, 40, 51] [2, 3, 4, 5, 8, 19, 30, 31, 46, 54] (r := (.v yU .e)) (h := ?_)) | (refine zZ.iR 6 ?_; refine zZ.rc [2, 3, 4, 5, 6, 8, 9, 10, 30, 31, 32, 33, 40, 51] [2, 3, 4, 5, 8, 19, 30, 31, 46, 54] (r := (.v v7_18 (.v v2_7 (.m zT (.w zO .e))))) (h := ?_)) | (refine zZ.iR 7 ?_; refine zZ.rc [2, 3, 4, 5, 6, 8, 9, 10, 30, 31, 32, 33, 40, 51] [2, 3, 4, 5, 8, 19, 30, 31, 46, 54] (r := (.v zH (.v zL (.v zH (.v zL (.v vY .e)))))) (h := ?_)) | (refine zZ.iR 13 ?_; refine zZ.rc [2, 3, 4, 5, 6, 8, 9, 10, 30, 31, 32, 33, 40, 51] [2, 3, 4, 5, 8, 19, 30, 31, 46, 54] (r := (.v qQ (.v zX .e))) (h := ?_)) | refine zZ.yB rfl bA ?_ | refine zZ.skip ?_ | refine zZ.block ?_ | refine zZ.exit ?_) | refine zK.n ?_)
      refine ⟨k + 1, ?_, (by omega), by omega⟩
      exact zM K_13 K_14
    case pos =>
      subst hke
      have gx : (!decide (((k : Nat) : Int) = ((k : Nat) : Int))) = false := by simp
      repeat' (first | (refine zY.is ?_; first | refine zY.nil ?_ | (refine zY.at_ 41 rfl ?_; refine zY.rc (.v wW (.v yZ (.v yZ (.v zW (.v zW .e))))) ?_) | (refine zY.at_ 55 rfl ?_; refine zY.rc (.v zH (.w w24_0 .e)) ?_) | (refine zY.in_ [54] rfl ?_; refine zY.m rfl rfl (w_callRowV c1 rfl rfl rfl (by decide)) ?_) | (refine zY.in_ [46] rfl ?_; refine zY.ofT rfl (zA.eR [] (hf) ?_))) | (refine zZ.is ?_; first | refine zZ.seq ?_ | (refine zZ.iR 5 ?_; refine zZ.rc [2, 3, 4, 5, 6, 8, 9, 10, 30, 31, 32, 33, 40, 51] [2, 3, 4, 5, 8, 19, 30, 31, 46, 54] (r := (.v yU .e)) (h := ?_)) | (refine zZ.iR 6 ?_; refine zZ.rc [2, 3, 4, 5, 6, 8, 9, 10, 30, 31, 32, 33, 40, 51] [2, 3, 4, 5, 8, 19, 30, 31, 46, 54] (r := (.v v7_18 (.v v2_7 (.m zT (.w zO .e))))) (h := ?_)) | (refine zZ.iR 7 ?_; refine zZ.rc [2, 3, 4, 5, 6, 8, 9, 10, 30, 31, 32, 33, 40, 51] [2, 3, 4, 5, 8, 19, 30, 31, 46, 54] (r := (.v zH (.v zL (.v zH (.v zL (.v vY .e)))))) (h := ?_)) | (refine zZ.iR 8 ?_; refine zZ.rc [2, 3, 4, 5, 6, 8, 9, 10, 30, 31, 32, 33, 40, 51] [2, 3, 4, 5, 8, 19, 30, 31, 46, 54] (r := (.v zH (.v zL (.v zX (.v xC .e))))) (h := ?_)) | (refine zZ.iR 9 ?_; refine zZ.rc [2, 3, 4, 5, 6, 8, 9, 10, 30, 31, 32, 33, 40, 51] [2, 3, 4, 5, 8, 19, 30, 31, 46, 54] (r := (.v zX (.v zX (.v kE .e)))) (h := ?_)) | (refine zZ.iR 10 ?_; refine zZ.rc [2, 3, 4, 5, 6, 8, 9, 10, 30, 31, 32, 33, 40, 51] [2, 3, 4, 5, 8, 19, 30, 31, 46, 54] (r := (.v zH (.v zL .e))) (h := ?_)) | (refine zZ.iR 11 ?_; refine zZ.rc [2, 3, 4, 5, 6, 8, 9, 10, 30, 31, 32, 33, 40, 51] [2, 3, 4, 5, 8, 19, 30, 31, 46, 54] (r := (.v zH (.v v2_8 (.v zH (.v zL (.v zX (.v v7_38 (.w w24_1 .e)))))))) (h := ?_)) | (refine zZ.iR 12 ?_; (first | refine zZ.sub (sub_frz (id := 54) rfl) ?_ | skip); refine zZ.rc [2, 3, 4, 5, 6, 8, 9, 10, 30, 31, 32, 33, 40, 51] [2, 3, 4, 5, 8, 19, 30, 31, 46, 54] (r := (.v xC (.v zX (.v yD (.w zO (.w zO .e)))))) (h := ?_)) | refine zZ.yB rfl bA ?_ | refine zZ.yA rfl bA ?_ | refine zZ.cond rfl (fun h => ?_) (fun h => ?_) | refine zZ.skip ?_ | refine zZ.block ?_ | refine zZ.ret ?_) | refine zK.r ?_ | refine zI.r ?_)
      all_goals refine ⟨by first | exact .inl rfl | exact .inr rfl, _, Sub.refl _, .tupE (rs := [.cell 4 53, .cell 5 125]) rfl (by decide) (.cons (.cellN rfl rfl (by rfl) (by rfl)) (.cons (.cellN rfl rfl (by rfl) (by rfl)) .nil)) ?_⟩
      all_goals first
        | exact words_end (wds_set ws i _) rfl
        | exact words_end (congrArg wds (set_same (hi.trans (congrArg some (eq_of_nd h).symm))).symm) rfl
        | exact words_end (congrArg wds (set_same hi).symm) rfl
theorem wordsOut_fn (t c kd cell a b : Int) (ws : List Int) (d : PV) (hi : cell < 0 ∨ (ws.length : Int) ≤ cell) :
    Fn Tryz.prog 143 [memV t c ws, accV kd cell a b d] (.tup [memV t c ws, resN 0]) := by
  by_cases hn : cell < 0
  case pos =>
    have g4 : decide (cell < 0) = true := decide_eq_true hn
    refine yT Tryz.func143 rfl Tryz.ntmps143 (Nat.le_of_ble_eq_true rfl) ?_
    repeat' (first | (refine zY.nil ?_) | (refine zZ.is ?_; first | refine zZ.seq ?_ | (refine zZ.iR 0 ?_; refine zZ.rc [0, 1] [2, 3, 4, 5, 8, 19, 30, 31, 46, 54] (r := (.m yI (.m yI (.m zT (.m zT .e))))) (h := ?_)) | (refine zZ.iR 1 ?_; refine zZ.rc [2, 3, 4, 5] [2, 3, 4, 5, 8, 19, 30, 31, 46, 54] (r := (.v zH (.v zL (.v yU (.v zX (.gF (.gF (.gF (.gF (.gF (.gF (.v yH .e)))))))))))) (h := ?_)) | (refine zZ.iR 2 ?_; refine zZ.rc [2, 3, 4, 5] [2, 3, 4, 5, 8, 19, 30, 31, 46, 54] (r := (.v xC (.v yD (.w zO (.w zO .e))))) (h := ?_)) | refine zZ.yB rfl bA ?_ | refine zZ.ret ?_) | refine zK.r ?_)
    all_goals exact ⟨by first | exact .inl rfl | exact .inr rfl, _, Sub.refl _, .tupE (rs := [.cell 4 53, .cell 5 125]) rfl (by decide) (.cons (.cellN rfl rfl (by rfl) (by rfl)) (.cons (.cellN rfl rfl (by rfl) (by rfl)) .nil)) rfl⟩
  case neg =>
    have g4 : decide (cell < 0) = false := decide_eq_false hn
    have g5 : decide (((wds ws).length : Int) ≤ cell) = true := decide_eq_true (by rw [wds_len]; omega)
    refine yT Tryz.func143 rfl Tryz.ntmps143 (Nat.le_of_ble_eq_true rfl) ?_
    repeat' (first | (refine zY.nil ?_) | (refine zZ.is ?_; first | refine zZ.seq ?_ | (refine zZ.iR 0 ?_; refine zZ.rc [0, 1] [2, 3, 4, 5, 8, 19, 30, 31, 46, 54] (r := (.m yI (.m yI (.m zT (.m zT .e))))) (h := ?_)) | (refine zZ.iR 1 ?_; refine zZ.rc [2, 3, 4, 5] [2, 3, 4, 5, 8, 19, 30, 31, 46, 54] (r := (.v zH (.v zL (.v yU (.v zX (.gY zH (.gY zL (.gY zH (.gY zL (.gY v57_1 (.gY v46_0 (.v yP .e)))))))))))) (h := ?_)) | (refine zZ.iR 2 ?_; refine zZ.rc [2, 3, 4, 5] [2, 3, 4, 5, 8, 19, 30, 31, 46, 54] (r := (.v xC (.v yD (.w zO (.w zO .e))))) (h := ?_)) | refine zZ.yB rfl bA ?_ | refine zZ.ret ?_) | refine zK.r ?_)
    all_goals exact ⟨by first | exact .inl rfl | exact .inr rfl, _, Sub.refl _, .tupE (rs := [.cell 4 53, .cell 5 125]) rfl (by decide) (.cons (.cellN rfl rfl (by rfl) (by rfl)) (.cons (.cellN rfl rfl (by rfl) (by rfl)) .nil)) rfl⟩
end
section
attribute [local irreducible] zY zZ Step zV Sub zF zA Fn
def strV (d : List Int) (s : Int) : PV := .agg [.sl (byts d), .val (.int .i64 s)]
def strs (l : List (List Int × Int)) : List PV := l.map fun p => strV p.1 p.2
def vU (root : Int) (r0 r1 : List (List Int × Int)) : PV := .agg [.val (.int .u64 root), .sl (strs r0), .sl (strs r1)]
theorem strs_len (l : List (List Int × Int)) : (strs l).length = l.length := by simp [strs]
theorem strs_cells (l : List (List Int × Int)) : ∀ e ∈ strs l, e.cells.length = 2 := fun e he => by
  obtain ⟨x, _, rfl⟩ := List.mem_map.1 he
  rfl
theorem strs_at {l : List (List Int × Int)} {i : Nat} {d : List Int} {s : Int} (h : l[i]? = some (d, s)) : (strs l)[i]? = some (strV d s) := by simp [strs, h]
theorem strs_set (l : List (List Int × Int)) (i : Nat) (d : List Int) (s : Int) : (strs l).set i (strV d s) = strs (l.set i (d, s)) := by simp [strs, List.map_set]
theorem isDisk_fn (k : Int) : Fn Tryz.prog 140 [.val (.int .i64 k)] (.p (.val (.bool (decide (5 ≤ k) && decide (k ≤ 12))))) := by
  refine yT Tryz.func140 rfl Tryz.ntmps140 (Nat.le_of_ble_eq_true rfl) ?_
  repeat' (first | (refine zY.is ?_; first | refine zY.nil ?_ | (refine zY.at_ 6 rfl ?_; refine zY.rc (.gY zX (.gY v44_8 (.v yH (.v zW .e)))) ?_) | (refine zY.at_ 6 rfl ?_; refine zY.rc (.gT (.gT (.v yP (.v zW .e)))) ?_) | (fail_if_success refine zY.known rfl rfl rfl (by fail) ?_); refine zY.split rfl rfl rfl (fun h => ?_) (fun h => ?_)) | (refine zZ.is ?_; first | refine zZ.seq ?_ | (refine zZ.iR 0 ?_; refine zZ.rc [0] [] (r := (.v zW .e)) (h := ?_)) | (refine zZ.iR 1 ?_; refine zZ.rc [0, 2] [] (r := (.v zX (.v v46_8 (.v zX .e)))) (h := ?_)) | refine zZ.ret ?_))
  · rw [h, Bool.true_and]
    exact ⟨by first | exact .inl rfl | exact .inr rfl, _, Sub.refl _, .p rfl (.tmp rfl)⟩
  · rw [h, Bool.false_and]
    exact ⟨by first | exact .inl rfl | exact .inr rfl, _, Sub.refl _, .p rfl (.tmp rfl)⟩
theorem row_fn (root : Int) (r0 r1 : PV) (h0 : 0 ≤ root) : Fn Tryz.prog 182 [.agg [.val (.int .u64 root), r0, r1]] (.p (.val (.int .i64 (root % 2)))) := by
  refine yT Tryz.func182 rfl Tryz.ntmps182 (Nat.le_of_ble_eq_true rfl) ?_
  repeat' (first | (refine zY.nil ?_) | (refine zZ.is ?_; first | refine zZ.seq ?_ | (refine zZ.iR 0 ?_; refine zZ.rc [0] [1] (r := (.m yI (.v zW .e))) (h := ?_)) | (refine zZ.iR 1 ?_; refine zZ.rc [1, 2] [1] (r := (.v zH (.v zL (.v v34_3 (.v v6_6 (.v zW .e)))))) (h := ?_)) | refine zZ.ret ?_))
  have e : IntKind.i64.wrap (root.tmod 2) = root % 2 := by
    have h1 : root.tmod 2 = root % 2 := Int.tmod_eq_emod_of_nonneg h0
    have h2 := Int.emod_nonneg root (show (2 : Int) ≠ 0 by decide)
    have h3 := Int.emod_lt_of_pos root (show (0 : Int) < 2 by decide)
    rw [h1]
    rcases (show root % 2 = 0 ∨ root % 2 = 1 by omega) with h | h <;> rw [h] <;> rfl
  all_goals exact ⟨by first | exact .inl rfl | exact .inr rfl, _, Sub.refl _, .p rfl (.tmp (by rw [← e]; rfl))⟩
theorem strApp_fn (d b : List Int) (s : Int) (h : d.length + b.length ≤ 100000000) : Fn Tryz.prog 201 [strV d s, .sl (byts b)] (.p (strV (d ++ b) s)) := by
  refine yT Tryz.func201 rfl Tryz.ntmps201 (Nat.le_of_ble_eq_true rfl) ?_
  repeat' (first | (refine zY.nil ?_) | (refine zZ.is ?_; first | refine zZ.seq ?_ | (refine zZ.iR 0 ?_; refine zZ.rc [0, 1] [2, 4] (r := (.m yI (.m zT .e))) (h := ?_)) | (refine zZ.iR 1 ?_; refine zZ.rc [1, 2, 4] [2, 4] (r := (.v zH (.v zL (.v v57_0 (.v zW .e))))) (h := ?_)) | (refine zZ.iR 2 ?_; refine zZ.rc [1, 2, 4, 5] [2, 4] (r := (.v zH (.v zL (.v zX (.v zX .e))))) (h := ?_))))
  refine zY.appTight (es := byts d) (bs := byts b) rfl rfl rfl rfl rfl rfl rfl rfl rfl rfl rfl rfl ?_ ?_ rfl (by decide) rfl (by decide) (by decide) (by decide) (byts_one d) (byts_one b) ?_ rfl (by decide) ?_
  · rw [kV]
  · rw [kV]
  · rw [kV, kV]
    simp only [maxLen]
    omega
  rw [show byts d ++ byts b = byts (d ++ b) by simp [byts]]
  repeat' (first | (refine zY.is ?_; first | refine zY.nil ?_ | (refine zY.at_ 16 rfl ?_; refine zY.rc (.v zH (.w zO .e)) ?_)) | (refine zZ.is ?_; first | refine zZ.seq ?_ | (refine zZ.iR 3 ?_; refine zZ.rc [2, 4] [2, 4] (r := (.v xC (.w zO .e))) (h := ?_)) | refine zZ.ret ?_))
  all_goals exact ⟨by first | exact .inl rfl | exact .inr rfl, _, Sub.refl _, .p (r := .cell 4 236) rfl (.cellN rfl rfl (by rfl) (by rfl))⟩
theorem strSync_fn (d : List Int) (s : Int) : Fn Tryz.prog 202 [strV d s] (.p (strV d d.length)) := by
  refine yT Tryz.func202 rfl Tryz.ntmps202 (Nat.le_of_ble_eq_true rfl) ?_
  repeat' (first | (refine zY.nil ?_) | (refine zZ.is ?_; first | refine zZ.seq ?_ | (refine zZ.iR 0 ?_; refine zZ.rc [0] [1, 2] (r := (.m yI (.m zT .e))) (h := ?_)) | (refine zZ.iR 1 ?_; refine zZ.rc [1, 2] [1, 2] (r := (.v zH (.v zL (.v v57_0 (.v zH (.w zO .e)))))) (h := ?_)) | (refine zZ.iR 2 ?_; refine zZ.rc [1, 2] [1, 2] (r := (.v xC (.w zO .e))) (h := ?_)) | refine zZ.ret ?_))
  all_goals exact ⟨by first | exact .inl rfl | exact .inr rfl, _, Sub.refl _, .p (r := .cell 2 236) rfl (.cellN rfl rfl (by rfl) (by rfl))⟩
theorem cloneS_fn (l : List (List Int × Int)) (h0 : 1 ≤ l.length) (h1 : l.length ≤ 1000000) : Fn Tryz.prog 217 [.sl (strs l)] (.row 236 2 (strs l).length (flat (strs l))) := by
  have g1 := strs_cells l
  have g2 : strs l ≠ [] := fun e => by have := congrArg List.length e; rw [strs_len, List.length_nil] at this; omega
  have g3 := grow_lim (strs l).length 32 (by rw [strs_len]; exact h1) (by decide)
  refine yT Tryz.func217 rfl Tryz.ntmps217 (Nat.le_of_ble_eq_true rfl) ?_
  repeat' (first | (refine zY.nil ?_) | (refine zZ.is ?_; first | refine zZ.seq ?_ | (refine zZ.iR 0 ?_; refine zZ.rc [0] [2, 5] (r := (.v zW .e)) (h := ?_)) | (refine zZ.iR 1 ?_; refine zZ.rc [0, 2] [2, 5] (r := (.v zX (.v v41_41 .e))) (h := ?_)) | (refine zZ.iR 3 ?_; refine zZ.rc [0, 2] [2, 5] (r := (.m m20_0 (.v zX (.w w55_2 (.v v1_1 .e))))) (h := ?_)) | refine zZ.yA rfl bA ?_ | refine zZ.skip ?_ | refine zZ.ret ?_))
  all_goals exact ⟨by first | exact .inl rfl | exact .inr rfl, givesRowV rfl rfl rfl⟩
end
section
attribute [local irreducible] zY zZ Step zV Sub zF zA Fn
theorem appendC_fn (d bs : List Int) (s : Int) (h : d.length + bs.length ≤ 100000000) : FnE Tryz.prog 200 ([strV d s].map AV.p ++ [.ptr 1000 0]) [.box 31 [.p (.sl (byts bs))]] (.ret (.p (strV (d ++ bs) s))) [.box 31 [.p (.sl (byts bs))]] := by
  have c := strApp_fn d bs s h
  refine fn_ofE Tryz.func200 rfl Tryz.ntmps200 (Nat.le_of_ble_eq_true rfl) (by decide) ?_
  repeat' (first | (refine zY.is ?_; first | refine zY.nil ?_ | refine zY.rc (.w zO .e) ?_ | (refine zY.in_ [6] rfl ?_; refine zY.v rfl rfl (zG (c) rfl rfl rfl (by decide)) ?_)) | (refine zZ.is ?_; first | refine zZ.seq ?_ | (refine zZ.iR 0 ?_; refine zZ.rc [0, 1] [2, 3, 1000] (r := (.m yI (.m zT .e))) (h := ?_)) | (refine zZ.iR 1 ?_; refine zZ.rc [1, 2, 3] [2, 3, 1000] (r := (.v xC (.v zL .e))) (h := ?_)) | refine zZ.ret ?_))
  all_goals exact ⟨(by exact .inl rfl), _, Sub.refl _, .p (r := .cell 3 236) rfl (.cellN rfl rfl (by rfl) (by rfl)), x9 aQ_⟩
theorem is0_fn (root : Int) (r0 r1 : List (List Int × Int)) (i : Nat) (hi : i < r0.length) : Fn Tryz.prog 203 [vU root r0 r1, .val (.int .i64 0), .val (.int .i64 i)] (.p (.val (.bool true))) := by
  have g1 : decide ((0 : Int) ≤ i) = true := decide_eq_true (by omega)
  have g2 : decide ((i : Int) < (strs r0).length) = true := decide_eq_true (by rw [strs_len]; omega)
  refine yT Tryz.func203 rfl Tryz.ntmps203 (Nat.le_of_ble_eq_true rfl) ?_
  repeat' (first | (refine zY.nil ?_) | (refine zZ.is ?_; first | refine zZ.seq ?_ | (refine zZ.iR 0 ?_; refine zZ.rc [0, 1, 2] [3] (r := (.m yI (.v zW .e))) (h := ?_)) | (refine zZ.iR 1 ?_; refine zZ.rc [1, 2, 3, 6] [3] (r := (.v zX (.v v46_4 (.v zX (.gY zX (.gY v43_4 (.v yH (.v zX (.gY zX (.gY v46_0 (.v yH (.v zX (.gY zX (.gY zX (.gY zH (.gY v7_48 (.gY zL (.gY v57_1 (.gY yU (.v yH (.v zW .e))))))))))))))))))))) (h := ?_)) | refine zZ.ret ?_))
  all_goals exact ⟨by first | exact .inl rfl | exact .inr rfl, _, Sub.refl _, .p rfl (.tmp rfl)⟩
theorem turnA0_fn (root : Int) (r0 r1 : List (List Int × Int)) (i : Nat) (d : List Int) (s : Int) (bs : List Int) (hi : r0[i]? = some (d, s)) (h1 : r0.length ≤ 1000000) (h2 : d.length + bs.length ≤ 100000000) :
    FnE Tryz.prog 199 [.p (vU root r0 r1), .p (.val (.int .i64 0)), .p (.val (.int .i64 i)), .clo 200 [1000]] [.box 31 [.p (.sl (byts bs))]] (.ret (.tup [.p (vU root (r0.set i (d ++ bs, s)) r1), .p (.val (.int .i64 0))])) [.box 31 [.p (.sl (byts bs))]] := by
  have hlt : i < r0.length := (List.getElem?_eq_some_iff.1 hi).1
  have g1 := strs_cells r0
  have g3 := strs_at hi
  have g6 : (0 : Int) ≤ (i : Int) ∧ (i : Int) < (strs r0).length := by rw [strs_len]; omega
  have g7 : (i : Int).toNat < (strs r0).length := by rw [strs_len]; omega
  have c0 := is0_fn root r0 r1 i hlt
  have c1 := cloneS_fn r0 (by omega) h1
  have e : vU root (r0.set i (d ++ bs, s)) r1 = .agg [.val (.int .u64 root), .sl ((strs r0).set (i : Int).toNat (strV (d ++ bs) s)), .sl (strs r1)] := by simp [vU, strs_set]
  have c2 := appendC_fn d bs s h2
  refine fn_ofE Tryz.func199 rfl Tryz.ntmps199 (Nat.le_of_ble_eq_true rfl) (by decide) ?_
  repeat' (first | (refine zY.is ?_; first | refine zY.nil ?_ | (refine zY.at_ 14 rfl ?_; refine zY.rc (.v vS .e) ?_) | (refine zY.at_ 22 rfl ?_; refine zY.rc (.v zH (.v v7_48 (.w w24_0 .e))) ?_) | (refine zY.in_ [13] rfl ?_; refine zY.v rfl rfl (zG (c0) rfl rfl rfl (by decide)) ?_) | (refine zY.in_ [21] rfl ?_; refine zY.m rfl rfl (w_callRowV c1 rfl rfl rfl (by decide)) ?_)) | (refine zZ.is ?_; first | refine zZ.seq ?_ | (refine zZ.iR 0 ?_; refine zZ.rc [0, 1, 2, 3] [4, 8, 13, 21, 37, 1000] (r := (.m yI (.m zT (.v zW .e)))) (h := ?_)) | (refine zZ.iR 1 ?_; refine zZ.rc [1, 2, 3, 4, 8, 9] [4, 8, 13, 21, 37, 1000] (r := (.v xC (.v zX (.v zX .e)))) (h := ?_)) | (refine zZ.iR 3 ?_; refine zZ.rc [1, 2, 3, 4, 8, 9] [4, 8, 13, 21, 37, 1000] (r := (.v zX (.v zX (.v zH (.v v7_48 (.v zL .e)))))) (h := ?_)) | (refine zZ.iR 4 ?_; refine zZ.rk [1, 2, 3, 4, 8, 9] [4, 8, 13, 21, 37, 1000] ?_; refine zZ.draws ?_) | (refine zZ.iR 5 ?_; (refine zZ.sub (sub_frz (id := 21) rfl) ?_); refine zZ.rc [4, 8, 9] [4, 8, 13, 21, 37, 1000] (r := (.v xC (.w zO (.v zW .e)))) (h := ?_)) | refine zZ.yA rfl bA ?_ | refine zZ.skip ?_ | refine zZ.ret ?_) | (refine Draws.is ?_; first | refine Draws.rc (.v zX (.v zH (.v v7_48 (.v v2_8 (.v zX (.v xI (.v zX (.v zH (.v v7_48 (.v v2_8 (.v zX (.v v7_38 (.v v2_14 .e))))))))))))) ?_ | refine Draws.rc (.v v7_38 .e) ?_ | (refine Draws.in_ [37] rfl ?_; refine Draws.v rfl rfl (w_callClo (c2) rfl rfl rfl rfl rfl rfl rfl (by decide)) ?_) | refine Draws.done (by kernel_rfl) (by kernel_rfl) (by kernel_rfl) ?_) | (refine zF.is ?_; first | refine zF.nil ?_ | refine zF.rc (.w w24_1 .e) ?_))
  rw [e]
  all_goals exact ⟨(by exact .inl rfl), _, Sub.refl _, .tup (rs := [.cell 8 57, .tmp 9]) (l := [.agg [.val (.int .u64 root), .sl ((strs r0).set (i : Int).toNat (strV (d ++ bs) s)), .sl (strs r1)], .val (.int .i64 0)]) rfl (by decide) (.cons (.cellN rfl rfl (by rfl) (by rfl)) (.cons (.tmp rfl) .nil)), x9 aQ_⟩
theorem turnS0_fn (root : Int) (r0 r1 : List (List Int × Int)) (i : Nat) (d : List Int) (s : Int) (hi : r0[i]? = some (d, s)) (h1 : r0.length ≤ 1000000) :
    Fn Tryz.prog 199 [vU root r0 r1, .val (.int .i64 0), .val (.int .i64 i), .val (funV 202)] (.tup [vU root (r0.set i (d, d.length)) r1, .val (.int .i64 0)]) := by
  have hlt : i < r0.length := (List.getElem?_eq_some_iff.1 hi).1
  have g1 := strs_cells r0
  have g3 := strs_at hi
  have g6 : (0 : Int) ≤ (i : Int) ∧ (i : Int) < (strs r0).length := by rw [strs_len]; omega
  have g7 : (i : Int).toNat < (strs r0).length := by rw [strs_len]; omega
  have c0 := is0_fn root r0 r1 i hlt
  have c1 := cloneS_fn r0 (by omega) h1
  have e : vU root (r0.set i (d, d.length)) r1 = .agg [.val (.int .u64 root), .sl ((strs r0).set (i : Int).toNat (strV d d.length)), .sl (strs r1)] := by simp [vU, strs_set]
  have c2 := strSync_fn d s
  refine yT Tryz.func199 rfl Tryz.ntmps199 (Nat.le_of_ble_eq_true rfl) ?_
  repeat' (first | (refine zY.is ?_; first | refine zY.nil ?_ | (refine zY.at_ 14 rfl ?_; refine zY.rc (.v vS .e) ?_) | (refine zY.at_ 22 rfl ?_; refine zY.rc (.v zH (.v v7_48 (.w w24_0 .e))) ?_) | (refine zY.in_ [13] rfl ?_; refine zY.v rfl rfl (zG (c0) rfl rfl rfl (by decide)) ?_) | (refine zY.in_ [21] rfl ?_; refine zY.m rfl rfl (w_callRowV c1 rfl rfl rfl (by decide)) ?_)) | (refine zZ.is ?_; first | refine zZ.seq ?_ | (refine zZ.iR 0 ?_; refine zZ.rc [0, 1, 2, 3] [4, 8, 13, 21, 37] (r := (.m yI (.m zT (.v zW .e)))) (h := ?_)) | (refine zZ.iR 1 ?_; refine zZ.rc [1, 2, 3, 4, 8, 9] [4, 8, 13, 21, 37] (r := (.v xC (.v zX (.v zX .e)))) (h := ?_)) | (refine zZ.iR 3 ?_; refine zZ.rc [1, 2, 3, 4, 8, 9] [4, 8, 13, 21, 37] (r := (.v zX (.v zX (.v zH (.v v7_48 (.v zL .e)))))) (h := ?_)) | (refine zZ.iR 4 ?_; refine zZ.rk [1, 2, 3, 4, 8, 9] [4, 8, 13, 21, 37] ?_; refine zZ.draws ?_) | (refine zZ.iR 5 ?_; (refine zZ.sub (sub_frz (id := 21) rfl) ?_); refine zZ.rc [4, 8, 9] [4, 8, 13, 21, 37] (r := (.v xC (.w zO (.v zW .e)))) (h := ?_)) | refine zZ.yA rfl bA ?_ | refine zZ.skip ?_ | refine zZ.ret ?_) | (refine Draws.is ?_; first | refine Draws.rc (.v zX (.v zH (.v v7_48 (.v v2_8 (.v zX (.v zX (.v zX (.v zH (.v v7_48 (.v v2_8 (.v zX (.v v7_38 (.v v2_14 .e))))))))))))) ?_ | refine Draws.rc (.v v7_38 .e) ?_ | (refine Draws.in_ [37] rfl ?_; refine Draws.v rfl rfl (w_callFV (c2) rfl rfl rfl rfl (by decide)) ?_) | refine Draws.done (by kernel_rfl) (by kernel_rfl) (by kernel_rfl) ?_) | (refine zF.is ?_; first | refine zF.nil ?_ | refine zF.rc (.w w24_1 .e) ?_))
  rw [e]
  all_goals exact ⟨(by exact .inl rfl), _, Sub.refl _, .tup (rs := [.cell 8 57, .tmp 9]) (l := [.agg [.val (.int .u64 root), .sl ((strs r0).set (i : Int).toNat (strV d d.length)), .sl (strs r1)], .val (.int .i64 0)]) rfl (by decide) (.cons (.cellN rfl rfl (by rfl) (by rfl)) (.cons (.tmp rfl) .nil))⟩
theorem diskApp0_fn (root : Int) (r0 r1 : List (List Int × Int)) (i : Nat) (d : List Int) (s : Int) (bs : List Int) (hi : r0[i]? = some (d, s)) (h1 : r0.length ≤ 1000000) (h2 : d.length + bs.length ≤ 100000000) :
    Fn Tryz.prog 183 [vU root r0 r1, .val (.int .i64 0), .val (.int .i64 i), .sl (byts bs)] (.tup [vU root (r0.set i (d ++ bs, s)) r1, .val (.int .i64 0)]) := by
  refine yT Tryz.func183 rfl Tryz.ntmps183 (Nat.le_of_ble_eq_true rfl) ?_
  repeat' (first | (refine zY.is ?_; first | refine zY.nil ?_ | (refine zY.at_ 15 rfl ?_; refine zY.rc (.v yZ (.v yZ (.w zO (.v zW .e)))) ?_) | (refine zY.in_ [14] rfl ?_; refine zY.ofT rfl (zA.eR [7] (turnA0_fn root r0 r1 i d s bs hi h1 h2) ?_))) | (refine zZ.is ?_; first | refine zZ.seq ?_ | (refine zZ.iR 0 ?_; refine zZ.rc [0, 1, 2, 3] [4, 7, 8] (r := (.m yI (.m m18_2 (.m zT (.v zW .e))))) (h := ?_)) | (refine zZ.iR 1 ?_; refine zZ.rc [1, 2, 4, 7, 8, 9] [4, 7, 8] (r := (.v xC (.v zX (.v zX (.v v14_0 .e))))) (h := ?_)) | refine zZ.ret ?_))
  all_goals exact ⟨(by exact .inl rfl), _, Sub.refl _, .tup (rs := [.cell 8 57, .tmp 9]) (l := [vU root (r0.set i (d ++ bs, s)) r1, .val (.int .i64 0)]) rfl (by decide) (.cons (.cellN rfl rfl (by rfl) (by rfl)) (.cons (.tmp rfl) .nil))⟩
theorem diskSync0_fn (root : Int) (r0 r1 : List (List Int × Int)) (i : Nat) (d : List Int) (s : Int) (hi : r0[i]? = some (d, s)) (h1 : r0.length ≤ 1000000) :
    Fn Tryz.prog 184 [vU root r0 r1, .val (.int .i64 0), .val (.int .i64 i)] (.tup [vU root (r0.set i (d, d.length)) r1, .val (.int .i64 0)]) := by
  refine yT Tryz.func184 rfl Tryz.ntmps184 (Nat.le_of_ble_eq_true rfl) ?_
  repeat' (first | (refine zY.is ?_; first | refine zY.nil ?_ | (refine zY.at_ 12 rfl ?_; refine zY.rc (.v yZ (.v yZ (.w zO (.v zW .e)))) ?_) | (refine zY.in_ [11] rfl ?_; refine zY.v rfl rfl (yR (turnS0_fn root r0 r1 i d s hi h1) rfl rfl rfl (by decide)) ?_)) | (refine zZ.is ?_; first | refine zZ.seq ?_ | (refine zZ.iR 0 ?_; refine zZ.rc [0, 1, 2] [3, 6] (r := (.m yI (.m zT (.v zW .e)))) (h := ?_)) | (refine zZ.iR 1 ?_; refine zZ.rc [1, 2, 3, 6, 7] [3, 6] (r := (.v xC (.v zX (.v zX .e)))) (h := ?_)) | refine zZ.ret ?_))
  all_goals exact ⟨(by exact .inl rfl), _, Sub.refl _, .tup (rs := [.cell 6 57, .tmp 7]) (l := [vU root (r0.set i (d, d.length)) r1, .val (.int .i64 0)]) rfl (by decide) (.cons (.cellN rfl rfl (by rfl) (by rfl)) (.cons (.tmp rfl) .nil))⟩
end
section
attribute [local irreducible] zY zZ Step zV Sub zF zA Fn
def vO (t c : Int) (ws : List Int) (root : Int) (r0 r1 : List (List Int × Int)) : PV := .agg [.val (.int .i64 t), .val (.int .i64 c), .sl (wds ws), .val (.int .u64 root), .sl (strs r0), .sl (strs r1)]
def resF : PV := .agg [.val (.int .u64 0), .val (.slice none 0 0), .val (.bool true)]
theorem streams50_fn (root : Int) (r0 r1 : List (List Int × Int)) (i : Nat) (d : List Int) (s p q r : Int) (bs : List Int) (h0 : 0 ≤ root) (hr : root % 2 = 0) (hi : r0[i]? = some (d, s)) (h1 : r0.length ≤ 1000000) (h2 : d.length + bs.length ≤ 100000000) :
    Fn Tryz.prog 141 [vU root r0 r1, .val (.int .i64 i), accV 5 p q r (.sl (byts bs))] (.tup [vU root (r0.set i (d ++ bs, s)) r1, resN 0]) := by
  have c0 : Fn Tryz.prog 182 [vU root r0 r1] (.p (.val (.int .i64 0))) := hr ▸ row_fn root (.sl (strs r0)) (.sl (strs r1)) h0
  have c1 := diskApp0_fn root r0 r1 i d s bs hi h1 h2
  refine yT Tryz.func141 rfl Tryz.ntmps141 (Nat.le_of_ble_eq_true rfl) ?_
  repeat' (first | (refine zY.is ?_; first | refine zY.nil ?_ | (refine zY.at_ 16 rfl ?_; refine zY.rc (.v wW (.v yZ (.v yZ (.w zO .e)))) ?_) | (refine zY.at_ 8 rfl ?_; refine zY.rc (.v zW .e) ?_) | (refine zY.in_ [11] rfl ?_; refine zY.v rfl rfl (zG (c0) rfl rfl rfl (by decide)) ?_) | (refine zY.in_ [22] rfl ?_; refine zY.v rfl rfl (yR (c1) rfl rfl rfl (by decide)) ?_)) | (refine zZ.is ?_; first | refine zZ.seq ?_ | (refine zZ.iR 0 ?_; refine zZ.rc [0, 1, 2] [3, 5, 6, 7, 9] (r := (.m yI (.m yI (.m zT (.m zT .e))))) (h := ?_)) | (refine zZ.iR 1 ?_; refine zZ.rc [1, 3, 5, 6, 7] [3, 5, 6, 7, 9] (r := (.v xC .e)) (h := ?_)) | (refine zZ.iR 2 ?_; refine zZ.rc [1, 3, 5, 6, 7, 8] [3, 5, 6, 7, 9] (r := (.m zT .e)) (h := ?_)) | (refine zZ.iR 3 ?_; refine zZ.rc [1, 3, 5, 6, 7, 8, 9] [3, 5, 6, 7, 9] (r := (.v zH (.v zL .e))) (h := ?_)) | (refine zZ.iR 4 ?_; refine zZ.rc [1, 3, 5, 6, 7, 8, 9, 13] [3, 5, 6, 7, 9] (r := (.v v41_4 (.v zW .e))) (h := ?_)) | (refine zZ.iR 5 ?_; refine zZ.rc [1, 3, 5, 6, 7, 8, 9, 13] [3, 5, 6, 7, 9] (r := (.v xC (.v zX (.v zX (.v zH (.v zL .e)))))) (h := ?_)) | (refine zZ.iq 20 ?_; refine zZ.rqa _ K_15 K_16 (zZ.drawAll (by kernel_rfl) ?_); repeat' (first | refine DAll.many (by rfl) ?_ | refine zP.cons ?_ ?_ | exact zP.nil | refine DOne.v rfl rfl rfl (xX rfl rfl rfl (by rfl) (by rfl) rfl (by decide)) ?_ | refine DOne.w rfl rfl (by exact y8 rfl rfl rfl rfl rfl (by rfl) (by exact Nat.le_of_ble_eq_true rfl) rfl rfl) ?_ | refine DAll.fin (by rfl) ?_)) | refine zZ.yB rfl bA ?_ | refine zZ.block ?_ | refine zZ.ret ?_))
  all_goals exact ⟨by first | exact .inl rfl | exact .inr rfl, _, Sub.refl _, .tup (rs := [.cell 6 57, .cell 7 125]) (l := [vU root (r0.set i (d ++ bs, s)) r1, resN 0]) rfl (by decide) (.cons (.cellN rfl rfl (by rfl) (by rfl)) (.cons (.cellN rfl rfl (by rfl) (by rfl)) .nil))⟩
theorem doFail5_fn (t c p q r me root : Int) (ws : List Int) (d : PV) (r0 r1 : List (List Int × Int)) :
    Fn Tryz.prog 72 [vO t c ws root r0 r1, .val (.int .i64 me), accV 5 p q r d, .val (.bool true)] (.tup [vO t c ws root r0 r1, resF]) := by
  have c0 : Fn Tryz.prog 140 [.val (.int .i64 5)] (.p (.val (.bool true))) := isDisk_fn 5
  refine yT Tryz.func72 rfl Tryz.ntmps72 (Nat.le_of_ble_eq_true rfl) ?_
  repeat' (first | (refine zY.is ?_; first | refine zY.nil ?_ | (refine zY.at_ 23 rfl ?_; refine zY.rc (.v zX (.gY zX (.v yH (.v zW .e)))) ?_) | (refine zY.in_ [22] rfl ?_; refine zY.v rfl rfl (zG (c0) rfl rfl rfl (by decide)) ?_)) | (refine zZ.is ?_; first | refine zZ.seq ?_ | (refine zZ.iR 0 ?_; refine zZ.rc [0, 1, 2, 3] [4, 6, 8, 9, 10] (r := (.m yI (.m yI (.m zT (.m zT .e))))) (h := ?_)) | (refine zZ.iR 1 ?_; refine zZ.rc [1, 3, 4, 6, 8, 9] [4, 6, 8, 9, 10] (r := (.m zT .e)) (h := ?_)) | (refine zZ.iR 3 ?_; refine zZ.rc [1, 3, 4, 6, 8, 9, 10] [4, 6, 8, 9, 10] (r := (.v zH (.v zL .e))) (h := ?_)) | (refine zZ.iR 4 ?_; refine zZ.rc [1, 4, 6, 8, 9, 10] [4, 6, 8, 9, 10] (r := (.v zH (.w zO .e))) (h := ?_)) | (refine zZ.iq 10 ?_; refine zZ.rqa _ K_8 K_9 (zZ.drawAll (by kernel_rfl) ?_); repeat' (first | refine DAll.many (by rfl) ?_ | refine zP.cons ?_ ?_ | exact zP.nil | refine DOne.v rfl rfl rfl (xX rfl rfl rfl (by rfl) (by rfl) rfl (by decide)) ?_ | refine DOne.w rfl rfl (by exact y8 rfl rfl rfl rfl rfl (by rfl) (by exact Nat.le_of_ble_eq_true rfl) rfl rfl) ?_ | refine DAll.fin (by rfl) ?_)) | refine zZ.yB rfl bA ?_ | refine zZ.block ?_ | refine zZ.ret ?_))
  all_goals exact ⟨by first | exact .inl rfl | exact .inr rfl, _, Sub.refl _, .tup (rs := [.cell 8 59, .cell 9 125]) (l := [vO t c ws root r0 r1, resF]) rfl (by decide) (.cons (.cellN rfl rfl (by rfl) (by rfl)) (.cons (.cellN rfl rfl (by rfl) (by rfl)) .nil))⟩
theorem doDisk50_fn (t c p q r root : Int) (ws : List Int) (r0 r1 : List (List Int × Int)) (i : Nat) (d : List Int) (s : Int) (bs : List Int) (h0 : 0 ≤ root) (hr : root % 2 = 0) (hi : r0[i]? = some (d, s)) (h1 : r0.length ≤ 1000000) (h2 : d.length + bs.length ≤ 100000000) :
    Fn Tryz.prog 72 [vO t c ws root r0 r1, .val (.int .i64 i), accV 5 p q r (.sl (byts bs)), .val (.bool false)] (.tup [vO t c ws root (r0.set i (d ++ bs, s)) r1, resN 0]) := by
  have c0 : Fn Tryz.prog 140 [.val (.int .i64 5)] (.p (.val (.bool true))) := isDisk_fn 5
  have c1 := streams50_fn root r0 r1 i d s p q r bs h0 hr hi h1 h2
  refine yT Tryz.func72 rfl Tryz.ntmps72 (Nat.le_of_ble_eq_true rfl) ?_
  repeat' (first | (refine zY.is ?_; first | refine zY.nil ?_ | (refine zY.at_ 23 rfl ?_; refine zY.rc (.v zX (.gY zX (.v yH (.v zW .e)))) ?_) | (refine zY.at_ 27 rfl ?_; refine zY.rc (.v zW .e) ?_) | (refine zY.at_ 31 rfl ?_; refine zY.rc (.v wW (.v yZ (.v yZ (.v zH (.w zO (.w zO .e)))))) ?_) | (refine zY.in_ [22, 30] rfl ?_; refine zY.v rfl rfl (zG (c0) rfl rfl rfl (by decide)) ?_) | (refine zY.in_ [36] rfl ?_; refine zY.v rfl rfl (yR (c1) rfl rfl rfl (by decide)) ?_)) | (refine zZ.is ?_; first | refine zZ.seq ?_ | (refine zZ.iR 0 ?_; refine zZ.rc [0, 1, 2, 3] [4, 6, 8, 9, 10] (r := (.m yI (.m yI (.m zT (.m zT .e))))) (h := ?_)) | (refine zZ.iR 1 ?_; refine zZ.rc [1, 3, 4, 6, 8, 9] [4, 6, 8, 9, 10] (r := (.m zT .e)) (h := ?_)) | (refine zZ.iR 3 ?_; refine zZ.rc [1, 3, 4, 6, 8, 9, 10] [4, 6, 8, 9, 10] (r := (.v zH (.v zL .e))) (h := ?_)) | (refine zZ.iR 5 ?_; refine zZ.rc [1, 4, 6, 8, 9, 10] [4, 6, 8, 9, 10] (r := (.v zH (.v zL .e))) (h := ?_)) | (refine zZ.iR 6 ?_; refine zZ.rc [1, 4, 6, 8, 9, 10] [4, 6, 8, 9, 10] (r := (.v zH (.v xC (.v zX (.v xC .e))))) (h := ?_)) | (refine zZ.iq 10 ?_; refine zZ.rqa _ K_8 K_9 (zZ.drawAll (by kernel_rfl) ?_); repeat' (first | refine DAll.many (by rfl) ?_ | refine zP.cons ?_ ?_ | exact zP.nil | refine DOne.v rfl rfl rfl (xX rfl rfl rfl (by rfl) (by rfl) rfl (by decide)) ?_ | refine DOne.w rfl rfl (by exact y8 rfl rfl rfl rfl rfl (by rfl) (by exact Nat.le_of_ble_eq_true rfl) rfl rfl) ?_ | refine DAll.fin (by rfl) ?_)) | refine zZ.yB rfl bA ?_ | refine zZ.yA rfl bA ?_ | refine zZ.block ?_ | refine zZ.ret ?_))
  all_goals exact ⟨by first | exact .inl rfl | exact .inr rfl, _, Sub.refl _, .tup (rs := [.cell 8 59, .cell 9 125]) (l := [vO t c ws root (r0.set i (d ++ bs, s)) r1, resN 0]) rfl (by decide) (.cons (.cellN rfl rfl (by rfl) (by rfl)) (.cons (.cellN rfl rfl (by rfl) (by rfl)) .nil))⟩
theorem streams60_fn (root : Int) (r0 r1 : List (List Int × Int)) (i : Nat) (d : List Int) (s p q r : Int) (x : PV) (h0 : 0 ≤ root) (hr : root % 2 = 0) (hi : r0[i]? = some (d, s)) (h1 : r0.length ≤ 1000000) :
    Fn Tryz.prog 141 [vU root r0 r1, .val (.int .i64 i), accV 6 p q r (x)] (.tup [vU root (r0.set i (d, d.length)) r1, resN 0]) := by
  have c0 : Fn Tryz.prog 182 [vU root r0 r1] (.p (.val (.int .i64 0))) := hr ▸ row_fn root (.sl (strs r0)) (.sl (strs r1)) h0
  have c1 := diskSync0_fn root r0 r1 i d s hi h1
  refine yT Tryz.func141 rfl Tryz.ntmps141 (Nat.le_of_ble_eq_true rfl) ?_
  repeat' (first | (refine zY.is ?_; first | refine zY.nil ?_ | (refine zY.at_ 27 rfl ?_; refine zY.rc (.v wW (.v yZ (.v yZ (.w zO .e)))) ?_) | (refine zY.at_ 8 rfl ?_; refine zY.rc (.v zW .e) ?_) | (refine zY.in_ [11] rfl ?_; refine zY.v rfl rfl (zG (c0) rfl rfl rfl (by decide)) ?_) | (refine zY.in_ [31] rfl ?_; refine zY.v rfl rfl (yR (c1) rfl rfl rfl (by decide)) ?_)) | (refine zZ.is ?_; first | refine zZ.seq ?_ | (refine zZ.iR 0 ?_; refine zZ.rc [0, 1, 2] [3, 5, 6, 7, 9] (r := (.m yI (.m yI (.m zT (.m zT .e))))) (h := ?_)) | (refine zZ.iR 1 ?_; refine zZ.rc [1, 3, 5, 6, 7] [3, 5, 6, 7, 9] (r := (.v xC .e)) (h := ?_)) | (refine zZ.iR 2 ?_; refine zZ.rc [1, 3, 5, 6, 7, 8] [3, 5, 6, 7, 9] (r := (.m zT .e)) (h := ?_)) | (refine zZ.iR 3 ?_; refine zZ.rc [1, 3, 5, 6, 7, 8, 9] [3, 5, 6, 7, 9] (r := (.v zH (.v zL .e))) (h := ?_)) | (refine zZ.iR 4 ?_; refine zZ.rc [1, 3, 5, 6, 7, 8, 9, 13] [3, 5, 6, 7, 9] (r := (.v v41_5 (.v zW .e))) (h := ?_)) | (refine zZ.iR 6 ?_; refine zZ.rc [1, 3, 5, 6, 7, 8, 9, 13] [3, 5, 6, 7, 9] (r := (.v v41_4 (.v zW .e))) (h := ?_)) | (refine zZ.iR 7 ?_; refine zZ.rc [1, 3, 5, 6, 7, 8, 9, 13] [3, 5, 6, 7, 9] (r := (.v xC (.v zX (.v zX .e)))) (h := ?_)) | (refine zZ.iq 20 ?_; refine zZ.rqa _ K_15 K_16 (zZ.drawAll (by kernel_rfl) ?_); repeat' (first | refine DAll.many (by rfl) ?_ | refine zP.cons ?_ ?_ | exact zP.nil | refine DOne.v rfl rfl rfl (xX rfl rfl rfl (by rfl) (by rfl) rfl (by decide)) ?_ | refine DOne.w rfl rfl (by exact y8 rfl rfl rfl rfl rfl (by rfl) (by exact Nat.le_of_ble_eq_true rfl) rfl rfl) ?_ | refine DAll.fin (by rfl) ?_)) | refine zZ.yB rfl bA ?_ | refine zZ.yA rfl bA ?_ | refine zZ.block ?_ | refine zZ.ret ?_))
  all_goals exact ⟨by first | exact .inl rfl | exact .inr rfl, _, Sub.refl _, .tup (rs := [.cell 6 57, .cell 7 125]) (l := [vU root (r0.set i (d, d.length)) r1, resN 0]) rfl (by decide) (.cons (.cellN rfl rfl (by rfl) (by rfl)) (.cons (.cellN rfl rfl (by rfl) (by rfl)) .nil))⟩
theorem doFail6_fn (t c p q r me root : Int) (ws : List Int) (d : PV) (r0 r1 : List (List Int × Int)) :
    Fn Tryz.prog 72 [vO t c ws root r0 r1, .val (.int .i64 me), accV 6 p q r d, .val (.bool true)] (.tup [vO t c ws root r0 r1, resF]) := by
  have c0 : Fn Tryz.prog 140 [.val (.int .i64 6)] (.p (.val (.bool true))) := isDisk_fn 6
  refine yT Tryz.func72 rfl Tryz.ntmps72 (Nat.le_of_ble_eq_true rfl) ?_
  repeat' (first | (refine zY.is ?_; first | refine zY.nil ?_ | (refine zY.at_ 23 rfl ?_; refine zY.rc (.v zX (.gY zX (.v yH (.v zW .e)))) ?_) | (refine zY.in_ [22] rfl ?_; refine zY.v rfl rfl (zG (c0) rfl rfl rfl (by decide)) ?_)) | (refine zZ.is ?_; first | refine zZ.seq ?_ | (refine zZ.iR 0 ?_; refine zZ.rc [0, 1, 2, 3] [4, 6, 8, 9, 10] (r := (.m yI (.m yI (.m zT (.m zT .e))))) (h := ?_)) | (refine zZ.iR 1 ?_; refine zZ.rc [1, 3, 4, 6, 8, 9] [4, 6, 8, 9, 10] (r := (.m zT .e)) (h := ?_)) | (refine zZ.iR 3 ?_; refine zZ.rc [1, 3, 4, 6, 8, 9, 10] [4, 6, 8, 9, 10] (r := (.v zH (.v zL .e))) (h := ?_)) | (refine zZ.iR 4 ?_; refine zZ.rc [1, 4, 6, 8, 9, 10] [4, 6, 8, 9, 10] (r := (.v zH (.w zO .e))) (h := ?_)) | (refine zZ.iq 10 ?_; refine zZ.rqa _ K_8 K_9 (zZ.drawAll (by kernel_rfl) ?_); repeat' (first | refine DAll.many (by rfl) ?_ | refine zP.cons ?_ ?_ | exact zP.nil | refine DOne.v rfl rfl rfl (xX rfl rfl rfl (by rfl) (by rfl) rfl (by decide)) ?_ | refine DOne.w rfl rfl (by exact y8 rfl rfl rfl rfl rfl (by rfl) (by exact Nat.le_of_ble_eq_true rfl) rfl rfl) ?_ | refine DAll.fin (by rfl) ?_)) | refine zZ.yB rfl bA ?_ | refine zZ.block ?_ | refine zZ.ret ?_))
  all_goals exact ⟨by first | exact .inl rfl | exact .inr rfl, _, Sub.refl _, .tup (rs := [.cell 8 59, .cell 9 125]) (l := [vO t c ws root r0 r1, resF]) rfl (by decide) (.cons (.cellN rfl rfl (by rfl) (by rfl)) (.cons (.cellN rfl rfl (by rfl) (by rfl)) .nil))⟩
theorem doDisk60_fn (t c p q r root : Int) (ws : List Int) (r0 r1 : List (List Int × Int)) (i : Nat) (d : List Int) (s : Int) (x : PV) (h0 : 0 ≤ root) (hr : root % 2 = 0) (hi : r0[i]? = some (d, s)) (h1 : r0.length ≤ 1000000) :
    Fn Tryz.prog 72 [vO t c ws root r0 r1, .val (.int .i64 i), accV 6 p q r (x), .val (.bool false)] (.tup [vO t c ws root (r0.set i (d, d.length)) r1, resN 0]) := by
  have c0 : Fn Tryz.prog 140 [.val (.int .i64 6)] (.p (.val (.bool true))) := isDisk_fn 6
  have c1 := streams60_fn root r0 r1 i d s p q r x h0 hr hi h1
  refine yT Tryz.func72 rfl Tryz.ntmps72 (Nat.le_of_ble_eq_true rfl) ?_
  repeat' (first | (refine zY.is ?_; first | refine zY.nil ?_ | (refine zY.at_ 23 rfl ?_; refine zY.rc (.v zX (.gY zX (.v yH (.v zW .e)))) ?_) | (refine zY.at_ 27 rfl ?_; refine zY.rc (.v zW .e) ?_) | (refine zY.at_ 31 rfl ?_; refine zY.rc (.v wW (.v yZ (.v yZ (.v zH (.w zO (.w zO .e)))))) ?_) | (refine zY.in_ [22, 30] rfl ?_; refine zY.v rfl rfl (zG (c0) rfl rfl rfl (by decide)) ?_) | (refine zY.in_ [36] rfl ?_; refine zY.v rfl rfl (yR (c1) rfl rfl rfl (by decide)) ?_)) | (refine zZ.is ?_; first | refine zZ.seq ?_ | (refine zZ.iR 0 ?_; refine zZ.rc [0, 1, 2, 3] [4, 6, 8, 9, 10] (r := (.m yI (.m yI (.m zT (.m zT .e))))) (h := ?_)) | (refine zZ.iR 1 ?_; refine zZ.rc [1, 3, 4, 6, 8, 9] [4, 6, 8, 9, 10] (r := (.m zT .e)) (h := ?_)) | (refine zZ.iR 3 ?_; refine zZ.rc [1, 3, 4, 6, 8, 9, 10] [4, 6, 8, 9, 10] (r := (.v zH (.v zL .e))) (h := ?_)) | (refine zZ.iR 5 ?_; refine zZ.rc [1, 4, 6, 8, 9, 10] [4, 6, 8, 9, 10] (r := (.v zH (.v zL .e))) (h := ?_)) | (refine zZ.iR 6 ?_; refine zZ.rc [1, 4, 6, 8, 9, 10] [4, 6, 8, 9, 10] (r := (.v zH (.v xC (.v zX (.v xC .e))))) (h := ?_)) | (refine zZ.iq 10 ?_; refine zZ.rqa _ K_8 K_9 (zZ.drawAll (by kernel_rfl) ?_); repeat' (first | refine DAll.many (by rfl) ?_ | refine zP.cons ?_ ?_ | exact zP.nil | refine DOne.v rfl rfl rfl (xX rfl rfl rfl (by rfl) (by rfl) rfl (by decide)) ?_ | refine DOne.w rfl rfl (by exact y8 rfl rfl rfl rfl rfl (by rfl) (by exact Nat.le_of_ble_eq_true rfl) rfl rfl) ?_ | refine DAll.fin (by rfl) ?_)) | refine zZ.yB rfl bA ?_ | refine zZ.yA rfl bA ?_ | refine zZ.block ?_ | refine zZ.ret ?_))
  all_goals exact ⟨by first | exact .inl rfl | exact .inr rfl, _, Sub.refl _, .tup (rs := [.cell 8 59, .cell 9 125]) (l := [vO t c ws root (r0.set i (d, d.length)) r1, resN 0]) rfl (by decide) (.cons (.cellN rfl rfl (by rfl) (by rfl)) (.cons (.cellN rfl rfl (by rfl) (by rfl)) .nil))⟩
theorem doWord_fn (t c kd a b old me root : Int) (hkd : 0 ≤ kd ∧ kd ≤ 4) (i : Nat) (ws : List Int) (d : PV) (r0 r1 : List (List Int × Int)) (fails : Bool) (hi : ws[i]? = some old) (h1 : ws.length ≤ 1000000) :
    Fn Tryz.prog 72 [vO t c ws root r0 r1, .val (.int .i64 me), accV kd i a b d, .val (.bool fails)] (.tup [vO t c (ws.set i (turnR kd old a b).2) root r0 r1, resN (turnR kd old a b).1]) := by
  have c0 : Fn Tryz.prog 140 [.val (.int .i64 kd)] (.p (.val (.bool false))) := by
    have e : (decide (5 ≤ kd) && decide (kd ≤ 12)) = false := by rw [decide_eq_false (show ¬5 ≤ kd by omega)]; rfl
    exact e ▸ isDisk_fn kd
  have c1 := words_fn t c kd a b old hkd i ws d hi h1
  have g1 : decide (kd = 13) = false := decide_eq_false (by omega)
  refine yT Tryz.func72 rfl Tryz.ntmps72 (Nat.le_of_ble_eq_true rfl) ?_
  repeat' (first | (refine zY.is ?_; first | refine zY.nil ?_ | (refine zY.at_ 11 rfl ?_; refine zY.rc (.v wW (.v yZ (.v yZ (.v zH (.w zO (.w zO .e)))))) ?_) | (refine zY.at_ 23 rfl ?_; refine zY.rc (.v zX (.gT (.v yP (.v zW .e)))) ?_) | (refine zY.at_ 27 rfl ?_; refine zY.rc (.v zW .e) ?_) | (refine zY.in_ [22, 30] rfl ?_; refine zY.v rfl rfl (zG (c0) rfl rfl rfl (by decide)) ?_) | (refine zY.in_ [15] rfl ?_; refine zY.v rfl rfl (yR (c1) rfl rfl rfl (by decide)) ?_)) | (refine zZ.is ?_; first | refine zZ.seq ?_ | (refine zZ.iR 0 ?_; refine zZ.rc [0, 1, 2, 3] [4, 6, 8, 9, 10] (r := (.m yI (.m yI (.m zT (.m zT .e))))) (h := ?_)) | (refine zZ.iR 1 ?_; refine zZ.rc [1, 3, 4, 6, 8, 9] [4, 6, 8, 9, 10] (r := (.m zT .e)) (h := ?_)) | (refine zZ.iR 3 ?_; refine zZ.rc [1, 3, 4, 6, 8, 9, 10] [4, 6, 8, 9, 10] (r := (.v zH (.v zL .e))) (h := ?_)) | (refine zZ.iR 5 ?_; refine zZ.rc [1, 4, 6, 8, 9, 10] [4, 6, 8, 9, 10] (r := (.v zH (.v zL .e))) (h := ?_)) | (refine zZ.iR 7 ?_; refine zZ.rc [4, 6, 8, 9, 10] [4, 6, 8, 9, 10] (r := (.v zH (.v zL (.v v41_0 (.v zW .e))))) (h := ?_)) | (refine zZ.iR 2 ?_; refine zZ.rc [4, 6, 8, 9, 10] [4, 6, 8, 9, 10] (r := (.v zH (.v xC (.v xC .e)))) (h := ?_)) | (refine zZ.iq 10 ?_; refine zZ.rqa _ K_8 K_9 (zZ.drawAll (by kernel_rfl) ?_); repeat' (first | refine DAll.many (by rfl) ?_ | refine zP.cons ?_ ?_ | exact zP.nil | refine DOne.v rfl rfl rfl (xX rfl rfl rfl (by rfl) (by rfl) rfl (by decide)) ?_ | refine DOne.w rfl rfl (by exact y8 rfl rfl rfl rfl rfl (by rfl) (by exact Nat.le_of_ble_eq_true rfl) rfl rfl) ?_ | refine DAll.fin (by rfl) ?_)) | refine zZ.yA rfl bA ?_ | refine zZ.block ?_ | refine zZ.ret ?_))
  all_goals exact ⟨by first | exact .inl rfl | exact .inr rfl, _, Sub.refl _, .tup (rs := [.cell 8 59, .cell 9 125]) (l := [vO t c (ws.set i (turnR kd old a b).2) root r0 r1, resN (turnR kd old a b).1]) rfl (by decide) (.cons (.cellN rfl rfl (by rfl) (by rfl)) (.cons (.cellN rfl rfl (by rfl) (by rfl)) .nil))⟩
theorem doOut_fn (t c kd cell a b me root : Int) (hkd : 0 ≤ kd ∧ kd ≤ 4) (ws : List Int) (d : PV) (r0 r1 : List (List Int × Int)) (fails : Bool) (hi : cell < 0 ∨ (ws.length : Int) ≤ cell) :
    Fn Tryz.prog 72 [vO t c ws root r0 r1, .val (.int .i64 me), accV kd cell a b d, .val (.bool fails)] (.tup [vO t c ws root r0 r1, resN 0]) := by
  have c0 : Fn Tryz.prog 140 [.val (.int .i64 kd)] (.p (.val (.bool false))) := by
    have e : (decide (5 ≤ kd) && decide (kd ≤ 12)) = false := by rw [decide_eq_false (show ¬5 ≤ kd by omega)]; rfl
    exact e ▸ isDisk_fn kd
  have c1 := wordsOut_fn t c kd cell a b ws d hi
  have g1 : decide (kd = 13) = false := decide_eq_false (by omega)
  refine yT Tryz.func72 rfl Tryz.ntmps72 (Nat.le_of_ble_eq_true rfl) ?_
  repeat' (first | (refine zY.is ?_; first | refine zY.nil ?_ | (refine zY.at_ 11 rfl ?_; refine zY.rc (.v wW (.v yZ (.v yZ (.v zH (.w zO (.w zO .e)))))) ?_) | (refine zY.at_ 23 rfl ?_; refine zY.rc (.v zX (.gT (.v yP (.v zW .e)))) ?_) | (refine zY.at_ 27 rfl ?_; refine zY.rc (.v zW .e) ?_) | (refine zY.in_ [22, 30] rfl ?_; refine zY.v rfl rfl (zG (c0) rfl rfl rfl (by decide)) ?_) | (refine zY.in_ [15] rfl ?_; refine zY.v rfl rfl (yR (c1) rfl rfl rfl (by decide)) ?_)) | (refine zZ.is ?_; first | refine zZ.seq ?_ | (refine zZ.iR 0 ?_; refine zZ.rc [0, 1, 2, 3] [4, 6, 8, 9, 10] (r := (.m yI (.m yI (.m zT (.m zT .e))))) (h := ?_)) | (refine zZ.iR 1 ?_; refine zZ.rc [1, 3, 4, 6, 8, 9] [4, 6, 8, 9, 10] (r := (.m zT .e)) (h := ?_)) | (refine zZ.iR 3 ?_; refine zZ.rc [1, 3, 4, 6, 8, 9, 10] [4, 6, 8, 9, 10] (r := (.v zH (.v zL .e))) (h := ?_)) | (refine zZ.iR 5 ?_; refine zZ.rc [1, 4, 6, 8, 9, 10] [4, 6, 8, 9, 10] (r := (.v zH (.v zL .e))) (h := ?_)) | (refine zZ.iR 7 ?_; refine zZ.rc [4, 6, 8, 9, 10] [4, 6, 8, 9, 10] (r := (.v zH (.v zL (.v v41_0 (.v zW .e))))) (h := ?_)) | (refine zZ.iR 2 ?_; refine zZ.rc [4, 6, 8, 9, 10] [4, 6, 8, 9, 10] (r := (.v zH (.v xC (.v xC .e)))) (h := ?_)) | (refine zZ.iq 10 ?_; refine zZ.rqa _ K_8 K_9 (zZ.drawAll (by kernel_rfl) ?_); repeat' (first | refine DAll.many (by rfl) ?_ | refine zP.cons ?_ ?_ | exact zP.nil | refine DOne.v rfl rfl rfl (xX rfl rfl rfl (by rfl) (by rfl) rfl (by decide)) ?_ | refine DOne.w rfl rfl (by exact y8 rfl rfl rfl rfl rfl (by rfl) (by exact Nat.le_of_ble_eq_true rfl) rfl rfl) ?_ | refine DAll.fin (by rfl) ?_)) | refine zZ.yA rfl bA ?_ | refine zZ.block ?_ | refine zZ.ret ?_))
  all_goals exact ⟨by first | exact .inl rfl | exact .inr rfl, _, Sub.refl _, .tup (rs := [.cell 8 59, .cell 9 125]) (l := [vO t c ws root r0 r1, resN 0]) rfl (by decide) (.cons (.cellN rfl rfl (by rfl) (by rfl)) (.cons (.cellN rfl rfl (by rfl) (by rfl)) .nil))⟩
end
section
inductive PLe0 : PV → PV → Prop
  | refl (x : PV) : PLe0 x x
  | nil : PLe0 (.val (.slice none 0 0)) (.sl [])
inductive PL0s : List PV → List PV → Prop
  | nil : PL0s [] []
  | cons {x y : PV} {xs ys : List PV} (h : PLe0 x y) (hs : PL0s xs ys) : PL0s (x :: xs) (y :: ys)
inductive PLe1 : PV → PV → Prop
  | refl (x : PV) : PLe1 x x
  | nil : PLe1 (.val (.slice none 0 0)) (.sl [])
  | sl {xs ys : List PV} (hl : xs.length = ys.length) (h : PL0s (flat xs) (flat ys)) : PLe1 (.sl xs) (.sl ys)
inductive PLes : List PV → List PV → Prop
  | nil : PLes [] []
  | cons {x y : PV} {xs ys : List PV} (h : PLe1 x y) (hs : PLes xs ys) : PLes (x :: xs) (y :: ys)
inductive PLe : PV → PV → Prop
  | one {x y : PV} (h : PLe1 x y) : PLe x y
  | agg {xs ys : List PV} (h : PLes xs ys) : PLe (.agg xs) (.agg ys)
inductive PLet : List PV → List PV → Prop
  | nil : PLet [] []
  | cons {x y : PV} {xs ys : List PV} (h : PLe x y) (hs : PLet xs ys) : PLet (x :: xs) (y :: ys)
theorem PLe0.rep {x y : PV} (h : PLe0 x y) {M : Nat → Nat → Prop} {w : World} {v : Value} (hr : Rep M w x v) : Rep M w y v := by
  cases h with
  | refl => exact hr
  | nil => cases hr; exact .nil
theorem PL0s.at_ {xs ys : List PV} (h : PL0s xs ys) : xs.length = ys.length ∧ ∀ (i : Nat) y, ys[i]? = some y → ∃ x, xs[i]? = some x ∧ PLe0 x y := by
  induction h with
  | nil => exact ⟨rfl, fun i y h => by simp at h⟩
  | cons h hs ih =>
    refine ⟨by simp [ih.1], fun i y hy => ?_⟩
    cases i with
    | zero => simp at hy; subst hy; exact ⟨_, rfl, h⟩
    | succ i => exact ih.2 i y hy
theorem PLe1.rep {x y : PV} (h : PLe1 x y) {M : Nat → Nat → Prop} {w : World} {v : Value} (hr : Rep M w x v) : Rep M w y v := by
  cases h with
  | refl => exact hr
  | nil => cases hr; exact .nil
  | sl hl h =>
    obtain ⟨hfl, hat⟩ := h.at_
    rcases rep_sl hr with ⟨⟨b, rfl⟩, h0⟩ | ⟨g, off, cap, us, rfl, hl2, hcell, hM, hg, hcap, hm⟩
    · subst h0
      have : _ = [] := List.eq_nil_of_length_eq_zero hl.symm
      subst this
      exact .nil
    · rw [hl] at hcap ⊢
      exact .sl _ g off _ cap us rfl (hl2.len.trans hfl) hcell (fun j c y hc hy => by
        obtain ⟨x, hx, hle⟩ := hat j c hc
        exact hle.rep (hl2.each j x y hx hy)) hl2.one hM hg hcap hm
theorem PLes.at_ {xs ys : List PV} (h : PLes xs ys) : xs.length = ys.length ∧ ∀ (i : Nat) y, ys[i]? = some y → ∃ x, xs[i]? = some x ∧ PLe1 x y := by
  induction h with
  | nil => exact ⟨rfl, fun i y h => by simp at h⟩
  | cons h hs ih =>
    refine ⟨by simp [ih.1], fun i y hy => ?_⟩
    cases i with
    | zero => simp at hy; subst hy; exact ⟨_, rfl, h⟩
    | succ i => exact ih.2 i y hy
theorem PLe.rep {x y : PV} (h : PLe x y) {M : Nat → Nat → Prop} {w : World} {v : Value} (hr : Rep M w x v) : Rep M w y v := by
  cases h with
  | one h => exact h.rep hr
  | agg h =>
    obtain ⟨hl, hat⟩ := h.at_
    cases hr with
    | agg cs vs hl2 h2 h1 => exact .agg _ vs (hl2.trans hl) (fun i c u hc hu => by
        obtain ⟨x, hx, hxy⟩ := hat i c hc
        exact hxy.rep (h2 i x u hx hu)) h1
theorem PLet.at_ {xs ys : List PV} (h : PLet xs ys) : xs.length = ys.length ∧ ∀ (i : Nat) y, ys[i]? = some y → ∃ x, xs[i]? = some x ∧ PLe x y := by
  induction h with
  | nil => exact ⟨rfl, fun i y h => by simp at h⟩
  | cons h hs ih =>
    refine ⟨by simp [ih.1], fun i y hy => ?_⟩
    cases i with
    | zero => simp at hy; subst hy; exact ⟨_, rfl, h⟩
    | succ i => exact ih.2 i y hy
theorem PLe.refl (x : PV) : PLe x x := .one (.refl x)
section
variable {P : Program} {f : FuncId}
theorem Fn.weakT {args l l' : List PV} (h : Fn P f args (.tup l)) (hl : PLet l l') : Fn P f args (.tup l') :=
  fun M w vs a b c d => (h M w vs a b c d).mono fun e w' ⟨v, e1, ⟨us, e2, e3, e4⟩, e5⟩ => ⟨v, e1, ⟨us, e2, e3.trans hl.at_.1, fun i x u hx hu => by
    obtain ⟨y, hy, hle⟩ := hl.at_.2 i x hx
    exact hle.rep (e4 i y u hy hu)⟩, e5⟩
end
end
section
attribute [local irreducible] zY zZ Step zV Sub zF zA Fn
structure Wd where
  t : Int
  c : Int
  ws : List Int
  root : Int
  r0 : List (List Int × Int)
  r1 : List (List Int × Int)
def Wd.pv (w : Wd) : PV := vO w.t w.c w.ws w.root w.r0 w.r1
def bytOf : PV → List Int
  | .val (.int _ n) => [n]
  | _ => []
def kW : PV → List Int
  | .sl es => es.flatMap bytOf
  | _ => []
theorem bytsOf_byts (bs : List Int) : kW (.sl (byts bs)) = bs := by
  show (byts bs).flatMap bytOf = bs
  induction bs with
  | nil => rfl
  | cons b r ih => show bytOf _ ++ (byts r).flatMap bytOf = _; rw [ih]; rfl
def strX (kind : Int) (bs : List Int) (p : List Int × Int) : List Int × Int := bif decide (kind = 5) then (p.1 ++ bs, p.2) else (p.1, (p.1.length : Int))
def doX (W : Wd) (me : Nat) (q : Ned) (fails : Bool) : Wd × yQ :=
  bif decide (q.kind = 5) || decide (q.kind = 6) then
    bif fails then (W, ⟨0, xZ, true⟩) else ({ W with r0 := match W.r0[me]? with
      | some p => W.r0.set me (strX q.kind (kW q.d) p)
      | none => W.r0 }, ⟨0, xZ, false⟩)
  else match (bif decide (q.cell < 0) then none else W.ws[q.cell.toNat]?) with
    | some old => ({ W with ws := W.ws.set q.cell.toNat (turnR q.kind old q.a q.b).2 }, ⟨(turnR q.kind old q.a q.b).1, xZ, false⟩)
    | none => (W, ⟨0, xZ, false⟩)
structure WdOK (b : Nat) (W : Wd) : Prop where
  ws : ∀ x ∈ W.ws, U x
  len : W.ws.length ≤ 1000000
  root : W.root = 0
  rows : W.r0.length ≤ 1000000
  str : ∀ p ∈ W.r0, p.1.length ≤ b
theorem WdOK.le {b c : Nat} {W : Wd} (h : WdOK b W) (hc : b ≤ c) : WdOK c W := ⟨h.ws, h.len, h.root, h.rows, fun p hp => Nat.le_trans (h.str p hp) hc⟩
theorem turnR_U {kind old a b : Int} (h : U old) (ha : U a) (hb : U b) : U (turnR kind old a b).1 ∧ U (turnR kind old a b).2 := by
  have z : U 0 := U.zero
  have z1 : U 1 := by unfold U; decide
  unfold turnR
  split
  · exact ⟨h, h⟩
  · split
    · exact ⟨z, ha⟩
    · split
      · split
        · exact ⟨z1, hb⟩
        · exact ⟨z, h⟩
      · split
        · exact ⟨h, by rw [wrapU]; unfold U; omega⟩
        · exact ⟨h, ha⟩
theorem kQ.len {q : Ned} (h : kQ q) : (kW q.d).length ≤ 1000 := by
  rcases h.d with h | ⟨_, bs, _, h1, e⟩
  · rw [h.2]; exact Nat.zero_le _
  · rw [e, bytsOf_byts]; exact h1
theorem doX_ok {b : Nat} {W : Wd} {q : Ned} (h : WdOK b W) (hq : kQ q) (me : Nat) (f : Bool) : WdOK (b + 1000) (doX W me q f).1 ∧ U (doX W me q f).2.n := by
  have h0 := h.le (Nat.le_add_right b 1000)
  have z : U 0 := U.zero
  have hl := hq.len
  unfold doX
  cases decide (q.kind = 5) || decide (q.kind = 6)
  · rw [cond_false]
    cases e : (bif decide (q.cell < 0) then none else W.ws[q.cell.toNat]?) with
    | none => exact ⟨h0, z⟩
    | some old =>
      have ho : U old := by
        cases hd : decide (q.cell < 0) <;> rw [hd] at e
        · exact h.ws _ (List.mem_of_getElem? e)
        · cases e
      obtain ⟨h1, h2⟩ := turnR_U (kind := q.kind) ho hq.a hq.b
      refine ⟨⟨fun x hx => ?_, by simpa using h.len, h.root, h.rows, h0.str⟩, h1⟩
      rcases List.mem_or_eq_of_mem_set hx with hx | rfl
      · exact h.ws x hx
      · exact h2
  · rw [cond_true]
    cases f
    · rw [cond_false]
      cases e : W.r0[me]? with
      | none => exact ⟨h0, z⟩
      | some p =>
        refine ⟨⟨h.ws, h.len, h.root, by simpa using h.rows, fun x hx => ?_⟩, z⟩
        rcases List.mem_or_eq_of_mem_set hx with hx | rfl
        · exact h0.str x hx
        · have hp := h.str p (List.mem_of_getElem? e)
          unfold strX
          cases decide (q.kind = 5)
          · exact Nat.le_trans hp (Nat.le_add_right _ _)
          · show (p.1 ++ kW q.d).length ≤ _
            rw [List.length_append]
            omega
    · exact ⟨h0, z⟩
theorem doX_keeps (W : Wd) (me : Nat) (q : Ned) (f : Bool) : (doX W me q f).1.t = W.t ∧ (doX W me q f).1.c = W.c ∧ (doX W me q f).1.r0.length = W.r0.length ∧ (doX W me q f).1.ws.length = W.ws.length ∧ (doX W me q f).1.r1 = W.r1 := by
  unfold doX
  cases decide (q.kind = 5) || decide (q.kind = 6)
  · rw [cond_false]
    cases (bif decide (q.cell < 0) then none else W.ws[q.cell.toNat]?) with
    | none => exact ⟨rfl, rfl, rfl, rfl, rfl⟩
    | some old => exact ⟨rfl, rfl, rfl, by simp, rfl⟩
  · rw [cond_true]
    cases f
    · rw [cond_false]
      cases W.r0[me]? with
      | none => exact ⟨rfl, rfl, rfl, rfl, rfl⟩
      | some p => exact ⟨rfl, rfl, by simp, rfl, rfl⟩
    · exact ⟨rfl, rfl, rfl, rfl, rfl⟩
theorem resN_le (n : Int) (fl : Bool) : PLe (.agg [.val (.int .u64 n), .val (.slice none 0 0), .val (.bool fl)]) (kM ⟨n, xZ, fl⟩) := .refl _
theorem doX_fn {b : Nat} {W : Wd} {q : Ned} (h : WdOK b W) (hb : b ≤ 90000000) (hq : kQ q) {me : Nat} (hme : me < W.r0.length) (f : Bool) :
    Fn Tryz.prog 72 [W.pv, .val (.int .i64 me), accV q.kind q.cell q.a q.b (.sl (byts (kW q.d))), .val (.bool f)] (.tup [(doX W me q f).1.pv, kM (doX W me q f).2]) := by
  obtain ⟨t, c, ws, root, r0, r1⟩ := W
  obtain ⟨kind, cell, a, b', d, w⟩ := q
  obtain rfl : root = 0 := h.root
  have hd : (0 ≤ kind ∧ kind ≤ 4) ∨ kind = 5 ∨ kind = 6 := by
    rcases hq.d with ⟨h, _⟩ | ⟨h, _⟩
    · rcases h with h | h
      · exact .inl h
      · exact .inr (.inr h)
    · exact .inr (.inl h)
  have hl : (kW d).length ≤ 1000 := hq.len
  rcases hd with hk | hk
  · have e : (decide (kind = 5) || decide (kind = 6)) = false := by rw [decide_eq_false (show ¬kind = 5 by omega), decide_eq_false (show ¬kind = 6 by omega)]; rfl
    unfold doX
    dsimp only
    rw [e, cond_false]
    by_cases hc : cell < 0
    · rw [decide_eq_true hc, cond_true]
      exact (doOut_fn t c kind cell a b' me 0 hk ws (.sl (byts (kW d))) r0 r1 f (.inl hc)).weakT (.cons (.refl _) (.cons (resN_le _ false) .nil))
    · rw [decide_eq_false hc, cond_false]
      cases ho : ws[cell.toNat]? with
      | none =>
        refine (doOut_fn t c kind cell a b' me 0 hk ws (.sl (byts (kW d))) r0 r1 f (.inr ?_)).weakT (.cons (.refl _) (.cons (resN_le _ false) .nil))
        have := List.getElem?_eq_none_iff.1 ho
        omega
      | some old =>
        obtain ⟨i, rfl⟩ : ∃ i : Nat, cell = (i : Int) := ⟨cell.toNat, by omega⟩
        rw [Int.toNat_natCast] at ho ⊢
        exact (doWord_fn t c kind a b' old me 0 hk i ws (.sl (byts (kW d))) r0 r1 f ho h.len).weakT (.cons (.refl _) (.cons (resN_le _ false) .nil))
  · have hme' : me < r0.length := hme
    have hr : r0[me]? = some r0[me] := List.getElem?_eq_getElem hme'
    have hs := h.str r0[me] (List.getElem_mem hme')
    generalize r0[me] = p at hr hs
    obtain ⟨x, s⟩ := p
    have hs : x.length ≤ b := hs
    unfold doX
    dsimp only
    rcases hk with rfl | rfl
    · cases f
      · simp only [hr, decide_true, Bool.true_or, cond_true, cond_false]
        exact (doDisk50_fn t c cell a b' 0 ws r0 r1 me x s (kW d) (by decide) rfl hr h.rows (by omega)).weakT (.cons (.refl _) (.cons (resN_le 0 false) .nil))
      · exact (doFail5_fn t c cell a b' me 0 ws (.sl (byts (kW d))) r0 r1).weakT (.cons (.refl _) (.cons (resN_le 0 true) .nil))
    · cases f
      · simp only [hr, decide_true, Bool.or_true, cond_true, cond_false]
        exact (doDisk60_fn t c cell a b' 0 ws r0 r1 me x s (.sl (byts (kW d))) (by decide) rfl hr h.rows).weakT (.cons (.refl _) (.cons (resN_le 0 false) .nil))
      · exact (doFail6_fn t c cell a b' me 0 ws (.sl (byts (kW d))) r0 r1).weakT (.cons (.refl _) (.cons (resN_le 0 true) .nil))
def wSt (me : Nat) (fail : Nat → Bool) (s : Wd × Nat) (q : Ned) : Ans (Wd × Nat) := .ret (doX s.1 me q (fail s.2)).2 ((doX s.1 me q (fail s.2)).1, s.2 + 1)
theorem wSt_le {α : Type} {me : Nat} {fail : Nat → Bool} : ∀ {p : Pr α} {s : Wd × Nat} {x : α} {s' : Wd × Nat}, p.run (wSt me fail) s = .done x s' → s.2 ≤ s'.2
  | .ret _, _, _, _, h => by cases h; exact Nat.le_refl _
  | .stuck, _, _, _, h => by cases h
  | .ask q k, s, _, s', h => by
    rw [vH] at h
    have h2 := wSt_le (p := k _) h
    exact Nat.le_trans (Nat.le_succ _) h2
def Pr.after {α : Type} : Pr α → List yQ → Option (Pr α)
  | p, [] => some p
  | .ask _ k, r :: L => (k r).after L
  | _, _ :: _ => none
theorem after_snoc {α : Type} {q : Ned} {k : yQ → Pr α} (r : yQ) : ∀ {L : List yQ} {p : Pr α}, p.after L = some (.ask q k) → p.after (L ++ [r]) = some (k r)
  | [], p, h => by
    have : p = .ask q k := by cases p <;> exact Option.some.inj h
    subst this
    show (k r).after [] = some (k r)
    cases k r <;> rfl
  | x :: L, .ask q' k', h => after_snoc r (L := L) (p := k' x) h
  | x :: L, .ret _, h => by cases h
  | x :: L, .stuck, h => by cases h
theorem after_run {α : Type} {p' : Pr α} : ∀ {L L0 : List yQ} {p : Pr α}, p.after L = some p' → p.run (y9 (L0 ++ L)) L0.length = p'.run (y9 (L0 ++ L)) (L0.length + L.length)
  | [], L0, p, h => by
    have : p = p' := by cases p <;> exact Option.some.inj h
    subst this
    simp
  | x :: L, L0, .ask q k, h => by
    have e : y9 (L0 ++ x :: L) L0.length q = .ret x (L0.length + 1) := by unfold y9; simp
    rw [vH, e]
    have := after_run (L := L) (L0 := L0 ++ [x]) (p := k x) h
    simp only [List.append_assoc, List.singleton_append, List.length_append, List.length_cons, List.length_nil, Nat.zero_add] at this ⊢
    rw [this]
    congr 1
    omega
  | x :: L, _, .ret _, h => by cases h
  | x :: L, _, .stuck, h => by cases h
theorem after_need {α : Type} {p : Pr α} {L : List yQ} {q : Ned} {k : yQ → Pr α} (h : p.after L = some (.ask q k)) : p.run (y9 L) 0 = .need q L.length := by
  have := after_run (L0 := []) h
  simp only [List.nil_append, List.length_nil, Nat.zero_add] at this
  rw [this, vH]
  have e : y9 L L.length q = .need q L.length := by unfold y9; simp
  rw [e]
theorem after_done {α : Type} {p : Pr α} {L : List yQ} {x : α} (h : p.after L = some (.ret x)) : p.run (y9 L) 0 = .done x L.length := by
  have := after_run (L0 := []) h
  simp only [List.nil_append, List.length_nil, Nat.zero_add] at this
  rw [this, zD]
end
section
attribute [local irreducible] zY zZ Step zV Sub zF zA Fn zK zI
structure AlSt where
  n : Nat
  W : Wd
  L : List yQ
  p : Pr OutN
def noFail (_ : Nat) : Bool := false
end
end Go.Proofs.YtohlllohmoojiaaGreatDoor
