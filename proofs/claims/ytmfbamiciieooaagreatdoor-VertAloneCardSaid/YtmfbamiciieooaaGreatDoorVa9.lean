/- Operations on vertices that step alone, one behind the other, by any threads, answer as a set of vertices does. (Part 9 of 10.) -/
import Derived.Test.YtmfbamiciieooaaGreatDoorVa8
import Derived.Laws.IdiomRangeMap
import Derived.RangeFuncRecord
/- Own maps: from numbers to plain values. Generic over the program. -/
namespace Go.Proofs.YtmfbamiciieooaaGreatDoor
set_option maxRecDepth 100000
set_option maxHeartbeats 16000000
open Go Go.RowKit
set_option linter.unusedSimpArgs false
set_option linter.unusedVariables false
/-- plain values: one cell, or some -/
def PV.one : PV → Bool
  | .val v => v.oneCell'
  | _ => false
def PV.plain : PV → Bool
  | .val v => v.oneCell'
  | .agg cs => cs.all PV.one
  | _ => false
def PV.v1 : PV → Value
  | .val v => v
  | _ => undef
def PV.vv : PV → Value
  | .val v => v
  | .agg cs => .agg (cs.map PV.v1).toArray
  | _ => undef
def PV.ofV : Value → PV
  | .agg cs => .agg (cs.toList.map PV.val)
  | v => .val v
theorem rep_one {M : Nat → Nat → Prop} {w : World} {x : PV} (h : x.one = true) : Rep M w x x.v1 ∧ x.v1.oneCell' = true := by
  cases x with
  | val v => exact ⟨.val v, h⟩
  | _ => cases h
theorem rep_plain {M : Nat → Nat → Prop} {w : World} {x : PV} (h : x.plain = true) : Rep M w x x.vv := by
  cases x with
  | val v => exact .val v
  | agg cs =>
    have h1 := List.all_eq_true.1 (show cs.all PV.one = true from h)
    refine .agg cs _ (by simp) (fun i c v hc hv => ?_) fun v hv => ?_
    · rw [List.getElem?_map, hc] at hv
      cases hv
      exact (rep_one (h1 c (List.mem_of_getElem? hc))).1
    · obtain ⟨c, hc, rfl⟩ := List.mem_map.1 hv
      exact (rep_one (M := M) (w := w) (h1 c hc)).2
  | _ => cases h
theorem rep_is {M : Nat → Nat → Prop} {w : World} {x : PV} {v : Value} (h : x.plain = true) (hr : Rep M w x v) : v = x.vv := by
  cases x with
  | val u => exact rep_val hr
  | agg cs =>
    obtain ⟨vs, rfl, hl, he⟩ := rep_agg hr
    have h1 := List.all_eq_true.1 (show cs.all PV.one = true from h)
    show _ = Value.agg (cs.map PV.v1).toArray
    congr 2
    apply List.ext_getElem?
    intro i
    rw [List.getElem?_map]
    cases hc : cs[i]? with
    | none =>
      rw [List.getElem?_eq_none_iff] at hc
      rw [List.getElem?_eq_none (by omega)]
      rfl
    | some c =>
      have hi : i < vs.length := by have := (List.getElem?_eq_some_iff.1 hc).1; omega
      rw [List.getElem?_eq_getElem hi]
      have h2 := he i c vs[i] hc (List.getElem?_eq_getElem hi)
      have h3 := h1 c (List.mem_of_getElem? hc)
      cases c with
      | val u => rw [rep_val h2]; rfl
      | _ => cases h3
  | _ => cases h
/-- a map's content: keys, in the order of their births, with values -/
abbrev ML := List (Int × PV)
def mget : ML → Int → Option PV
  | [], _ => none
  | (k, x) :: r, j => if k = j then some x else mget r j
structure MapQ (L : ML) (es : Array MapEntry) (clock : Nat) : Prop where
  is : es.toList.map (fun e => (e.key, e.val)) = L.map fun p => (Value.int .u64 p.1, p.2.vv)
  old : ∀ e ∈ es.toList, e.born < clock
  nodup : (es.toList.map (·.born)).Nodup
  keys : (L.map (·.1)).Nodup
  plain : ∀ p ∈ L, p.2.plain = true
def IsMap (L : ML) (_ : Nat) (o : Obj) : Prop := ∃ es clock, o = .map es clock ∧ MapQ L es clock
def mapB (L : ML) : Blk := .obj true (IsMap L)
theorem MapQ.nil : MapQ [] #[] 0 := ⟨rfl, fun e he => by simp at he, by simp, by simp, fun p hp => by cases hp⟩
theorem mget_mem : ∀ {L : ML} {j : Int} {x : PV}, mget L j = some x → (j, x) ∈ L
  | (k, y) :: r, j, x, h => by
    by_cases hk : k = j
    · subst hk; simp [mget] at h; simp [h]
    · simp only [mget, hk, if_false] at h
      exact List.mem_cons_of_mem _ (mget_mem h)
section
variable {P : Program} {w : World} {t e key : Nat}
end
section
variable {P : Program} {w : World} {t e key : Nat}
end
section
variable {P : Program} {n : Nat} {o : Oper} {S : AS} {d : Nat} {t : TypeId} {x y : Operand}
theorem w_makeMap (ho : o.op = .makeMap t none) (hd : o.dst = some d) (hn : d < n) : zX P n o S [] (.own d) (some (mapB [])) :=
  zX.made hd hn fun S2 hg _ M w0 ρ a w hs => by
    refine ⟨.map (some w.heap.size), w.alloc (.map #[] 0), ?_, World.grownBy_alloc w _ none, fun k hk => ?_, ?_, .inl rfl⟩
    · unfold execOp
      rw [ho]
      simp [Instr.makeMap, newObj, Sem.run]
    · simp only [zU, Option.some.injEq] at hk; omega
    · exact ⟨w.heap.size, .map #[] 0, rfl, Nat.zero_le _, by rw [heap_alloc_new], _, _, rfl, MapQ.nil⟩
/-- a map of the frame's own, where it lies -/
theorem Sat.mapAt {M : Nat → Nat → Prop} {w0 : Home} {w : World} {ρ : Nat → Value} {a : Act} (hs : Sat M n w0 S ρ a w) {x : Operand} {id : Nat} {Q : Nat → Obj → Prop} {L : ML} (hx : S.get x = .own id) (hb : S.blk id = some (.obj true Q)) (hQ : ∀ g o, Q g o → IsMap L g o) :
    ∃ m es clock, a.eval x = .map (some m) ∧ ρ id = .map (some m) ∧ w.heap[m]? = some (.map es clock) ∧ MapQ L es clock ∧ Q m (.map es clock) := by
  have h1 := hs.rep x
  rw [hx] at h1
  have h2 := vN h1
  obtain ⟨g, o, h3, _, h4, h5⟩ := hs.blks id _ hb
  obtain ⟨es, clock, rfl, h6⟩ := hQ g o h5
  exact ⟨g, es, clock, by rw [h2, h3]; rfl, by rw [h3]; rfl, h4, h6, h5⟩
end
def mapAt (m : Nat) (es : Array MapEntry) (clock : Nat) : Blk := .obj true fun g o => g = m ∧ o = .map es clock
section
variable {P : Program} {n : Nat} {o : Oper} {S : AS} {d : Nat} {t : TypeId} {x y : Operand}
end
end Go.Proofs.YtmfbamiciieooaaGreatDoor
/- Own maps from whole numbers. Generic over the program. -/
namespace Go.Proofs.YtmfbamiciieooaaGreatDoor
set_option maxRecDepth 100000
set_option maxHeartbeats 16000000
open Go Go.RowKit
set_option linter.unusedSimpArgs false
set_option linter.unusedVariables false
structure MapQI (L : ML) (es : Array MapEntry) (clock : Nat) : Prop where
  is : es.toList.map (fun e => (e.key, e.val)) = L.map fun p => (Value.int .i64 p.1, p.2.vv)
  plain : ∀ p ∈ L, p.2.plain = true
def IsMapI (L : ML) (_ : Nat) (o : Obj) : Prop := ∃ es clock, o = .map es clock ∧ MapQI L es clock
def mapBI (L : ML) : Blk := .obj true (IsMapI L)
theorem entries_consI {L : ML} {l : List MapEntry} (h : l.map (fun e => (e.key, e.val)) = L.map fun p => (Value.int .i64 p.1, p.2.vv)) : (l = [] ∧ L = []) ∨ ∃ e l' k x L', l = e :: l' ∧ L = (k, x) :: L' ∧ e.key = .int .i64 k ∧ e.val = x.vv ∧ l'.map (fun e => (e.key, e.val)) = L'.map fun p => (Value.int .i64 p.1, p.2.vv) := by
  cases l with
  | nil => cases L with
    | nil => exact .inl ⟨rfl, rfl⟩
    | cons => simp at h
  | cons e l' => cases L with
    | nil => simp at h
    | cons p L' =>
      simp only [List.map_cons, List.cons.injEq, Prod.mk.injEq] at h
      exact .inr ⟨e, l', p.1, p.2, L', rfl, rfl, h.1.1, h.1.2, h.2⟩
theorem findNow_mapI (j : Int) : ∀ (l : List MapEntry) (L : ML) (i : Nat), l.map (fun e => (e.key, e.val)) = L.map (fun p => (Value.int .i64 p.1, p.2.vv)) →
    (mget L j = none ∧ Instr.findNow (.int .i64) (.int .i64 j) l i = some none) ∨ ∃ q x, mget L j = some x ∧ Instr.findNow (.int .i64) (.int .i64 j) l i = some (some (i + q, x.vv)) := by
  intro l
  induction l with
  | nil =>
    intro L i h
    rcases entries_consI h with ⟨_, rfl⟩ | ⟨_, _, _, _, _, h, _⟩
    · exact .inl ⟨rfl, rfl⟩
    · cases h
  | cons e l ih =>
    intro L i h
    rcases entries_consI h with ⟨h, _⟩ | ⟨e', l', k, x, L', h1, rfl, h3, h4, h5⟩
    · cases h
    · injection h1 with h1 h2
      subst h1 h2
      by_cases hk : k = j
      · subst hk
        refine .inr ⟨0, x, by simp [mget], ?_⟩
        simp [Instr.findNow, h3, Instr.sameNow, h4]
      · have hk' : (j == k) = false := by simpa using fun h => hk h.symm
        rcases ih L' (i + 1) h5 with ⟨h6, h7⟩ | ⟨q, y, h8, h9⟩
        · refine .inl ⟨by simp [mget, hk, h6], ?_⟩
          simp [Instr.findNow, h3, Instr.sameNow, hk', h7]
        · refine .inr ⟨q + 1, y, by simp [mget, hk, h8], ?_⟩
          have e1 : i + 1 + q = i + (q + 1) := by omega
          simp [Instr.findNow, h3, Instr.sameNow, hk', h9, e1]
section
variable {P : Program} {w : World} {t e key : Nat}
theorem checkKey_intI {key : Nat} (b : Bool) (j : Int) (hk : P.underlying key = some (.int .i64)) : (Instr.checkKey b 10000 key (.int .i64 j)).run P w = .ok () w := by
  unfold Instr.checkKey
  simp [run_underlying hk]
theorem findKey_runI {j : Int} {L : ML} {es : Array MapEntry} {clock : Nat} (hk : P.underlying key = some (.int .i64)) (hQ : MapQI L es clock) :
    (mget L j = none ∧ (Instr.findKey key (.int .i64 j) es.toList).run P w = .ok none w) ∨ ∃ q x, mget L j = some x ∧ (Instr.findKey key (.int .i64 j) es.toList).run P w = .ok (some (q, x.vv)) w := by
  rcases findNow_mapI j es.toList L 0 hQ.is with ⟨h1, h2⟩ | ⟨q, x, h3, h4⟩
  · refine .inl ⟨h1, ?_⟩
    simp [Instr.findKey, run_underlying hk, h2]
  · refine .inr ⟨q, x, h3, ?_⟩
    simp [Instr.findKey, run_underlying hk, h4]
theorem lookup_runI {m : Nat} {j : Int} {L : ML} {es : Array MapEntry} {clock : Nat} {z : Value} (ht : P.underlying t = some (.map key e)) (hk : P.underlying key = some (.int .i64)) (hz : (zeroValue e).run P w = .ok z w) (hb : w.heap[m]? = some (.map es clock)) (hQ : MapQI L es clock) :
    (Instr.lookup t (.map (some m)) (.int .i64 j) true).run P w = .ok (match mget L j with | some x => .tuple #[x.vv, .bool true] | none => .tuple #[z, .bool false]) w := by
  rcases findKey_runI (P := P) (w := w) (j := j) hk hQ with ⟨h1, h2⟩ | ⟨q, x, h1, h2⟩
  · rw [h1]
    simp [Instr.lookup, run_underlying ht, MapKept.run_getObj_map hb, checkKey_intI _ _ hk, h2, hz]
  · rw [h1]
    simp [Instr.lookup, run_underlying ht, MapKept.run_getObj_map hb, checkKey_intI _ _ hk, h2]
theorem insert_runI {m : Nat} {j : Int} {L : ML} {es : Array MapEntry} {clock : Nat} {y : PV} (ht : P.underlying t = some (.map key e)) (hk : P.underlying key = some (.int .i64)) (hb : w.heap[m]? = some (.map es clock)) (hQ : MapQI L es clock) (hy : y.plain = true) (hn : mget L j = none) :
    ∃ es' clock', (Instr.mapUpdate t (.map (some m)) (.int .i64 j) y.vv).run P w = .ok () (w.putObj m (.map es' clock')) ∧ MapQI (L ++ [(j, y)]) es' clock' := by
  have hset : ∀ o, (setObj m o).run P w = .ok () (w.putObj m o) := fun o => by
    simp [setObj, Sem.run, hb, World.putObj]
  rcases findKey_runI (P := P) (w := w) (j := j) hk hQ with ⟨h1, h2⟩ | ⟨q, x, h1, _⟩
  · refine ⟨es.push { key := .int .i64 j, val := y.vv, born := clock }, clock + 1, ?_, ⟨by simp [hQ.is], fun p hp => ?_⟩⟩
    · simp [Instr.mapUpdate, run_underlying ht, MapKept.run_getObj_map hb, checkKey_intI _ _ hk, h2, hset]
    · rcases List.mem_append.1 hp with hp | hp
      · exact hQ.plain p hp
      · simp at hp; subst hp; exact hy
  · rw [hn] at h1; cases h1
end
section
variable {P : Program} {n : Nat} {o : Oper} {S : AS} {d : Nat} {t : TypeId} {x y : Operand}
theorem Sat.mapAtI {M : Nat → Nat → Prop} {w0 : Home} {w : World} {ρ : Nat → Value} {a : Act} (hs : Sat M n w0 S ρ a w) {x : Operand} {id : Nat} {L : ML} (hx : S.get x = .own id) (hb : S.blk id = some (mapBI L)) :
    ∃ m es clock, a.eval x = .map (some m) ∧ ρ id = .map (some m) ∧ w.heap[m]? = some (.map es clock) ∧ MapQI L es clock := by
  have h1 := hs.rep x
  rw [hx] at h1
  have h2 := vN h1
  obtain ⟨g, o, h3, _, h4, es, clock, rfl, h6⟩ := hs.blks id _ hb
  exact ⟨g, es, clock, by rw [h2, h3]; rfl, by rw [h3]; rfl, h4, h6⟩
theorem w_lookupI {k : Operand} {id key e : Nat} {j : Int} {L : ML} {zv : Value} {r : Option PV} [ht : Und P t (.map key e)] [hk : Und P key (.int .i64)] [hz : ZeroA P e zv] (hm : mget L j = r) (ho : o.op = .lookup t x k true) (hx : S.get x = .own id) (hb : S.blk id = some (mapBI L)) (hj : S.get k = .p (.val (.int .i64 j)))
    (hzp : (PV.ofV zv).plain = true) (hzv : (PV.ofV zv).vv = zv) (hd : o.dst = some d) (hn : d < n) : zX P n o S [id] (.tup [.p (r.getD (PV.ofV zv)), .p (.val (.bool r.isSome))]) none :=
  zX.pure hd hn fun S2 hg hbl M w0 ρ a w hs => by
    have hb2 : S2.blk id = some (mapBI L) := (hbl id (by simp)).trans hb
    obtain ⟨m, es, clock, h1, _, h3, h4⟩ := hs.mapAtI (x := x) ((hg x (by rw [ho]; simp [Op.operands])).trans hx) hb2
    have h5 := hs.val ((hg k (by rw [ho]; simp [Op.operands])).trans hj)
    have h6 := lookup_runI (P := P) (w := w) (j := j) (z := zv) ht.h hk.h (hz.h w) h3 h4
    subst hm
    have hz0 : Rep (Mut M S2 ρ) w (PV.ofV zv) zv := by have := rep_plain (M := Mut M S2 ρ) (w := w) hzp; rwa [hzv] at this
    have hr : ∀ u, (Instr.lookup t (.map (some m)) (.int .i64 j) true).run P w = .ok u w → (execOp a.eval o).run P w = .ok (.value u) w := fun u h => by
      unfold execOp
      rw [ho]
      simp only [h1, h5]
      simp [h]
    cases hmm : mget L j with
    | none =>
      rw [hmm] at h6
      refine ⟨_, w, hr _ h6, Below.refl _ _, .tup _ [zv, .bool false] rfl fun i c u hc hu => ?_⟩
      match i with
      | 0 => cases hc; cases hu; exact .p hz0
      | 1 => cases hc; cases hu; exact .p (.val _)
      | i + 2 => cases hc
    | some v =>
      rw [hmm] at h6
      refine ⟨_, w, hr _ h6, Below.refl _ _, .tup _ [v.vv, .bool true] rfl fun i c u hc hu => ?_⟩
      match i with
      | 0 => cases hc; cases hu; exact .p (rep_plain (h4.plain _ (mget_mem hmm)))
      | 1 => cases hc; cases hu; exact .p (.val _)
      | i + 2 => cases hc
theorem w_lookupT {k : Operand} {id key e : Nat} {j : Int} {L : ML} {zv : Value} {v : PV} [ht : Und P t (.map key e)] [hk : Und P key (.int .i64)] [hz : ZeroA P e zv] (hm : mget L j = some v) (ho : o.op = .lookup t x k true) (hx : S.get x = .own id) (hb : S.blk id = some (mapBI L)) (hj : S.get k = .p (.val (.int .i64 j)))
    (hzp : (PV.ofV zv).plain = true) (hzv : (PV.ofV zv).vv = zv) (hd : o.dst = some d) (hn : d < n) : zX P n o S [id] (.tup [.p v, .p (.val (.bool true))]) none := w_lookupI hm ho hx hb hj hzp hzv hd hn
theorem w_lookupF {k : Operand} {id key e : Nat} {j : Int} {L : ML} {zv : Value} [ht : Und P t (.map key e)] [hk : Und P key (.int .i64)] [hz : ZeroA P e zv] (hm : mget L j = none) (ho : o.op = .lookup t x k true) (hx : S.get x = .own id) (hb : S.blk id = some (mapBI L)) (hj : S.get k = .p (.val (.int .i64 j)))
    (hzp : (PV.ofV zv).plain = true) (hzv : (PV.ofV zv).vv = zv) (hd : o.dst = some d) (hn : d < n) : zX P n o S [id] (.tup [.p (PV.ofV zv), .p (.val (.bool false))]) none := w_lookupI hm ho hx hb hj hzp hzv hd hn
theorem s_insertI {k : Operand} {id key e : Nat} {j : Int} {L : ML} {v : PV} [ht : Und P t (.map key e)] [hk : Und P key (.int .i64)] (ho : o.op = .insert t x k y) (hx : S.get x = .own id) (hb : S.blk id = some (mapBI L)) (hj : S.get k = .p (.val (.int .i64 j))) (hy : S.get y = .p v) (hv : v.plain = true) (hm : mget L j = none) (hd : o.dst = none) :
    Step P n o S { S with s := putL S.s id (mapBI (L ++ [(j, v)])) } := by
  intro M w0 ρ a w K Q hs hK
  obtain ⟨m, es, clock, h1, h2, h3, h4⟩ := hs.mapAtI (x := x) hx hb
  have h5 := hs.val hj
  have h6 := hs.rep y
  rw [hy] at h6
  have h7 : a.eval y = v.vv := by
    generalize a.eval y = u at h6
    cases h6 with
    | p h => exact rep_is hv h
  obtain ⟨es', clock', h8, h9⟩ := insert_runI (P := P) (w := w) (j := j) (y := v) ht.h hk.h h3 h4 hv hm
  unfold Oper.wp
  have he : (execOp a.eval o).run P w = .ok .skip (w.putObj m (.map es' clock')) := by
    unfold execOp
    rw [ho]
    simp only [h1, h5, h7]
    simp [h8]
  rw [he]
  show K (a.put o.dst undef) _
  rw [hd]
  have hg : w.grownBy (w.putObj m (.map es' clock')) (some m) := by
    refine ⟨rfl, rfl, rfl, by simp [World.putObj], fun q hq hne => ?_⟩
    exact World.putObj_heap_other fun e => hne (by rw [e])
  exact hK ρ a _ (hs.turn hb (by rw [h2]; rfl) hg (fun _ => trivial) ⟨m, .map es' clock', by rw [h2]; rfl, Nat.zero_le _, World.putObj_heap_same (Array.getElem?_eq_some_iff.1 h3).1, _, _, rfl, h9⟩)
theorem s_insert0 {k : Operand} {id key e : Nat} {j : Int} {v : PV} [ht : Und P t (.map key e)] [hk : Und P key (.int .i64)] (ho : o.op = .insert t x k y) (hx : S.get x = .own id) (hb : S.blk id = some (mapB [])) (hj : S.get k = .p (.val (.int .i64 j))) (hy : S.get y = .p v) (hv : v.plain = true) (hd : o.dst = none) :
    Step P n o S { S with s := putL S.s id (mapBI [(j, v)]) } := by
  intro M w0 ρ a w K Q hs hK
  obtain ⟨m, es, clock, h1, h2, h3, h4, _⟩ := hs.mapAt (x := x) hx hb fun _ _ h => h
  have h5 := hs.val hj
  have h6 := hs.rep y
  rw [hy] at h6
  have h7 : a.eval y = v.vv := by
    generalize a.eval y = u at h6
    cases h6 with
    | p h => exact rep_is hv h
  obtain ⟨es', clock', h8, h9⟩ := insert_runI (P := P) (w := w) (j := j) (y := v) (L := []) ht.h hk.h h3 ⟨h4.is, fun p hp => by cases hp⟩ hv rfl
  unfold Oper.wp
  have he : (execOp a.eval o).run P w = .ok .skip (w.putObj m (.map es' clock')) := by
    unfold execOp
    rw [ho]
    simp only [h1, h5, h7]
    simp [h8]
  rw [he]
  show K (a.put o.dst undef) _
  rw [hd]
  have hg : w.grownBy (w.putObj m (.map es' clock')) (some m) := by
    refine ⟨rfl, rfl, rfl, by simp [World.putObj], fun q hq hne => ?_⟩
    exact World.putObj_heap_other fun e => hne (by rw [e])
  exact hK ρ a _ (hs.turn hb (by rw [h2]; rfl) hg (fun _ => trivial) ⟨m, .map es' clock', by rw [h2]; rfl, Nat.zero_le _, World.putObj_heap_same (Array.getElem?_eq_some_iff.1 h3).1, _, _, rfl, h9⟩)
end
end Go.Proofs.YtmfbamiciieooaaGreatDoor
/- What a list's operation asks next, of a log: the program's: contracts. -/
namespace Go.Proofs.YtmfbamiciieooaaGreatDoor
set_option maxRecDepth 100000
set_option maxHeartbeats 16000000
open Go Go.RowKit
set_option linter.unusedSimpArgs false
set_option linter.unusedVariables false
attribute [local irreducible] zY zZ Step zX Sub zD zG Fn
def outRN (o : OutN) : AV := .p (outV o.e o.is o.n o.w)
end Go.Proofs.YtmfbamiciieooaaGreatDoor
/- Operations that are entered and left; a vertex's operation: the program's, whatever makes its accesses: contracts. -/
namespace Go.Proofs.YtmfbamiciieooaaGreatDoor
set_option maxRecDepth 100000
set_option maxHeartbeats 16000000
open Go Go.RowKit
set_option linter.unusedSimpArgs false
set_option linter.unusedVariables false
attribute [local irreducible] zY zZ Step zX Sub zD zG Fn zF zR
def fnB (f : FuncId) : Blk := .box 88 [.p (.val (.func (.func f) #[] #[]))]
def bkV (H : Hnd) (f : FuncId) (t me k : Int) : List Blk := [fnB f, doB H, yE t, yE me, wordB k]
/-- which operation -/
def vopOf (f : FuncId) (t me k : Int) : Pr OutB := if f = 27 then vaddP t me k else if f = 28 then vremP t k else vhasP t k
def IsOp (f : FuncId) : Prop := f = 27 ∨ f = 28 ∨ f = 29
theorem fine_vopOf {f : FuncId} (t me : Int) {k : Int} (hU : U k) : (vopOf f t me k).yY AltOK := by
  unfold vopOf
  split
  · exact fine_vadd t me hU
  · split
    · exact fine_vrem t k
    · exact fine_vhas t k
theorem vopOf_h (H : Hnd) (s0 : H.σ) {f : FuncId} (hf : IsOp f) {t me k : Int} (ht : Small t) (h0 : 0 ≤ t) (hm : Small me) (hU : U k) : FnH H f [.ag (workC H t me k)] [] outBV (fun _ => []) AltOK s0 (vopOf f t me k) := by
  rcases hf with rfl | rfl | rfl
  · exact vadd_h H s0 ht h0 hm hU
  · exact vrem_h H s0 ht
  · exact vhas_h H s0 ht
theorem isOp_has {f : FuncId} (h : IsOp f) : HasFn Tryz.prog f := by
  rcases h with rfl | rfl | rfl <;> infer_instance
theorem next11V_h (H : Hnd) (s0 : H.σ) {f : FuncId} (hf : IsOp f) {t me k : Int} (ht : Small t) (h0 : 0 ≤ t) (hm : Small me) (hU : U k) : FnH H 32 [.ptr 1003 0, .ptr 1004 0, .ptr 1005 0, .ptr 1006 0, .ptr 1007 0] (bkV H f t me k) outBV (fun _ => bkV H f t me k) AltOK s0 (vopOf f t me k) := by
  have := isOp_has hf
  unfold bkV fnB doB yE wordB Hnd.doA
  refine yH Tryz.func32 rfl Tryz.ntmps32 (Nat.le_of_ble_eq_true rfl) (by decide) (fine_vopOf t me hU) fun hok hns => ?_
  repeat' (first | (refine zY.is ?_; first | refine zY.nil ?_ | (refine zY.at_ 14 rfl ?_; refine zY.rc (.v yJ (.v yJ (.w zS (.v zB .e)))) ?_) | (refine zY.in_ [13] rfl ?_; refine zY.ofT rfl (zG.hd (i := []) (f := vopOf_h H _ hf ht h0 hm hU) (r := fun x s e g hk => ?_) (p := fun q s e => ?_) (t := ?_)))) | (refine zZ.is ?_; first | refine zZ.seq ?_ | (refine zZ.isR (id := 0) ?_; refine zZ.rc [0, 1, 2, 3, 4] [5, 1000, 1001, 1002, 1003, 1004, 1005, 1006, 1007] (r := (.m zT (.v zB .e))) (h := ?_)) | (refine zZ.isR (id := 1) ?_; refine zZ.rc [0, 1, 2, 3, 4, 5, 6] [5, 1000, 1001, 1002, 1003, 1004, 1005, 1006, 1007] (r := (.v zO (.v wL (.v zO (.v zO (.v zO (.v v10_2 .e))))))) (h := ?_)) | refine zZ.ret ?_) | refine zF.n ?_ | refine zF.p ?_)
  all_goals (first | exact fun e => hns (by clear hns; simp only [run_bind, zC, zJ, Held.zW, Held.zA, Held.zK, cond_true, cond_false, *]) | exact .pan (q := q) rfl (by repeat' first | exact trivial | rfl | constructor) (by repeat' first | exact trivial | exact ⟨_, rfl, rfl⟩ | constructor) (by simp only [run_bind, zC, zJ, Held.zW, Held.zA, Held.zK, cond_true, cond_false, *]) | exact .ret (x := x) (by exact .inl rfl) (by exact .tup rfl (by decide) (.cons (.cellN rfl rfl (by rfl) (by rfl)) (.cons (.tmp rfl) .nil))) (by repeat' first | exact trivial | rfl | constructor) (by simp only [run_bind, zC, zJ, Held.zW, Held.zA, Held.zK, cond_true, cond_false, *] <;> rfl))
theorem u1_U : U 1 := by unfold U; decide
theorem in_h (H : Hnd) (s0 : H.σ) {f : FuncId} (hf : IsOp f) {t me k : Int} (ht : Small t) (h0 : 0 ≤ t) (hm : Small me) (hU : U k) : FnH H 31 [H.doA, .p (.val (.int .i64 me)), .clo 32 [1003, 1004, 1005, 1006, 1007]] (bkV H f t me k) outRN (fun _ => bkV H f t me k) yes s0 (inP me (vopOf f t me k)) := by
  unfold bkV Hnd.doA
  refine yH Tryz.func31 rfl Tryz.ntmps31 (Nat.le_of_ble_eq_true rfl) (by decide) (fine_in me (fine_vopOf t me hU)) fun hok hns => ?_
  repeat' (first | (refine zY.is ?_; first | refine zY.nil ?_ | (refine zY.at_ 11 rfl ?_; refine zY.rc (.v v42_8 .e) ?_) | (refine zY.at_ 16 rfl ?_; refine zY.rc (.v vZ (.v yJ (.v yJ (.m zT (.w zS (.v zB .e)))))) ?_) | (refine zY.in_ [10] rfl ?_; refine zY.ofT rfl (zG.hd (i := []) (f := qZ H _ 7) (r := fun x s e g hk => ?_) (p := fun q s e => ?_) (t := ?_))) | (refine zY.in_ [15] rfl ?_; refine zY.ofT rfl (zG.hd (i := []) (f := pin_h H _ hm) (r := fun x s e g hk => ?_) (p := fun q s e => ?_) (t := ?_))) | (refine zY.in_ [18] rfl ?_; refine zY.ofT rfl (zG.hd (i := [1003, 1004, 1005, 1006, 1007]) (f := next11V_h H _ hf ht h0 hm hU) (r := fun x s e g hk => ?_) (p := fun q s e => ?_) (t := ?_))) | (refine zY.in_ [24] rfl ?_; refine zY.ofT rfl (zG.hd (i := []) (f := qR H _ 7 1 u1_U) (r := fun x s e g hk => ?_) (p := fun q s e => ?_) (t := ?_))) | (refine zY.in_ [28] rfl ?_; refine zY.ofT rfl (zG.hd (i := []) (f := unpin_h H _ hm) (r := fun x s e g hk => ?_) (p := fun q s e => ?_) (t := ?_)))) | (refine zZ.is ?_; first | refine zZ.seq ?_ | (refine zZ.isR (id := 0) ?_; refine zZ.rc [0, 1, 2] [6, 7, 1000, 1001, 1002, 1003, 1004, 1005, 1006, 1007] (r := (.m zT .e)) (h := ?_)) | (refine zZ.isR (id := 1) ?_; refine zZ.rc [0, 1, 2, 6] [6, 7, 1000, 1001, 1002, 1003, 1004, 1005, 1006, 1007] (r := (.v xJ .e)) (h := ?_)) | (refine zZ.isR (id := 2) ?_; refine zZ.rc [0, 1, 2, 6] [6, 7, 1000, 1001, 1002, 1003, 1004, 1005, 1006, 1007] (r := (.v xV (.w zS .e))) (h := ?_)) | (refine zZ.isR (id := 3) ?_; refine zZ.rc [0, 1, 2, 6] [6, 7, 1000, 1001, 1002, 1003, 1004, 1005, 1006, 1007] (r := (.v xJ (.v zV .e))) (h := ?_)) | (refine zZ.isR (id := 4) ?_; refine zZ.rc [0, 1, 2, 6] [6, 7, 1000, 1001, 1002, 1003, 1004, 1005, 1006, 1007] (r := (.v xJ .e)) (h := ?_)) | (refine zZ.isR (id := 5) ?_; refine zZ.rc [0, 1, 6, 7, 8] [6, 7, 1000, 1001, 1002, 1003, 1004, 1005, 1006, 1007] (r := (.v zV (.v v52_8 .e))) (h := ?_)) | (refine zZ.isR (id := 6) ?_; refine zZ.rc [0, 1, 6, 7] [6, 7, 1000, 1001, 1002, 1003, 1004, 1005, 1006, 1007] (r := (.v xJ .e)) (h := ?_)) | (refine zZ.isR (id := 7) ?_; refine zZ.rc [0, 1, 6, 7] [6, 7, 1000, 1001, 1002, 1003, 1004, 1005, 1006, 1007] (r := (.v xV (.w zS .e))) (h := ?_)) | (refine zZ.isR (id := 8) ?_; refine zZ.rc [0, 1, 6, 7] [6, 7, 1000, 1001, 1002, 1003, 1004, 1005, 1006, 1007] (r := (.v xJ (.v zV .e))) (h := ?_)) | (refine zZ.isR (id := 9) ?_; refine zZ.rc [6, 7] [6, 7, 1000, 1001, 1002, 1003, 1004, 1005, 1006, 1007] (r := (.v xU (.w zS .e))) (h := ?_)) | refine zZ.cond rfl (fun h => ?_) (fun h => ?_) | refine zZ.skip ?_ | refine zZ.ret ?_) | refine zF.n ?_ | refine zF.r ?_ | refine zF.p ?_)
  all_goals try simp only [Bool.not_eq_true', Bool.not_eq_false'] at *
  all_goals first
    | exact .ret (x := ⟨6, false, 0, 0⟩) (.inl rfl) (.p rfl (.cellN rfl rfl (by rfl) (by rfl))) (by repeat' first | exact trivial | rfl | constructor) (by simp only [inP, run_bind, zC, zJ, Held.zW, cond_true, cond_false, *, Bool.not_false])
    | exact .ret (x := ⟨7, false, 0, 0⟩) (.inl rfl) (.p rfl (.cellN rfl rfl (by rfl) (by rfl))) (by repeat' first | exact trivial | rfl | constructor) (by simp only [inP, leaveP, run_bind, zC, zJ, Held.zW, cond_true, cond_false, *, Bool.not_true])
    | skip
  all_goals (first | exact fun e => hns (by clear hns; simp only [inP, leaveP, Bool.not_true, run_bind, zC, zJ, Held.zW, Held.zA, Held.zK, cond_true, cond_false, *]) | exact .pan (q := q) rfl (by repeat' first | exact trivial | rfl | constructor) (by repeat' first | exact trivial | exact ⟨_, rfl, rfl⟩ | constructor) (by simp only [inP, leaveP, Bool.not_true, run_bind, zC, zJ, Held.zW, Held.zA, Held.zK, cond_true, cond_false, *]) | skip)
  rename_i w0 sa ea ga ha0 u1 sb eb gb hb0 o sc ec gc hc0 hz
  have ha : o.alt = o.is := gc h
  rw [ha]
  exact .ret (x := ⟨o.e, o.is, 0, 0⟩) (s' := s) (.inl rfl) (.p rfl (.cellN rfl rfl (by rfl) (by rfl))) (by repeat' first | exact trivial | rfl | constructor) (by simp only [inP, leaveP, run_bind, zC, zJ, Held.zW, cond_true, cond_false, *, Bool.not_true])
def fV (f : FuncId) : PV := .val (.func (.func f) #[] #[])
def doesL : ML := [(11, fV 27), (12, fV 28), (13, fV 29)]
theorem nextV1_h (H : Hnd) (s0 : H.σ) {t me k u v w : Int} (ht : Small t) (h0 : 0 ≤ t) (hm : Small me) : FnH H 26 [H.doA, .ptr 1003 0, .ptr 1004 0, .ptr 1005 0] [opB k u v w, yE me, yE t] outRN (fun _ => [opB k u v w, yE me, yE t]) yes s0 (qE t me k u) := by
  have cv := vertex_fn u
  have hU := vkF_U u
  have fin : ∀ f, IsOp f → (k = 11 ∧ f = 27 ∨ k = 12 ∧ f = 28 ∨ k = 13 ∧ f = 29) → vOK u = true → qE t me k u = inP me (vopOf f t me (vkF u)) := fun f _ h hu => by
    unfold qE vopB vopOf
    rw [hu]
    rcases h with ⟨rfl, rfl⟩ | ⟨rfl, rfl⟩ | ⟨rfl, rfl⟩ <;> rfl
  unfold Hnd.doA opB yE
  refine yH Tryz.func26 rfl Tryz.ntmps26 (Nat.le_of_ble_eq_true rfl) (by decide) (fine_vop t me k u) fun hok hns => ?_
  by_cases hk3 : k = 11 ∨ k = 12 ∨ k = 13
  case neg =>
    have hg : mget doesL k = none := by
      unfold doesL mget mget mget mget
      rw [if_neg (by omega), if_neg (by omega), if_neg (by omega)]
    repeat' (first | refine zY.w rfl (s_insert0 rfl rfl rfl rfl rfl rfl rfl) ?_ | refine zY.w rfl (s_insertI rfl rfl rfl rfl rfl rfl (by rfl) rfl) ?_ | (refine zY.at_ 17 rfl ?_; refine zY.v rfl rfl (by exact w_lookupF hg rfl rfl rfl rfl rfl rfl rfl (by decide)) ?_) | (refine zY.is ?_; first | refine zY.nil ?_ | (refine zY.at_ 12 rfl ?_; refine zY.rc (.v v0_1 (.v v1_1 .e)) ?_) | (refine zY.at_ 13 rfl ?_; refine zY.rc (.v vZ (.v yJ (.v yJ (.m zT (.w zS (.v zB .e)))))) ?_)) | (refine zZ.is ?_; first | refine zZ.seq ?_ | (refine zZ.isR (id := 0) ?_; refine zZ.rc [0, 1, 2, 3] [4, 5, 7, 9, 11, 1000, 1001, 1002, 1003, 1004, 1005] (r := (.m m18_3 (.m zT .e))) (h := ?_)) | (refine zZ.isR (id := 1) ?_; refine zZ.rc [1, 2, 3, 4, 5] [4, 5, 7, 9, 11, 1000, 1001, 1002, 1003, 1004, 1005] (r := (.m m22_0 .e)) (h := ?_)) | (refine zZ.isR (id := 2) ?_; refine zZ.rc [1, 2, 3, 4, 5, 6] [4, 5, 7, 9, 11, 1000, 1001, 1002, 1003, 1004, 1005] (r := (.v v0_1 (.v zM (.v zO .e)))) (h := ?_)) | (refine zZ.isR (id := 3) ?_; refine zZ.rc [1, 2, 3, 4, 5, 7, 8] [4, 5, 7, 9, 11, 1000, 1001, 1002, 1003, 1004, 1005] (r := (.v zV (.v v52_4 .e))) (h := ?_)) | (refine zZ.isR (id := 4) ?_; refine zZ.rc [1, 2, 3, 4, 5, 7] [4, 5, 7, 9, 11, 1000, 1001, 1002, 1003, 1004, 1005] (r := (.v xV (.w zS .e))) (h := ?_)) | refine zZ.yN rfl bA ?_ | refine zZ.ret ?_) | refine zF.n ?_ | refine zF.r ?_)
    all_goals exact .ret (x := ⟨1, false, 0, 0⟩) (s' := s0) (.inl rfl) (.p rfl (.cellN rfl rfl (by rfl) (by rfl))) (by repeat' first | exact trivial | rfl | constructor) (by unfold qE; rw [decide_eq_false (by omega), decide_eq_false (by omega), decide_eq_false (by omega)]; rfl)
  case pos =>
    obtain ⟨f, hf, hkf, hg⟩ : ∃ f, IsOp f ∧ (k = 11 ∧ f = 27 ∨ k = 12 ∧ f = 28 ∨ k = 13 ∧ f = 29) ∧ mget doesL k = some (fV f) := by
      rcases hk3 with rfl | rfl | rfl
      · exact ⟨_, .inl rfl, .inl ⟨rfl, rfl⟩, rfl⟩
      · exact ⟨_, .inr (.inl rfl), .inr (.inl ⟨rfl, rfl⟩), rfl⟩
      · exact ⟨_, .inr (.inr rfl), .inr (.inr ⟨rfl, rfl⟩), rfl⟩
    cases hu : vOK u
    case false =>
      have hE : vkE u = 4 := by unfold vkE; rw [hu]; rfl
      rw [hE] at cv
      repeat' (first | refine zY.w rfl (s_insert0 rfl rfl rfl rfl rfl rfl rfl) ?_ | refine zY.w rfl (s_insertI rfl rfl rfl rfl rfl rfl (by rfl) rfl) ?_ | (refine zY.at_ 17 rfl ?_; refine zY.v rfl rfl (by exact w_lookupT hg rfl rfl rfl rfl rfl rfl rfl (by decide)) ?_) | (refine zY.is ?_; first | refine zY.nil ?_ | (refine zY.at_ 12 rfl ?_; refine zY.rc (.v v0_1 (.v v1_1 .e)) ?_) | (refine zY.at_ 13 rfl ?_; refine zY.rc (.v vZ (.v yJ (.v yJ (.m zT (.w zS (.v zB .e)))))) ?_) | (refine zY.at_ 23 rfl ?_; refine zY.rc (.v vZ (.v yJ (.v yJ (.m zT (.w zS (.v zB .e)))))) ?_) | (refine zY.in_ [26] rfl ?_; refine zY.v rfl rfl (xY (cv) rfl rfl rfl (by decide)) ?_)) | (refine zZ.is ?_; first | refine zZ.seq ?_ | (refine zZ.isR (id := 0) ?_; refine zZ.rc [0, 1, 2, 3] [4, 5, 7, 9, 11, 1000, 1001, 1002, 1003, 1004, 1005] (r := (.m m18_3 (.m zT .e))) (h := ?_)) | (refine zZ.isR (id := 1) ?_; refine zZ.rc [1, 2, 3, 4, 5] [4, 5, 7, 9, 11, 1000, 1001, 1002, 1003, 1004, 1005] (r := (.m m22_0 .e)) (h := ?_)) | (refine zZ.isR (id := 2) ?_; refine zZ.rc [1, 2, 3, 4, 5, 6] [4, 5, 7, 9, 11, 1000, 1001, 1002, 1003, 1004, 1005] (r := (.v v0_1 (.v zM (.v zO .e)))) (h := ?_)) | (refine zZ.isR (id := 3) ?_; refine zZ.rc [1, 2, 3, 4, 5, 7, 8] [4, 5, 7, 9, 11, 1000, 1001, 1002, 1003, 1004, 1005] (r := (.v zV (.v kQ .e))) (h := ?_)) | (refine zZ.isR (id := 5) ?_; refine zZ.rc [1, 2, 3, 4, 5, 7] [4, 5, 7, 9, 11, 1000, 1001, 1002, 1003, 1004, 1005] (r := (.v zM (.v zO .e))) (h := ?_)) | (refine zZ.isR (id := 6) ?_; refine zZ.rc [2, 3, 4, 5, 7, 9, 10] [4, 5, 7, 9, 11, 1000, 1001, 1002, 1003, 1004, 1005] (r := (.v zV (.v v42_4 .e))) (h := ?_)) | (refine zZ.isR (id := 7) ?_; refine zZ.rc [2, 3, 4, 5, 7, 9, 10] [4, 5, 7, 9, 11, 1000, 1001, 1002, 1003, 1004, 1005] (r := (.v zV (.v xV (.w zS .e)))) (h := ?_)) | refine zZ.yN rfl bA ?_ | refine zZ.yG rfl bA ?_ | refine zZ.skip ?_ | refine zZ.ret ?_) | refine zF.n ?_ | refine zF.r ?_)
      all_goals exact .ret (x := ⟨4, false, 0, 0⟩) (s' := s0) (.inl rfl) (.p rfl (.cellN rfl rfl (by rfl) (by rfl))) (by repeat' first | exact trivial | rfl | constructor) (by unfold qE; rw [hu]; rcases hk3 with rfl | rfl | rfl <;> rfl)
    case true =>
      have hE : vkE u = 0 := by unfold vkE; rw [hu]; rfl
      rw [hE] at cv
      rw [fin f hf hkf hu] at hns ⊢
      repeat' (first | refine zY.w rfl (s_insert0 rfl rfl rfl rfl rfl rfl rfl) ?_ | refine zY.w rfl (s_insertI rfl rfl rfl rfl rfl rfl (by rfl) rfl) ?_ | (refine zY.at_ 17 rfl ?_; refine zY.v rfl rfl (by exact w_lookupT hg rfl rfl rfl rfl rfl rfl rfl (by decide)) ?_) | (refine zY.is ?_; first | refine zY.nil ?_ | (refine zY.at_ 12 rfl ?_; refine zY.rc (.v v0_1 (.v v1_1 .e)) ?_) | (refine zY.at_ 13 rfl ?_; refine zY.rc (.v vZ (.v yJ (.v yJ (.m zT (.w zS (.v zB .e)))))) ?_) | (refine zY.at_ 23 rfl ?_; refine zY.rc (.v vZ (.v yJ (.v yJ (.m zT (.w zS (.v zB .e)))))) ?_) | refine zY.rc (.w zS .e) ?_ | (refine zY.in_ [26] rfl ?_; refine zY.v rfl rfl (xY (cv) rfl rfl rfl (by decide)) ?_) | (refine zY.in_ [36] rfl ?_; refine zY.ofT rfl (zG.hd (i := [7, 4, 1005, 1004, 9]) (f := in_h H _ hf ht h0 hm hU) (r := fun x s e g hk => ?_) (p := fun q s e => ?_) (t := ?_)))) | (refine zZ.is ?_; first | refine zZ.seq ?_ | (refine zZ.isR (id := 0) ?_; refine zZ.rc [0, 1, 2, 3] [4, 5, 7, 9, 11, 1000, 1001, 1002, 1003, 1004, 1005] (r := (.m m18_3 (.m zT .e))) (h := ?_)) | (refine zZ.isR (id := 1) ?_; refine zZ.rc [1, 2, 3, 4, 5] [4, 5, 7, 9, 11, 1000, 1001, 1002, 1003, 1004, 1005] (r := (.m m22_0 .e)) (h := ?_)) | (refine zZ.isR (id := 2) ?_; refine zZ.rc [1, 2, 3, 4, 5, 6] [4, 5, 7, 9, 11, 1000, 1001, 1002, 1003, 1004, 1005] (r := (.v v0_1 (.v zM (.v zO .e)))) (h := ?_)) | (refine zZ.isR (id := 3) ?_; refine zZ.rc [1, 2, 3, 4, 5, 7, 8] [4, 5, 7, 9, 11, 1000, 1001, 1002, 1003, 1004, 1005] (r := (.v zV (.v kQ .e))) (h := ?_)) | (refine zZ.isR (id := 5) ?_; refine zZ.rc [1, 2, 3, 4, 5, 7] [4, 5, 7, 9, 11, 1000, 1001, 1002, 1003, 1004, 1005] (r := (.v zM (.v zO .e))) (h := ?_)) | (refine zZ.isR (id := 6) ?_; refine zZ.rc [2, 3, 4, 5, 7, 9, 10] [4, 5, 7, 9, 11, 1000, 1001, 1002, 1003, 1004, 1005] (r := (.v zV (.v v42_5 .e))) (h := ?_)) | (refine zZ.isR (id := 8) ?_; refine zZ.rc [2, 3, 4, 5, 7, 9] [4, 5, 7, 9, 11, 1000, 1001, 1002, 1003, 1004, 1005] (r := (.v wL (.v zO (.v v14_0 .e)))) (h := ?_)) | refine zZ.yG rfl bA ?_ | refine zZ.skip ?_ | refine zZ.ret ?_) | refine zF.n ?_ | refine zF.p ?_)
      all_goals (first | exact fun e => hns (by clear hns; simp only [run_bind, zC, zJ, Held.zW, Held.zA, Held.zK, cond_true, cond_false, *]) | exact .pan (q := q) rfl (by repeat' first | exact trivial | rfl | constructor) (by repeat' first | exact trivial | exact ⟨_, rfl, rfl⟩ | constructor) (by simp only [run_bind, zC, zJ, Held.zW, Held.zA, Held.zK, cond_true, cond_false, *]) | exact .ret (x := x) (by exact .inl rfl) (by exact .p rfl (.cellN rfl rfl (by rfl) (by rfl))) (by repeat' first | exact trivial | rfl | constructor) (by simp only [run_bind, zC, zJ, Held.zW, Held.zA, Held.zK, cond_true, cond_false, *] <;> rfl))
end Go.Proofs.YtmfbamiciieooaaGreatDoor
/- What a vertex's operation asks next, of a log: the program's: contracts. -/
namespace Go.Proofs.YtmfbamiciieooaaGreatDoor
set_option maxRecDepth 100000
set_option maxHeartbeats 16000000
open Go Go.RowKit
set_option linter.unusedSimpArgs false
set_option linter.unusedVariables false
attribute [local irreducible] zY zZ Step zX Sub zD zG Fn
/-- the frame behind Run's results -/
def runVS (k u v w me t : Int) (L : List xO) : AS := { t := [(6, .ptr 6 0), (5, .ptr 5 0), (4, .ptr 4 0), (3, .ptr 3 0), (0, .clo 26 [1000, 1001, 1002]), (1, .p (logV L))], s := [(6, isB false), (5, wD 0 false 0 0), (4, accB 0 0 0 0 xZ), (3, logB L), (1000, opB k u v w), (1001, yE me), (1002, yE t)] }
def runVT : List (Nat × AV) := [(0, .clo 26 [1004, 1005, 1006]), (3, .ptr 1000 0), (4, .ptr 1001 0), (5, .ptr 1002 0), (6, .ptr 1003 0)]
theorem runV_done (L : List xO) (hL : LogOK L) {t me k u v w : Int} (ht : Small t) (h0 : 0 ≤ t) (hm : Small me) {o : OutN} {j : Nat} (hr : (qE t me k u).run (vU L) 0 = .done o j) :
    FnE Tryz.prog 25 [.clo 26 [1000, 1001, 1002], .p (logV L)] [opB k u v w, yE me, yE t] (.ret (.tup ([accV 0 0 0 0 xZ, outV o.e o.is o.n o.w, .val (.bool true)].map .p))) [opB k u v w, yE me, yE t] := by
  have hn := (nextV1_h (hLog L hL) (0 : Nat) (k := k) (u := u) (v := v) (w := w) ht h0 hm).done (Nat.zero_le _) hr
  have hn2 : FnE Tryz.prog 26 [.clo 47 [1000, 1001], .ptr 1003 0, .ptr 1004 0, .ptr 1005 0] [atB 0, logB L, isB false, opB k u v w, yE me, yE t] (.ret (outRN o)) [atB j, logB L, isB false, opB k u v w, yE me, yE t] := hn.2.2
  refine fn_ofD (S1 := runVS k u v w me t L) (ids := [3, 4, 5, 6, 1000, 1001, 1002]) (Bi := [logB L, accB 0 0 0 0 xZ, wD 0 false 0 0, isB false, opB k u v w, yE me, yE t]) (Bi' := [logB L, accB 0 0 0 0 xZ, wD o.e o.is o.n o.w, isB true, opB k u v w, yE me, yE t]) (T := runVT) (dj := [1001, 1002, 1003])
    Tryz.func25 rfl Tryz.ntmps25 (Nat.le_of_ble_eq_true rfl) (by decide) ?_ rfl rfl (by decide) rfl (by rfl) rfl rfl rfl (by rfl) (by rfl) (vR (by decide) rfl (by repeat' first | exact trivial | rfl | constructor)) rfl rfl rfl (by
      intro p hp
      simp only [runVT, List.mem_cons, List.not_mem_nil, or_false] at hp
      rcases hp with rfl | rfl | rfl | rfl | rfl <;> exact ⟨rfl, by decide⟩) ?_ rfl rfl (wU (by repeat' first | exact trivial | rfl | constructor))
  case refine_1 =>
    repeat' (first | (refine zY.nil ?_) | (refine zZ.is ?_; (refine zZ.isR (id := 0) ?_; refine zZ.rc [0, 1] [3, 4, 5, 6, 7, 1000, 1001, 1002] (r := (.m m18_2 (.m zT (.m zT (.m zT .e))))) (h := ?_))))
    exact ⟨rfl, rfl⟩
  case refine_2 =>
    unfold runVT
    repeat' (first | (refine zY.is ?_; first | refine zY.nil ?_ | refine zY.rc (.w zS .e) ?_ | (refine zY.in_ [11] rfl ?_; refine zY.ofT rfl (zG.eR [7, 1000, 1003, 1004, 1005, 1006] (hn2) ?_))) | (refine zZ.is ?_; first | refine zZ.seq ?_ | (refine zZ.isR (id := 2) ?_; refine zZ.rc [0, 3, 4, 5, 6] [3, 4, 5, 6, 7, 1000, 1001, 1002, 1003, 1004, 1005, 1006] (r := (.m zT (.w zS .e))) (h := ?_)) | (refine zZ.isR (id := 3) ?_; refine zZ.rc [0, 3, 4, 5, 6, 7] [3, 4, 5, 6, 7, 1000, 1001, 1002, 1003, 1004, 1005, 1006] (r := (.v xJ (.v v14_0 .e))) (h := ?_)) | (refine zZ.isR (id := 4) ?_; refine zZ.rk [4, 5, 6] [3, 4, 5, 6, 7, 1000, 1001, 1002, 1003, 1004, 1005, 1006] ?_; refine zZ.drawGo (by kernel_rfl) ?_) | refine zZ.ret ?_) | (refine DGo.at_ [] ?_; refine DGo.all [0, 1] (by kernel_rfl) ?_) | (refine DGo.at_ [1] ?_; refine DGo.all [0] (by kernel_rfl) ?_) | (refine DGo.at_ [0, 1] ?_; refine DGo.all [2] (by kernel_rfl) ?_) | (refine DGo.at_ [2, 0, 1] ?_; refine DGo.all [3] (by kernel_rfl) ?_) | (refine DGo.at_ [3, 2, 0, 1] ?_; refine DGo.all [4] (by kernel_rfl) ?_) | (refine DGo.at_ [4, 3, 2, 0, 1] ?_; refine DGo.fin (by kernel_rfl) ?_) | (refine DGo.at_ [0] ?_; refine DGo.all [1, 2] (by kernel_rfl) ?_) | (refine DGo.at_ [2, 0] ?_; refine DGo.all [1] (by kernel_rfl) ?_) | (refine DGo.at_ [1, 2, 0] ?_; refine DGo.all [3] (by kernel_rfl) ?_) | (refine DGo.at_ [3, 1, 2, 0] ?_; refine DGo.all [4] (by kernel_rfl) ?_) | (refine DGo.at_ [4, 3, 1, 2, 0] ?_; refine DGo.fin (by kernel_rfl) ?_) | (refine DGo.at_ [1, 0] ?_; refine DGo.all [2] (by kernel_rfl) ?_) | (refine DGo.at_ [2, 1, 0] ?_; refine DGo.all [3] (by kernel_rfl) ?_) | (refine DGo.at_ [3, 2, 1, 0] ?_; refine DGo.all [4] (by kernel_rfl) ?_) | (refine DGo.at_ [4, 3, 2, 1, 0] ?_; refine DGo.fin (by kernel_rfl) ?_) | refine zI.cons ?_ ?_ | exact zI.nil | (refine zL.at_ 0 ?_; refine zL.v rfl rfl rfl (w_build rfl (by rfl) (by rfl) (by rfl) (by rfl) rfl (by decide)) ?_) | (refine zL.at_ 1 ?_; refine zL.v rfl rfl rfl (yR rfl rfl rfl (by rfl) (by rfl) rfl (by decide)) ?_) | (refine zL.at_ 2 ?_; refine zL.w rfl rfl (by exact yO rfl rfl rfl rfl rfl (by rfl) (by exact Nat.le_of_ble_eq_true rfl) rfl rfl) ?_) | (refine zL.at_ 3 ?_; refine zL.w rfl rfl (by exact yO rfl rfl rfl rfl rfl (by rfl) (by exact Nat.le_of_ble_eq_true rfl) rfl rfl) ?_) | (refine zL.at_ 4 ?_; refine zL.w rfl rfl (by exact yO rfl rfl rfl rfl rfl (by rfl) (by exact Nat.le_of_ble_eq_true rfl) rfl rfl) ?_))
    all_goals exact ⟨_, _, _, run1_none o.e o.is o.n o.w true, .inl ⟨rfl, by first | exact .inl rfl | exact .inr rfl⟩, vR (by decide) rfl (by repeat' first | exact trivial | rfl | constructor), rfl, rfl, .tup rfl (by decide) (.cons (.cellN rfl rfl (by rfl) (by rfl)) (.cons (.cellN rfl rfl (by rfl) (by rfl)) (.cons (.cell1 rfl rfl rfl) .nil))), wU (by repeat' first | exact trivial | rfl | constructor)⟩
theorem runV_need (L : List xO) (hL : LogOK L) {t me k u v w : Int} (ht : Small t) (h0 : 0 ≤ t) (hm : Small me) {q : Ned} {j : Nat} (hr : (qE t me k u).run (vU L) 0 = .need q j) :
    FnE Tryz.prog 25 [.clo 26 [1000, 1001, 1002], .p (logV L)] [opB k u v w, yE me, yE t] (.ret (.tup ([accQ q, outV 0 false 0 0, .val (.bool false)].map .p))) [(opB k u v w).forget, (yE me).forget, (yE t).forget] := by
  have hn := (nextV1_h (hLog L hL) (0 : Nat) (k := k) (u := u) (v := v) (w := w) ht h0 hm).need (Nat.zero_le _) hr
  have hn2 : FnE Tryz.prog 26 [.clo 47 [1000, 1001], .ptr 1003 0, .ptr 1004 0, .ptr 1005 0] [atB 0, logB L, isB false, opB k u v w, yE me, yE t] (.pan (needA (accQ q))) [atB j, logB L, isB false, (opB k u v w).forget, (yE me).forget, (yE t).forget] := hn.2
  unfold accQ at hn2 ⊢
  refine fn_ofD (S1 := runVS k u v w me t L) (ids := [3, 4, 5, 6, 1000, 1001, 1002]) (Bi := [logB L, accB 0 0 0 0 xZ, wD 0 false 0 0, isB false, opB k u v w, yE me, yE t]) (Bi' := [logB L, accB q.kind q.cell q.a q.b q.d, wD 0 false 0 0, isB false, (opB k u v w).forget, (yE me).forget, (yE t).forget]) (T := runVT) (dj := [1001, 1002, 1003])
    Tryz.func25 rfl Tryz.ntmps25 (Nat.le_of_ble_eq_true rfl) (by decide) ?_ rfl rfl (by decide) rfl (by rfl) rfl rfl rfl (by rfl) (by rfl) (vR (by decide) rfl (by repeat' first | exact trivial | rfl | constructor)) rfl rfl rfl (by
      intro p hp
      simp only [runVT, List.mem_cons, List.not_mem_nil, or_false] at hp
      rcases hp with rfl | rfl | rfl | rfl | rfl <;> exact ⟨rfl, by decide⟩) ?_ rfl rfl (wU (by repeat' first | exact trivial | rfl | constructor))
  case refine_1 =>
    repeat' (first | (refine zY.nil ?_) | (refine zZ.is ?_; (refine zZ.isR (id := 0) ?_; refine zZ.rc [0, 1] [3, 4, 5, 6, 7, 1000, 1001, 1002] (r := (.m m18_2 (.m zT (.m zT (.m zT .e))))) (h := ?_))))
    exact ⟨rfl, rfl⟩
  case refine_2 =>
    unfold runVT
    repeat' (first | (refine zY.is ?_; first | refine zY.nil ?_ | (refine zY.in_ [11] rfl ?_; refine zY.ofT rfl (zG.eP [7, 1000, 1003, 1004, 1005, 1006] (hn2) ?_))) | (refine zZ.is ?_; first | refine zZ.seq ?_ | (refine zZ.isR (id := 2) ?_; refine zZ.rc [0, 3, 4, 5, 6] [3, 4, 5, 6, 7, 1000, 1001, 1002, 1003, 1004, 1005, 1006] (r := (.m zT (.w zS .e))) (h := ?_)) | (refine zZ.isR (id := 3) ?_; refine zZ.rc [0, 3, 4, 5, 6, 7] [3, 4, 5, 6, 7, 1000, 1001, 1002, 1003, 1004, 1005, 1006] (r := (.v xJ (.v v14_0 .e))) (h := ?_))))
    all_goals exact ⟨_, _, _, run1_need q.kind q.cell q.a q.b q.d 0 false 0 0 false, .inr ⟨_, rfl, rfl, rfl⟩, vR (by decide) rfl (by repeat' first | exact trivial | rfl | constructor), rfl, rfl, .tup rfl (by decide) (.cons (.cellN rfl rfl (by rfl) (by rfl)) (.cons (.cellN rfl rfl (by rfl) (by rfl)) (.cons (.cell1 rfl rfl rfl) .nil))), wU (by repeat' first | exact trivial | rfl | constructor)⟩
theorem nextV_done (L : List xO) (hL : LogOK L) {t me : Int} (c : Int) {k u v w : Int} (ht : Small t) (h0 : 0 ≤ t) (hm : Small me) {o : OutN} {j : Nat} (hr : (qE t me k u).run (vU L) 0 = .done o j) :
    Fn Tryz.prog 12 [.val (.int .i64 t), .val (.int .i64 c), .val (.int .i64 me), opV k u v w, logV L] (.tup [accV 0 0 0 0 xZ, outV o.e o.is o.n o.w, .val (.bool true)]) := by
  have hr := runV_done L hL (v := v) (w := w) ht h0 hm hr
  refine yP Tryz.func12 rfl Tryz.ntmps12 (Nat.le_of_ble_eq_true rfl) ?_
  repeat' (first | (refine zY.is ?_; first | refine zY.nil ?_ | (refine zY.at_ 16 rfl ?_; refine zY.rc (.v yJ (.v yJ (.v yJ (.w zS (.w zS (.v zB .e)))))) ?_) | (refine zY.in_ [15] rfl ?_; refine zY.ofT rfl (zG.eR [8, 7, 5] (hr) ?_))) | (refine zZ.is ?_; first | refine zZ.seq ?_ | (refine zZ.isR (id := 0) ?_; refine zZ.rc [0, 2, 3, 4] [5, 7, 8, 10, 11] (r := (.m m18_1 (.m m18_1 (.m yT (.m zT (.m zT (.v zB .e))))))) (h := ?_)) | (refine zZ.isR (id := 1) ?_; refine zZ.rc [4, 5, 7, 8, 10, 11, 12] [5, 7, 8, 10, 11] (r := (.v v14_0 (.v zV .e))) (h := ?_)) | refine zZ.ret ?_))
  all_goals exact ⟨by first | exact .inl rfl | exact .inr rfl, _, Sub.refl _, .tupE rfl (by decide) (.cons (.cellN rfl rfl (by rfl) (by rfl)) (.cons (.cellN rfl rfl (by rfl) (by rfl)) (.cons (.tmp rfl) .nil))) rfl⟩
theorem nextV_need (L : List xO) (hL : LogOK L) {t me : Int} (c : Int) {k u v w : Int} (ht : Small t) (h0 : 0 ≤ t) (hm : Small me) {q : Ned} {j : Nat} (hr : (qE t me k u).run (vU L) 0 = .need q j) :
    Fn Tryz.prog 12 [.val (.int .i64 t), .val (.int .i64 c), .val (.int .i64 me), opV k u v w, logV L] (.tup [accQ q, outV 0 false 0 0, .val (.bool false)]) := by
  have hr := runV_need L hL (v := v) (w := w) ht h0 hm hr
  unfold accQ at hr ⊢
  refine yP Tryz.func12 rfl Tryz.ntmps12 (Nat.le_of_ble_eq_true rfl) ?_
  repeat' (first | (refine zY.is ?_; first | refine zY.nil ?_ | (refine zY.at_ 16 rfl ?_; refine zY.rc (.v yJ (.v yJ (.v yJ (.w zS (.w zS (.v zB .e)))))) ?_) | (refine zY.in_ [15] rfl ?_; refine zY.ofT rfl (zG.eR [8, 7, 5] (hr) ?_))) | (refine zZ.is ?_; first | refine zZ.seq ?_ | (refine zZ.isR (id := 0) ?_; refine zZ.rc [0, 2, 3, 4] [5, 7, 8, 10, 11] (r := (.m m18_1 (.m m18_1 (.m yT (.m zT (.m zT (.v zB .e))))))) (h := ?_)) | (refine zZ.isR (id := 1) ?_; refine zZ.rc [4, 5, 7, 8, 10, 11, 12] [5, 7, 8, 10, 11] (r := (.v v14_0 (.v zV .e))) (h := ?_)) | refine zZ.ret ?_))
  all_goals exact ⟨by first | exact .inl rfl | exact .inr rfl, _, Sub.refl _, .tupE rfl (by decide) (.cons (.cellN rfl rfl (by rfl) (by rfl)) (.cons (.cellN rfl rfl (by rfl) (by rfl)) (.cons (.tmp rfl) .nil))) rfl⟩
end Go.Proofs.YtmfbamiciieooaaGreatDoor
/- An operation that steps alone (law 15), as a tree in a world: contract. -/
namespace Go.Proofs.YtmfbamiciieooaaGreatDoor
set_option maxRecDepth 100000
set_option maxHeartbeats 16000000
open Go Go.RowKit
set_option linter.unusedSimpArgs false
set_option linter.unusedVariables false
attribute [local irreducible] zY zZ Step zX Sub zD zG Fn zF zR
structure AlSt where
  n : Nat
  W : Wd
  L : List xO
  p : Pr OutN
def noFail (_ : Nat) : Bool := false
end Go.Proofs.YtmfbamiciieooaaGreatDoor
/- An operation that steps alone (law 16), as a tree in a world: contract. -/
namespace Go.Proofs.YtmfbamiciieooaaGreatDoor
set_option maxRecDepth 100000
set_option maxHeartbeats 16000000
open Go Go.RowKit
set_option linter.unusedSimpArgs false
set_option linter.unusedVariables false
attribute [local irreducible] zY zZ Step zX Sub zD zG Fn zF zR
def aloneVS (me : Nat) (k u v w : Int) (most : Int) (s : AlSt) : AS :=
  { t := [(1, .p (.val (.int .i64 me))), (3, .p (.val (.int .i64 most))), (4, .ptr 4 0), (6, .ptr 6 0), (8, .ptr 8 0), (9, .ptr 9 0), (10, .p (.val (.bool false))), (11, .own 11), (12, .p (.val (.int .i64 (s.n : Nat))))],
    s := [(4, .box 33 (s.W.pv.cells.map AV.p)), (6, .box 37 ((opV k u v w).cells.map AV.p)), (8, .box 33 ([.val (.int .i64 0), .val (.int .i64 0), xZ, .val (.int .u64 0), xZ, xZ].map AV.p)),
      (9, .box 41 ((outV 0 false 0 0).cells.map AV.p)), (11, lentV 55 3 (s.L.map resV))] }
theorem nextV_needW (L : List xO) (hL : LogOK L) {t me : Int} (c : Int) {k u v w : Int} (ht : Small t) (h0 : 0 ≤ t) (hm : Small me) {q : Ned} {j : Nat} (hr : (qE t me k u).run (vU L) 0 = .need q j) (hq : Asked q) :
    Fn Tryz.prog 12 [.val (.int .i64 t), .val (.int .i64 c), .val (.int .i64 me), opV k u v w, logV L] (.tup [accV q.kind q.cell q.a q.b (.sl (byts (qF q.d))), outV 0 false 0 0, .val (.bool false)]) := by
  refine (nextV_need L hL c (v := v) (w := w) ht h0 hm hr).weakT (.cons (.agg (.cons (.refl _) (.cons (.refl _) (.cons (.refl _) (.cons (.refl _) (.cons ?_ (.cons (.refl _) .nil))))))) (.cons (.refl _) (.cons (.refl _) .nil)))
  rcases hq.d with ⟨_, e⟩ | ⟨_, bs, _, _, e⟩
  · rw [e]; exact .nil
  · rw [e, bytsOf_byts]; exact .refl _
theorem aloneV_fn (B : Nat) (W W' : Wd) (me : Nat) (k u v w : Int) (most : Nat) (m : Nat) (o : OutN) (hW : WdOK B W) (ht0 : Small W.t) (h0t : 0 ≤ W.t) (hme : me < W.r0.length)
    (hr : (qE W.t me k u).run (wSt me noFail) (W, 0) = .done o (W', m)) (hmm : m ≤ most) (h1000 : most ≤ 1000) (hB : B ≤ 70000000) (hB2 : B + 1000 * most ≤ 90000000) :
    Fn Tryz.prog 10 [W.pv, .val (.int .i64 me), opV k u v w, .val (.int .i64 most)] (.tup [W'.pv, outV o.e o.is o.n o.w, .val (.bool true)]) := by
  have hfine := fine_vop W.t me k u
  obtain ⟨t, c, ws, root, r0, r1⟩ := W
  have hme : me < r0.length := hme
  have ht0 : Small t := ht0
  have h0t : 0 ≤ t := h0t
  have hms : Small ((me : Nat) : Int) := ⟨by omega, by have h1 : r0.length ≤ 1000000 := hW.rows; omega⟩
  refine yP Tryz.func10 rfl Tryz.ntmps10 (Nat.le_of_ble_eq_true rfl) ?_
  repeat' (first | (refine zY.nil ?_) | (refine zZ.is ?_; first | refine zZ.seq ?_ | (refine zZ.isR (id := 0) ?_; refine zZ.rc [0, 1, 2, 3] [4, 6, 8, 9, 11, 13, 14, 16, 17, 50] (r := (.m yT (.m yT (.m zT (.m zT (.v zB .e)))))) (h := ?_)) | (refine zZ.isR (id := 1) ?_; refine zZ.rc [1, 3, 4, 6, 8, 9, 10] [4, 6, 8, 9, 11, 13, 14, 16, 17, 50] (r := (.v zB .e)) (h := ?_)) | (refine zZ.isR (id := 2) ?_; refine zZ.rc [1, 3, 4, 6, 8, 9, 10, 11] [4, 6, 8, 9, 11, 13, 14, 16, 17, 50] (r := (.v zB .e)) (h := ?_)) | refine zZ.block ?_) | refine zF.n ?_)
  refine zZ.loop (fun s => aloneVS me k u v w most s) (fun s => s.n ≤ m ∧ s.W.t = t ∧ s.W.r0.length = r0.length ∧ WdOK (B + 1000 * s.n) s.W ∧ s.L.length = s.n ∧ (∀ r ∈ s.L, U r.n) ∧ (qE t me k u).after s.L = some s.p ∧ s.p.wN yes (many - s.n) ∧ s.p.run (wSt me noFail) (s.W, s.n) = .done o (W', m)) (fun s => most + 1 - s.n) ⟨0, ⟨t, c, ws, root, r0, r1⟩, [], qE t me k u⟩ ?h0
    ⟨Nat.zero_le _, rfl, rfl, hW, rfl, (fun r h => by simp at h), (by cases qE t me k u <;> rfl), hfine, hr⟩ ?rd
  case h0 =>
    refine (sub_adopt (d := 11) (id := 11) (ty := 55) (sz := 3) (by decide) rfl).trans ?_
    refine (vB (id := 11) (b := .row 55 3 0 []) (b' := vG 55 3 []) (by rfl) (qV 55 3 [])).sub.trans ?_
    refine (sub_lend (id := 11) (e := 55) (sz := 3) (es := []) (by rfl)).trans ?_
    exact z8 K_19 K_1a
  case rd =>
    rintro ⟨n, W, L, p⟩ ⟨hn, ht, hrl, hok, hl, hru, haf, hfi, hrun⟩
    dsimp only at hn ht hrl hok hl hru haf hfi hrun
    obtain ⟨t', c', ws', root', r0', r1'⟩ := W
    have ht : t' = t := ht
    subst ht
    change zZ _ _ _ (aloneVS me k u v w most ⟨n, ⟨t', c', ws', root', r0', r1'⟩, L, p⟩) _
    unfold aloneVS
    dsimp only
    have g1 : decide ((n : Int) ≤ most) = true := decide_eq_true (by omega)
    repeat' (first | (refine zY.nil ?_) | (refine zZ.is ?_; first | refine zZ.seq ?_ | (refine zZ.isR (id := 3) ?_; refine zZ.rc [1, 3, 4, 6, 8, 9, 10, 11, 12, 13, 14, 15, 16, 17, 20, 37] [4, 6, 8, 9, 11, 13, 14, 16, 17, 50] (r := (.v zV (.v zV (.v v44_0 .e)))) (h := ?_)) | (refine zZ.isR (id := 5) ?_; refine zZ.rc [1, 3, 4, 6, 8, 9, 10, 11, 12, 13, 14, 15, 16, 17, 20, 37] [4, 6, 8, 9, 11, 13, 14, 16, 17, 50] (r := (.v zM (.v zM (.v zO (.v zM (.v zM (.v zO (.v zV (.v xU (.v v0_1 .e)))))))))) (h := ?_)) | refine zZ.yN rfl bA ?_ | refine zZ.skip ?_ | refine zZ.block ?_) | refine zF.n ?_)
    refine zY.sub (sub_view (d := 32) (id := 11) (e := 55) (sz := 3) (es := L.map resV) rfl rfl) ?_
    have hL : LogOK L := ⟨by omega, hru⟩
    cases p with
    | stuck => cases hrun
    | ret o' =>
      rw [zC] at hrun
      injection hrun with e1 e2
      injection e2 with e2 e3
      subst e1 e2
      have c1 := nextV_done L hL c' (v := v) (w := w) ht0 h0t hms (after_done haf)
      repeat' (first | (refine zY.is ?_; first | refine zY.nil ?_ | (refine zY.at_ 23 rfl ?_; refine zY.rc (.v vZ (.v yJ (.v yJ (.v yJ (.m zT (.m zT (.w zS (.w zS (.v zB .e))))))))) ?_) | (refine zY.in_ [33] rfl ?_; refine zY.v rfl rfl (xY (c1) rfl rfl rfl (by decide)) ?_)) | (refine zZ.is ?_; first | refine zZ.seq ?_ | (refine zZ.isR (id := 6) ?_; refine zZ.rc [1, 3, 4, 6, 8, 9, 10, 11, 12, 13, 14, 15, 16, 17, 20, 37] [4, 6, 8, 9, 11, 13, 14, 16, 17, 50] (r := (.v zV .e)) (h := ?_)) | (refine zZ.isR (id := 7) ?_; refine zZ.rk [1, 3, 4, 6, 8, 9, 10, 11, 12, 13, 14, 15, 16, 17, 20, 37] [4, 6, 8, 9, 11, 13, 14, 16, 17, 50] ?_; refine zZ.drawGo (by kernel_rfl) ?_) | refine zZ.yN rfl bA ?_ | refine zZ.ret ?_) | refine zF.n ?_ | refine zF.r ?_ | refine zR.r ?_ | (refine DGo.at_ [] ?_; refine DGo.all [0, 1] (by kernel_rfl) ?_) | (refine DGo.at_ [1] ?_; refine DGo.all [0] (by kernel_rfl) ?_) | (refine DGo.at_ [0, 1] ?_; refine DGo.all [2] (by kernel_rfl) ?_) | (refine DGo.at_ [2, 0, 1] ?_; refine DGo.all [3] (by kernel_rfl) ?_) | (refine DGo.at_ [3, 2, 0, 1] ?_; refine DGo.fr 4 ?_) | (refine DGo.at_ [4, 3, 2, 0, 1] ?_; refine DGo.fin (by kernel_rfl) ?_) | (refine DGo.at_ [0] ?_; refine DGo.all [1, 2] (by kernel_rfl) ?_) | (refine DGo.at_ [2, 0] ?_; refine DGo.all [1] (by kernel_rfl) ?_) | (refine DGo.at_ [1, 2, 0] ?_; refine DGo.all [3] (by kernel_rfl) ?_) | (refine DGo.at_ [3, 1, 2, 0] ?_; refine DGo.fr 4 ?_) | (refine DGo.at_ [4, 3, 1, 2, 0] ?_; refine DGo.fin (by kernel_rfl) ?_) | (refine DGo.at_ [1, 0] ?_; refine DGo.all [2] (by kernel_rfl) ?_) | (refine DGo.at_ [2, 1, 0] ?_; refine DGo.all [3] (by kernel_rfl) ?_) | (refine DGo.at_ [3, 2, 1, 0] ?_; refine DGo.fr 4 ?_) | (refine DGo.at_ [4, 3, 2, 1, 0] ?_; refine DGo.fin (by kernel_rfl) ?_) | refine zI.cons ?_ ?_ | exact zI.nil | (refine zL.at_ 0 ?_; refine zL.v rfl rfl rfl (yR rfl rfl rfl (by rfl) (by rfl) rfl (by decide)) ?_) | (refine zL.at_ 1 ?_; refine zL.v rfl rfl rfl (yR rfl rfl rfl (by rfl) (by rfl) rfl (by decide)) ?_) | (refine zL.at_ 2 ?_; refine zL.w rfl rfl (by exact yO rfl rfl rfl rfl rfl (by rfl) (by exact Nat.le_of_ble_eq_true rfl) rfl rfl) ?_) | (refine zL.at_ 3 ?_; refine zL.w rfl rfl (by exact yO rfl rfl rfl rfl rfl (by rfl) (by exact Nat.le_of_ble_eq_true rfl) rfl rfl) ?_))
      all_goals exact ⟨by first | exact .inl rfl | exact .inr rfl, _, Sub.refl _, .tup (rs := [.cell 8 33, .cell 9 41, .tmp 10]) (l := [Wd.pv ⟨t', c', ws', root', r0', r1'⟩, outV o'.e o'.is o'.n o'.w, .val (.bool true)]) rfl (by decide) (.cons (.cellN rfl rfl (by rfl) (by rfl)) (.cons (.cellN rfl rfl (by rfl) (by rfl)) (.cons (.tmp rfl) .nil)))⟩
    | ask q kq =>
      have hq : Asked q := hfi.1
      rw [qP] at hrun
      have hrun2 : (kq (doX ⟨t', c', ws', root', r0', r1'⟩ me q false).2).run (wSt me noFail) ((doX ⟨t', c', ws', root', r0', r1'⟩ me q false).1, n + 1) = .done o (W', m) := hrun
      have hle := wSt_le hrun2
      dsimp only at hle
      have c1 := nextV_needW L hL c' (v := v) (w := w) ht0 h0t hms (after_need haf) hq
      have hdo := doX_ok hok hq me false
      have hkeep := doX_keeps ⟨t', c', ws', root', r0', r1'⟩ me q false
      have hme' : me < r0'.length := by have : r0'.length = r0.length := hrl; omega
      have c2 := doX_fn hok (by omega) hq (me := me) hme' false
      have haf2 := after_snoc (doX ⟨t', c', ws', root', r0', r1'⟩ me q false).2 haf
      generalize hde : doX ⟨t', c', ws', root', r0', r1'⟩ me q false = dd at *
      obtain ⟨W2, r⟩ := dd
      dsimp only at hrun2 hle c2 hdo hkeep haf2
      have g3 : IntKind.i64.wrap ((n : Int) + 1) = ((n + 1 : Nat) : Int) := by rw [wrap_i64 _ (by omega)]; omega
      have g4 : ∀ e ∈ L.map resV, e.cells.length = 3 := resV_cells L
      have g5 : ∀ e ∈ [resV r], e.cells.length = 3 := fun e he => by simp at he; subst he; rfl
      have g10 : ((L.map resV).length + ([resV r] : List PV).length) * 40 ≤ 140737488355328 ∧ (L.map resV).length + ([resV r] : List PV).length ≤ maxLen := by
        simp only [List.length_map, List.length_cons, List.length_nil, maxLen]
        omega
      have hnext : n + 1 ≤ m ∧ W2.t = t' ∧ W2.r0.length = r0.length ∧ WdOK (B + 1000 * (n + 1)) W2 ∧ (L ++ [r]).length = n + 1 ∧ (∀ x ∈ L ++ [r], U x.n) ∧ (qE t' me k u).after (L ++ [r]) = some (kq r) ∧ (kq r).wN yes (many - (n + 1)) ∧ (kq r).run (wSt me noFail) (W2, n + 1) = .done o (W', m) :=
        ⟨hle, hkeep.1, hkeep.2.2.1.trans hrl, hdo.1.le (by omega), by simp [hl], (fun x hx => by
          rcases List.mem_append.1 hx with hx | hx
          · exact hru x hx
          · simp at hx; subst hx; exact hdo.2), haf2, Pr.wN.le (by omega) (hfi.2 r hdo.2), hrun2⟩
      have ps_ := trivial
      repeat' (first | (refine zY.is ?_; first | refine zY.nil ?_ | (refine zY.at_ 23 rfl ?_; refine zY.rc (.v vZ (.v yJ (.v yJ (.v yJ (.m zT (.m zT (.w zS (.w zS (.v zB .e))))))))) ?_) | (refine zY.at_ 40 rfl ?_; refine zY.rc (.v vZ (.v yJ (.v yJ (.m zT (.m zT (.w zS (.w zS .e))))))) ?_) | (refine zY.in_ [33] rfl ?_; refine zY.v rfl rfl (xY (c1) rfl rfl rfl (by decide)) ?_) | (refine zY.in_ [44] rfl ?_; refine zY.v rfl rfl (xY (c2) rfl rfl rfl (by decide)) ?_)) | (refine zZ.is ?_; first | refine zZ.seq ?_ | (refine zZ.isR (id := 6) ?_; refine zZ.rc [1, 3, 4, 6, 8, 9, 10, 11, 12, 13, 14, 15, 16, 17, 20, 37] [4, 6, 8, 9, 11, 13, 14, 16, 17, 50] (r := (.v zV .e)) (h := ?_)) | (refine zZ.isR (id := 8) ?_; refine zZ.rc [1, 3, 4, 6, 8, 9, 10, 11, 12, 13, 14, 15, 16, 17, 20, 37] [4, 6, 8, 9, 11, 13, 14, 16, 17, 50] (r := (.v xU (.v zV (.v xU .e)))) (h := ?_)) | (refine zZ.isR (id := 9) ?_; refine zZ.rc [1, 3, 4, 6, 8, 9, 10, 11, 12, 13, 14, 15, 16, 17, 20, 37] [4, 6, 8, 9, 11, 13, 14, 16, 17, 50] (r := (.v xU (.w zS .e))) (h := ?_)) | (refine zZ.isR (id := 10) ?_; refine zZ.rc [1, 3, 4, 6, 8, 9, 10, 11, 12, 13, 14, 15, 16, 17, 20, 37] [4, 6, 8, 9, 11, 13, 14, 16, 17, 50] (r := (.v v0_1 (.v xU (.v v20_0 (.w w55_3 (.v v1_1 .e)))))) (h := ?_)) | (refine zZ.isR (id := 4) ?_; refine zZ.rc [1, 3, 4, 6, 8, 9, 10, 11, 12, 13, 14, 15, 16, 17, 20, 37] [4, 6, 8, 9, 11, 13, 14, 16, 17, 50] (r := (.v zV (.v wM (.v zB .e)))) (h := ?_)) | refine zZ.yG rfl bA ?_ | refine zZ.skip ?_) | refine zF.n ?_ | refine zR.n ?_)
      all_goals
        refine ⟨⟨n + 1, W2, L ++ [r], kq r⟩, ?_, hnext, by dsimp only; omega⟩
        show Sub _ (aloneVS me k u v w most ⟨n + 1, W2, L ++ [r], kq r⟩)
        unfold aloneVS
        dsimp only
        rw [List.map_append]
        exact z8 K_19 K_1a
end Go.Proofs.YtmfbamiciieooaaGreatDoor
/- New disks (reference): contract. -/
namespace Go.Proofs.YtmfbamiciieooaaGreatDoor
set_option maxRecDepth 100000
set_option maxHeartbeats 16000000
open Go Go.RowKit
set_option linter.unusedSimpArgs false
attribute [local irreducible] zY zZ Step zX Sub zD zG Fn
def zStr : PV := .agg [.val (.slice none 0 0), .val (.int .i64 0)]
theorem flat_zs : ∀ t : Nat, PL0s (flat (List.replicate t zStr)) (flat (strs (List.replicate t ([], 0))))
  | 0 => .nil
  | t + 1 => .cons .nil (.cons (.refl _) (flat_zs t))
theorem zStr_cells (t : Nat) : ∀ e ∈ List.replicate t zStr, e.cells.length = 2 := fun e he => by
  rw [List.eq_of_mem_replicate he]
  rfl
theorem new7_fn (t : Nat) (h1 : 1 ≤ t) (h64 : t ≤ 64) : Fn Tryz.prog 24 [.val (.int .i64 t)] (.tup [vV 0 (List.replicate t ([], 0)) (List.replicate t ([], 0)), .val (.int .i64 0)]) := by
  have g1 : decide ((t : Int) < 1) = false := decide_eq_false (by omega)
  have g2 : decide ((64 : Int) < t) = false := decide_eq_false (by omega)
  have g3 : t * 2 ≤ 16777216 ∧ 32 * t ≤ 281474976710656 ∧ t ≤ maxLen := by simp only [maxLen]; omega
  have g4 := zStr_cells t
  refine Fn.weakT (l := [.agg [.val (.int .u64 0), .sl (List.replicate t zStr), .sl (List.replicate t zStr)], .val (.int .i64 0)]) ?_ (.cons (.agg (.cons (.refl _) (.cons (.sl (by simp [strs]) (flat_zs t)) (.cons (.sl (by simp [strs]) (flat_zs t)) .nil)))) (.cons (.refl _) .nil))
  refine yP Tryz.func24 rfl Tryz.ntmps24 (Nat.le_of_ble_eq_true rfl) ?_
  repeat' ((refine zZ.is ?_; first | refine zZ.seq ?_ | (refine zZ.iq 0 ?_; refine zZ.rqe _ K_p K_f ?_; (refine zY.m rfl rfl (w_alloc rfl (by decide) rfl (by decide)) ?_); (refine zY.v rfl rfl (wE rfl rfl rfl (by decide)) ?_); refine zY.nil ?_) | (refine zZ.iq 1 ?_; refine zZ.rqc _ K_1b K_f ?_; all_goals (refine zY.v rfl rfl (wT rfl rfl rfl (by decide)) ?_); all_goals (refine zY.v rfl rfl (by exact r_lss rfl rfl rfl (by exact g1) rfl (by decide)) ?_); all_goals (refine zY.v rfl rfl (wT rfl rfl rfl (by decide)) ?_); all_goals (refine zY.gY rfl rfl (by decide) rfl (by with_reducible rfl) rfl (by decide) (wT rfl rfl rfl (by decide)) ?_); all_goals (refine zY.gY rfl rfl (by decide) rfl (by with_reducible rfl) rfl (by decide) (by exact r_gtr rfl rfl rfl (by exact g2) rfl (by decide)) ?_); all_goals (refine zY.v rfl rfl (by exact w_pickN rfl rfl (by with_reducible rfl) rfl rfl (by decide)) ?_); all_goals (refine zY.nil ?_)) | (refine zZ.iq 3 ?_; refine zZ.rqc _ K_1b K_f ?_; (refine zY.m rfl rfl (w_alloc rfl (by decide) rfl (by decide)) ?_); refine zY.nil ?_) | (refine zZ.iq 4 ?_; refine zZ.rqc _ K_1l K_f ?_; (refine zY.v rfl rfl (wT rfl rfl rfl (by decide)) ?_); (refine zY.m rfl rfl (by exact w_makeVN rfl rfl rfl (by exact g3) rfl (by decide) (by rfl) rfl (by decide)) ?_); (refine zY.v rfl rfl (w_fieldR rfl rfl rfl (by decide)) ?_); (refine zY.v rfl rfl (by exact w_idxArr rfl rfl rfl (by omega) rfl (by decide)) ?_); (refine zY.w rfl (by exact w_storeO rfl rfl rfl rfl rfl rfl (by exact Nat.le_of_ble_eq_true rfl) rfl rfl) ?_); refine zY.nil ?_) | (refine zZ.isR (id := 5) ?_; refine zZ.qO [0, 2, 3, 4] [2, 4, 13, 17] (by repeat' first | exact zH.nil | apply zH.p rfl | apply zH.ptr rfl) (by repeat' first | exact zN.nil | apply zN.boxP rfl rfl | apply zN.some rfl | apply zN.skip) ?_; (refine zY.v rfl rfl (wT rfl rfl rfl (by decide)) ?_); (refine zY.m rfl rfl (by exact w_makeVN rfl rfl rfl (by exact g3) rfl (by decide) (by rfl) rfl (by decide)) ?_); (refine zY.v rfl rfl (w_fieldR rfl rfl rfl (by decide)) ?_); (refine zY.v rfl rfl (by exact w_idxArr rfl rfl rfl (by omega) rfl (by decide)) ?_); (refine zY.w rfl (by exact w_storeO rfl rfl rfl rfl rfl rfl (by exact Nat.le_of_ble_eq_true rfl) rfl rfl) ?_); refine zY.nil ?_) | (refine zZ.isR (id := 6) ?_; refine zZ.sub (sub_frz (id := 13) rfl) ?_; refine zZ.sub (sub_frz (id := 17) rfl) ?_; refine zZ.rqc _ K_c K_f ?_; (refine zY.v rfl rfl (yR rfl rfl rfl (by rfl) (by rfl) rfl (by decide)) ?_); (refine zY.w rfl (by exact yO rfl rfl rfl rfl rfl (by rfl) (by exact Nat.le_of_ble_eq_true rfl) rfl rfl) ?_); (refine zY.v rfl rfl (wE rfl rfl rfl (by decide)) ?_); refine zY.nil ?_) | refine zZ.yG rfl (by first | assumption | with_reducible rfl) ?_ | refine zZ.skip ?_ | refine zZ.ret ?_))
  all_goals exact ⟨by first | exact .inl rfl | exact .inr rfl, _, Sub.refl _, .tup (rs := [.cell 2 31, .tmp 3]) (l := [.agg [.val (.int .u64 0), .sl (List.replicate t zStr), .sl (List.replicate t zStr)], .val (.int .i64 0)]) rfl (by decide) (.cons (.cellN rfl rfl (by rfl) (by rfl)) (.cons (.tmp rfl) .nil))⟩
end Go.Proofs.YtmfbamiciieooaaGreatDoor
/- New worlds (reference), that their callers may write into: contracts. -/
namespace Go.Proofs.YtmfbamiciieooaaGreatDoor
set_option maxRecDepth 100000
set_option maxHeartbeats 16000000
open Go Go.RowKit
set_option linter.unusedSimpArgs false
attribute [local irreducible] zY zZ Step zX Sub zD zG Fn
/-- the free list's words -/
def freeW (t : Nat) : Nat → List Int → List Int
  | 0, l => l
  | k + 1, l => (freeW t k l).set (8 + t + 8 * k + 7) ((k : Int) + 2)
theorem freeW_len (t : Nat) (l : List Int) : ∀ k, (freeW t k l).length = l.length
  | 0 => rfl
  | k + 1 => by rw [freeW, List.length_set, freeW_len t l k]
def newW (t c : Nat) : List Int := freeW t (c - 1) ((List.replicate (8 + t + 8 * c) 0).set 1 1)
def newS (t c : Nat) (k : Nat) : AS :=
  { t := [(0, .p (.val (.int .i64 (t : Nat)))), (1, .p (.val (.int .i64 (c : Nat)))), (4, .ptr 4 0), (5, .p (.val (.int .i64 0))), (6, .ptr 6 0), (7, .p (.val (.int .i64 ((k + 1 : Nat) : Int))))],
    s := [(4, .box 26 ([.val (.int .i64 0), .val (.int .i64 0), .val (.slice none 0 0)].map AV.p)), (6, .box 26 [.p (.val (.int .i64 (t : Nat))), .p (.val (.int .i64 (c : Nat))), .own 30]), (30, vG 27 1 (wds (freeW t k ((List.replicate (8 + t + 8 * c) 0).set 1 1))))] }
theorem new9A_fn (t c : Nat) (h1 : 1 ≤ t) (h64 : t ≤ 64) (hc1 : 1 ≤ c) (hc : c ≤ 65536) : FnAg Tryz.prog 23 [.val (.int .i64 t), .val (.int .i64 c)] [.p (.val (.int .i64 t)), .p (.val (.int .i64 c)), .o 0] 27 1 (wds (newW t c)) (some (.int .i64 0)) := by
  have g1 : decide ((t : Int) < 1) = false := decide_eq_false (by omega)
  have g2 : decide ((64 : Int) < t) = false := decide_eq_false (by omega)
  have f1 : decide ((c : Int) < 0) = false := decide_eq_false (by omega)
  have f2 : decide ((65536 : Int) < c) = false := decide_eq_false (by omega)
  have g3 : (8 + t + 8 * c) * 1 ≤ 16777216 ∧ 8 * (8 + t + 8 * c) ≤ 281474976710656 ∧ 8 + t + 8 * c ≤ maxLen := by simp only [maxLen]; omega
  have g4 : IntKind.i64.wrap (8 + (t : Int)) = 8 + (t : Int) := wrap_i64 _ (by omega)
  have g4b : IntKind.i64.wrap (8 * (c : Int)) = 8 * (c : Int) := wrap_i64 _ (by omega)
  have g5 : IntKind.i64.wrap (8 + (t : Int) + 8 * (c : Int)) = ((8 + t + 8 * c : Nat) : Int) := by rw [wrap_i64 _ (by omega)]; omega
  have g6 : ∀ e ∈ List.replicate (8 + t + 8 * c) (PV.val (.int .u64 0)), e.cells.length = 1 := fun e he => by rw [List.eq_of_mem_replicate he]; rfl
  have g7 : (0 : Int) ≤ 1 ∧ (1 : Int) < (List.replicate (8 + t + 8 * c) (PV.val (.int .u64 0))).length := by simp; omega
  have g8 : (1 : Int).toNat < (List.replicate (8 + t + 8 * c) (PV.val (.int .u64 0))).length := by simp; omega
  have g9 : decide ((0 : Int) < c) = true := decide_eq_true (by omega)
  refine fn_ofAg Tryz.func23 rfl Tryz.ntmps23 (Nat.le_of_ble_eq_true rfl) ?_
  repeat' (first | (refine zY.at_ 31 rfl ?_; refine zY.v rfl rfl (w_buildAg 30 rfl (by rfl) (by rfl) rfl rfl (by rfl) (by rfl) rfl (by decide)) ?_) | (refine zY.is ?_; first | refine zY.nil ?_ | (refine zY.at_ 6 rfl ?_; refine zY.rc (.m zT (.w zS .e)) ?_)) | (refine zZ.is ?_; first | refine zZ.seq ?_ | (refine zZ.isR (id := 0) ?_; refine zZ.rc [0, 1] [4, 6, 30] (r := (.m zT (.v zB .e))) (h := ?_)) | (refine zZ.isR (id := 1) ?_; refine zZ.rc [0, 1, 4, 5] [4, 6, 30] (r := (.v zV (.v xI (.v zV (.gY zV (.gY v45_0 (.v wW (.v zV (.gY zV (.gY xI (.v wW (.v zV (.gY zV (.gY v45_0 (.v wW .e))))))))))))))) (h := ?_)) | (refine zZ.isR (id := 3) ?_; refine zZ.rc [0, 1, 4, 5] [4, 6, 30] (r := (.v zV (.v zV (.v zV (.v wM (.v zV (.v v32_0 (.v wM (.m m21_0 .e))))))))) (h := ?_)) | (refine zZ.isR (id := 4) ?_; refine zZ.rc [0, 1, 4, 5, 6] [4, 6, 30] (r := (.v zV (.v v45_0 .e))) (h := ?_)) | (refine zZ.isR (id := 5) ?_; refine zZ.rc [0, 1, 4, 5, 6] [4, 6, 30] (r := (.v zM (.v v2_8 (.v kV (.w w24_1 .e))))) (h := ?_)) | (refine zZ.isR (id := 6) ?_; refine zZ.rc [0, 1, 4, 5, 6] [4, 6, 30] (r := (.v zB .e)) (h := ?_)) | refine zZ.yN rfl bA ?_ | refine zZ.yG rfl bA ?_ | refine zZ.skip ?_ | refine zZ.block ?_))
  refine zZ.loop (newS t c) (fun k => k + 1 ≤ c) (fun k => c - k) 0 ?h0 (by omega) ?rd
  case h0 =>
    have e0 : wds (freeW t 0 ((List.replicate (8 + t + 8 * c) 0).set 1 1)) = (List.replicate (8 + t + 8 * c) (PV.val (.int .u64 0))).set (1 : Int).toNat (.val (.int .u64 1)) := by simp [wds, freeW, List.map_set]
    unfold newS
    rw [e0]
    exact yI K_l K_m
  case rd =>
    rintro k hk
    have hfl : (freeW t k ((List.replicate (8 + t + 8 * c) 0).set 1 1)).length = 8 + t + 8 * c := by rw [freeW_len]; simp
    unfold newS
    by_cases hkc : k + 1 < c
    case pos =>
      have f3 : decide (((k + 1 : Nat) : Int) < c) = true := decide_eq_true (by omega)
      have c3 : Fn Tryz.prog 22 [.val (.int .i64 (t : Nat)), .val (.int .i64 ((k + 1 : Nat) : Int)), .val (.int .i64 7)] (.p (.val (.int .i64 ((8 + t + 8 * k + 7 : Nat) : Int)))) := by
        have h := fieldRef_fn t ((k + 1 : Nat) : Int) 7 (by unfold Small; omega) (by omega) (by unfold Small; omega)
        have e : zQ t ((k + 1 : Nat) : Int) 7 = ((8 + t + 8 * k + 7 : Nat) : Int) := by unfold zQ; omega
        rw [← e]; exact h
      have g10 : IntKind.i64.wrap (((k + 1 : Nat) : Int) + 1) = ((k + 2 : Nat) : Int) := by rw [wrap_i64 _ (by omega)]; omega
      have g11 : IntKind.u64.wrap ((k + 2 : Nat) : Int) = (k : Int) + 2 := by rw [wrap_u64 _ (by omega)]; omega
      have g12 := wds_cells (freeW t k ((List.replicate (8 + t + 8 * c) 0).set 1 1))
      have g13 : (0 : Int) ≤ ((8 + t + 8 * k + 7 : Nat) : Int) ∧ ((8 + t + 8 * k + 7 : Nat) : Int) < (wds (freeW t k ((List.replicate (8 + t + 8 * c) 0).set 1 1))).length := by rw [wds_len, hfl]; omega
      have g14 : ((8 + t + 8 * k + 7 : Nat) : Int).toNat < (wds (freeW t k ((List.replicate (8 + t + 8 * c) 0).set 1 1))).length := by rw [wds_len, hfl]; omega
      repeat' (first | (refine zY.nil ?_) | (refine zZ.is ?_; first | refine zZ.seq ?_ | (refine zZ.isR (id := 7) ?_; refine zZ.rc [0, 1, 4, 5, 6, 7, 39] [4, 6, 30] (r := (.v zV (.v zV (.v xI .e)))) (h := ?_)) | (refine zZ.isR (id := 9) ?_; refine zZ.rk [0, 1, 4, 5, 6, 7, 39] [4, 6, 30] ?_; refine zZ.draws ?_) | (refine zZ.isR (id := 8) ?_; refine zZ.rc [0, 1, 4, 5, 6, 7, 39] [4, 6, 30] (r := (.v zV (.v wM (.v zB .e)))) (h := ?_)) | refine zZ.yN rfl bA ?_ | refine zZ.skip ?_ | refine zZ.block ?_) | refine zF.n ?_ | (refine Draws.is ?_; first | refine Draws.rc (.v zV (.v wM (.v v6_0 (.v kV .e)))) ?_ | refine Draws.rc (.v zM (.v v2_8 (.v zV (.v zV .e)))) ?_ | (refine Draws.in_ [46] rfl ?_; refine Draws.v rfl rfl (zP (c3) rfl rfl rfl (by decide)) ?_) | refine Draws.done (by kernel_rfl) (by kernel_rfl) (by kernel_rfl) ?_) | (refine zD.is ?_; first | refine zD.nil ?_ | refine zD.rc (.w w24_1 .e) ?_))
      refine ⟨k + 1, ?_, by omega, by omega⟩
      have e1 : wds (freeW t (k + 1) ((List.replicate (8 + t + 8 * c) 0).set 1 1)) = (wds (freeW t k ((List.replicate (8 + t + 8 * c) 0).set 1 1))).set ((8 + t + 8 * k + 7 : Nat) : Int).toNat (.val (.int .u64 ((k : Int) + 2))) := by rw [wds_set, Int.toNat_natCast]; rfl
      show Sub _ (newS t c (k + 1))
      unfold newS
      rw [e1]
      exact yI K_l K_m
    case neg =>
      obtain rfl : k = c - 1 := by omega
      have f3 : decide (((c - 1 + 1 : Nat) : Int) < c) = false := decide_eq_false (by omega)
      repeat' (first | (refine zY.nil ?_) | (refine zZ.is ?_; first | refine zZ.seq ?_ | (refine zZ.isR (id := 7) ?_; refine zZ.rc [0, 1, 4, 5, 6, 7, 39] [4, 6, 30] (r := (.v zV (.v zV (.v xI .e)))) (h := ?_)) | (refine zZ.isR (id := 10) ?_; refine zZ.rc [4, 5, 6] [4, 6, 30] (r := (.v v2_19 (.w zS (.v zB .e)))) (h := ?_)) | refine zZ.yG rfl bA ?_ | refine zZ.exit ?_ | refine zZ.ret ?_))
      all_goals exact ⟨by first | exact .inl rfl | exact .inr rfl, .two (k := 30) rfl rfl rfl (by rfl) (by rfl) rfl rfl⟩
theorem new10A_fn (t c : Nat) (h1 : 1 ≤ t) (h64 : t ≤ 64) (hc1 : 1 ≤ c) (hc : c ≤ 65536) : FnAg Tryz.prog 9 [.val (.int .i64 t), .val (.int .i64 c)] ([.p (.val (.int .i64 t)), .p (.val (.int .i64 c)), .o 0] ++ (vV 0 (List.replicate t ([], 0)) (List.replicate t ([], 0))).cells.map .p) 27 1 (wds (newW t c)) none := by
  have c1 := new9A_fn t c h1 h64 hc1 hc
  have c2 := new7_fn t h1 h64
  refine fn_ofAg Tryz.func9 rfl Tryz.ntmps9 (Nat.le_of_ble_eq_true rfl) ?_
  repeat' (first | (refine zY.is ?_; first | refine zY.nil ?_ | (refine zY.at_ 15 rfl ?_; refine zY.rc (.v vZ (.v yJ (.v yJ (.m zT (.w zS (.v zB .e)))))) ?_) | (refine zY.at_ 9 rfl ?_; refine zY.rc (.v vZ (.v v9_2 (.v yJ (.m zT (.w zS (.v zB .e)))))) ?_) | (refine zY.in_ [17] rfl ?_; refine zY.v rfl rfl (xY (c2) rfl rfl rfl (by decide)) ?_) | (refine zY.in_ [12] rfl ?_; refine zY.m rfl rfl (w_callAg c1 rfl rfl rfl (by decide)) ?_)) | (refine zZ.is ?_; first | refine zZ.seq ?_ | (refine zZ.isR (id := 0) ?_; refine zZ.rc [0, 1] [4, 5, 7, 12, 17] (r := (.m zT .e)) (h := ?_)) | (refine zZ.isR (id := 1) ?_; refine zZ.rc [0, 1, 4] [4, 5, 7, 12, 17] (r := (.v zV (.v zV .e))) (h := ?_)) | (refine zZ.isR (id := 2) ?_; refine zZ.rc [0, 4, 5] [4, 5, 7, 12, 17] (r := (.v zV .e)) (h := ?_)) | (refine zZ.isR (id := 3) ?_; refine zZ.rc [4, 5, 7] [4, 5, 7, 12, 17] (r := (.v v2_19 (.v xU (.v v10_2 (.w zS .e))))) (h := ?_)) | refine zZ.ret ?_))
  all_goals exact ⟨by first | exact .inl rfl | exact .inr rfl, .one (k := 12) rfl rfl rfl (by rfl) (by rfl) rfl⟩
end Go.Proofs.YtmfbamiciieooaaGreatDoor
/- The list's example: by evaluation, and its contracts. -/
namespace Go.Proofs.YtmfbamiciieooaaGreatDoor
set_option maxRecDepth 100000
set_option maxHeartbeats 16000000
open Go Go.RowKit
set_option linter.unusedSimpArgs false
theorem run_keeps {α : Type} {good : α → Prop} {me : Nat} {f : Nat → Bool} : ∀ {p : Pr α} {n b i j : Nat} {W W' : Wd} {x : α}, p.wN good n → WdOK b W → p.run (wSt me f) (W, i) = .done x (W', j) →
    i ≤ j ∧ WdOK (b + 1000 * (j - i)) W' ∧ W'.t = W.t ∧ W'.c = W.c ∧ W'.r0.length = W.r0.length ∧ W'.ws.length = W.ws.length ∧ good x
  | .ret _, n, b, i, j, W, W', x, hf, h, hr => by
    rw [zC] at hr
    injection hr with e1 e2
    injection e2 with e2 e3
    subst e1 e2 e3
    exact ⟨Nat.le_refl _, h.le (by omega), rfl, rfl, rfl, rfl, hf⟩
  | .stuck, _, _, _, _, _, _, _, _, _, hr => by cases hr
  | .ask q k, n, b, i, j, W, W', x, hf, h, hr => by
    rw [qP] at hr
    have hr2 : (k (doX W me q (f i)).2).run (wSt me f) ((doX W me q (f i)).1, i + 1) = .done x (W', j) := hr
    obtain ⟨h1, h2⟩ := doX_ok h hf.1 me (f i)
    obtain ⟨k1, k2, k3, k4, _⟩ := doX_keeps W me q (f i)
    obtain ⟨a1, a2, a3, a4, a5, a6, a7⟩ := run_keeps (hf.2 _ h2) h1 hr2
    exact ⟨by omega, a2.le (by omega), a3.trans k1, a4.trans k2, a5.trans k3, a6.trans k4, a7⟩
def wd0 : Wd := ⟨0, 0, [], 0, [], []⟩
structure ResN where
  o : OutN
  W : Wd
  m : Nat
/-- what an operation answers, that steps alone -/
def rsN (p : Pr OutN) (me : Nat) (W : Wd) : ResN := match p.run (wSt me noFail) (W, 0) with
  | .done o s => ⟨o, s.1, s.2⟩
  | _ => ⟨⟨0, false, 0, 0⟩, wd0, 1000⟩
theorem freeW_U (t : Nat) {l : List Int} (hl : ∀ x ∈ l, U x) : ∀ k, k ≤ 65536 → ∀ x ∈ freeW t k l, U x
  | 0, _, x, hx => hl x hx
  | k + 1, hk, x, hx => by
    rw [freeW] at hx
    rcases List.mem_or_eq_of_mem_set hx with hx | rfl
    · exact freeW_U t hl k (by omega) x hx
    · unfold U; omega
theorem newW_U {t c : Nat} (h2 : c ≤ 65536) : ∀ x ∈ newW t c, U x := freeW_U t (fun x hx => by
    rcases List.mem_or_eq_of_mem_set hx with hx | rfl
    · rw [List.eq_of_mem_replicate hx]; exact U.zero
    · unfold U; decide) _ (by omega)
theorem newW_len (t c : Nat) : (newW t c).length = 8 + t + 8 * c := by rw [newW, freeW_len]; simp
end Go.Proofs.YtmfbamiciieooaaGreatDoor
/- Worlds of vertices, stepped alone: contracts for the laws. Generic over the program. -/
namespace Go.Proofs.YtmfbamiciieooaaGreatDoor
set_option maxRecDepth 100000
set_option maxHeartbeats 16000000
open Go Go.RowKit
set_option linter.unusedSimpArgs false
set_option linter.unusedVariables false
/-- a world of vertices -/
structure LwV (C : Nat) (b : Nat) (W : Wd) (M : Mm) (R : List Int) (E : Int) : Prop where
  mem : MmW C W M
  vs : VS C M R E
  ok : WdOK b W
theorem VS.len {C : Nat} {M : Mm} {R : List Int} {E : Int} (h : VS C M R E) : R.length ≤ C := by
  obtain ⟨P, B, o, hv⟩ := h.vi
  exact hv.len
theorem VS.so {C : Nat} {M : Mm} {R : List Int} {E : Int} (h : VS C M R E) : (R.map fun r => M.m (zQ 2 r 1)).Pairwise (· < ·) := by
  obtain ⟨P, B, o, hv⟩ := h.vi
  exact hv.so
theorem VS.lk {C : Nat} {M : Mm} {R : List Int} {E : Int} (h : VS C M R E) : xE C M.m 0 false (cl R) := by
  obtain ⟨P, B, o, hv⟩ := h.vi
  exact hv.st.lk
theorem LwV.op {C b : Nat} {W : Wd} {M : Mm} {R : List Int} {E : Int} (h : LwV C b W M R E) (hC : C ≤ 40) {me : Nat} (hme : me < 2) {k u : Int} (hk : k = 11 ∨ k = 12 ∨ k = 13) (hu : vOK u = true) {most : Nat} (hm : 57 + 9 * C ≤ most) (hmost : most ≤ 1000) (hb : b + 1000 * most ≤ 60000000) (hE : E + 5 < 18446744073709551616) :
    ∃ x W' M' R', Fn Tryz.prog 10 [W.pv, .val (.int .i64 me), opV k u 0 0, .val (.int .i64 most)] (.tup [W'.pv, outV x.e x.is 0 0, .val (.bool true)]) ∧ LwV C (b + 1000 * most) W' M' R' (E + 3) ∧ VopR C me M M' R R' k u x := by
  obtain ⟨x, M', R', r1, r2, r3⟩ := vop_run h.vs (by omega) hme hE hk hu
  obtain ⟨W', j, e1, e2, e3⟩ := r1 W 0 h.mem
  have ht := h.mem.t
  have hs := h.mem.st
  have hr : (qE W.t me k u).run (wSt me noFail) (W, 0) = .done ⟨x.e, x.is, 0, 0⟩ (W', j) := by rw [ht]; exact e1
  have hk := run_keeps (fine_vop W.t me k u) h.ok hr
  exact ⟨x, W', M', R', aloneV_fn b W W' me k u 0 0 most j ⟨x.e, x.is, 0, 0⟩ h.ok (by rw [ht]; unfold Small; omega) (by rw [ht]; decide) (by rw [hs]; exact hme) hr (by omega) hmost (by omega) (by omega), ⟨e2, r2, hk.2.1.le (by omega)⟩, r3⟩
/-! ### A new world -/
/-- records from one on -/
def upL : Nat → Int → List Int
  | 0, _ => []
  | n + 1, k => k :: upL n (k + 1)
theorem upL_mem : ∀ (n : Nat) (k x : Int), x ∈ upL n k ↔ k ≤ x ∧ x < k + n
  | 0, k, x => ⟨fun h => (by cases h), fun h => (by omega)⟩
  | n + 1, k, x => by
    show x ∈ k :: upL n (k + 1) ↔ _
    rw [List.mem_cons, upL_mem n (k + 1) x]
    push_cast
    omega
theorem upL_nd : ∀ (n : Nat) (k : Int), (upL n k).Nodup
  | 0, _ => List.nodup_nil
  | n + 1, k => List.nodup_cons.2 ⟨fun h => by rw [upL_mem] at h; omega, upL_nd n (k + 1)⟩
theorem upL_ch {C : Nat} {m : Int → Int} : ∀ (n : Nat) (k : Int), 1 ≤ k → k + n = C + 1 → (∀ x : Int, 1 ≤ x → x < C → m (zQ 2 x 7) = x + 1) → m (zQ 2 C 7) = 0 → ChV C m (if n = 0 then 0 else k) (upL n k)
  | 0, k, _, _, _, _ => rfl
  | n + 1, k, h1, h2, h3, h4 => by
    refine ⟨if_neg (by omega), ⟨h1, by omega⟩, ?_⟩
    have ih := upL_ch (C := C) n (k + 1) (by omega) (by push_cast at h2; omega) h3 h4
    by_cases e : n = 0
    · subst e
      have hk : k = C := by push_cast at h2; omega
      subst hk
      exact h4
    · rw [h3 k h1 (by push_cast at h2; omega)]
      rw [if_neg e] at ih
      exact ih
theorem newV_at (c : Nat) : ∀ (k : Nat), k + 1 ≤ c → ∀ i : Nat, i < 10 + 8 * c → (freeW 2 k ((List.replicate (8 + 2 + 8 * c) 0).set 1 1))[i]? = some (if i = 1 then (1 : Int) else if i % 8 = 1 ∧ 17 ≤ i ∧ i < 17 + 8 * k then (((i - 17) / 8 : Nat) : Int) + 2 else (0 : Int))
  | 0, hk, i, hi => by
    show ((List.replicate (8 + 2 + 8 * c) (0 : Int)).set 1 1)[i]? = _
    rw [List.getElem?_set]
    by_cases e : 1 = i
    · subst e
      rw [if_pos rfl, if_pos (by simp; omega), if_pos rfl]
    · rw [if_neg e, if_neg (fun h => e h.symm), if_neg (by omega), List.getElem?_replicate, if_pos (by omega)]
  | k + 1, hk, i, hi => by
    show ((freeW 2 k ((List.replicate (8 + 2 + 8 * c) (0 : Int)).set 1 1)).set (8 + 2 + 8 * k + 7) ((k : Int) + 2))[i]? = _
    rw [List.getElem?_set]
    by_cases e : 8 + 2 + 8 * k + 7 = i
    · subst e
      rw [if_pos rfl, if_pos (by rw [freeW_len]; simp; omega), if_neg (by omega), if_pos (by omega)]
      have : (8 + 2 + 8 * k + 7 - 17) / 8 = k := by omega
      rw [this]
    · rw [if_neg e, newV_at c k (by omega) i hi]
      by_cases e1 : i = 1
      · rw [if_pos e1, if_pos e1]
      · rw [if_neg e1, if_neg e1]
        by_cases e2 : i % 8 = 1 ∧ 17 ≤ i ∧ i < 17 + 8 * k
        · rw [if_pos e2, if_pos (by omega)]
        · rw [if_neg e2, if_neg (by omega)]
/-- a new memory, as a function -/
def nwM (c : Nat) (i : Int) : Int := if i = 1 then 1 else if i % 8 = 1 ∧ 17 ≤ i ∧ i < 17 + 8 * (c - 1) then (i - 17) / 8 + 2 else 0
def wNew (c : Nat) : Wd := ⟨2, c, newW 2 c, 0, [([], 0), ([], 0)], [([], 0), ([], 0)]⟩
theorem lwV_new {c : Nat} (h1 : 1 ≤ c) (h2 : c ≤ 40) : LwV c 0 (wNew c) ⟨nwM c, fun _ => []⟩ [] 0 := by
  have hm : MmW c (wNew c) ⟨nwM c, fun _ => []⟩ := by
    refine ⟨rfl, rfl, rfl, by show (newW 2 c).length = _; rw [newW_len], fun i hi => ?_, rfl, fun i hi => ?_, rfl⟩
    · show (freeW 2 (c - 1) _)[i]? = some (nwM c i)
      rw [newV_at c (c - 1) (by omega) i hi]
      unfold nwM
      congr 1
      by_cases e1 : i = 1
      · rw [if_pos e1, if_pos (show (i : Int) = 1 by omega)]
      · rw [if_neg e1, if_neg (show ¬ (i : Int) = 1 by omega)]
        by_cases e2 : i % 8 = 1 ∧ 17 ≤ i ∧ i < 17 + 8 * (c - 1)
        · rw [if_pos e2, if_pos (show (i : Int) % 8 = 1 ∧ 17 ≤ (i : Int) ∧ (i : Int) < 17 + 8 * ((c : Int) - 1) by omega)]
          omega
        · rw [if_neg e2, if_neg (show ¬ ((i : Int) % 8 = 1 ∧ 17 ≤ (i : Int) ∧ (i : Int) < 17 + 8 * ((c : Int) - 1)) by omega)]
    · have : i = 0 ∨ i = 1 := by omega
      rcases this with rfl | rfl <;> rfl
  have hz : ∀ i : Int, i ≠ 1 → i % 8 ≠ 1 → nwM c i = 0 := fun i a b => by unfold nwM; rw [if_neg a, if_neg (fun h => b h.1)]
  refine ⟨hm, ⟨⟨upL c 1, fun _ => [], fun r => if 1 ≤ r ∧ r ≤ c then 1 else 0, ⟨?_, ?_, fun i a b => ?_, fun r hr => (by cases hr), fun r hr => ?_, fun i a b r hr => (by cases hr), List.nodup_nil, upL_nd _ _, fun i a b => List.nodup_nil, fun r a b => ?_, ?_⟩, fun r => ?_, fun r hr => (by cases hr), List.Pairwise.nil, fun r hr => (by cases hr)⟩, fun j hj => ?_, ?_, ?_⟩, ?_⟩
  · show nwM c 0 = 0
    exact hz 0 (by decide) (by decide)
  · have := upL_ch (C := c) (m := nwM c) c 1 (by decide) (by omega) (fun x a b => by rw [fv]; unfold nwM; rw [if_neg (by omega), if_pos (by omega)]; omega) (by rw [fv]; unfold nwM; rw [if_neg (by omega), if_neg (by omega)])
    rw [if_neg (by omega)] at this
    exact this
  · exact hz i (by omega) (by omega)
  · rw [upL_mem] at hr
    exact if_pos (by omega)
  · exact .inr (.inr (.inl ((upL_mem _ _ _).2 (by omega))))
  · show 0 ≤ nwM c 3
    rw [hz 3 (by decide) (by decide)]; decide
  · show (if 1 ≤ r ∧ r ≤ (c : Int) then (1 : Int) else 0) ≠ 2
    split <;> decide
  · show nwM c (8 + j) = 0
    unfold nwM
    rw [if_neg (by omega), if_neg (by omega)]
  · exact hz 7 (by decide) (by decide)
  · show nwM c 3 ≤ 0
    rw [hz 3 (by decide) (by decide)]; decide
  · exact ⟨fun x hx => newW_U (by omega) x hx, by show (newW 2 c).length ≤ _; rw [newW_len]; omega, rfl, by show (2 : Nat) ≤ _; decide, fun p hp => by
      have hp : p ∈ [(([] : List Int), (0 : Int)), ([], 0)] := hp
      simp only [List.mem_cons, List.not_mem_nil, or_false] at hp
      rcases hp with rfl | rfl <;> exact Nat.le_refl _⟩
end Go.Proofs.YtmfbamiciieooaaGreatDoor
/- The law VertAlone, in plain terms: a set of vertices of 0 to 5. Generic over the program. -/
namespace Go.Proofs.YtmfbamiciieooaaGreatDoor
set_option maxRecDepth 100000
set_option maxHeartbeats 16000000
open Go Go.RowKit
set_option linter.unusedSimpArgs false
set_option linter.unusedVariables false
abbrev vk2 (u : Nat) : Int := (u : Int) * 2147483648
theorem vkF_nat {u : Nat} (h : u < 1000) : vOK u = true ∧ vkF u = vk2 u := by
  have h1 : vOK u = true := decide_eq_true (by omega)
  refine ⟨h1, ?_⟩
  unfold vkF
  rw [h1]
  rfl
theorem vk2_inj {u w : Nat} (h : vk2 w = vk2 u) : u = w := by
  have h : (w : Int) * 2147483648 = (u : Int) * 2147483648 := h
  omega
/-- who is in -/
structure AlI (n : Nat) (M : Mm) (R : List Int) (ins : List Bool) : Prop where
  len : ins.length = n
  key : ∀ u : Nat, ins[u]? = some true ↔ vk2 u ∈ R.map fun r => M.m (zQ 2 r 1)
section
variable {n C me : Nat} {M M' : Mm} {R R' : List Int} {ins : List Bool}
theorem AlI.same (h : AlI n M R ins) (hs : SamV M M' R) : AlI n M' R ins := ⟨h.len, fun u => by rw [hs.keys]; exact h.key u⟩
theorem AlI.add (h : AlI n M R ins) {R1 R2 : List Int} {r : Int} {u : Nat} (hu : u < n) (hs : SamV M M' R) (hR : R = R1 ++ R2) (hk : M'.m (zQ 2 r 1) = vk2 u) : AlI n M' (R1 ++ r :: R2) (ins.set u true) := by
  refine ⟨by rw [List.length_set]; exact h.len, fun w => ?_⟩
  have hm : ∀ k : Int, k ∈ (R1 ++ r :: R2).map (fun r => M'.m (zQ 2 r 1)) ↔ k = vk2 u ∨ k ∈ R.map fun r => M.m (zQ 2 r 1) := fun k => by
    rw [← hs.keys, hR, List.map_append, List.map_append, List.map_cons, hk]
    simp only [List.mem_append, List.mem_cons]
    constructor
    · rintro (h | h | h)
      · exact .inr (.inl h)
      · exact .inl h
      · exact .inr (.inr h)
    · rintro (h | h | h)
      · exact .inr (.inl h)
      · exact .inl h
      · exact .inr (.inr h)
  rw [hm, List.getElem?_set]
  by_cases e : u = w
  · subst e
    rw [if_pos rfl, if_pos (by rw [h.len]; exact hu)]
    exact ⟨fun _ => .inl rfl, fun _ => rfl⟩
  · rw [if_neg e, h.key w]
    exact ⟨fun h => .inr h, fun h => h.resolve_left fun he => e (vk2_inj he)⟩
theorem AlI.del (h : AlI n M R ins) {R1 R2 : List Int} {r : Int} {u : Nat} (hs : SamV M M' (R1 ++ R2)) (hR : R = R1 ++ r :: R2) (hk : M.m (zQ 2 r 1) = vk2 u) (hso : (R.map fun r => M.m (zQ 2 r 1)).Pairwise (· < ·)) : AlI n M' (R1 ++ R2) (ins.set u false) := by
  refine ⟨by rw [List.length_set]; exact h.len, fun w => ?_⟩
  rw [hs.keys, List.getElem?_set]
  have hm : ∀ k : Int, k ∈ R.map (fun r => M.m (zQ 2 r 1)) ↔ k = vk2 u ∨ k ∈ (R1 ++ R2).map fun r => M.m (zQ 2 r 1) := fun k => by
    rw [hR, List.map_append, List.map_append, List.map_cons, hk]
    simp only [List.mem_append, List.mem_cons]
    constructor
    · rintro (h | h | h)
      · exact .inr (.inl h)
      · exact .inl h
      · exact .inr (.inr h)
    · rintro (h | h | h)
      · exact .inr (.inl h)
      · exact .inl h
      · exact .inr (.inr h)
  by_cases e : u = w
  · subst e
    rw [if_pos rfl]
    refine ⟨fun h => by split at h <;> simp at h, fun hw => ?_⟩
    exfalso
    rw [hR, List.map_append, List.map_cons, hk] at hso
    obtain ⟨p1, p2, p3⟩ := List.pairwise_append.1 hso
    rw [List.map_append] at hw
    rcases List.mem_append.1 hw with hw | hw
    · have := p3 _ hw _ (List.mem_cons_self ..); omega
    · have := (List.pairwise_cons.1 p2).1 _ hw; omega
  · rw [if_neg e, h.key w, hm]
    exact ⟨fun h => h.resolve_left fun he => e (vk2_inj he), fun h => .inr h⟩
/-- what an operation answers, by who is in -/
inductive AlR (C : Nat) (R R' : List Int) (ins ins' : List Bool) (k : Int) (u : Nat) (b : Bool) (x : OutB) : Prop where
  | old (hk : k = 11) (hb : b = true) (he : x.e = 0) (hi : x.is = false) (hR : R'.length = R.length) (hins : ins' = ins)
  | full (hk : k = 11) (hb : b = false) (hn : R.length = C) (he : x.e = 3) (hi : x.is = false) (hR : R'.length = R.length) (hins : ins' = ins)
  | new (hk : k = 11) (hb : b = false) (hn : R.length < C) (he : x.e = 0) (hi : x.is = true) (hR : R'.length = R.length + 1) (hins : ins' = ins.set u true)
  | gone (hk : k = 12) (hb : b = true) (he : x.e = 0) (hi : x.is = true) (hR : R'.length + 1 = R.length) (hins : ins' = ins.set u false)
  | none (hk : k = 12) (hb : b = false) (he : x.e = 0) (hi : x.is = false) (hR : R'.length = R.length) (hins : ins' = ins)
  | has (hk : k = 13) (he : x.e = 0) (hi : x.is = b) (hR : R'.length = R.length) (hins : ins' = ins)
theorem AlI.op (h : AlI n M R ins) {k : Int} {u : Nat} {x : OutB} {b : Bool} (hn : n ≤ 1000) (hb : ins[u]? = some b) (hso : (R.map fun r => M.m (zQ 2 r 1)).Pairwise (· < ·)) (hv : VopR C me M M' R R' k u x) : ∃ ins', AlI n M' R' ins' ∧ AlR C R R' ins ins' k u b x := by
  have hu : u < n := by rw [← h.len]; exact (List.getElem?_eq_some_iff.1 hb).1
  obtain ⟨v1, v2⟩ := vkF_nat (u := u) (by omega)
  have hk := h.key u
  rw [hb] at hk
  unfold VopR at hv
  rw [v2] at hv
  rcases hv with ⟨rfl, ha, hs⟩ | ⟨rfl, ha, hs⟩ | ⟨rfl, hR, _, _, hs, he, hi⟩
  · cases ha with
    | old hm e hR hd hst =>
      subst e hR
      have hb1 : b = true := Option.some.inj (hk.2 hm)
      exact ⟨ins, h.same hs, .old rfl hb1 rfl rfl rfl rfl⟩
    | full hm hn e hR hd hst =>
      subst e hR
      have hb1 : b = false := by cases b; rfl; exact absurd (hk.1 rfl) hm
      exact ⟨ins, h.same hs, .full rfl hb1 hn rfl rfl rfl rfl⟩
    | new R1 R2 r hm hn e hR hR' hr hkr hf hd hst =>
      subst e
      have hb1 : b = false := by cases b; rfl; exact absurd (hk.1 rfl) hm
      refine ⟨ins.set u true, hR' ▸ h.add hu hs hR hkr, .new rfl hb1 hn rfl rfl ?_ rfl⟩
      rw [hR', hR]
      simp only [List.length_append, List.length_cons]
      omega
  · cases ha with
    | none hm e hR hd hst =>
      subst e hR
      have hb1 : b = false := by cases b; rfl; exact absurd (hk.1 rfl) hm
      exact ⟨ins, h.same hs, .none rfl hb1 rfl rfl rfl rfl⟩
    | gone R1 R2 r e hR hR' hkr hd hst =>
      subst e
      have hb1 : b = true := Option.some.inj (hk.2 (by rw [hR, ← hkr]; exact List.mem_map_of_mem (f := fun r => M.m (zQ 2 r 1)) (by simp)))
      rw [hR'] at hs
      refine ⟨ins.set u false, hR' ▸ h.del hs hR hkr hso, .gone rfl hb1 rfl rfl ?_ rfl⟩
      rw [hR', hR]
      simp only [List.length_append, List.length_cons]
      omega
  · subst hR
    refine ⟨ins, h.same hs, .has rfl he ?_ rfl rfl⟩
    cases b
    · cases hx : x.is
      · rfl
      · exact absurd (hk.2 (hi.1 hx)) (by simp)
    · exact hi.2 (hk.1 rfl)
end
theorem rise_of {M : Mm} {R : List Int} (hso : (R.map fun r => M.m (zQ 2 r 1)).Pairwise (· < ·)) {j : Nat} {x y : Int} (hx : R[j]? = some x) (hy : R[j + 1]? = some y) : M.m (zQ 2 x 1) < M.m (zQ 2 y 1) := by
  obtain ⟨h1, e1⟩ := List.getElem?_eq_some_iff.1 hx
  obtain ⟨h2, e2⟩ := List.getElem?_eq_some_iff.1 hy
  have := List.pairwise_iff_getElem.1 hso j (j + 1) (by simpa using h1) (by simpa using h2) (by omega)
  simpa [e1, e2] using this
end Go.Proofs.YtmfbamiciieooaaGreatDoor
/- New worlds (reference) of two threads, and any number of records, none among them: contracts, and what they are. -/
namespace Go.Proofs.YtmfbamiciieooaaGreatDoor
set_option maxRecDepth 100000
set_option maxHeartbeats 16000000
open Go Go.RowKit
set_option linter.unusedSimpArgs false
set_option linter.unusedVariables false
attribute [local irreducible] zY zZ Step zX Sub zD zG Fn
def newZS : AS :=
  { t := [(0, .p (.val (.int .i64 (2 : Nat)))), (1, .p (.val (.int .i64 (0 : Nat)))), (4, .ptr 4 0), (5, .p (.val (.int .i64 0))), (6, .ptr 6 0), (7, .p (.val (.int .i64 1)))],
    s := [(4, .box 26 ([.val (.int .i64 0), .val (.int .i64 0), .val (.slice none 0 0)].map AV.p)), (6, .box 26 [.p (.val (.int .i64 (2 : Nat))), .p (.val (.int .i64 (0 : Nat))), .own 30]), (30, vG 27 1 (wds (List.replicate 10 0)))] }
theorem new9Z_fn : FnAg Tryz.prog 23 [.val (.int .i64 (2 : Nat)), .val (.int .i64 (0 : Nat))] [.p (.val (.int .i64 (2 : Nat))), .p (.val (.int .i64 (0 : Nat))), .o 0] 27 1 (wds (List.replicate 10 0)) (some (.int .i64 0)) := by
  have g1 : decide (((2 : Nat) : Int) < 1) = false := rfl
  have g2 : decide ((64 : Int) < (2 : Nat)) = false := rfl
  have f1 : decide (((0 : Nat) : Int) < 0) = false := rfl
  have f2 : decide ((65536 : Int) < (0 : Nat)) = false := rfl
  have g3 : 10 * 1 ≤ 16777216 ∧ 8 * 10 ≤ 281474976710656 ∧ 10 ≤ maxLen := by simp only [maxLen]; omega
  have g4 : IntKind.i64.wrap (8 + ((2 : Nat) : Int)) = 10 := rfl
  have g4b : IntKind.i64.wrap (8 * ((0 : Nat) : Int)) = 0 := rfl
  have g5 : IntKind.i64.wrap (10 + 0) = ((10 : Nat) : Int) := rfl
  have g6 : ∀ e ∈ List.replicate 10 (PV.val (.int .u64 0)), e.cells.length = 1 := fun e he => by rw [List.eq_of_mem_replicate he]; rfl
  have g9 : decide ((0 : Int) < (0 : Nat)) = false := rfl
  refine fn_ofAg Tryz.func23 rfl Tryz.ntmps23 (Nat.le_of_ble_eq_true rfl) ?_
  repeat' (first | (refine zY.at_ 31 rfl ?_; refine zY.v rfl rfl (w_buildAg 30 rfl (by rfl) (by rfl) rfl rfl (by rfl) (by rfl) rfl (by decide)) ?_) | (refine zY.is ?_; first | refine zY.nil ?_ | (refine zY.at_ 6 rfl ?_; refine zY.rc (.m zT (.w zS .e)) ?_)) | (refine zZ.is ?_; first | refine zZ.seq ?_ | (refine zZ.isR (id := 0) ?_; refine zZ.rc [0, 1] [4, 6, 30] (r := (.m zT (.v zB .e))) (h := ?_)) | (refine zZ.isR (id := 1) ?_; refine zZ.rc [0, 1, 4, 5] [4, 6, 30] (r := (.v zV (.v xI (.v zV (.gY zV (.gY v45_0 (.v wW (.v zV (.gY zV (.gY xI (.v wW (.v zV (.gY zV (.gY v45_0 (.v wW .e))))))))))))))) (h := ?_)) | (refine zZ.isR (id := 3) ?_; refine zZ.rc [0, 1, 4, 5] [4, 6, 30] (r := (.v zV (.v zV (.v zV (.v wM (.v zV (.v v32_0 (.v wM (.m m21_0 .e))))))))) (h := ?_)) | (refine zZ.isR (id := 4) ?_; refine zZ.rc [0, 1, 4, 5, 6] [4, 6, 30] (r := (.v zV (.v v45_0 .e))) (h := ?_)) | (refine zZ.isR (id := 6) ?_; refine zZ.rc [0, 1, 4, 5, 6] [4, 6, 30] (r := (.v zB .e)) (h := ?_)) | refine zZ.yG rfl bA ?_ | refine zZ.skip ?_ | refine zZ.block ?_))
  refine zZ.loop (fun _ : Unit => newZS) (fun _ => True) (fun _ => 0) () ?h0 trivial ?rd
  case h0 =>
    unfold newZS
    exact yI K_l K_m
  case rd =>
    rintro ⟨⟩ _
    unfold newZS
    have f3 : decide ((1 : Int) < (0 : Nat)) = false := rfl
    repeat' (first | (refine zY.nil ?_) | (refine zZ.is ?_; first | refine zZ.seq ?_ | (refine zZ.isR (id := 7) ?_; refine zZ.rc [0, 1, 4, 5, 6, 7, 39] [4, 6, 30] (r := (.v zV (.v zV (.v xI .e)))) (h := ?_)) | (refine zZ.isR (id := 10) ?_; refine zZ.rc [4, 5, 6] [4, 6, 30] (r := (.v v2_19 (.w zS (.v zB .e)))) (h := ?_)) | refine zZ.yG rfl bA ?_ | refine zZ.exit ?_ | refine zZ.ret ?_))
    all_goals exact ⟨by first | exact .inl rfl | exact .inr rfl, .two (k := 30) rfl rfl rfl (by rfl) (by rfl) rfl rfl⟩
/-- a new memory's words -/
def newV (c : Nat) : List Int := if c = 0 then List.replicate 10 0 else newW 2 c
theorem new9V_fn (c : Nat) (hc : c ≤ 65536) : FnAg Tryz.prog 23 [.val (.int .i64 (2 : Nat)), .val (.int .i64 (c : Nat))] [.p (.val (.int .i64 (2 : Nat))), .p (.val (.int .i64 (c : Nat))), .o 0] 27 1 (wds (newV c)) (some (.int .i64 0)) := by
  unfold newV
  split
  · next h => subst h; exact new9Z_fn
  · next h => exact new9A_fn 2 c (by decide) (by decide) (by omega) hc
theorem new10V_fn (c : Nat) (hc : c ≤ 65536) : FnAg Tryz.prog 9 [.val (.int .i64 (2 : Nat)), .val (.int .i64 (c : Nat))] ([.p (.val (.int .i64 (2 : Nat))), .p (.val (.int .i64 (c : Nat))), .o 0] ++ (vV 0 (List.replicate 2 ([], 0)) (List.replicate 2 ([], 0))).cells.map .p) 27 1 (wds (newV c)) none := by
  have c1 := new9V_fn c hc
  have c2 := new7_fn 2 (by decide) (by decide)
  refine fn_ofAg Tryz.func9 rfl Tryz.ntmps9 (Nat.le_of_ble_eq_true rfl) ?_
  repeat' (first | (refine zY.is ?_; first | refine zY.nil ?_ | (refine zY.at_ 15 rfl ?_; refine zY.rc (.v vZ (.v yJ (.v yJ (.m zT (.w zS (.v zB .e)))))) ?_) | (refine zY.at_ 9 rfl ?_; refine zY.rc (.v vZ (.v v9_2 (.v yJ (.m zT (.w zS (.v zB .e)))))) ?_) | (refine zY.in_ [17] rfl ?_; refine zY.v rfl rfl (xY (c2) rfl rfl rfl (by decide)) ?_) | (refine zY.in_ [12] rfl ?_; refine zY.m rfl rfl (w_callAg c1 rfl rfl rfl (by decide)) ?_)) | (refine zZ.is ?_; first | refine zZ.seq ?_ | (refine zZ.isR (id := 0) ?_; refine zZ.rc [0, 1] [4, 5, 7, 12, 17] (r := (.m zT .e)) (h := ?_)) | (refine zZ.isR (id := 1) ?_; refine zZ.rc [0, 1, 4] [4, 5, 7, 12, 17] (r := (.v zV (.v zV .e))) (h := ?_)) | (refine zZ.isR (id := 2) ?_; refine zZ.rc [0, 4, 5] [4, 5, 7, 12, 17] (r := (.v zV .e)) (h := ?_)) | (refine zZ.isR (id := 3) ?_; refine zZ.rc [4, 5, 7] [4, 5, 7, 12, 17] (r := (.v v2_19 (.v xU (.v v10_2 (.w zS .e))))) (h := ?_)) | refine zZ.ret ?_))
  all_goals exact ⟨by first | exact .inl rfl | exact .inr rfl, .one (k := 12) rfl rfl rfl (by rfl) (by rfl) rfl⟩
def wNewV (c : Nat) : Wd := ⟨2, c, newV c, 0, [([], 0), ([], 0)], [([], 0), ([], 0)]⟩
def nwMV (c : Nat) (i : Int) : Int := if c = 0 then 0 else nwM c i
theorem lwV_newV {c : Nat} (h2 : c ≤ 40) : LwV c 0 (wNewV c) ⟨nwMV c, fun _ => []⟩ [] 0 := by
  by_cases h : c = 0
  · subst h
    have e : nwMV 0 = fun _ => 0 := by funext i; exact if_pos rfl
    rw [e]
    have hm : MmW 0 (wNewV 0) ⟨fun _ => 0, fun _ => []⟩ := by
      refine ⟨rfl, rfl, rfl, rfl, fun i hi => ?_, rfl, fun i hi => ?_, rfl⟩
      · show (List.replicate 10 (0 : Int))[i]? = some 0
        rw [List.getElem?_replicate, if_pos (by omega)]
      · have : i = 0 ∨ i = 1 := by omega
        rcases this with rfl | rfl <;> rfl
    refine ⟨hm, ⟨⟨[], fun _ => [], fun _ => 0, ⟨rfl, rfl, fun i a b => rfl, fun r hr => (by cases hr), fun r hr => (by cases hr), fun i a b r hr => (by cases hr), List.nodup_nil, List.nodup_nil, fun i a b => List.nodup_nil, fun r a b => ?_, Int.le_refl _⟩, fun r => (by decide), fun r hr => (by cases hr), List.Pairwise.nil, fun r hr => (by cases hr)⟩, fun j hj => rfl, rfl, Int.le_refl _⟩, ?_⟩
    · omega
    · exact ⟨fun x hx => by rw [List.eq_of_mem_replicate (show x ∈ List.replicate 10 (0 : Int) from hx)]; exact U.zero, by decide, rfl, by show (2 : Nat) ≤ _; decide, fun p hp => by
        have hp : p ∈ [(([] : List Int), (0 : Int)), ([], 0)] := hp
        simp only [List.mem_cons, List.not_mem_nil, or_false] at hp
        rcases hp with rfl | rfl <;> exact Nat.le_refl _⟩
  · have e : nwMV c = nwM c := by funext i; exact if_neg h
    have e2 : wNewV c = wNew c := by unfold wNewV wNew newV; rw [if_neg h]
    rw [e, e2]
    exact lwV_new (by omega) h2
end Go.Proofs.YtmfbamiciieooaaGreatDoor
/- Two worlds that are the same: contract. -/
namespace Go.Proofs.YtmfbamiciieooaaGreatDoor
set_option maxRecDepth 100000
set_option maxHeartbeats 16000000
open Go Go.RowKit
set_option linter.unusedSimpArgs false
set_option linter.unusedVariables false
attribute [local irreducible] zY zZ Step zX Sub zD zG Fn
end Go.Proofs.YtmfbamiciieooaaGreatDoor
/- (Written by gen_lnkfv.py.) The records that are linked, as wealdref15.Linked tells them: contract. -/
namespace Go.Proofs.YtmfbamiciieooaaGreatDoor
set_option maxRecDepth 100000
set_option maxHeartbeats 16000000
open Go Go.RowKit
set_option linter.unusedSimpArgs false
set_option linter.unusedVariables false
attribute [local irreducible] zY zZ Step zX Sub zD zG Fn zF zR
def nmsP (l : List Int) : List PV := l.map fun x => .val (.int .i64 x)
theorem nmsP_len (l : List Int) : (nmsP l).length = l.length := by simp [nmsP]
theorem nmsP_app (l : List Int) (x : Int) : nmsP l ++ [.val (.int .i64 x)] = nmsP (l ++ [x]) := by simp [nmsP]
theorem xE.nth {C : Nat} {m : Int → Int} : ∀ {l : List (Int × Bool)} {p : Int} {k : Bool} {j : Nat} {x : Int} {b : Bool}, xE C m p k l → l[j]? = some (x, b) → (1 ≤ x ∧ x ≤ C) ∧ xE C m x b (l.drop (j + 1))
  | [], _, _, _, _, _, _, e => by simp at e
  | (y, c) :: l, p, k, 0, x, b, h, e => by
    simp at e
    obtain ⟨rfl, rfl⟩ := e
    exact ⟨h.2.1, h.2.2⟩
  | (y, c) :: l, p, k, j + 1, x, b, h, e => xE.nth (l := l) h.2.2 (by simpa using e)
def lkFV (C : Nat) (ws : List Int) (l : List (Int × Bool)) (j : Nat) : AS := { t := [(1, .ptr 1 0), (3, .own 42), (4, .p (.val (.int .i64 (hd (l.drop j)))))], s := [(1, .box 26 [.p (.val (.int .i64 2)), .p (.val (.int .i64 (C : Nat))), .p (.sl (wds ws))]), (42, vG 3 1 (nmsP (nms (l.take j))))] }
theorem linkedV_fn {C : Nat} (hC : C ≤ 100000) {m : Int → Int} {l : List (Int × Bool)} (h : xE C m 0 false l) (hl : l.length ≤ C) {ws : List Int} (hat : ∀ c : Nat, c < 10 + 8 * C → ws[c]? = some (m c)) : Fn Tryz.prog 21 [.agg [.val (.int .i64 2), .val (.int .i64 (C : Nat)), .sl (wds ws)]] (.p (.sl (nmsP (nms l)))) := by
  have hw := h.word
  have hb := h.hd_le
  have e0 : (wds ws)[0]? = some (.val (.int .u64 (m 0))) := wds_at (hat 0 (by omega))
  have e1 := wds_cells ws
  have hw0 : m 0 = 2 * hd l := by have e : m 0 = 2 * hd l + bI false := hw; rw [e]; show 2 * hd l + 0 = _; omega
  have c0 : Fn Tryz.prog 45 [.val (.int .u64 (m 0))] (.p (.val (.int .i64 (hd l)))) := by
    have := refRef_fn (m 0) (by omega) (by omega)
    rw [show xQ (m 0) = hd l by unfold xQ; omega] at this
    exact this
  refine yP Tryz.func21 rfl Tryz.ntmps21 (Nat.le_of_ble_eq_true rfl) ?_
  repeat' (first | (refine zY.is ?_; first | refine zY.nil ?_ | (refine zY.at_ 4 rfl ?_; refine zY.rc (.v zB .e) ?_) | (refine zY.in_ [9] rfl ?_; refine zY.v rfl rfl (zP (c0) rfl rfl rfl (by decide)) ?_)) | (refine zZ.is ?_; first | refine zZ.seq ?_ | (refine zZ.isR (id := 0) ?_; refine zZ.rc [0] [1, 2, 3, 27] (r := (.m yT (.v zB .e))) (h := ?_)) | (refine zZ.isR (id := 1) ?_; refine zZ.rc [1, 2] [1, 2, 3, 27] (r := (.v zB .e)) (h := ?_)) | (refine zZ.isR (id := 2) ?_; refine zZ.rc [1, 2, 3] [1, 2, 3, 27] (r := (.v zM (.v zO (.v v7_18 (.v v2_1 .e))))) (h := ?_)) | refine zZ.block ?_) | refine zF.n ?_)
  refine zZ.loop (lkFV C ws l) (fun j => j ≤ l.length) (fun j => l.length - j) 0 ?h0 (Nat.zero_le _) ?rd
  case h0 =>
    unfold lkFV
    refine (sub_adopt (d := 3) (id := 42) (ty := 3) (sz := 1) (by decide) rfl).trans ?_
    refine (vB (id := 42) (b := .row 3 1 0 []) (b' := vG 3 1 []) (by rfl) (qV 3 1 [])).sub.trans ?_
    exact yI K_1n K_1o
  case rd =>
    intro j hj
    unfold lkFV
    by_cases hlt : j < l.length
    case pos =>
      obtain ⟨⟨x, b⟩, hx⟩ : ∃ p, l[j]? = some p := ⟨_, List.getElem?_eq_getElem hlt⟩
      obtain ⟨hx1, hx2⟩ := h.nth hx
      have hdx : hd (l.drop j) = x := by
        rw [List.drop_eq_getElem_cons hlt]
        rw [List.getElem?_eq_getElem hlt] at hx
        rw [Option.some.inj hx]
        rfl
      have htk : nms (l.take j) ++ [x] = nms (l.take (j + 1)) := by rw [List.take_add_one, hx]; simp [nms]
      have hwx := hx2.word
      have hbx := hx2.hd_le
      rw [nx_posV hx1.1] at hwx
      rw [hdx]
      obtain ⟨pn, hpn⟩ : ∃ pn : Nat, zQ 2 x 0 = (pn : Int) := ⟨(zQ 2 x 0).toNat, by rw [fv]; omega⟩
      have hpl : pn < 10 + 8 * C := by have := hpn; rw [fv] at this; omega
      have c1 := fieldRef_fn 2 x 0 (by unfold Small; omega) (by omega) (by unfold Small; omega)
      rw [hpn] at c1 hwx
      have e2 : (wds ws)[pn]? = some (.val (.int .u64 (m pn))) := wds_at (hat pn hpl)
      have hbi := bI_lt b
      have c2 : Fn Tryz.prog 45 [.val (.int .u64 (m pn))] (.p (.val (.int .i64 (hd (l.drop (j + 1)))))) := by
        have := refRef_fn (m pn) (by omega) (by omega)
        rw [show xQ (m pn) = hd (l.drop (j + 1)) by unfold xQ; omega] at this
        exact this
      have g1 : decide (0 < x) = true := decide_eq_true (by omega)
      have g2 : decide (x ≤ (C : Nat)) = true := decide_eq_true (by omega)
      have g3 : decide (((nmsP (nms (l.take j))).length : Int) ≤ (C : Nat)) = true := decide_eq_true (by rw [nmsP_len, nms, List.length_map, List.length_take]; omega)
      have r6 : ∀ z ∈ ([.val (.int .i64 x)] : List PV), z.cells.length = 1 := fun z hz => by rw [List.mem_singleton.1 hz]; rfl
      have r7 : ([.val (.int .i64 x)] : List PV).length * 8 ≤ 140737488355328 ∧ ([.val (.int .i64 x)] : List PV).length ≤ maxLen := by simp [maxLen]
      have r8 : ((nmsP (nms (l.take j))).length + ([.val (.int .i64 x)] : List PV).length) * 8 ≤ 140737488355328 ∧ (nmsP (nms (l.take j))).length + ([.val (.int .i64 x)] : List PV).length ≤ maxLen := by
        have e : (nmsP (nms (l.take j))).length = j := by rw [nmsP_len, nms, List.length_map, List.length_take]; omega
        rw [e]
        simp [maxLen]
        omega
      have ps_ := trivial
      repeat' (first | (refine zY.nil ?_) | (refine zZ.is ?_; first | refine zZ.seq ?_ | (refine zZ.isR (id := 3) ?_; refine zZ.rc [1, 2, 3, 4, 24] [1, 2, 3, 27, 42] (r := (.v zV (.v v45_0 (.v zV (.gY zV (.gY zM (.gY zO (.gY v44_0 (.v xR (.v zV (.gY v0_1 (.gY v57_5 (.gY zM (.gY zO (.gY v44_0 (.v xR .e)))))))))))))))) (h := ?_)) | (refine zZ.isR (id := 4) ?_; refine zZ.rc [1, 2, 3, 4, 24] [1, 2, 3, 27, 42] (r := (.v v0_1 (.v zV (.v v20_0 (.w w55_2 (.v v1_1 .e)))))) (h := ?_)) | (refine zZ.isR (id := 5) ?_; refine zZ.rk [1, 2, 3, 4, 24] [1, 2, 3, 27, 42] ?_; refine zZ.draws ?_) | refine zZ.yN rfl bA ?_ | refine zZ.skip ?_ | refine zZ.block ?_) | refine zF.n ?_ | refine zR.n ?_ | (refine Draws.is ?_; first | refine Draws.rc (.v zB .e) ?_ | refine Draws.rc (.v zM (.v zO (.v zM (.v zO (.v zV .e))))) ?_ | refine Draws.rc (.v v7_18 (.v v2_1 .e)) ?_ | (refine Draws.in_ [34] rfl ?_; refine Draws.v rfl rfl (zP (c1) rfl rfl rfl (by decide)) ?_) | (refine Draws.in_ [37] rfl ?_; refine Draws.v rfl rfl (zP (c2) rfl rfl rfl (by decide)) ?_) | refine Draws.done (by kernel_rfl) (by kernel_rfl) (by kernel_rfl) ?_) | (refine zD.nil ?_))
      all_goals
        refine ⟨j + 1, ?_, hlt, by omega⟩
        rw [← htk, ← nmsP_app]
        refine qH (is := [1, 3, 4]) (js := [1, 42]) ?_ ?_
        case refine_1 =>
          repeat' first | exact zH.nil | apply zH.p rfl | apply zH.ptr rfl | apply zH.own rfl | apply zH.clo rfl | apply zH.ifp rfl | apply zH.pt rfl | apply zH.tup rfl | apply zH.skip
        case refine_2 =>
          repeat' first | exact zN.nil | apply zN.boxP rfl rfl | apply zN.vC rfl | apply zN.some rfl | apply zN.skip
    case neg =>
      have hd0 : hd (l.drop j) = 0 := by rw [List.drop_of_length_le (by omega)]; rfl
      have htk : l.take j = l := List.take_of_length_le (by omega)
      rw [hd0, htk]
      repeat' (first | (refine zY.nil ?_) | (refine zZ.is ?_; first | refine zZ.seq ?_ | (refine zZ.isR (id := 3) ?_; refine zZ.rc [1, 2, 3, 4, 24] [1, 2, 3, 27, 42] (r := (.v zV (.v v45_5 (.v zV (.gT (.gT (.gT (.gT (.v wW (.v zV (.gT (.gT (.gT (.gT (.gT (.v wW .e)))))))))))))))) (h := ?_)) | (refine zZ.isR (id := 6) ?_; refine zZ.rc [2, 3] [1, 2, 3, 27, 42] (r := (.v v0_1 (.v v1_1 .e))) (h := ?_)) | refine zZ.yG rfl bA ?_ | refine zZ.exit ?_ | refine zZ.ret ?_) | refine zF.n ?_ | refine zR.eY ?_ | refine zF.e ?_)
      all_goals exact ⟨by first | exact .inl rfl | exact .inr rfl, _, sub_frzE 42 3 1 _ rfl, GivesV.p rfl (.tmp rfl)⟩
end Go.Proofs.YtmfbamiciieooaaGreatDoor
/- (Written by gen_lnkfv.py.) Do the keys of the records that are linked rise? wealdref15.Sorted, of a list whose keys do: contract. -/
namespace Go.Proofs.YtmfbamiciieooaaGreatDoor
set_option maxRecDepth 100000
set_option maxHeartbeats 16000000
open Go Go.RowKit
set_option linter.unusedSimpArgs false
set_option linter.unusedVariables false
attribute [local irreducible] zY zZ Step zX Sub zD zG Fn zF zR
def srFV (C : Nat) (ws : List Int) (xs : List Int) (j : Nat) : AS := { t := [(1, .ptr 1 0), (3, .p (.sl (nmsP xs))), (4, .p (.val (.int .i64 ((j : Nat) + 1))))], s := [(1, .box 26 [.p (.val (.int .i64 2)), .p (.val (.int .i64 (C : Nat))), .p (.sl (wds ws))])] }
theorem sortedV_fn {C : Nat} (hC : C ≤ 100000) {m : Int → Int} {l : List (Int × Bool)} (h : xE C m 0 false l) (hl : l.length ≤ C) {ws : List Int} (hat : ∀ c : Nat, c < 10 + 8 * C → ws[c]? = some (m c))
    (hk : ∀ (j : Nat) x y, (nms l)[j]? = some x → (nms l)[j + 1]? = some y → m (zQ 2 x 1) < m (zQ 2 y 1)) : Fn Tryz.prog 11 [.agg [.val (.int .i64 2), .val (.int .i64 (C : Nat)), .sl (wds ws)]] (.p (.val (.bool true))) := by
  have c0 := linkedV_fn hC h hl hat
  have hbd := h.bnd
  have hnl : (nms l).length = l.length := by unfold nms; rw [List.length_map]
  have f1 : decide ((C : Int) < ((nmsP (nms l)).length : Int)) = false := decide_eq_false (by rw [nmsP_len]; omega)
  generalize nms l = xs at *
  refine yP Tryz.func11 rfl Tryz.ntmps11 (Nat.le_of_ble_eq_true rfl) ?_
  repeat' (first | (refine zY.is ?_; first | refine zY.nil ?_ | (refine zY.at_ 3 rfl ?_; refine zY.rc (.v zB .e) ?_) | (refine zY.in_ [8] rfl ?_; refine zY.v rfl rfl (zP (c0) rfl rfl rfl (by decide)) ?_)) | (refine zZ.is ?_; first | refine zZ.seq ?_ | (refine zZ.isR (id := 0) ?_; refine zZ.rc [0] [1] (r := (.m yT (.v zB .e))) (h := ?_)) | (refine zZ.isR (id := 1) ?_; refine zZ.rc [1, 2] [1] (r := (.v xU .e)) (h := ?_)) | (refine zZ.isR (id := 2) ?_; refine zZ.rc [1, 2, 3] [1] (r := (.v zV (.v v57_1 (.v zM (.v zO (.v v45_0 .e)))))) (h := ?_)) | (refine zZ.isR (id := 4) ?_; refine zZ.rc [1, 2, 3] [1] (r := (.v zB .e)) (h := ?_)) | refine zZ.yG rfl bA ?_ | refine zZ.skip ?_ | refine zZ.block ?_) | refine zF.n ?_)
  refine zZ.loop (srFV C ws xs) (fun j => True) (fun j => xs.length - j) 0 ?h0 trivial ?rd
  case h0 =>
    unfold srFV
    refine qH (is := [1, 3, 4]) (js := [1]) ?_ ?_
    case refine_1 =>
      repeat' first | exact zH.nil | apply zH.p rfl | apply zH.ptr rfl | apply zH.own rfl | apply zH.clo rfl | apply zH.ifp rfl | apply zH.pt rfl | apply zH.tup rfl | apply zH.skip
    case refine_2 =>
      repeat' first | exact zN.nil | apply zN.boxP rfl rfl | apply zN.vC rfl | apply zN.some rfl | apply zN.skip
  case rd =>
    intro j _
    unfold srFV
    by_cases hlt : j + 1 < xs.length
    case pos =>
      obtain ⟨x, hx⟩ : ∃ x, xs[j]? = some x := ⟨_, List.getElem?_eq_getElem (show j < xs.length by omega)⟩
      obtain ⟨y, hy⟩ : ∃ x, xs[j + 1]? = some x := ⟨_, List.getElem?_eq_getElem hlt⟩
      have hxy := hk j x y hx hy
      have hxb := hbd x (List.mem_of_getElem? hx)
      have hyb := hbd y (List.mem_of_getElem? hy)
      obtain ⟨pn, hpn⟩ : ∃ pn : Nat, zQ 2 x 1 = (pn : Int) := ⟨(zQ 2 x 1).toNat, by rw [fv]; omega⟩
      obtain ⟨qn, hqn⟩ : ∃ pn : Nat, zQ 2 y 1 = (pn : Int) := ⟨(zQ 2 y 1).toNat, by rw [fv]; omega⟩
      have hpl : pn < 10 + 8 * C := by have := hpn; rw [fv] at this; omega
      have hql : qn < 10 + 8 * C := by have := hqn; rw [fv] at this; omega
      have c1 := fieldRef_fn 2 x 1 (by unfold Small; omega) (by omega) (by unfold Small; omega)
      have c2 := fieldRef_fn 2 y 1 (by unfold Small; omega) (by omega) (by unfold Small; omega)
      rw [hpn] at c1 hxy
      rw [hqn] at c2 hxy
      have e1 := wds_cells ws
      have e2 : (wds ws)[pn]? = some (.val (.int .u64 (m pn))) := wds_at (hat pn hpl)
      have e3 : (wds ws)[qn]? = some (.val (.int .u64 (m qn))) := wds_at (hat qn hql)
      have e4 : (nmsP xs)[j]? = some (.val (.int .i64 x)) := by unfold nmsP; rw [List.getElem?_map, hx]; rfl
      have e5 : (nmsP xs)[j + 1]? = some (.val (.int .i64 y)) := by unfold nmsP; rw [List.getElem?_map, hy]; rfl
      have e6 : ∀ z ∈ nmsP xs, z.cells.length = 1 := fun z hz => by obtain ⟨y, _, rfl⟩ := List.mem_map.1 hz; rfl
      have g1 : decide ((j : Int) + 1 < ((nmsP xs).length : Int)) = true := decide_eq_true (by rw [nmsP_len]; omega)
      have w1 : IntKind.i64.wrap ((j : Int) + 1 - 1) = (j : Int) := by rw [wrap_i64 _ (by omega)]; omega
      have w2 : IntKind.i64.wrap ((j : Int) + 1 + 1) = ((j + 1 : Nat) : Int) + 1 := by rw [wrap_i64 _ (by omega)]; omega
      have g2 : decide (m (qn : Int) ≤ m (pn : Int)) = false := decide_eq_false (by omega)
      have hj : ((j : Int) + 1) = ((j + 1 : Nat) : Int) := by omega
      rw [hj] at g1 w1 w2 ⊢
      repeat' (first | (refine zY.nil ?_) | (refine zZ.is ?_; first | refine zZ.seq ?_ | (refine zZ.isR (id := 5) ?_; refine zZ.rc [1, 2, 3, 4, 5, 6, 17, 45] [1] (r := (.v zV (.v zV (.v v57_1 (.v xI .e))))) (h := ?_)) | (refine zZ.isR (id := 7) ?_; refine zZ.rk [1, 2, 3, 4, 5, 6, 17, 45] [1] ?_; refine zZ.draws ?_) | (refine zZ.isR (id := 8) ?_; refine zZ.rk [1, 2, 3, 4, 5, 6, 17, 45] [1] ?_; refine zZ.draws ?_) | (refine zZ.isR (id := 9) ?_; refine zZ.rc [1, 2, 3, 4, 5, 6, 17, 45] [1] (r := (.v zV (.v zV (.v v46_0 .e)))) (h := ?_)) | (refine zZ.isR (id := 6) ?_; refine zZ.rc [1, 2, 3, 4, 5, 6, 17, 45] [1] (r := (.v zV (.v wM (.v zB .e)))) (h := ?_)) | refine zZ.yN rfl bA ?_ | refine zZ.yG rfl bA ?_ | refine zZ.skip ?_ | refine zZ.block ?_) | refine zF.n ?_ | refine zR.n ?_ | (refine Draws.is ?_; first | refine Draws.rc (.v zM (.v zO (.v zM (.v zO (.v zV (.v zV (.v v7_18 (.v v2_1 .e)))))))) ?_ | refine Draws.rc (.v zM (.v zO (.v zM (.v zO (.v zV (.v zV (.v v31_0 (.v v7_18 (.v v2_1 .e))))))))) ?_ | refine Draws.rc (.v v7_18 (.v v2_1 (.v zB .e))) ?_ | (refine Draws.in_ [29] rfl ?_; refine Draws.v rfl rfl (zP (c1) rfl rfl rfl (by decide)) ?_) | (refine Draws.in_ [40] rfl ?_; refine Draws.v rfl rfl (zP (c2) rfl rfl rfl (by decide)) ?_) | refine Draws.done (by kernel_rfl) (by kernel_rfl) (by kernel_rfl) ?_) | (refine zD.nil ?_))
      all_goals
        refine ⟨j + 1, ?_, trivial, by omega⟩
        refine qH (is := [1, 3, 4]) (js := [1]) ?_ ?_
        case refine_1 =>
          repeat' first | exact zH.nil | apply zH.p rfl | apply zH.ptr rfl | apply zH.own rfl | apply zH.clo rfl | apply zH.ifp rfl | apply zH.pt rfl | apply zH.tup rfl | apply zH.skip
        case refine_2 =>
          repeat' first | exact zN.nil | apply zN.boxP rfl rfl | apply zN.vC rfl | apply zN.some rfl | apply zN.skip
    case neg =>
      have g1 : decide ((j : Int) + 1 < ((nmsP xs).length : Int)) = false := decide_eq_false (by rw [nmsP_len]; omega)
      repeat' (first | (refine zY.nil ?_) | (refine zZ.is ?_; first | refine zZ.seq ?_ | (refine zZ.isR (id := 5) ?_; refine zZ.rc [1, 2, 3, 4, 5, 6, 17, 45] [1] (r := (.v zV (.v zV (.v v57_1 (.v xI .e))))) (h := ?_)) | (refine zZ.isR (id := 11) ?_; refine zZ.rc [2] [1] (r := (.v zB .e)) (h := ?_)) | refine zZ.yG rfl bA ?_ | refine zZ.exit ?_ | refine zZ.ret ?_) | refine zF.n ?_ | refine zR.eY ?_ | refine zF.e ?_)
      all_goals exact ⟨by first | exact .inl rfl | exact .inr rfl, _, Sub.refl _, .p rfl (.tmp rfl)⟩
end Go.Proofs.YtmfbamiciieooaaGreatDoor
/- The vertices' example: by evaluation, and its contracts. -/
namespace Go.Proofs.YtmfbamiciieooaaGreatDoor
set_option maxRecDepth 100000
set_option maxHeartbeats 16000000
open Go Go.RowKit
set_option linter.unusedSimpArgs false
/-- an operation that steps alone, in a world: its contract, and what is kept -/
structure AlV (B : Nat) (me : Nat) (k u v w : Int) (most : Nat) (W : Wd) (R : ResN) : Prop where
  fn : Fn Tryz.prog 10 [W.pv, .val (.int .i64 me), opV k u v w, .val (.int .i64 most)] (.tup [R.W.pv, outV R.o.e R.o.is R.o.n R.o.w, .val (.bool true)])
  ok : WdOK (B + 100000) R.W
  t : R.W.t = W.t
  c : R.W.c = W.c
  r0 : R.W.r0.length = W.r0.length
  ws : R.W.ws.length = W.ws.length
theorem alV_of {B me : Nat} {k u v w : Int} {most : Nat} {W : Wd} {R : ResN} (hr : (qE W.t me k u).run (wSt me noFail) (W, 0) = .done R.o (R.W, R.m)) (ht : Small W.t) (h0 : 0 ≤ W.t) (hW : WdOK B W) (hme : me < W.r0.length) (hm : R.m ≤ most) (h20 : most ≤ 100) (hB : B ≤ 500000) : AlV B me k u v w most W R := by
  have hk := run_keeps (fine_vop W.t me k u) hW hr
  exact ⟨aloneV_fn B W R.W me k u v w most R.m R.o hW ht h0 hme hr hm (by omega) (by omega) (by omega), hk.2.1.le (by omega), hk.2.2.1, hk.2.2.2.1, hk.2.2.2.2.1, hk.2.2.2.2.2.1⟩
/-! ### The document's example -/
def sv0 : Wd := ⟨2, 2, newW 2 2, 0, [([], 0), ([], 0)], [([], 0), ([], 0)]⟩
def sv1 : ResN := rsN (qE 2 (0 : Nat) 11 3) 0 sv0
def sv2 : ResN := rsN (qE 2 (1 : Nat) 11 3) 1 sv1.W
def sv3 : ResN := rsN (qE 2 (0 : Nat) 13 3) 0 sv2.W
def sv4 : ResN := rsN (qE 2 (1 : Nat) 12 3) 1 sv3.W
def sv5 : ResN := rsN (qE 2 (0 : Nat) 13 3) 0 sv4.W
def sv6 : ResN := rsN (qE 2 (0 : Nat) 13 (-1)) 0 sv0
theorem sr1 : (qE 2 (0 : Nat) 11 3).run (wSt 0 noFail) (sv0, 0) = .done sv1.o (sv1.W, sv1.m) := by kernel_rfl
theorem sr2 : (qE 2 (1 : Nat) 11 3).run (wSt 1 noFail) (sv1.W, 0) = .done sv2.o (sv2.W, sv2.m) := by kernel_rfl
theorem sr3 : (qE 2 (0 : Nat) 13 3).run (wSt 0 noFail) (sv2.W, 0) = .done sv3.o (sv3.W, sv3.m) := by kernel_rfl
theorem sr4 : (qE 2 (1 : Nat) 12 3).run (wSt 1 noFail) (sv3.W, 0) = .done sv4.o (sv4.W, sv4.m) := by kernel_rfl
theorem sr5 : (qE 2 (0 : Nat) 13 3).run (wSt 0 noFail) (sv4.W, 0) = .done sv5.o (sv5.W, sv5.m) := by kernel_rfl
theorem sr6 : (qE 2 (0 : Nat) 13 (-1)).run (wSt 0 noFail) (sv0, 0) = .done sv6.o (sv6.W, sv6.m) := by kernel_rfl
theorem sr7 : sv1.o.is = true ∧ sv2.o.is = false ∧ sv3.o.is = true ∧ sv4.o.is = true ∧ sv5.o.is = false ∧ sv6.o.e = 4 := by refine ⟨?_, ?_, ?_, ?_, ?_, ?_⟩ <;> kernel_rfl
theorem sr8 : sv1.m ≤ 99 ∧ sv2.m ≤ 99 ∧ sv3.m ≤ 99 ∧ sv4.m ≤ 99 ∧ sv5.m ≤ 99 ∧ sv6.m ≤ 0 := by refine ⟨?_, ?_, ?_, ?_, ?_, ?_⟩ <;> exact Nat.le_of_ble_eq_true (by kernel_rfl)
theorem sv0_ok : WdOK 0 sv0 := ⟨fun x hx => newW_U (by decide) x hx, by show (newW 2 2).length ≤ _; rw [newW_len]; decide, rfl, by decide, fun p hp => by
    have hp : p ∈ [(([] : List Int), (0 : Int)), ([], 0)] := hp
    simp only [List.mem_cons, List.not_mem_nil, or_false] at hp
    rcases hp with rfl | rfl <;> exact Nat.le_refl _⟩
theorem al_sv : AlV 0 0 11 3 0 0 99 sv0 sv1 ∧ AlV 100000 1 11 3 0 0 99 sv1.W sv2 ∧ AlV 200000 0 13 3 0 0 99 sv2.W sv3 ∧ AlV 300000 1 12 3 0 0 99 sv3.W sv4 ∧ AlV 400000 0 13 3 0 0 99 sv4.W sv5 ∧ AlV 0 0 13 (-1) 0 0 0 sv0 sv6 := by
  obtain ⟨m1, m2, m3, m4, m5, m6⟩ := sr8
  have hs : Small 2 := by unfold Small; omega
  have h2 : (0 : Int) ≤ 2 := by decide
  have a1 : AlV 0 0 11 3 0 0 99 sv0 sv1 := alV_of sr1 hs h2 sv0_ok (by decide) m1 (by decide) (by decide)
  have t1 : sv1.W.t = 2 := a1.t
  have r1 : sv1.W.r0.length = 2 := a1.r0
  have a2 : AlV 100000 1 11 3 0 0 99 sv1.W sv2 := alV_of (by rw [t1]; exact sr2) (by rw [t1]; exact hs) (by rw [t1]; exact h2) a1.ok (by omega) m2 (by decide) (by decide)
  have t2 : sv2.W.t = 2 := a2.t.trans t1
  have r2 : sv2.W.r0.length = 2 := a2.r0.trans r1
  have a3 : AlV 200000 0 13 3 0 0 99 sv2.W sv3 := alV_of (by rw [t2]; exact sr3) (by rw [t2]; exact hs) (by rw [t2]; exact h2) a2.ok (by omega) m3 (by decide) (by decide)
  have t3 : sv3.W.t = 2 := a3.t.trans t2
  have r3 : sv3.W.r0.length = 2 := a3.r0.trans r2
  have a4 : AlV 300000 1 12 3 0 0 99 sv3.W sv4 := alV_of (by rw [t3]; exact sr4) (by rw [t3]; exact hs) (by rw [t3]; exact h2) a3.ok (by omega) m4 (by decide) (by decide)
  have t4 : sv4.W.t = 2 := a4.t.trans t3
  have r4 : sv4.W.r0.length = 2 := a4.r0.trans r3
  exact ⟨a1, a2, a3, a4, alV_of (by rw [t4]; exact sr5) (by rw [t4]; exact hs) (by rw [t4]; exact h2) a4.ok (by omega) m5 (by decide) (by decide), alV_of sr6 hs h2 sv0_ok (by decide) m6 (by decide) (by decide)⟩
end Go.Proofs.YtmfbamiciieooaaGreatDoor
/- The vertices' example: contract. -/
namespace Go.Proofs.YtmfbamiciieooaaGreatDoor
set_option maxRecDepth 100000
set_option maxHeartbeats 16000000
open Go Go.RowKit
set_option linter.unusedSimpArgs false
set_option linter.unusedVariables false
attribute [local irreducible] zY zZ Step zX Sub zD zG Fn zF zR
theorem shown16_fn : Fn Tryz.prog 8 [] (.p (.val (.bool true))) := by
  have c0 := new10A_fn 2 2 (by decide) (by decide) (by decide) (by decide)
  obtain ⟨a1, a2, a3, a4, a5, a6⟩ := al_sv
  have c1 := a1.fn
  have c2 := a2.fn
  have c3 := a3.fn
  have c4 := a4.fn
  have c5 := a5.fn
  have c6 := a6.fn
  clear a1 a2 a3 a4 a5 a6
  obtain ⟨z1, z2, z3, z4, z5, z6⟩ := sr7
  generalize sv1 = q1 at *
  generalize sv2 = q2 at *
  generalize sv3 = q3 at *
  generalize sv4 = q4 at *
  generalize sv5 = q5 at *
  generalize sv6 = q6 at *
  obtain ⟨⟨e1, s1, n1, w1⟩, ⟨t1, u1, ws1, root1, r01, r11⟩, m1⟩ := q1
  obtain ⟨⟨e2, s2, n2, w2⟩, ⟨t2, u2, ws2, root2, r02, r12⟩, m2⟩ := q2
  obtain ⟨⟨e3, s3, n3, w3⟩, ⟨t3, u3, ws3, root3, r03, r13⟩, m3⟩ := q3
  obtain ⟨⟨e4, s4, n4, w4⟩, ⟨t4, u4, ws4, root4, r04, r14⟩, m4⟩ := q4
  obtain ⟨⟨e5, s5, n5, w5⟩, ⟨t5, u5, ws5, root5, r05, r15⟩, m5⟩ := q5
  obtain ⟨⟨e6, s6, n6, w6⟩, ⟨t6, u6, ws6, root6, r06, r16⟩, m6⟩ := q6
  dsimp only at z1 z2 z3 z4 z5 z6
  subst z1 z2 z3 z4 z5 z6
  have g0 : sv0 = ⟨2, 2, newW 2 2, 0, [([], 0), ([], 0)], [([], 0), ([], 0)]⟩ := rfl
  rw [g0] at c1 c6
  dsimp only [Wd.pv, vX] at c1 c2 c3 c4 c5 c6
  generalize newW 2 2 = nw at *
  clear g0
  refine yP Tryz.func8 rfl Tryz.ntmps8 (Nat.le_of_ble_eq_true rfl) ?_
  repeat' (first | (refine zY.is ?_; first | refine zY.nil ?_ | (refine zY.at_ 1 rfl ?_; refine zY.rc (.m zT (.w zS .e)) ?_) | (refine zY.at_ 21 rfl ?_; refine zY.rc (.v vZ (.v yJ (.v yJ (.v yJ (.m zT (.m zT (.w zS (.w zS (.v zB .e))))))))) ?_) | (refine zY.at_ 28 rfl ?_; refine zY.rc (.v vZ (.v yJ (.v yJ (.v yJ (.m zT (.m zT (.w zS (.w zS (.v zB .e))))))))) ?_) | (refine zY.at_ 35 rfl ?_; refine zY.rc (.v vZ (.v yJ (.v yJ (.v yJ (.m zT (.m zT (.w zS (.w zS (.v zB .e))))))))) ?_) | (refine zY.at_ 42 rfl ?_; refine zY.rc (.v vZ (.v yJ (.v yJ (.v yJ (.m zT (.m zT (.w zS (.w zS (.v zB .e))))))))) ?_) | (refine zY.at_ 49 rfl ?_; refine zY.rc (.v vZ (.v yJ (.v yJ (.v yJ (.m zT (.m zT (.w zS (.w zS (.v zB .e))))))))) ?_) | (refine zY.at_ 56 rfl ?_; refine zY.rc (.v vZ (.v yJ (.v yJ (.v yJ (.m zT (.m zT (.w zS (.w zS (.v zB .e))))))))) ?_) | (refine zY.in_ [24] rfl ?_; refine zY.v rfl rfl (xY (c1) rfl rfl rfl (by decide)) ?_) | (refine zY.in_ [31] rfl ?_; refine zY.v rfl rfl (xY (c2) rfl rfl rfl (by decide)) ?_) | (refine zY.in_ [38] rfl ?_; refine zY.v rfl rfl (xY (c3) rfl rfl rfl (by decide)) ?_) | (refine zY.in_ [45] rfl ?_; refine zY.v rfl rfl (xY (c4) rfl rfl rfl (by decide)) ?_) | (refine zY.in_ [52] rfl ?_; refine zY.v rfl rfl (xY (c5) rfl rfl rfl (by decide)) ?_) | (refine zY.in_ [59] rfl ?_; refine zY.v rfl rfl (xY (c6) rfl rfl rfl (by decide)) ?_) | (refine zY.in_ [20] rfl ?_; refine zY.m rfl rfl (w_callAg c0 rfl rfl rfl (by decide)) ?_)) | (refine zZ.is ?_; first | refine zZ.seq ?_ | (refine zZ.isR (id := 0) ?_; refine zZ.rc [] [1, 2, 3, 5, 6, 8, 9, 11, 12, 14, 15, 17, 18, 20, 24, 31, 38, 45, 52, 59] (r := (.v zB .e)) (h := ?_)) | (refine zZ.isR (id := 1) ?_; refine zZ.rc [0] [1, 2, 3, 5, 6, 8, 9, 11, 12, 14, 15, 17, 18, 20, 24, 31, 38, 45, 52, 59] (r := .e) (h := ?_)) | (refine zZ.isR (id := 2) ?_; refine zZ.sub ((sub_frzE 20 27 1 (wds nw) rfl)) ?_; refine zZ.rc [0, 1] [1, 2, 3, 5, 6, 8, 9, 11, 12, 14, 15, 17, 18, 20, 24, 31, 38, 45, 52, 59] (r := (.v xU (.v xV .e))) (h := ?_)) | (refine zZ.isR (id := 3) ?_; refine zZ.rc [0, 1, 2, 3, 4] [1, 2, 3, 5, 6, 8, 9, 11, 12, 14, 15, 17, 18, 20, 24, 31, 38, 45, 52, 59] (r := (.v xU (.v xV .e))) (h := ?_)) | (refine zZ.isR (id := 4) ?_; refine zZ.rc [0, 1, 3, 4, 5, 6, 7] [1, 2, 3, 5, 6, 8, 9, 11, 12, 14, 15, 17, 18, 20, 24, 31, 38, 45, 52, 59] (r := (.v xU (.v xV .e))) (h := ?_)) | (refine zZ.isR (id := 5) ?_; refine zZ.rc [0, 1, 3, 4, 6, 7, 8, 9, 10] [1, 2, 3, 5, 6, 8, 9, 11, 12, 14, 15, 17, 18, 20, 24, 31, 38, 45, 52, 59] (r := (.v xU (.v xV .e))) (h := ?_)) | (refine zZ.isR (id := 6) ?_; refine zZ.rc [0, 1, 3, 4, 6, 7, 9, 10, 11, 12, 13] [1, 2, 3, 5, 6, 8, 9, 11, 12, 14, 15, 17, 18, 20, 24, 31, 38, 45, 52, 59] (r := (.v xU (.v xV .e))) (h := ?_)) | (refine zZ.isR (id := 7) ?_; refine zZ.rc [0, 1, 3, 4, 6, 7, 9, 10, 12, 13, 15, 16] [1, 2, 3, 5, 6, 8, 9, 11, 12, 14, 15, 17, 18, 20, 24, 31, 38, 45, 52, 59] (r := (.v xU (.v xV .e))) (h := ?_)) | (refine zZ.isR (id := 8) ?_; refine zZ.rc [0, 3, 4, 6, 7, 9, 10, 12, 13, 15, 16, 18, 19] [1, 2, 3, 5, 6, 8, 9, 11, 12, 14, 15, 17, 18, 20, 24, 31, 38, 45, 52, 59] (r := (.v zV (.v zV (.gY zV (.v xR (.v zV (.gY zV (.v xR (.v zV (.gY zV (.v xR (.v zV (.gY zV (.v xR (.v zV (.gY zV (.v xR (.v zV (.gY zM (.gY zO (.v xR (.v zV (.gY zM (.gY zO (.gY v52_4 (.v xR (.v zV (.gY zM (.gY zO (.v xR (.v zV (.gY zM (.gY zO (.v xR (.v zV (.gY zM (.gY zO (.gY v52_4 (.v xR (.v zV (.gY zM (.gY zO (.gY v41_4 (.v xR (.v zB .e))))))))))))))))))))))))))))))))))))))))))))) (h := ?_)) | refine zZ.ret ?_) | refine zF.n ?_)
  all_goals exact ⟨by first | exact .inl rfl | exact .inr rfl, _, Sub.refl _, .p rfl (.tmp rfl)⟩
end Go.Proofs.YtmfbamiciieooaaGreatDoor
/- Drawn regions, where what is taken out of a tuple may come behind a store. Generic over the program; written by gen_late.py. -/
namespace Go.Proofs.YtmfbamiciieooaaGreatDoor
set_option maxRecDepth 100000
set_option maxHeartbeats 16000000
open Go Go.RowKit
set_option linter.unusedSimpArgs false
set_option linter.unusedVariables false
section
variable {P : Program} {n : Nat} {S : AS}
theorem draw_any {l : List Oper} {K : Exit → AS → Prop} (xs : List AI) (hsch : schedB l xs.length (xs.map (·.bs)) = true) (hmade : madeB l xs S = true)
    (hch : AChain P n l S l xs) (ht : zD P n K (runA S l xs) (l.drop xs.length)) {M : Nat → Nat → Prop} {w0 : Home} {ρ : Nat → Value} {a : Act} {w : World} {Q : Exit → Act → World → Prop} (hs : Sat M n w0 S ρ a w) (hK : ∀ (e : Exit) (S' : AS) (ρ' : Nat → Value) (a' : Act) (w' : World), K (bare e) S' → Sat M n w0 S' ρ' a' w' → ExOK M S' ρ' w' e → Q e a' w') : wpAny P .any l.toArray Q l.toArray.size (Array.replicate l.toArray.size false) a { w with drawn := w.drawn + 1 } := by
  have hS := Sched.of hsch
  have hA := Apart.of hS hmade
  have start : Agr l xs S (fun k => k < 0) S := ⟨fun i o x d _ _ h => by omega, fun _ _ => rfl, fun i o x d b _ _ h => by omega, fun _ _ => rfl⟩
  obtain ⟨hgs, hfin⟩ := runA_agr hS hA 0 S (by omega) start hch
  have main2 : ∀ (fuel t : Nat) (listed : Array Bool) (S2 : AS) (ρ : Nat → Value) (a : Act) (w : World), Closed l listed → (∀ i, i < l.length → (Done listed i ↔ i < t)) → xs.length ≤ t → left listed = fuel →
      Sat M n w0 S2 ρ a w → zD P n K S2 (l.drop t) → wpAny P .any l.toArray Q fuel listed a w := by
    intro fuel
    induction fuel with
    | zero =>
      intro t listed S2 ρ a w hc hd htm hl hsat htc
      have hall : ∀ i, i < l.length → Done listed i := by
        intro i hi
        apply Classical.byContradiction
        intro hn
        have := left_set (listed := listed) (by rw [hc.size]; exact hi) hn
        omega
      have htl : l.length ≤ t := by
        apply Classical.byContradiction
        intro hn
        have := (hd t (by omega)).1 (hall t (by omega))
        omega
      rw [List.drop_eq_nil_of_le htl] at htc
      refine ⟨?_, hK .normal S2 ρ a w htc hsat trivial⟩
      rcases qQ hS hc with h | _
      · exfalso
        obtain ⟨i, hi⟩ := List.exists_mem_of_ne_nil _ h
        exact (yD hi).2.1 (hall i (yD hi).1)
      · apply List.eq_nil_iff_forall_not_mem.2
        intro i hi
        exact (yD hi).2.1 (hall i (yD hi).1)
    | succ fuel ih =>
      intro t listed S2 ρ a w hc hd htm hl hsat htc
      refine ⟨fun hnil => ?_, fun i hi => ?_⟩
      · rcases qQ hS hc with h | h
        · exact (h hnil).elim
        · exfalso
          unfold left at hl
          have : (List.range listed.size).countP (fun i => !(listed.getD i false)) = 0 := by
            rw [List.countP_eq_zero]
            intro k hk
            have := h k (by rw [← hc.size]; exact List.mem_range.1 hk)
            unfold Done at this
            simp [this]
          omega
      · obtain ⟨hil, hnd, o, hoi, hall⟩ := yD hi
        have hti : t ≤ i := by
          apply Classical.byContradiction
          intro h
          exact hnd ((hd i hil).2 (by omega))
        have hit : i = t := by
          apply Classical.byContradiction
          intro h
          have := hc.ready_ord hi (hS.tail i (by omega) hil t (by omega))
          have := (hd t (by omega)).1 this
          omega
        subst hit
        rw [List.drop_eq_getElem_cons hil] at htc
        obtain ⟨hg, hst⟩ := htc
        have ho : o = l[i] := by rw [List.getElem?_eq_getElem hil] at hoi; exact (Option.some.inj hoi).symm
        unfold wpOp
        simp only [List.getElem?_toArray, List.getElem?_eq_getElem hil]
        rw [if_pos (by simp [Region.wanted, hg])]
        refine .inl (hst M w0 ρ a w _ Q hsat (fun S1 ρ' a' w' htc hs' => ?_) hK)
        refine ih (i + 1) _ S1 ρ' a' w' (hc.set hi) (fun k hk => ?_) (by omega) ?_ hs' htc
        · rw [done_set (by rw [hc.size]; exact hil), hd k hk]
          omega
        · have := left_set (listed := listed) (by rw [hc.size]; exact hil) hnd
          omega
  have main1 : ∀ (fuel : Nat) (listed : Array Bool) (S2 : AS) (ρ : Nat → Value) (a : Act) (w : World), Closed l listed → (∀ i, xs.length ≤ i → i < l.length → ¬ Done listed i) → Agr l xs S (Done listed) S2 → left listed = fuel →
      Sat M n w0 S2 ρ a w → wpAny P .any l.toArray Q fuel listed a w := by
    intro fuel
    induction fuel with
    | zero =>
      intro listed S2 ρ a w hc htl hagr hl hsat
      have hall : ∀ i, i < l.length → Done listed i := by
        intro i hi
        apply Classical.byContradiction
        intro hn
        have := left_set (listed := listed) (by rw [hc.size]; exact hi) hn
        omega
      refine main2 0 xs.length listed (runA S l xs) ρ a w hc (fun i hi => ⟨fun h => ?_, fun h => hall i hi⟩) (Nat.le_refl _) hl (hsat.same ?_) ht
      · apply Classical.byContradiction
        intro hn
        exact htl i (by omega) hi h
      · refine hagr.same ⟨fun i o x d h1 h2 h3 => hfin.t1 i o x d h1 h2 (List.getElem?_eq_some_iff.1 h2).1, fun t h => hfin.t2 t fun i o x h1 h2 _ => h i o x h1 h2 (hall i (List.getElem?_eq_some_iff.1 h1).1), fun i o x d b h1 h2 h3 => hfin.b1 i o x d b h1 h2 (List.getElem?_eq_some_iff.1 h2).1, fun t h => hfin.b2 t fun i o x h1 h2 _ => h i o x h1 h2 (hall i (List.getElem?_eq_some_iff.1 h1).1)⟩
    | succ fuel ih =>
      intro listed S2 ρ a w hc htl hagr hl hsat
      by_cases hallA : ∀ i, i < xs.length → Done listed i
      · refine main2 (fuel + 1) xs.length listed (runA S l xs) ρ a w hc (fun i hi => ⟨fun h => ?_, fun h => hallA i h⟩) (Nat.le_refl _) hl (hsat.same ?_) ht
        · apply Classical.byContradiction
          intro hn
          exact htl i (by omega) hi h
        · refine hagr.same ⟨fun i o x d h1 h2 h3 => hfin.t1 i o x d h1 h2 (List.getElem?_eq_some_iff.1 h2).1, fun t h => hfin.t2 t fun i o x h1 h2 h3 => h i o x h1 h2 (hallA i h3), fun i o x d b h1 h2 h3 => hfin.b1 i o x d b h1 h2 (List.getElem?_eq_some_iff.1 h2).1, fun t h => hfin.b2 t fun i o x h1 h2 h3 => h i o x h1 h2 (hallA i h3)⟩
      · refine ⟨fun hnil => ?_, fun i hi => ?_⟩
        · rcases qQ hS hc with h | h
          · exact (h hnil).elim
          · exact (hallA fun i hi => h i (Nat.lt_of_lt_of_le hi hS.len)).elim
        · obtain ⟨hil, hnd, o, hoi, _⟩ := yD hi
          have hix : i < xs.length := by
            apply Classical.byContradiction
            intro h
            exact hallA fun j hj => hc.ready_ord hi (hS.tail i (by omega) hil j (by omega))
          have hx : xs[i]? = some xs[i] := List.getElem?_eq_getElem hix
          obtain ⟨Si, hagi, hgst⟩ := hgs i o xs[i] (by omega) hoi hx
          obtain ⟨hrt, hrb⟩ := Agr.reads hS hc hi hx hagr hagi
          have hget : ∀ y ∈ o.op.operands.toList, S2.get y = Si.get y := by
            intro y hy
            cases y with
            | tmp t => exact hrt t (readsOf_operand hoi hy)
            | _ => rfl
          have hnext := hagr.step hA hoi hx hnd (fun k hk hok => hnd (hc.ord (k + 1) k i (by omega) (by
            apply Classical.byContradiction
            intro h
            unfold Done at hk
            simp [Array.getD_eq_getD_getElem?, Array.getElem?_eq_none (by rw [hc.size]; omega : listed.size ≤ k)] at hk) hk hok))
          have cont : ∀ ρ' a' w', Sat M n w0 (S2.out o.dst xs[i].av xs[i].nb) ρ' a' w' → wpAny P .any l.toArray Q fuel (listed.setIfInBounds i true) a' w' := by
            intro ρ' a' w' hs'
            refine ih _ _ ρ' a' w' (hc.set hi) (fun k hk hkl hdk => ?_) ?_ ?_ hs'
            · rw [done_set (by rw [hc.size]; exact hil)] at hdk
              rcases hdk with h | h
              · omega
              · exact htl k hk hkl h
            · have e : (fun k => k = i ∨ Done listed k) = Done (listed.setIfInBounds i true) := by
                funext k
                apply propext
                rw [done_set (by rw [hc.size]; exact hil)]
                constructor
                · rintro (h | h)
                  · exact .inl h.symm
                  · exact .inr h
                · rintro (h | h)
                  · exact .inl h.symm
                  · exact .inr h
              rw [← e]
              exact hnext
            · have := left_set (listed := listed) (by rw [hc.size]; exact hil) hnd
              omega
          unfold wpOp
          simp only [List.getElem?_toArray, hoi]
          rcases hgst with ⟨hg, hast⟩ | ⟨j, want, t, b, hg, hdj, htn, hb, hcase⟩
          · rw [if_pos (by simp [Region.wanted, hg])]
            exact .inl (hast S2 hget hrb M w0 ρ a w _ Q hsat cont)
          · have hb2 : S2.tmp t = .p (.val b) := by rw [hrt t (readsOf_guard hoi hg hdj)]; exact hb
            have hw := hsat.wanted (ops := l.toArray) hg (by simpa [wB] using hdj) htn hb2
            rcases hcase with ⟨hbw, hast⟩ | ⟨hbw, hav, hnb, d, hd, hdn⟩
            · rw [if_pos (by rw [hw, hbw])]
              exact .inl (hast S2 hget hrb M w0 ρ a w _ Q hsat cont)
            · rw [if_neg (by rw [hw, hbw]; simp)]
              rw [hd]
              refine cont ρ _ w ?_
              rw [hd, hav, hnb]
              exact hsat.put_undef hdn
  refine main1 _ _ S ρ a _ ⟨by simp, fun i o hi hd => ?_⟩ (fun i _ _ hd => ?_) ⟨fun i o x d _ _ h => ?_, fun _ _ => rfl, fun i o x d b _ _ h => ?_, fun _ _ => rfl⟩ ?_ (hs.ext ((Below.refl _ _).drew))
  · unfold Done at hd; rw [getD_replicate_false] at hd; cases hd
  · unfold Done at hd; rw [getD_replicate_false] at hd; cases hd
  · unfold Done at h; rw [getD_replicate_false] at h; cases h
  · unfold Done at h; rw [getD_replicate_false] at h; cases h
  · unfold left
    simp only [Array.size_replicate, List.size_toArray]
    have : ∀ k ∈ List.range l.length, (!((Array.replicate l.length false).getD k false)) = true := fun k _ => by rw [getD_replicate_false]; rfl
    rw [List.countP_eq_length.2 this, List.length_range]
end
def lateO : List Nat → Oper → Oper
  | [], o => o
  | x :: xs, o => { o with after := ((x :: xs).map (fun i => (⟨i, .data⟩ : Edge)) ++ o.after.toList).toArray }
/-- these operations come behind more of the others -/
def qC : List Oper → List (List Nat) → List Oper
  | o :: l, a :: ad => lateO a o :: qC l ad
  | [], _ => []
  | l, [] => l
theorem lateL_get : ∀ (l : List Oper) (ad : List (List Nat)) (j : Nat), (qC l ad)[j]? = (l[j]?).map (lateO (ad.getD j []))
  | [], ad, j => by cases ad <;> simp [qC]
  | o :: l, [], j => by
    have e : qC (o :: l) [] = o :: l := rfl
    rw [e]
    cases (o :: l)[j]? <;> simp [lateO]
  | o :: l, a :: ad, 0 => rfl
  | o :: l, a :: ad, j + 1 => by
    have := lateL_get l ad j
    simpa [qC] using this
theorem lateL_len : ∀ (l : List Oper) (ad : List (List Nat)), (qC l ad).length = l.length
  | [], ad => by cases ad <;> rfl
  | o :: l, [] => rfl
  | o :: l, a :: ad => by simp [qC, lateL_len l ad]
theorem lateO_dst (a : List Nat) (o : Oper) : (lateO a o).dst = o.dst := by cases a <;> rfl
theorem lateO_guard (a : List Nat) (o : Oper) : (lateO a o).guard = o.guard := by cases a <;> rfl
theorem lateO_exec (a : List Nat) (o : Oper) (ρ : Operand → Value) : execOp ρ (lateO a o) = execOp ρ o := by cases a <;> rfl
theorem lateO_after (a : List Nat) (o : Oper) (e : Edge) : e ∈ (lateO a o).after ↔ (e ∈ o.after ∨ ∃ i ∈ a, e = ⟨i, .data⟩) := by
  cases a with
  | nil => simp [lateO]
  | cons x xs =>
    show e ∈ ((x :: xs).map (fun i => (⟨i, .data⟩ : Edge)) ++ o.after.toList).toArray ↔ _
    rw [List.mem_toArray, List.mem_append, List.mem_map, Array.mem_toList_iff]
    constructor
    · rintro (⟨i, hi, rfl⟩ | h)
      · exact .inr ⟨i, hi, rfl⟩
      · exact .inl h
    · rintro (h | ⟨i, hi, rfl⟩)
      · exact .inr h
      · exact .inl ⟨i, hi, rfl⟩
def bndA (o : Oper) (k : Nat) : Bool := o.after.toList.any fun e => Region.binds .any e && e.on == k
/-- i may come ahead of j: a value out of a tuple, that hangs on nothing that j does not hang on, and keeps apart from all that does not hang on it -/
def late1 (l : List Oper) (ad : List (List Nat)) (i j : Nat) : Bool := match l[i]?, l[j]? with
  | some o, some q => (match o.op with | .extract _ _ => true | _ => false) && o.guard.isNone && (ad.getD i []).isEmpty && (o.after.toList.all fun e => !Region.binds .any e || bndA q e.on) &&
    (List.range l.length).all fun k => k == i || bndA o k || (match l[k]? with | some r => bndA r i || o.apart l.toArray r | none => true)
  | _, _ => false
def lateB (l : List Oper) (ad : List (List Nat)) : Bool := noSel l && (List.range l.length).all fun j => (ad.getD j []).all fun i => late1 l ad i j
theorem extract_cases {P : Program} {a : Act} {o : Oper} {x : Operand} {ix : Nat} (ho : o.op = .extract x ix) :
    (∃ v, ∀ w, (execOp a.eval o).run P w = .ok (.value v) w ∧ ((execOp a.eval o).runT P w #[]).2 = #[]) ∨ (∃ h, (∀ c, h ≠ .panic c) ∧ ∀ w, (execOp a.eval o).run P w = .halt h w ∧ ((execOp a.eval o).runT P w #[]).2 = #[]) := by
  unfold execOp
  rw [ho]
  simp only [Instr.extract]
  cases a.eval x
  case tuple vs =>
    dsimp only
    cases hv : vs[ix]? with
    | some v =>
      left
      exact ⟨v, fun w => ⟨rfl, rfl⟩⟩
    | none =>
      right
      exact ⟨_, (fun c h => by cases h), fun w => ⟨rfl, rfl⟩⟩
  all_goals
    right
    exact ⟨_, (fun c h => by cases h), fun w => ⟨rfl, rfl⟩⟩
theorem yielded_late (l : List Oper) (ad : List (List Nat)) (t : Array Value) : yielded (qC l ad).toArray t = yielded l.toArray t := by
  funext g
  unfold yielded
  have : ((qC l ad).toArray[g]?).bind (·.dst) = (l.toArray[g]?).bind (·.dst) := by
    simp only [List.getElem?_toArray, lateL_get]
    cases l[g]? with
    | none => rfl
    | some o => exact lateO_dst _ o
  rw [this]
theorem wpOp_late {P : Program} {Q : Exit → Act → World → Prop} {K : Act → World → Prop} {l : List Oper} {ad : List (List Nat)} {j : Nat} {a : Act} {w : World} (h : wpOp P (qC l ad).toArray Q j K a w) : wpOp P l.toArray Q j K a w := by
  unfold wpOp at h ⊢
  simp only [List.getElem?_toArray, lateL_get, yielded_late] at h ⊢
  cases hj : l[j]? with
  | none => rw [hj] at h; exact h
  | some o =>
    rw [hj] at h
    simp only [Option.map_some] at h ⊢
    have e1 : Region.wanted (lateO (ad.getD j []) o) (yielded l.toArray a.tmps) = Region.wanted o (yielded l.toArray a.tmps) := by
      unfold Region.wanted
      rw [lateO_guard]
    unfold Oper.wp Oper.asks at h ⊢
    rw [e1] at h
    have e2 : ∀ next R, (lateO (ad.getD j []) o).upon P a next Q R = o.upon P a next Q R := fun next R => by
      unfold Oper.upon
      rw [lateO_dst]
    rw [e2, lateO_exec, lateO_dst] at h
    exact h
theorem ready_late {l : List Oper} {ad : List (List Nat)} {listed : Array Bool} {j : Nat} (h : j ∈ Region.ready .any (qC l ad).toArray listed) : j ∈ Region.ready .any l.toArray listed := by
  rw [mem_ready] at h ⊢
  obtain ⟨h1, o, ho, h2⟩ := h
  simp only [List.getElem?_toArray, lateL_get, Option.map_eq_some_iff] at ho
  obtain ⟨q, hq, rfl⟩ := ho
  exact ⟨h1, q, by simpa using hq, fun e he hb => h2 e ((lateO_after _ _ _).2 (.inl he)) hb⟩
theorem late_free {l : List Oper} {ad : List (List Nat)} (hok : lateB l ad = true) {j i : Nat} (hj : j < l.length) (hi : i ∈ ad.getD j []) : late1 l ad i j = true := by
  unfold lateB at hok
  rw [Bool.and_eq_true] at hok
  exact List.all_eq_true.1 (List.all_eq_true.1 hok.2 j (List.mem_range.2 hj)) i hi
theorem bnd_of {o : Oper} {k : Nat} (h : bndA o k = true) : ∃ e ∈ o.after, Region.binds .any e = true ∧ e.on = k := by
  unfold bndA at h
  obtain ⟨e, he, h2⟩ := List.any_eq_true.1 h
  rw [Bool.and_eq_true, beq_iff_eq] at h2
  exact ⟨e, by simpa using he, h2.1, h2.2⟩
/-- one that comes early is ready, or what is ready is ready there, too -/
theorem late_or {l : List Oper} {ad : List (List Nat)} (hok : lateB l ad = true) {listed : Array Bool} (hz : listed.size = l.length) : (∃ i j, i ∈ ad.getD j [] ∧ j < l.length ∧ i ∈ Region.ready .any (qC l ad).toArray listed) ∨ ∀ j ∈ Region.ready .any l.toArray listed, j ∈ Region.ready .any (qC l ad).toArray listed := by
  by_cases hex : ∃ i j, i ∈ ad.getD j [] ∧ j < l.length ∧ i ∈ Region.ready .any (qC l ad).toArray listed
  · exact .inl hex
  · refine .inr fun j hj => ?_
    have hj0 := hj
    rw [mem_ready] at hj ⊢
    obtain ⟨h1, o, ho, h2⟩ := hj
    have ho' : l[j]? = some o := by simpa using ho
    have hjl := (List.getElem?_eq_some_iff.1 ho').1
    refine ⟨h1, lateO (ad.getD j []) o, by simp [lateL_get, ho'], fun e he hb => ?_⟩
    rcases (lateO_after _ _ _).1 he with he | ⟨i, hi, rfl⟩
    · exact h2 e he hb
    · apply Classical.byContradiction
      intro hn
      refine hex ⟨i, j, hi, hjl, ?_⟩
      have hl1 := late_free hok hjl hi
      unfold late1 at hl1
      rw [ho'] at hl1
      cases hoi : l[i]? with
      | none => rw [hoi] at hl1; cases hl1
      | some q =>
        rw [hoi] at hl1
        simp only [Bool.and_eq_true] at hl1
        obtain ⟨⟨⟨⟨_, _⟩, hemp⟩, haf⟩, _⟩ := hl1
        have hemp : ad.getD i [] = [] := List.isEmpty_iff.1 hemp
        rw [mem_ready]
        refine ⟨?_, q, by rw [List.getElem?_toArray, lateL_get, hoi, hemp]; rfl, fun e he hb => ?_⟩
        · have hil := (List.getElem?_eq_some_iff.1 hoi).1
          have hil' : i < listed.size := by rw [hz]; exact hil
          simp only [Array.getD_eq_getD_getElem?, Array.getElem?_eq_getElem hil', Option.getD_some] at hn ⊢
          simpa using hn
        · have := List.all_eq_true.1 haf e (by simpa using he)
          rw [hb] at this
          simp only [Bool.not_true, Bool.false_or] at this
          obtain ⟨e', he', hb', hon⟩ := bnd_of this
          rw [← hon]
          exact h2 e' he' hb'
theorem wpAny_late {P : Program} {Q : Exit → Act → World → Prop} {l : List Oper} {ad : List (List Nat)} (hok : lateB l ad = true) (hQ : ∀ c (d : Option Nat) (v : Value) a w, Q (.panic c) (a.put d v) w → Q (.panic c) a w) :
    ∀ (fuel : Nat) (listed : Array Bool) (a : Act) (w : World), listed.size = l.length → wpAny P .any (qC l ad).toArray Q fuel listed a w → wpAny P .any l.toArray Q fuel listed a w := by
  intro fuel
  induction fuel with
  | zero =>
    intro listed a w hz h
    obtain ⟨h1, h2⟩ := h
    refine ⟨List.eq_nil_iff_forall_not_mem.2 fun j hj => ?_, h2⟩
    rcases late_or hok hz with ⟨i, j', _, _, hi⟩ | hall
    · rw [h1] at hi; cases hi
    · have := hall j hj
      rw [h1] at this; cases this
  | succ fuel ih =>
    intro listed a w hz h
    rcases late_or hok hz with ⟨i, j, hij, hjl, hi⟩ | hall
    · have hw := wpOp_late (h.2 i hi)
      have hir := ready_late hi
      have hl1 := late_free hok hjl hij
      unfold late1 at hl1
      obtain ⟨hun, o, ho, hrd⟩ := mem_ready.1 hir
      have ho' : l[i]? = some o := by simpa using ho
      have hil := (List.getElem?_eq_some_iff.1 ho').1
      rw [ho', List.getElem?_eq_getElem hjl] at hl1
      simp only [Bool.and_eq_true] at hl1
      obtain ⟨⟨⟨⟨hex, hg⟩, _⟩, _⟩, hap⟩ := hl1
      obtain ⟨x, ix, hop⟩ : ∃ x ix, o.op = .extract x ix := by
        cases hop : o.op <;> rw [hop] at hex <;> first | exact ⟨_, _, rfl⟩ | cases hex
      have hg : o.guard = none := by simpa using hg
      have hwant : Region.wanted o (yielded l.toArray a.tmps) = true := by simp [Region.wanted, hg]
      unfold wpOp at hw
      rw [ho] at hw
      dsimp only at hw
      rw [if_pos hwant] at hw
      rcases extract_cases (P := P) (a := a) hop with ⟨v, hv⟩ | ⟨hh, hne, hv⟩
      · have hk : wpAny P .any (qC l ad).toArray Q fuel (listed.setIfInBounds i true) (a.put o.dst v) w := by
          rcases hw with hw | ⟨hw, _⟩
          · unfold Oper.wp at hw
            rw [(hv w).1] at hw
            exact hw
          · unfold Oper.asks at hw
            rw [(hv w).2] at hw
            exact absurd hw.1 (by simp)
        have hk2 := ih (listed.setIfInBounds i true) (a.put o.dst v) w (by simp [hz]) hk
        refine wpAny_first (P := P) (md := .any) (ops := l.toArray) (Q := Q) (i := i) (oi := o) (v := v) ho (fun j q cs b hj e => ?_) (fun c a' w' => hQ c o.dst v a' w') fuel listed a w (fun k q hk hki hkl hno => ?_) hir (.inl ⟨hwant, fun w => (hv w).1⟩) hk2
        · have hq : q ∈ l := List.mem_of_getElem? (by simpa using hj)
          unfold lateB at hok
          rw [Bool.and_eq_true] at hok
          have := List.all_eq_true.1 hok.1 q hq
          rw [e] at this
          cases this
        · have hk' : l[k]? = some q := by simpa using hk
          have hkl2 := (List.getElem?_eq_some_iff.1 hk').1
          have := List.all_eq_true.1 hap k (List.mem_range.2 hkl2)
          rw [hk'] at this
          simp only [Bool.or_eq_true, beq_iff_eq] at this
          rcases this with (h3 | h3) | h3 | h3
          · exact absurd h3 hki
          · obtain ⟨e, he, hb, hon⟩ := bnd_of h3
            have := hrd e he hb
            rw [hon] at this
            have hkz : k < listed.size := by rw [hz]; exact hkl2
            simp only [Array.getD_eq_getD_getElem?, Array.getElem?_eq_getElem hkz, Option.getD_some] at this hkl
            rw [this] at hkl
            cases hkl
          · obtain ⟨e, he, hb, hon⟩ := bnd_of h3
            exact absurd hon (hno e he hb)
          · exact h3
      · exfalso
        rcases hw with hw | ⟨hw, _⟩
        · unfold Oper.wp at hw
          rw [(hv w).1] at hw
          cases hh <;> first | exact hw | exact hne _ rfl
        · unfold Oper.asks at hw
          rw [(hv w).2] at hw
          exact absurd hw.1 (by simp)
    · refine ⟨fun hnil => h.1 (List.eq_nil_iff_forall_not_mem.2 fun j hj => ?_), fun j hj => ?_⟩
      · have := ready_late hj
        rw [hnil] at this; cases this
      · exact wpOp_mono (fun a' w' hk => ih _ a' w' (by simp [hz]) hk) (wpOp_late (h.2 j (hall j hj)))
/-- a region that draws its order, told in the order of more edges -/
def xC (P : Program) (n : Nat) (id : Nat) (l : List Oper) (ad : List (List Nat)) (S0 : AS) (K : Exit → AS → Prop) (rev : List AI) (S : AS) (os : List Oper) : Prop :=
  AC P n (qC l ad) S0 (qC l ad) rev.reverse S os → zZ P n (.region id l.toArray true) S0 K
section
variable {P : Program} {n id : Nat} {l os : List Oper} {ad : List (List Nat)} {S0 S : AS} {K : Exit → AS → Prop} {rev : List AI} {o : Oper} {d : Nat}
theorem zZ.drawsL (ad : List (List Nat)) (h : xC P n id l ad S K [] S (qC l ad)) : zZ P n (.region id l.toArray true) S K := h (.done _ _)
theorem xC.step {x : AI} (hg : GStep P n (qC l ad) S o x) (h : xC P n id l ad S0 K (x :: rev) (S.out o.dst x.av x.nb) os) : xC P n id l ad S0 K rev S (o :: os) := fun hc => h (by
  rw [List.reverse_cons]
  exact hc.snoc rfl hg)
theorem xC.done [hp : PanK K] (hm : P.follows .mixedOrders = true) (hok : lateB l ad = true) (hsch : schedB (qC l ad) rev.reverse.length (rev.reverse.map (·.bs)) = true) (hmade : madeB (qC l ad) rev.reverse S0 = true) (ht : zD P n K S os) : xC P n id l ad S0 K rev S os := by
  intro hc
  obtain ⟨h1, h2, h3⟩ := hc.chain
  intro M w0 ρ a w Q hs hK
  refine Code.wp_mono (Q := QK M n w0 K) (fun e a w ⟨S', ρ', h1, h2, h3⟩ => hK e S' ρ' a w h1 h2 h3) (wp_region_any hm ?_)
  have := draw_any rev.reverse hsch hmade h1 (by rw [h2, h3]; exact ht) (Q := QK M n w0 K) hs (fun e S' ρ' a w h1 h2 h3 => ⟨S', ρ', h1, h2, h3⟩)
  simp only [List.size_toArray, lateL_len] at this ⊢
  exact wpAny_late hok (fun c d v a w ⟨S', ρ', h1, h2, h3⟩ => ⟨{ S' with t := [] }, ρ', hp.h S' h1, h2.bareT, by
      obtain ⟨u, hu, hx⟩ := h3
      exact ⟨u, hu, hx⟩⟩) _ _ a _ (by simp) this
theorem xC.v {bs : List Nat} {av : AV} (hg : o.guard = none) (hd : o.dst = some d) (ha : zX P n o S bs av none) (h : xC P n id l ad S0 K (⟨bs, av, none⟩ :: rev) (S.put d av) os) : xC P n id l ad S0 K rev S (o :: os) :=
  .step (.inl ⟨hg, ha⟩) (by rw [hd]; exact h)
theorem xC.m {bs : List Nat} {av : AV} {b : Blk} (hg : o.guard = none) (hd : o.dst = some d) (ha : zX P n o S bs av (some b)) (h : xC P n id l ad S0 K (⟨bs, av, some b⟩ :: rev) ((S.create d b).put d av) os) : xC P n id l ad S0 K rev S (o :: os) :=
  .step (.inl ⟨hg, ha⟩) (by rw [hd]; exact h)
end
attribute [irreducible] xC
end Go.Proofs.YtmfbamiciieooaaGreatDoor
