/- Vertices that are added alone, in whatever order, by any thread, are linked by their numbers, rising. (Part 9 of 10.) -/
import Derived.Test.YtmfbamiciieooaaGreatDoorVo8
import Derived.Laws.IdiomRangeMap
import Derived.RangeFuncRecord
import Derived.ProofKit
import Derived.OpenShut
import Derived.Below
import Derived.LaidMore
import Derived.Deep.Fields
import Derived.Deep.Slices
/- Own maps: from numbers to plain values. Generic over the program. -/
namespace Go.Proofs.YtmfbamiciieooaaGreatDoor
set_option maxRecDepth 100000
set_option maxHeartbeats 16000000
open Go Go.RowKit
set_option linter.unusedSimpArgs false
set_option linter.unusedVariables false
/-- plain values: one cell, or some -/
def PV.one : PV → Bool
  | .val v => v.oneCell'
  | _ => false
def PV.plain : PV → Bool
  | .val v => v.oneCell'
  | .agg cs => cs.all PV.one
  | _ => false
def PV.v1 : PV → Value
  | .val v => v
  | _ => undef
def PV.vv : PV → Value
  | .val v => v
  | .agg cs => .agg (cs.map PV.v1).toArray
  | _ => undef
def PV.ofV : Value → PV
  | .agg cs => .agg (cs.toList.map PV.val)
  | v => .val v
theorem rep_one {M : Nat → Nat → Prop} {w : World} {x : PV} (h : x.one = true) : Rep M w x x.v1 ∧ x.v1.oneCell' = true := by
  cases x with
  | val v => exact ⟨.val v, h⟩
  | _ => cases h
theorem rep_plain {M : Nat → Nat → Prop} {w : World} {x : PV} (h : x.plain = true) : Rep M w x x.vv := by
  cases x with
  | val v => exact .val v
  | agg cs =>
    have h1 := List.all_eq_true.1 (show cs.all PV.one = true from h)
    refine .agg cs _ (by simp) (fun i c v hc hv => ?_) fun v hv => ?_
    · rw [List.getElem?_map, hc] at hv
      cases hv
      exact (rep_one (h1 c (List.mem_of_getElem? hc))).1
    · obtain ⟨c, hc, rfl⟩ := List.mem_map.1 hv
      exact (rep_one (M := M) (w := w) (h1 c hc)).2
  | _ => cases h
theorem rep_is {M : Nat → Nat → Prop} {w : World} {x : PV} {v : Value} (h : x.plain = true) (hr : Rep M w x v) : v = x.vv := by
  cases x with
  | val u => exact rep_val hr
  | agg cs =>
    obtain ⟨vs, rfl, hl, he⟩ := rep_agg hr
    have h1 := List.all_eq_true.1 (show cs.all PV.one = true from h)
    show _ = Value.agg (cs.map PV.v1).toArray
    congr 2
    apply List.ext_getElem?
    intro i
    rw [List.getElem?_map]
    cases hc : cs[i]? with
    | none =>
      rw [List.getElem?_eq_none_iff] at hc
      rw [List.getElem?_eq_none (by omega)]
      rfl
    | some c =>
      have hi : i < vs.length := by have := (List.getElem?_eq_some_iff.1 hc).1; omega
      rw [List.getElem?_eq_getElem hi]
      have h2 := he i c vs[i] hc (List.getElem?_eq_getElem hi)
      have h3 := h1 c (List.mem_of_getElem? hc)
      cases c with
      | val u => rw [rep_val h2]; rfl
      | _ => cases h3
  | _ => cases h
/-- a map's content: keys, in the order of their births, with values -/
abbrev ML := List (Int × PV)
def mget : ML → Int → Option PV
  | [], _ => none
  | (k, x) :: r, j => if k = j then some x else mget r j
structure MapQ (L : ML) (es : Array MapEntry) (clock : Nat) : Prop where
  is : es.toList.map (fun e => (e.key, e.val)) = L.map fun p => (Value.int .u64 p.1, p.2.vv)
  old : ∀ e ∈ es.toList, e.born < clock
  nodup : (es.toList.map (·.born)).Nodup
  keys : (L.map (·.1)).Nodup
  plain : ∀ p ∈ L, p.2.plain = true
def IsMap (L : ML) (_ : Nat) (o : Obj) : Prop := ∃ es clock, o = .map es clock ∧ MapQ L es clock
def mapB (L : ML) : Blk := .obj true (IsMap L)
theorem MapQ.nil : MapQ [] #[] 0 := ⟨rfl, fun e he => by simp at he, by simp, by simp, fun p hp => by cases hp⟩
theorem mget_mem : ∀ {L : ML} {j : Int} {x : PV}, mget L j = some x → (j, x) ∈ L
  | (k, y) :: r, j, x, h => by
    by_cases hk : k = j
    · subst hk; simp [mget] at h; simp [h]
    · simp only [mget, hk, if_false] at h
      exact List.mem_cons_of_mem _ (mget_mem h)
section
variable {P : Program} {w : World} {t e key : Nat}
end
section
variable {P : Program} {w : World} {t e key : Nat}
end
section
variable {P : Program} {n : Nat} {o : Oper} {S : AS} {d : Nat} {t : TypeId} {x y : Operand}
theorem w_makeMap (ho : o.op = .makeMap t none) (hd : o.dst = some d) (hn : d < n) : zX P n o S [] (.own d) (some (mapB [])) :=
  zX.made hd hn fun S2 hg _ M w0 ρ a w hs => by
    refine ⟨.map (some w.heap.size), w.alloc (.map #[] 0), ?_, World.grownBy_alloc w _ none, fun k hk => ?_, ?_, .inl rfl⟩
    · unfold execOp
      rw [ho]
      simp [Instr.makeMap, newObj, Sem.run]
    · simp only [zU, Option.some.injEq] at hk; omega
    · exact ⟨w.heap.size, .map #[] 0, rfl, Nat.zero_le _, by rw [heap_alloc_new], _, _, rfl, MapQ.nil⟩
/-- a map of the frame's own, where it lies -/
theorem Sat.mapAt {M : Nat → Nat → Prop} {w0 : Home} {w : World} {ρ : Nat → Value} {a : Act} (hs : Sat M n w0 S ρ a w) {x : Operand} {id : Nat} {Q : Nat → Obj → Prop} {L : ML} (hx : S.get x = .own id) (hb : S.blk id = some (.obj true Q)) (hQ : ∀ g o, Q g o → IsMap L g o) :
    ∃ m es clock, a.eval x = .map (some m) ∧ ρ id = .map (some m) ∧ w.heap[m]? = some (.map es clock) ∧ MapQ L es clock ∧ Q m (.map es clock) := by
  have h1 := hs.rep x
  rw [hx] at h1
  have h2 := vP h1
  obtain ⟨g, o, h3, _, h4, h5⟩ := hs.blks id _ hb
  obtain ⟨es, clock, rfl, h6⟩ := hQ g o h5
  exact ⟨g, es, clock, by rw [h2, h3]; rfl, by rw [h3]; rfl, h4, h6, h5⟩
end
def mapAt (m : Nat) (es : Array MapEntry) (clock : Nat) : Blk := .obj true fun g o => g = m ∧ o = .map es clock
section
variable {P : Program} {n : Nat} {o : Oper} {S : AS} {d : Nat} {t : TypeId} {x y : Operand}
end
end Go.Proofs.YtmfbamiciieooaaGreatDoor
/- Own maps from whole numbers. Generic over the program. -/
namespace Go.Proofs.YtmfbamiciieooaaGreatDoor
set_option maxRecDepth 100000
set_option maxHeartbeats 16000000
open Go Go.RowKit
set_option linter.unusedSimpArgs false
set_option linter.unusedVariables false
structure MapQI (L : ML) (es : Array MapEntry) (clock : Nat) : Prop where
  is : es.toList.map (fun e => (e.key, e.val)) = L.map fun p => (Value.int .i64 p.1, p.2.vv)
  plain : ∀ p ∈ L, p.2.plain = true
def IsMapI (L : ML) (_ : Nat) (o : Obj) : Prop := ∃ es clock, o = .map es clock ∧ MapQI L es clock
def mapBI (L : ML) : Blk := .obj true (IsMapI L)
theorem entries_consI {L : ML} {l : List MapEntry} (h : l.map (fun e => (e.key, e.val)) = L.map fun p => (Value.int .i64 p.1, p.2.vv)) : (l = [] ∧ L = []) ∨ ∃ e l' k x L', l = e :: l' ∧ L = (k, x) :: L' ∧ e.key = .int .i64 k ∧ e.val = x.vv ∧ l'.map (fun e => (e.key, e.val)) = L'.map fun p => (Value.int .i64 p.1, p.2.vv) := by
  cases l with
  | nil => cases L with
    | nil => exact .inl ⟨rfl, rfl⟩
    | cons => simp at h
  | cons e l' => cases L with
    | nil => simp at h
    | cons p L' =>
      simp only [List.map_cons, List.cons.injEq, Prod.mk.injEq] at h
      exact .inr ⟨e, l', p.1, p.2, L', rfl, rfl, h.1.1, h.1.2, h.2⟩
theorem findNow_mapI (j : Int) : ∀ (l : List MapEntry) (L : ML) (i : Nat), l.map (fun e => (e.key, e.val)) = L.map (fun p => (Value.int .i64 p.1, p.2.vv)) →
    (mget L j = none ∧ Instr.findNow (.int .i64) (.int .i64 j) l i = some none) ∨ ∃ q x, mget L j = some x ∧ Instr.findNow (.int .i64) (.int .i64 j) l i = some (some (i + q, x.vv)) := by
  intro l
  induction l with
  | nil =>
    intro L i h
    rcases entries_consI h with ⟨_, rfl⟩ | ⟨_, _, _, _, _, h, _⟩
    · exact .inl ⟨rfl, rfl⟩
    · cases h
  | cons e l ih =>
    intro L i h
    rcases entries_consI h with ⟨h, _⟩ | ⟨e', l', k, x, L', h1, rfl, h3, h4, h5⟩
    · cases h
    · injection h1 with h1 h2
      subst h1 h2
      by_cases hk : k = j
      · subst hk
        refine .inr ⟨0, x, by simp [mget], ?_⟩
        simp [Instr.findNow, h3, Instr.sameNow, h4]
      · have hk' : (j == k) = false := by simpa using fun h => hk h.symm
        rcases ih L' (i + 1) h5 with ⟨h6, h7⟩ | ⟨q, y, h8, h9⟩
        · refine .inl ⟨by simp [mget, hk, h6], ?_⟩
          simp [Instr.findNow, h3, Instr.sameNow, hk', h7]
        · refine .inr ⟨q + 1, y, by simp [mget, hk, h8], ?_⟩
          have e1 : i + 1 + q = i + (q + 1) := by omega
          simp [Instr.findNow, h3, Instr.sameNow, hk', h9, e1]
section
variable {P : Program} {w : World} {t e key : Nat}
theorem checkKey_intI {key : Nat} (b : Bool) (j : Int) (hk : P.underlying key = some (.int .i64)) : (Instr.checkKey b 10000 key (.int .i64 j)).run P w = .ok () w := by
  unfold Instr.checkKey
  simp [run_underlying hk]
theorem findKey_runI {j : Int} {L : ML} {es : Array MapEntry} {clock : Nat} (hk : P.underlying key = some (.int .i64)) (hQ : MapQI L es clock) :
    (mget L j = none ∧ (Instr.findKey key (.int .i64 j) es.toList).run P w = .ok none w) ∨ ∃ q x, mget L j = some x ∧ (Instr.findKey key (.int .i64 j) es.toList).run P w = .ok (some (q, x.vv)) w := by
  rcases findNow_mapI j es.toList L 0 hQ.is with ⟨h1, h2⟩ | ⟨q, x, h3, h4⟩
  · refine .inl ⟨h1, ?_⟩
    simp [Instr.findKey, run_underlying hk, h2]
  · refine .inr ⟨q, x, h3, ?_⟩
    simp [Instr.findKey, run_underlying hk, h4]
theorem lookup_runI {m : Nat} {j : Int} {L : ML} {es : Array MapEntry} {clock : Nat} {z : Value} (ht : P.underlying t = some (.map key e)) (hk : P.underlying key = some (.int .i64)) (hz : (zeroValue e).run P w = .ok z w) (hb : w.heap[m]? = some (.map es clock)) (hQ : MapQI L es clock) :
    (Instr.lookup t (.map (some m)) (.int .i64 j) true).run P w = .ok (match mget L j with | some x => .tuple #[x.vv, .bool true] | none => .tuple #[z, .bool false]) w := by
  rcases findKey_runI (P := P) (w := w) (j := j) hk hQ with ⟨h1, h2⟩ | ⟨q, x, h1, h2⟩
  · rw [h1]
    simp [Instr.lookup, run_underlying ht, MapKept.run_getObj_map hb, checkKey_intI _ _ hk, h2, hz]
  · rw [h1]
    simp [Instr.lookup, run_underlying ht, MapKept.run_getObj_map hb, checkKey_intI _ _ hk, h2]
theorem insert_runI {m : Nat} {j : Int} {L : ML} {es : Array MapEntry} {clock : Nat} {y : PV} (ht : P.underlying t = some (.map key e)) (hk : P.underlying key = some (.int .i64)) (hb : w.heap[m]? = some (.map es clock)) (hQ : MapQI L es clock) (hy : y.plain = true) (hn : mget L j = none) :
    ∃ es' clock', (Instr.mapUpdate t (.map (some m)) (.int .i64 j) y.vv).run P w = .ok () (w.putObj m (.map es' clock')) ∧ MapQI (L ++ [(j, y)]) es' clock' := by
  have hset : ∀ o, (setObj m o).run P w = .ok () (w.putObj m o) := fun o => by
    simp [setObj, Sem.run, hb, World.putObj]
  rcases findKey_runI (P := P) (w := w) (j := j) hk hQ with ⟨h1, h2⟩ | ⟨q, x, h1, _⟩
  · refine ⟨es.push { key := .int .i64 j, val := y.vv, born := clock }, clock + 1, ?_, ⟨by simp [hQ.is], fun p hp => ?_⟩⟩
    · simp [Instr.mapUpdate, run_underlying ht, MapKept.run_getObj_map hb, checkKey_intI _ _ hk, h2, hset]
    · rcases List.mem_append.1 hp with hp | hp
      · exact hQ.plain p hp
      · simp at hp; subst hp; exact hy
  · rw [hn] at h1; cases h1
end
section
variable {P : Program} {n : Nat} {o : Oper} {S : AS} {d : Nat} {t : TypeId} {x y : Operand}
theorem Sat.mapAtI {M : Nat → Nat → Prop} {w0 : Home} {w : World} {ρ : Nat → Value} {a : Act} (hs : Sat M n w0 S ρ a w) {x : Operand} {id : Nat} {L : ML} (hx : S.get x = .own id) (hb : S.blk id = some (mapBI L)) :
    ∃ m es clock, a.eval x = .map (some m) ∧ ρ id = .map (some m) ∧ w.heap[m]? = some (.map es clock) ∧ MapQI L es clock := by
  have h1 := hs.rep x
  rw [hx] at h1
  have h2 := vP h1
  obtain ⟨g, o, h3, _, h4, es, clock, rfl, h6⟩ := hs.blks id _ hb
  exact ⟨g, es, clock, by rw [h2, h3]; rfl, by rw [h3]; rfl, h4, h6⟩
theorem w_lookupI {k : Operand} {id key e : Nat} {j : Int} {L : ML} {zv : Value} {r : Option PV} [ht : Und P t (.map key e)] [hk : Und P key (.int .i64)] [hz : ZeroA P e zv] (hm : mget L j = r) (ho : o.op = .lookup t x k true) (hx : S.get x = .own id) (hb : S.blk id = some (mapBI L)) (hj : S.get k = .p (.val (.int .i64 j)))
    (hzp : (PV.ofV zv).plain = true) (hzv : (PV.ofV zv).vv = zv) (hd : o.dst = some d) (hn : d < n) : zX P n o S [id] (.tup [.p (r.getD (PV.ofV zv)), .p (.val (.bool r.isSome))]) none :=
  zX.pure hd hn fun S2 hg hbl M w0 ρ a w hs => by
    have hb2 : S2.blk id = some (mapBI L) := (hbl id (by simp)).trans hb
    obtain ⟨m, es, clock, h1, _, h3, h4⟩ := hs.mapAtI (x := x) ((hg x (by rw [ho]; simp [Op.operands])).trans hx) hb2
    have h5 := hs.val ((hg k (by rw [ho]; simp [Op.operands])).trans hj)
    have h6 := lookup_runI (P := P) (w := w) (j := j) (z := zv) ht.h hk.h (hz.h w) h3 h4
    subst hm
    have hz0 : Rep (Mut M S2 ρ) w (PV.ofV zv) zv := by have := rep_plain (M := Mut M S2 ρ) (w := w) hzp; rwa [hzv] at this
    have hr : ∀ u, (Instr.lookup t (.map (some m)) (.int .i64 j) true).run P w = .ok u w → (execOp a.eval o).run P w = .ok (.value u) w := fun u h => by
      unfold execOp
      rw [ho]
      simp only [h1, h5]
      simp [h]
    cases hmm : mget L j with
    | none =>
      rw [hmm] at h6
      refine ⟨_, w, hr _ h6, Below.refl _ _, .tup _ [zv, .bool false] rfl fun i c u hc hu => ?_⟩
      match i with
      | 0 => cases hc; cases hu; exact .p hz0
      | 1 => cases hc; cases hu; exact .p (.val _)
      | i + 2 => cases hc
    | some v =>
      rw [hmm] at h6
      refine ⟨_, w, hr _ h6, Below.refl _ _, .tup _ [v.vv, .bool true] rfl fun i c u hc hu => ?_⟩
      match i with
      | 0 => cases hc; cases hu; exact .p (rep_plain (h4.plain _ (mget_mem hmm)))
      | 1 => cases hc; cases hu; exact .p (.val _)
      | i + 2 => cases hc
theorem w_lookupT {k : Operand} {id key e : Nat} {j : Int} {L : ML} {zv : Value} {v : PV} [ht : Und P t (.map key e)] [hk : Und P key (.int .i64)] [hz : ZeroA P e zv] (hm : mget L j = some v) (ho : o.op = .lookup t x k true) (hx : S.get x = .own id) (hb : S.blk id = some (mapBI L)) (hj : S.get k = .p (.val (.int .i64 j)))
    (hzp : (PV.ofV zv).plain = true) (hzv : (PV.ofV zv).vv = zv) (hd : o.dst = some d) (hn : d < n) : zX P n o S [id] (.tup [.p v, .p (.val (.bool true))]) none := w_lookupI hm ho hx hb hj hzp hzv hd hn
theorem w_lookupF {k : Operand} {id key e : Nat} {j : Int} {L : ML} {zv : Value} [ht : Und P t (.map key e)] [hk : Und P key (.int .i64)] [hz : ZeroA P e zv] (hm : mget L j = none) (ho : o.op = .lookup t x k true) (hx : S.get x = .own id) (hb : S.blk id = some (mapBI L)) (hj : S.get k = .p (.val (.int .i64 j)))
    (hzp : (PV.ofV zv).plain = true) (hzv : (PV.ofV zv).vv = zv) (hd : o.dst = some d) (hn : d < n) : zX P n o S [id] (.tup [.p (PV.ofV zv), .p (.val (.bool false))]) none := w_lookupI hm ho hx hb hj hzp hzv hd hn
theorem s_insertI {k : Operand} {id key e : Nat} {j : Int} {L : ML} {v : PV} [ht : Und P t (.map key e)] [hk : Und P key (.int .i64)] (ho : o.op = .insert t x k y) (hx : S.get x = .own id) (hb : S.blk id = some (mapBI L)) (hj : S.get k = .p (.val (.int .i64 j))) (hy : S.get y = .p v) (hv : v.plain = true) (hm : mget L j = none) (hd : o.dst = none) :
    Step P n o S { S with s := putL S.s id (mapBI (L ++ [(j, v)])) } := by
  intro M w0 ρ a w K Q hs hK
  obtain ⟨m, es, clock, h1, h2, h3, h4⟩ := hs.mapAtI (x := x) hx hb
  have h5 := hs.val hj
  have h6 := hs.rep y
  rw [hy] at h6
  have h7 : a.eval y = v.vv := by
    generalize a.eval y = u at h6
    cases h6 with
    | p h => exact rep_is hv h
  obtain ⟨es', clock', h8, h9⟩ := insert_runI (P := P) (w := w) (j := j) (y := v) ht.h hk.h h3 h4 hv hm
  unfold Oper.wp
  have he : (execOp a.eval o).run P w = .ok .skip (w.putObj m (.map es' clock')) := by
    unfold execOp
    rw [ho]
    simp only [h1, h5, h7]
    simp [h8]
  rw [he]
  show K (a.put o.dst undef) _
  rw [hd]
  have hg : w.grownBy (w.putObj m (.map es' clock')) (some m) := by
    refine ⟨rfl, rfl, rfl, by simp [World.putObj], fun q hq hne => ?_⟩
    exact World.putObj_heap_other fun e => hne (by rw [e])
  exact hK ρ a _ (hs.turn hb (by rw [h2]; rfl) hg (fun _ => trivial) ⟨m, .map es' clock', by rw [h2]; rfl, Nat.zero_le _, World.putObj_heap_same (Array.getElem?_eq_some_iff.1 h3).1, _, _, rfl, h9⟩)
theorem s_insert0 {k : Operand} {id key e : Nat} {j : Int} {v : PV} [ht : Und P t (.map key e)] [hk : Und P key (.int .i64)] (ho : o.op = .insert t x k y) (hx : S.get x = .own id) (hb : S.blk id = some (mapB [])) (hj : S.get k = .p (.val (.int .i64 j))) (hy : S.get y = .p v) (hv : v.plain = true) (hd : o.dst = none) :
    Step P n o S { S with s := putL S.s id (mapBI [(j, v)]) } := by
  intro M w0 ρ a w K Q hs hK
  obtain ⟨m, es, clock, h1, h2, h3, h4, _⟩ := hs.mapAt (x := x) hx hb fun _ _ h => h
  have h5 := hs.val hj
  have h6 := hs.rep y
  rw [hy] at h6
  have h7 : a.eval y = v.vv := by
    generalize a.eval y = u at h6
    cases h6 with
    | p h => exact rep_is hv h
  obtain ⟨es', clock', h8, h9⟩ := insert_runI (P := P) (w := w) (j := j) (y := v) (L := []) ht.h hk.h h3 ⟨h4.is, fun p hp => by cases hp⟩ hv rfl
  unfold Oper.wp
  have he : (execOp a.eval o).run P w = .ok .skip (w.putObj m (.map es' clock')) := by
    unfold execOp
    rw [ho]
    simp only [h1, h5, h7]
    simp [h8]
  rw [he]
  show K (a.put o.dst undef) _
  rw [hd]
  have hg : w.grownBy (w.putObj m (.map es' clock')) (some m) := by
    refine ⟨rfl, rfl, rfl, by simp [World.putObj], fun q hq hne => ?_⟩
    exact World.putObj_heap_other fun e => hne (by rw [e])
  exact hK ρ a _ (hs.turn hb (by rw [h2]; rfl) hg (fun _ => trivial) ⟨m, .map es' clock', by rw [h2]; rfl, Nat.zero_le _, World.putObj_heap_same (Array.getElem?_eq_some_iff.1 h3).1, _, _, rfl, h9⟩)
end
end Go.Proofs.YtmfbamiciieooaaGreatDoor
/- What a list's operation asks next, of a log: the program's: contracts. -/
namespace Go.Proofs.YtmfbamiciieooaaGreatDoor
set_option maxRecDepth 100000
set_option maxHeartbeats 16000000
open Go Go.RowKit
set_option linter.unusedSimpArgs false
set_option linter.unusedVariables false
attribute [local irreducible] zY zZ Step zX Sub zD zG Fn
def outRN (o : OutN) : AV := .p (outV o.e o.is o.n o.w)
end Go.Proofs.YtmfbamiciieooaaGreatDoor
/- Operations that are entered and left; a vertex's operation: the program's, whatever makes its accesses: contracts. -/
namespace Go.Proofs.YtmfbamiciieooaaGreatDoor
set_option maxRecDepth 100000
set_option maxHeartbeats 16000000
open Go Go.RowKit
set_option linter.unusedSimpArgs false
set_option linter.unusedVariables false
attribute [local irreducible] zY zZ Step zX Sub zD zG Fn zF zO
def fnB (f : FuncId) : Blk := .box 88 [.p (.val (.func (.func f) #[] #[]))]
def bkV (H : Hnd) (f : FuncId) (t me k : Int) : List Blk := [fnB f, doB H, yD t, yD me, wordB k]
/-- which operation -/
def vopOf (f : FuncId) (t me k : Int) : Pr OutB := if f = 27 then vaddP t me k else if f = 28 then vremP t k else vhasP t k
def IsOp (f : FuncId) : Prop := f = 27 ∨ f = 28 ∨ f = 29
theorem fine_vopOf {f : FuncId} (t me : Int) {k : Int} (hU : U k) : (vopOf f t me k).yY AltOK := by
  unfold vopOf
  split
  · exact fine_vadd t me hU
  · split
    · exact fine_vrem t k
    · exact fine_vhas t k
theorem vopOf_h (H : Hnd) (s0 : H.σ) {f : FuncId} (hf : IsOp f) {t me k : Int} (ht : Small t) (h0 : 0 ≤ t) (hm : Small me) (hU : U k) : FnH H f [.ag (workC H t me k)] [] outBV (fun _ => []) AltOK s0 (vopOf f t me k) := by
  rcases hf with rfl | rfl | rfl
  · exact vadd_h H s0 ht h0 hm hU
  · exact vrem_h H s0 ht
  · exact vhas_h H s0 ht
theorem isOp_has {f : FuncId} (h : IsOp f) : HasFn Tryz.prog f := by
  rcases h with rfl | rfl | rfl <;> infer_instance
theorem next11V_h (H : Hnd) (s0 : H.σ) {f : FuncId} (hf : IsOp f) {t me k : Int} (ht : Small t) (h0 : 0 ≤ t) (hm : Small me) (hU : U k) : FnH H 32 [.ptr 1003 0, .ptr 1004 0, .ptr 1005 0, .ptr 1006 0, .ptr 1007 0] (bkV H f t me k) outBV (fun _ => bkV H f t me k) AltOK s0 (vopOf f t me k) := by
  have := isOp_has hf
  unfold bkV fnB doB yD wordB Hnd.doA
  refine yG Tryz.func32 rfl Tryz.ntmps32 (Nat.le_of_ble_eq_true rfl) (by decide) (fine_vopOf t me hU) fun hok hns => ?_
  repeat' (first | (refine zY.is ?_; first | refine zY.nil ?_ | (refine zY.at_ 14 rfl ?_; refine zY.rc (.v yK (.v yK (.w zR (.v zC .e)))) ?_) | (refine zY.in_ [13] rfl ?_; refine zY.ofT rfl (zG.hd (i := []) (f := vopOf_h H _ hf ht h0 hm hU) (r := fun x s e g hk => ?_) (p := fun q s e => ?_) (t := ?_)))) | (refine zZ.is ?_; first | refine zZ.seq ?_ | (refine zZ.isR (id := 0) ?_; refine zZ.rc [0, 1, 2, 3, 4] [5, 1000, 1001, 1002, 1003, 1004, 1005, 1006, 1007] (r := (.m zT (.v zC .e))) (h := ?_)) | (refine zZ.isR (id := 1) ?_; refine zZ.rc [0, 1, 2, 3, 4, 5, 6] [5, 1000, 1001, 1002, 1003, 1004, 1005, 1006, 1007] (r := (.v zS (.v wI (.v zS (.v zS (.v zS (.v v10_2 .e))))))) (h := ?_)) | refine zZ.ret ?_) | refine zF.n ?_ | refine zF.p ?_)
  all_goals (first | exact fun e => hns (by clear hns; simp only [run_bind, zB, zJ, Held.zW, Held.zA, Held.zQ, cond_true, cond_false, *]) | exact .pan (q := q) rfl (by repeat' first | exact trivial | rfl | constructor) (by repeat' first | exact trivial | exact ⟨_, rfl, rfl⟩ | constructor) (by simp only [run_bind, zB, zJ, Held.zW, Held.zA, Held.zQ, cond_true, cond_false, *]) | exact .ret (x := x) (by exact .inl rfl) (by exact .tup rfl (by decide) (.cons (.cellN rfl rfl (by rfl) (by rfl)) (.cons (.tmp rfl) .nil))) (by repeat' first | exact trivial | rfl | constructor) (by simp only [run_bind, zB, zJ, Held.zW, Held.zA, Held.zQ, cond_true, cond_false, *] <;> rfl))
theorem u1_U : U 1 := by unfold U; decide
theorem in_h (H : Hnd) (s0 : H.σ) {f : FuncId} (hf : IsOp f) {t me k : Int} (ht : Small t) (h0 : 0 ≤ t) (hm : Small me) (hU : U k) : FnH H 31 [H.doA, .p (.val (.int .i64 me)), .clo 32 [1003, 1004, 1005, 1006, 1007]] (bkV H f t me k) outRN (fun _ => bkV H f t me k) yes s0 (inP me (vopOf f t me k)) := by
  unfold bkV Hnd.doA
  refine yG Tryz.func31 rfl Tryz.ntmps31 (Nat.le_of_ble_eq_true rfl) (by decide) (fine_in me (fine_vopOf t me hU)) fun hok hns => ?_
  repeat' (first | (refine zY.is ?_; first | refine zY.nil ?_ | (refine zY.at_ 11 rfl ?_; refine zY.rc (.v v42_8 .e) ?_) | (refine zY.at_ 16 rfl ?_; refine zY.rc (.v wR (.v yK (.v yK (.m zT (.w zR (.v zC .e)))))) ?_) | (refine zY.in_ [10] rfl ?_; refine zY.ofT rfl (zG.hd (i := []) (f := qX H _ 7) (r := fun x s e g hk => ?_) (p := fun q s e => ?_) (t := ?_))) | (refine zY.in_ [15] rfl ?_; refine zY.ofT rfl (zG.hd (i := []) (f := pin_h H _ hm) (r := fun x s e g hk => ?_) (p := fun q s e => ?_) (t := ?_))) | (refine zY.in_ [18] rfl ?_; refine zY.ofT rfl (zG.hd (i := [1003, 1004, 1005, 1006, 1007]) (f := next11V_h H _ hf ht h0 hm hU) (r := fun x s e g hk => ?_) (p := fun q s e => ?_) (t := ?_))) | (refine zY.in_ [24] rfl ?_; refine zY.ofT rfl (zG.hd (i := []) (f := qR H _ 7 1 u1_U) (r := fun x s e g hk => ?_) (p := fun q s e => ?_) (t := ?_))) | (refine zY.in_ [28] rfl ?_; refine zY.ofT rfl (zG.hd (i := []) (f := unpin_h H _ hm) (r := fun x s e g hk => ?_) (p := fun q s e => ?_) (t := ?_)))) | (refine zZ.is ?_; first | refine zZ.seq ?_ | (refine zZ.isR (id := 0) ?_; refine zZ.rc [0, 1, 2] [6, 7, 1000, 1001, 1002, 1003, 1004, 1005, 1006, 1007] (r := (.m zT .e)) (h := ?_)) | (refine zZ.isR (id := 1) ?_; refine zZ.rc [0, 1, 2, 6] [6, 7, 1000, 1001, 1002, 1003, 1004, 1005, 1006, 1007] (r := (.v xC .e)) (h := ?_)) | (refine zZ.isR (id := 2) ?_; refine zZ.rc [0, 1, 2, 6] [6, 7, 1000, 1001, 1002, 1003, 1004, 1005, 1006, 1007] (r := (.v xQ (.w zR .e))) (h := ?_)) | (refine zZ.isR (id := 3) ?_; refine zZ.rc [0, 1, 2, 6] [6, 7, 1000, 1001, 1002, 1003, 1004, 1005, 1006, 1007] (r := (.v xC (.v zV .e))) (h := ?_)) | (refine zZ.isR (id := 4) ?_; refine zZ.rc [0, 1, 2, 6] [6, 7, 1000, 1001, 1002, 1003, 1004, 1005, 1006, 1007] (r := (.v xC .e)) (h := ?_)) | (refine zZ.isR (id := 5) ?_; refine zZ.rc [0, 1, 6, 7, 8] [6, 7, 1000, 1001, 1002, 1003, 1004, 1005, 1006, 1007] (r := (.v zV (.v v52_8 .e))) (h := ?_)) | (refine zZ.isR (id := 6) ?_; refine zZ.rc [0, 1, 6, 7] [6, 7, 1000, 1001, 1002, 1003, 1004, 1005, 1006, 1007] (r := (.v xC .e)) (h := ?_)) | (refine zZ.isR (id := 7) ?_; refine zZ.rc [0, 1, 6, 7] [6, 7, 1000, 1001, 1002, 1003, 1004, 1005, 1006, 1007] (r := (.v xQ (.w zR .e))) (h := ?_)) | (refine zZ.isR (id := 8) ?_; refine zZ.rc [0, 1, 6, 7] [6, 7, 1000, 1001, 1002, 1003, 1004, 1005, 1006, 1007] (r := (.v xC (.v zV .e))) (h := ?_)) | (refine zZ.isR (id := 9) ?_; refine zZ.rc [6, 7] [6, 7, 1000, 1001, 1002, 1003, 1004, 1005, 1006, 1007] (r := (.v wQ (.w zR .e))) (h := ?_)) | refine zZ.cond rfl (fun h => ?_) (fun h => ?_) | refine zZ.skip ?_ | refine zZ.ret ?_) | refine zF.n ?_ | refine zF.r ?_ | refine zF.p ?_)
  all_goals try simp only [Bool.not_eq_true', Bool.not_eq_false'] at *
  all_goals first
    | exact .ret (x := ⟨6, false, 0, 0⟩) (.inl rfl) (.p rfl (.cellN rfl rfl (by rfl) (by rfl))) (by repeat' first | exact trivial | rfl | constructor) (by simp only [inP, run_bind, zB, zJ, Held.zW, cond_true, cond_false, *, Bool.not_false])
    | exact .ret (x := ⟨7, false, 0, 0⟩) (.inl rfl) (.p rfl (.cellN rfl rfl (by rfl) (by rfl))) (by repeat' first | exact trivial | rfl | constructor) (by simp only [inP, leaveP, run_bind, zB, zJ, Held.zW, cond_true, cond_false, *, Bool.not_true])
    | skip
  all_goals (first | exact fun e => hns (by clear hns; simp only [inP, leaveP, Bool.not_true, run_bind, zB, zJ, Held.zW, Held.zA, Held.zQ, cond_true, cond_false, *]) | exact .pan (q := q) rfl (by repeat' first | exact trivial | rfl | constructor) (by repeat' first | exact trivial | exact ⟨_, rfl, rfl⟩ | constructor) (by simp only [inP, leaveP, Bool.not_true, run_bind, zB, zJ, Held.zW, Held.zA, Held.zQ, cond_true, cond_false, *]) | skip)
  rename_i w0 sa ea ga ha0 u1 sb eb gb hb0 o sc ec gc hc0 hz
  have ha : o.alt = o.is := gc h
  rw [ha]
  exact .ret (x := ⟨o.e, o.is, 0, 0⟩) (s' := s) (.inl rfl) (.p rfl (.cellN rfl rfl (by rfl) (by rfl))) (by repeat' first | exact trivial | rfl | constructor) (by simp only [inP, leaveP, run_bind, zB, zJ, Held.zW, cond_true, cond_false, *, Bool.not_true])
def fV (f : FuncId) : PV := .val (.func (.func f) #[] #[])
def doesL : ML := [(11, fV 27), (12, fV 28), (13, fV 29)]
theorem nextV1_h (H : Hnd) (s0 : H.σ) {t me k u v w : Int} (ht : Small t) (h0 : 0 ≤ t) (hm : Small me) : FnH H 26 [H.doA, .ptr 1003 0, .ptr 1004 0, .ptr 1005 0] [opB k u v w, yD me, yD t] outRN (fun _ => [opB k u v w, yD me, yD t]) yes s0 (qG t me k u) := by
  have cv := vertex_fn u
  have hU := vkF_U u
  have fin : ∀ f, IsOp f → (k = 11 ∧ f = 27 ∨ k = 12 ∧ f = 28 ∨ k = 13 ∧ f = 29) → vOK u = true → qG t me k u = inP me (vopOf f t me (vkF u)) := fun f _ h hu => by
    unfold qG vopB vopOf
    rw [hu]
    rcases h with ⟨rfl, rfl⟩ | ⟨rfl, rfl⟩ | ⟨rfl, rfl⟩ <;> rfl
  unfold Hnd.doA opB yD
  refine yG Tryz.func26 rfl Tryz.ntmps26 (Nat.le_of_ble_eq_true rfl) (by decide) (fine_vop t me k u) fun hok hns => ?_
  by_cases hk3 : k = 11 ∨ k = 12 ∨ k = 13
  case neg =>
    have hg : mget doesL k = none := by
      unfold doesL mget mget mget mget
      rw [if_neg (by omega), if_neg (by omega), if_neg (by omega)]
    repeat' (first | refine zY.w rfl (s_insert0 rfl rfl rfl rfl rfl rfl rfl) ?_ | refine zY.w rfl (s_insertI rfl rfl rfl rfl rfl rfl (by rfl) rfl) ?_ | (refine zY.at_ 17 rfl ?_; refine zY.v rfl rfl (by exact w_lookupF hg rfl rfl rfl rfl rfl rfl rfl (by decide)) ?_) | (refine zY.is ?_; first | refine zY.nil ?_ | (refine zY.at_ 12 rfl ?_; refine zY.rc (.v v0_1 (.v v1_1 .e)) ?_) | (refine zY.at_ 13 rfl ?_; refine zY.rc (.v wR (.v yK (.v yK (.m zT (.w zR (.v zC .e)))))) ?_)) | (refine zZ.is ?_; first | refine zZ.seq ?_ | (refine zZ.isR (id := 0) ?_; refine zZ.rc [0, 1, 2, 3] [4, 5, 7, 9, 11, 1000, 1001, 1002, 1003, 1004, 1005] (r := (.m m18_3 (.m zT .e))) (h := ?_)) | (refine zZ.isR (id := 1) ?_; refine zZ.rc [1, 2, 3, 4, 5] [4, 5, 7, 9, 11, 1000, 1001, 1002, 1003, 1004, 1005] (r := (.m m22_0 .e)) (h := ?_)) | (refine zZ.isR (id := 2) ?_; refine zZ.rc [1, 2, 3, 4, 5, 6] [4, 5, 7, 9, 11, 1000, 1001, 1002, 1003, 1004, 1005] (r := (.v v0_1 (.v zP (.v zS .e)))) (h := ?_)) | (refine zZ.isR (id := 3) ?_; refine zZ.rc [1, 2, 3, 4, 5, 7, 8] [4, 5, 7, 9, 11, 1000, 1001, 1002, 1003, 1004, 1005] (r := (.v zV (.v v52_4 .e))) (h := ?_)) | (refine zZ.isR (id := 4) ?_; refine zZ.rc [1, 2, 3, 4, 5, 7] [4, 5, 7, 9, 11, 1000, 1001, 1002, 1003, 1004, 1005] (r := (.v xQ (.w zR .e))) (h := ?_)) | refine zZ.yO rfl bA ?_ | refine zZ.ret ?_) | refine zF.n ?_ | refine zF.r ?_)
    all_goals exact .ret (x := ⟨1, false, 0, 0⟩) (s' := s0) (.inl rfl) (.p rfl (.cellN rfl rfl (by rfl) (by rfl))) (by repeat' first | exact trivial | rfl | constructor) (by unfold qG; rw [decide_eq_false (by omega), decide_eq_false (by omega), decide_eq_false (by omega)]; rfl)
  case pos =>
    obtain ⟨f, hf, hkf, hg⟩ : ∃ f, IsOp f ∧ (k = 11 ∧ f = 27 ∨ k = 12 ∧ f = 28 ∨ k = 13 ∧ f = 29) ∧ mget doesL k = some (fV f) := by
      rcases hk3 with rfl | rfl | rfl
      · exact ⟨_, .inl rfl, .inl ⟨rfl, rfl⟩, rfl⟩
      · exact ⟨_, .inr (.inl rfl), .inr (.inl ⟨rfl, rfl⟩), rfl⟩
      · exact ⟨_, .inr (.inr rfl), .inr (.inr ⟨rfl, rfl⟩), rfl⟩
    cases hu : vOK u
    case false =>
      have hE : vkE u = 4 := by unfold vkE; rw [hu]; rfl
      rw [hE] at cv
      repeat' (first | refine zY.w rfl (s_insert0 rfl rfl rfl rfl rfl rfl rfl) ?_ | refine zY.w rfl (s_insertI rfl rfl rfl rfl rfl rfl (by rfl) rfl) ?_ | (refine zY.at_ 17 rfl ?_; refine zY.v rfl rfl (by exact w_lookupT hg rfl rfl rfl rfl rfl rfl rfl (by decide)) ?_) | (refine zY.is ?_; first | refine zY.nil ?_ | (refine zY.at_ 12 rfl ?_; refine zY.rc (.v v0_1 (.v v1_1 .e)) ?_) | (refine zY.at_ 13 rfl ?_; refine zY.rc (.v wR (.v yK (.v yK (.m zT (.w zR (.v zC .e)))))) ?_) | (refine zY.at_ 23 rfl ?_; refine zY.rc (.v wR (.v yK (.v yK (.m zT (.w zR (.v zC .e)))))) ?_) | (refine zY.in_ [26] rfl ?_; refine zY.v rfl rfl (yT (cv) rfl rfl rfl (by decide)) ?_)) | (refine zZ.is ?_; first | refine zZ.seq ?_ | (refine zZ.isR (id := 0) ?_; refine zZ.rc [0, 1, 2, 3] [4, 5, 7, 9, 11, 1000, 1001, 1002, 1003, 1004, 1005] (r := (.m m18_3 (.m zT .e))) (h := ?_)) | (refine zZ.isR (id := 1) ?_; refine zZ.rc [1, 2, 3, 4, 5] [4, 5, 7, 9, 11, 1000, 1001, 1002, 1003, 1004, 1005] (r := (.m m22_0 .e)) (h := ?_)) | (refine zZ.isR (id := 2) ?_; refine zZ.rc [1, 2, 3, 4, 5, 6] [4, 5, 7, 9, 11, 1000, 1001, 1002, 1003, 1004, 1005] (r := (.v v0_1 (.v zP (.v zS .e)))) (h := ?_)) | (refine zZ.isR (id := 3) ?_; refine zZ.rc [1, 2, 3, 4, 5, 7, 8] [4, 5, 7, 9, 11, 1000, 1001, 1002, 1003, 1004, 1005] (r := (.v zV (.v v52_5 .e))) (h := ?_)) | (refine zZ.isR (id := 5) ?_; refine zZ.rc [1, 2, 3, 4, 5, 7] [4, 5, 7, 9, 11, 1000, 1001, 1002, 1003, 1004, 1005] (r := (.v zP (.v zS .e))) (h := ?_)) | (refine zZ.isR (id := 6) ?_; refine zZ.rc [2, 3, 4, 5, 7, 9, 10] [4, 5, 7, 9, 11, 1000, 1001, 1002, 1003, 1004, 1005] (r := (.v zV (.v v42_4 .e))) (h := ?_)) | (refine zZ.isR (id := 7) ?_; refine zZ.rc [2, 3, 4, 5, 7, 9, 10] [4, 5, 7, 9, 11, 1000, 1001, 1002, 1003, 1004, 1005] (r := (.v zV (.v xQ (.w zR .e)))) (h := ?_)) | refine zZ.yO rfl bA ?_ | refine zZ.yM rfl bA ?_ | refine zZ.skip ?_ | refine zZ.ret ?_) | refine zF.n ?_ | refine zF.r ?_)
      all_goals exact .ret (x := ⟨4, false, 0, 0⟩) (s' := s0) (.inl rfl) (.p rfl (.cellN rfl rfl (by rfl) (by rfl))) (by repeat' first | exact trivial | rfl | constructor) (by unfold qG; rw [hu]; rcases hk3 with rfl | rfl | rfl <;> rfl)
    case true =>
      have hE : vkE u = 0 := by unfold vkE; rw [hu]; rfl
      rw [hE] at cv
      rw [fin f hf hkf hu] at hns ⊢
      repeat' (first | refine zY.w rfl (s_insert0 rfl rfl rfl rfl rfl rfl rfl) ?_ | refine zY.w rfl (s_insertI rfl rfl rfl rfl rfl rfl (by rfl) rfl) ?_ | (refine zY.at_ 17 rfl ?_; refine zY.v rfl rfl (by exact w_lookupT hg rfl rfl rfl rfl rfl rfl rfl (by decide)) ?_) | (refine zY.is ?_; first | refine zY.nil ?_ | (refine zY.at_ 12 rfl ?_; refine zY.rc (.v v0_1 (.v v1_1 .e)) ?_) | (refine zY.at_ 13 rfl ?_; refine zY.rc (.v wR (.v yK (.v yK (.m zT (.w zR (.v zC .e)))))) ?_) | (refine zY.at_ 23 rfl ?_; refine zY.rc (.v wR (.v yK (.v yK (.m zT (.w zR (.v zC .e)))))) ?_) | refine zY.rc (.w zR .e) ?_ | (refine zY.in_ [26] rfl ?_; refine zY.v rfl rfl (yT (cv) rfl rfl rfl (by decide)) ?_) | (refine zY.in_ [36] rfl ?_; refine zY.ofT rfl (zG.hd (i := [7, 4, 1005, 1004, 9]) (f := in_h H _ hf ht h0 hm hU) (r := fun x s e g hk => ?_) (p := fun q s e => ?_) (t := ?_)))) | (refine zZ.is ?_; first | refine zZ.seq ?_ | (refine zZ.isR (id := 0) ?_; refine zZ.rc [0, 1, 2, 3] [4, 5, 7, 9, 11, 1000, 1001, 1002, 1003, 1004, 1005] (r := (.m m18_3 (.m zT .e))) (h := ?_)) | (refine zZ.isR (id := 1) ?_; refine zZ.rc [1, 2, 3, 4, 5] [4, 5, 7, 9, 11, 1000, 1001, 1002, 1003, 1004, 1005] (r := (.m m22_0 .e)) (h := ?_)) | (refine zZ.isR (id := 2) ?_; refine zZ.rc [1, 2, 3, 4, 5, 6] [4, 5, 7, 9, 11, 1000, 1001, 1002, 1003, 1004, 1005] (r := (.v v0_1 (.v zP (.v zS .e)))) (h := ?_)) | (refine zZ.isR (id := 3) ?_; refine zZ.rc [1, 2, 3, 4, 5, 7, 8] [4, 5, 7, 9, 11, 1000, 1001, 1002, 1003, 1004, 1005] (r := (.v zV (.v v52_5 .e))) (h := ?_)) | (refine zZ.isR (id := 5) ?_; refine zZ.rc [1, 2, 3, 4, 5, 7] [4, 5, 7, 9, 11, 1000, 1001, 1002, 1003, 1004, 1005] (r := (.v zP (.v zS .e))) (h := ?_)) | (refine zZ.isR (id := 6) ?_; refine zZ.rc [2, 3, 4, 5, 7, 9, 10] [4, 5, 7, 9, 11, 1000, 1001, 1002, 1003, 1004, 1005] (r := (.v zV (.v v42_5 .e))) (h := ?_)) | (refine zZ.isR (id := 8) ?_; refine zZ.rc [2, 3, 4, 5, 7, 9] [4, 5, 7, 9, 11, 1000, 1001, 1002, 1003, 1004, 1005] (r := (.v wI (.v zS (.v v14_0 .e)))) (h := ?_)) | refine zZ.yM rfl bA ?_ | refine zZ.skip ?_ | refine zZ.ret ?_) | refine zF.n ?_ | refine zF.p ?_)
      all_goals (first | exact fun e => hns (by clear hns; simp only [run_bind, zB, zJ, Held.zW, Held.zA, Held.zQ, cond_true, cond_false, *]) | exact .pan (q := q) rfl (by repeat' first | exact trivial | rfl | constructor) (by repeat' first | exact trivial | exact ⟨_, rfl, rfl⟩ | constructor) (by simp only [run_bind, zB, zJ, Held.zW, Held.zA, Held.zQ, cond_true, cond_false, *]) | exact .ret (x := x) (by exact .inl rfl) (by exact .p rfl (.cellN rfl rfl (by rfl) (by rfl))) (by repeat' first | exact trivial | rfl | constructor) (by simp only [run_bind, zB, zJ, Held.zW, Held.zA, Held.zQ, cond_true, cond_false, *] <;> rfl))
end Go.Proofs.YtmfbamiciieooaaGreatDoor
/- What a vertex's operation asks next, of a log: the program's: contracts. -/
namespace Go.Proofs.YtmfbamiciieooaaGreatDoor
set_option maxRecDepth 100000
set_option maxHeartbeats 16000000
open Go Go.RowKit
set_option linter.unusedSimpArgs false
set_option linter.unusedVariables false
attribute [local irreducible] zY zZ Step zX Sub zD zG Fn
/-- the frame behind Run's results -/
def runVS (k u v w me t : Int) (L : List xR) : AS := { t := [(6, .ptr 6 0), (5, .ptr 5 0), (4, .ptr 4 0), (3, .ptr 3 0), (0, .clo 26 [1000, 1001, 1002]), (1, .p (logV L))], s := [(6, isB false), (5, wE 0 false 0 0), (4, accB 0 0 0 0 xY), (3, logB L), (1000, opB k u v w), (1001, yD me), (1002, yD t)] }
def runVT : List (Nat × AV) := [(0, .clo 26 [1004, 1005, 1006]), (3, .ptr 1000 0), (4, .ptr 1001 0), (5, .ptr 1002 0), (6, .ptr 1003 0)]
theorem runV_done (L : List xR) (hL : LogOK L) {t me k u v w : Int} (ht : Small t) (h0 : 0 ≤ t) (hm : Small me) {o : OutN} {j : Nat} (hr : (qG t me k u).run (qY L) 0 = .done o j) :
    FnE Tryz.prog 25 [.clo 26 [1000, 1001, 1002], .p (logV L)] [opB k u v w, yD me, yD t] (.ret (.tup ([accV 0 0 0 0 xY, outV o.e o.is o.n o.w, .val (.bool true)].map .p))) [opB k u v w, yD me, yD t] := by
  have hn := (nextV1_h (hLog L hL) (0 : Nat) (k := k) (u := u) (v := v) (w := w) ht h0 hm).done (Nat.zero_le _) hr
  have hn2 : FnE Tryz.prog 26 [.clo 47 [1000, 1001], .ptr 1003 0, .ptr 1004 0, .ptr 1005 0] [atB 0, logB L, isB false, opB k u v w, yD me, yD t] (.ret (outRN o)) [atB j, logB L, isB false, opB k u v w, yD me, yD t] := hn.2.2
  refine fn_ofD (S1 := runVS k u v w me t L) (ids := [3, 4, 5, 6, 1000, 1001, 1002]) (Bi := [logB L, accB 0 0 0 0 xY, wE 0 false 0 0, isB false, opB k u v w, yD me, yD t]) (Bi' := [logB L, accB 0 0 0 0 xY, wE o.e o.is o.n o.w, isB true, opB k u v w, yD me, yD t]) (T := runVT) (dj := [1001, 1002, 1003])
    Tryz.func25 rfl Tryz.ntmps25 (Nat.le_of_ble_eq_true rfl) (by decide) ?_ rfl rfl (by decide) rfl (by rfl) rfl rfl rfl (by rfl) (by rfl) (vT (by decide) rfl (by repeat' first | exact trivial | rfl | constructor)) rfl rfl rfl (by
      intro p hp
      simp only [runVT, List.mem_cons, List.not_mem_nil, or_false] at hp
      rcases hp with rfl | rfl | rfl | rfl | rfl <;> exact ⟨rfl, by decide⟩) ?_ rfl rfl (wU (by repeat' first | exact trivial | rfl | constructor))
  case refine_1 =>
    repeat' (first | (refine zY.nil ?_) | (refine zZ.is ?_; (refine zZ.isR (id := 0) ?_; refine zZ.rc [0, 1] [3, 4, 5, 6, 7, 1000, 1001, 1002] (r := (.m m18_2 (.m zT (.m zT (.m zT .e))))) (h := ?_))))
    exact ⟨rfl, rfl⟩
  case refine_2 =>
    unfold runVT
    repeat' (first | (refine zY.is ?_; first | refine zY.nil ?_ | refine zY.rc (.w zR .e) ?_ | (refine zY.in_ [11] rfl ?_; refine zY.ofT rfl (zG.eR [7, 1000, 1003, 1004, 1005, 1006] (hn2) ?_))) | (refine zZ.is ?_; first | refine zZ.seq ?_ | (refine zZ.isR (id := 2) ?_; refine zZ.rc [0, 3, 4, 5, 6] [3, 4, 5, 6, 7, 1000, 1001, 1002, 1003, 1004, 1005, 1006] (r := (.m zT (.w zR .e))) (h := ?_)) | (refine zZ.isR (id := 3) ?_; refine zZ.rc [0, 3, 4, 5, 6, 7] [3, 4, 5, 6, 7, 1000, 1001, 1002, 1003, 1004, 1005, 1006] (r := (.v xC (.v v14_0 .e))) (h := ?_)) | (refine zZ.isR (id := 4) ?_; refine zZ.rk [4, 5, 6] [3, 4, 5, 6, 7, 1000, 1001, 1002, 1003, 1004, 1005, 1006] ?_; refine zZ.drawGo (by kernel_rfl) ?_) | refine zZ.ret ?_) | (refine DGo.at_ [] ?_; refine DGo.all [0, 1] (by kernel_rfl) ?_) | (refine DGo.at_ [1] ?_; refine DGo.all [0] (by kernel_rfl) ?_) | (refine DGo.at_ [0, 1] ?_; refine DGo.all [2] (by kernel_rfl) ?_) | (refine DGo.at_ [2, 0, 1] ?_; refine DGo.all [3] (by kernel_rfl) ?_) | (refine DGo.at_ [3, 2, 0, 1] ?_; refine DGo.all [4] (by kernel_rfl) ?_) | (refine DGo.at_ [4, 3, 2, 0, 1] ?_; refine DGo.fin (by kernel_rfl) ?_) | (refine DGo.at_ [0] ?_; refine DGo.all [1, 2] (by kernel_rfl) ?_) | (refine DGo.at_ [2, 0] ?_; refine DGo.all [1] (by kernel_rfl) ?_) | (refine DGo.at_ [1, 2, 0] ?_; refine DGo.all [3] (by kernel_rfl) ?_) | (refine DGo.at_ [3, 1, 2, 0] ?_; refine DGo.all [4] (by kernel_rfl) ?_) | (refine DGo.at_ [4, 3, 1, 2, 0] ?_; refine DGo.fin (by kernel_rfl) ?_) | (refine DGo.at_ [1, 0] ?_; refine DGo.all [2] (by kernel_rfl) ?_) | (refine DGo.at_ [2, 1, 0] ?_; refine DGo.all [3] (by kernel_rfl) ?_) | (refine DGo.at_ [3, 2, 1, 0] ?_; refine DGo.all [4] (by kernel_rfl) ?_) | (refine DGo.at_ [4, 3, 2, 1, 0] ?_; refine DGo.fin (by kernel_rfl) ?_) | refine zH.cons ?_ ?_ | exact zH.nil | (refine zL.at_ 0 ?_; refine zL.v rfl rfl rfl (w_build rfl (by rfl) (by rfl) (by rfl) (by rfl) rfl (by decide)) ?_) | (refine zL.at_ 1 ?_; refine zL.v rfl rfl rfl (yP rfl rfl rfl (by rfl) (by rfl) rfl (by decide)) ?_) | (refine zL.at_ 2 ?_; refine zL.w rfl rfl (by exact yN rfl rfl rfl rfl rfl (by rfl) (by exact Nat.le_of_ble_eq_true rfl) rfl rfl) ?_) | (refine zL.at_ 3 ?_; refine zL.w rfl rfl (by exact yN rfl rfl rfl rfl rfl (by rfl) (by exact Nat.le_of_ble_eq_true rfl) rfl rfl) ?_) | (refine zL.at_ 4 ?_; refine zL.w rfl rfl (by exact yN rfl rfl rfl rfl rfl (by rfl) (by exact Nat.le_of_ble_eq_true rfl) rfl rfl) ?_))
    all_goals exact ⟨_, _, _, run1_none o.e o.is o.n o.w true, .inl ⟨rfl, by first | exact .inl rfl | exact .inr rfl⟩, vT (by decide) rfl (by repeat' first | exact trivial | rfl | constructor), rfl, rfl, .tup rfl (by decide) (.cons (.cellN rfl rfl (by rfl) (by rfl)) (.cons (.cellN rfl rfl (by rfl) (by rfl)) (.cons (.cell1 rfl rfl rfl) .nil))), wU (by repeat' first | exact trivial | rfl | constructor)⟩
theorem runV_need (L : List xR) (hL : LogOK L) {t me k u v w : Int} (ht : Small t) (h0 : 0 ≤ t) (hm : Small me) {q : Ned} {j : Nat} (hr : (qG t me k u).run (qY L) 0 = .need q j) :
    FnE Tryz.prog 25 [.clo 26 [1000, 1001, 1002], .p (logV L)] [opB k u v w, yD me, yD t] (.ret (.tup ([accQ q, outV 0 false 0 0, .val (.bool false)].map .p))) [(opB k u v w).forget, (yD me).forget, (yD t).forget] := by
  have hn := (nextV1_h (hLog L hL) (0 : Nat) (k := k) (u := u) (v := v) (w := w) ht h0 hm).need (Nat.zero_le _) hr
  have hn2 : FnE Tryz.prog 26 [.clo 47 [1000, 1001], .ptr 1003 0, .ptr 1004 0, .ptr 1005 0] [atB 0, logB L, isB false, opB k u v w, yD me, yD t] (.pan (needA (accQ q))) [atB j, logB L, isB false, (opB k u v w).forget, (yD me).forget, (yD t).forget] := hn.2
  unfold accQ at hn2 ⊢
  refine fn_ofD (S1 := runVS k u v w me t L) (ids := [3, 4, 5, 6, 1000, 1001, 1002]) (Bi := [logB L, accB 0 0 0 0 xY, wE 0 false 0 0, isB false, opB k u v w, yD me, yD t]) (Bi' := [logB L, accB q.kind q.cell q.a q.b q.d, wE 0 false 0 0, isB false, (opB k u v w).forget, (yD me).forget, (yD t).forget]) (T := runVT) (dj := [1001, 1002, 1003])
    Tryz.func25 rfl Tryz.ntmps25 (Nat.le_of_ble_eq_true rfl) (by decide) ?_ rfl rfl (by decide) rfl (by rfl) rfl rfl rfl (by rfl) (by rfl) (vT (by decide) rfl (by repeat' first | exact trivial | rfl | constructor)) rfl rfl rfl (by
      intro p hp
      simp only [runVT, List.mem_cons, List.not_mem_nil, or_false] at hp
      rcases hp with rfl | rfl | rfl | rfl | rfl <;> exact ⟨rfl, by decide⟩) ?_ rfl rfl (wU (by repeat' first | exact trivial | rfl | constructor))
  case refine_1 =>
    repeat' (first | (refine zY.nil ?_) | (refine zZ.is ?_; (refine zZ.isR (id := 0) ?_; refine zZ.rc [0, 1] [3, 4, 5, 6, 7, 1000, 1001, 1002] (r := (.m m18_2 (.m zT (.m zT (.m zT .e))))) (h := ?_))))
    exact ⟨rfl, rfl⟩
  case refine_2 =>
    unfold runVT
    repeat' (first | (refine zY.is ?_; first | refine zY.nil ?_ | (refine zY.in_ [11] rfl ?_; refine zY.ofT rfl (zG.eP [7, 1000, 1003, 1004, 1005, 1006] (hn2) ?_))) | (refine zZ.is ?_; first | refine zZ.seq ?_ | (refine zZ.isR (id := 2) ?_; refine zZ.rc [0, 3, 4, 5, 6] [3, 4, 5, 6, 7, 1000, 1001, 1002, 1003, 1004, 1005, 1006] (r := (.m zT (.w zR .e))) (h := ?_)) | (refine zZ.isR (id := 3) ?_; refine zZ.rc [0, 3, 4, 5, 6, 7] [3, 4, 5, 6, 7, 1000, 1001, 1002, 1003, 1004, 1005, 1006] (r := (.v xC (.v v14_0 .e))) (h := ?_))))
    all_goals exact ⟨_, _, _, run1_need q.kind q.cell q.a q.b q.d 0 false 0 0 false, .inr ⟨_, rfl, rfl, rfl⟩, vT (by decide) rfl (by repeat' first | exact trivial | rfl | constructor), rfl, rfl, .tup rfl (by decide) (.cons (.cellN rfl rfl (by rfl) (by rfl)) (.cons (.cellN rfl rfl (by rfl) (by rfl)) (.cons (.cell1 rfl rfl rfl) .nil))), wU (by repeat' first | exact trivial | rfl | constructor)⟩
theorem nextV_done (L : List xR) (hL : LogOK L) {t me : Int} (c : Int) {k u v w : Int} (ht : Small t) (h0 : 0 ≤ t) (hm : Small me) {o : OutN} {j : Nat} (hr : (qG t me k u).run (qY L) 0 = .done o j) :
    Fn Tryz.prog 12 [.val (.int .i64 t), .val (.int .i64 c), .val (.int .i64 me), opV k u v w, logV L] (.tup [accV 0 0 0 0 xY, outV o.e o.is o.n o.w, .val (.bool true)]) := by
  have hr := runV_done L hL (v := v) (w := w) ht h0 hm hr
  refine yR Tryz.func12 rfl Tryz.ntmps12 (Nat.le_of_ble_eq_true rfl) ?_
  repeat' (first | (refine zY.is ?_; first | refine zY.nil ?_ | (refine zY.at_ 16 rfl ?_; refine zY.rc (.v yK (.v yK (.v yK (.w zR (.w zR (.v zC .e)))))) ?_) | (refine zY.in_ [15] rfl ?_; refine zY.ofT rfl (zG.eR [8, 7, 5] (hr) ?_))) | (refine zZ.is ?_; first | refine zZ.seq ?_ | (refine zZ.isR (id := 0) ?_; refine zZ.rc [0, 2, 3, 4] [5, 7, 8, 10, 11] (r := (.m m18_1 (.m m18_1 (.m y9 (.m zT (.m zT (.v zC .e))))))) (h := ?_)) | (refine zZ.isR (id := 1) ?_; refine zZ.rc [4, 5, 7, 8, 10, 11, 12] [5, 7, 8, 10, 11] (r := (.v v14_0 (.v zV .e))) (h := ?_)) | refine zZ.ret ?_))
  all_goals exact ⟨by first | exact .inl rfl | exact .inr rfl, _, Sub.refl _, .tupE rfl (by decide) (.cons (.cellN rfl rfl (by rfl) (by rfl)) (.cons (.cellN rfl rfl (by rfl) (by rfl)) (.cons (.tmp rfl) .nil))) rfl⟩
theorem nextV_need (L : List xR) (hL : LogOK L) {t me : Int} (c : Int) {k u v w : Int} (ht : Small t) (h0 : 0 ≤ t) (hm : Small me) {q : Ned} {j : Nat} (hr : (qG t me k u).run (qY L) 0 = .need q j) :
    Fn Tryz.prog 12 [.val (.int .i64 t), .val (.int .i64 c), .val (.int .i64 me), opV k u v w, logV L] (.tup [accQ q, outV 0 false 0 0, .val (.bool false)]) := by
  have hr := runV_need L hL (v := v) (w := w) ht h0 hm hr
  unfold accQ at hr ⊢
  refine yR Tryz.func12 rfl Tryz.ntmps12 (Nat.le_of_ble_eq_true rfl) ?_
  repeat' (first | (refine zY.is ?_; first | refine zY.nil ?_ | (refine zY.at_ 16 rfl ?_; refine zY.rc (.v yK (.v yK (.v yK (.w zR (.w zR (.v zC .e)))))) ?_) | (refine zY.in_ [15] rfl ?_; refine zY.ofT rfl (zG.eR [8, 7, 5] (hr) ?_))) | (refine zZ.is ?_; first | refine zZ.seq ?_ | (refine zZ.isR (id := 0) ?_; refine zZ.rc [0, 2, 3, 4] [5, 7, 8, 10, 11] (r := (.m m18_1 (.m m18_1 (.m y9 (.m zT (.m zT (.v zC .e))))))) (h := ?_)) | (refine zZ.isR (id := 1) ?_; refine zZ.rc [4, 5, 7, 8, 10, 11, 12] [5, 7, 8, 10, 11] (r := (.v v14_0 (.v zV .e))) (h := ?_)) | refine zZ.ret ?_))
  all_goals exact ⟨by first | exact .inl rfl | exact .inr rfl, _, Sub.refl _, .tupE rfl (by decide) (.cons (.cellN rfl rfl (by rfl) (by rfl)) (.cons (.cellN rfl rfl (by rfl) (by rfl)) (.cons (.tmp rfl) .nil))) rfl⟩
end Go.Proofs.YtmfbamiciieooaaGreatDoor
/- An operation that steps alone (law 15), as a tree in a world: contract. -/
namespace Go.Proofs.YtmfbamiciieooaaGreatDoor
set_option maxRecDepth 100000
set_option maxHeartbeats 16000000
open Go Go.RowKit
set_option linter.unusedSimpArgs false
set_option linter.unusedVariables false
attribute [local irreducible] zY zZ Step zX Sub zD zG Fn zF zO
structure AlSt where
  n : Nat
  W : Wd
  L : List xR
  p : Pr OutN
def noFail (_ : Nat) : Bool := false
end Go.Proofs.YtmfbamiciieooaaGreatDoor
/- An operation that steps alone (law 16), as a tree in a world: contract. -/
namespace Go.Proofs.YtmfbamiciieooaaGreatDoor
set_option maxRecDepth 100000
set_option maxHeartbeats 16000000
open Go Go.RowKit
set_option linter.unusedSimpArgs false
set_option linter.unusedVariables false
attribute [local irreducible] zY zZ Step zX Sub zD zG Fn zF zO
def aloneVS (me : Nat) (k u v w : Int) (most : Int) (s : AlSt) : AS :=
  { t := [(1, .p (.val (.int .i64 me))), (3, .p (.val (.int .i64 most))), (4, .ptr 4 0), (6, .ptr 6 0), (8, .ptr 8 0), (9, .ptr 9 0), (10, .p (.val (.bool false))), (11, .own 11), (12, .p (.val (.int .i64 (s.n : Nat))))],
    s := [(4, .box 33 (s.W.pv.cells.map AV.p)), (6, .box 37 ((opV k u v w).cells.map AV.p)), (8, .box 33 ([.val (.int .i64 0), .val (.int .i64 0), xY, .val (.int .u64 0), xY, xY].map AV.p)),
      (9, .box 41 ((outV 0 false 0 0).cells.map AV.p)), (11, lentV 55 3 (s.L.map resV))] }
theorem nextV_needW (L : List xR) (hL : LogOK L) {t me : Int} (c : Int) {k u v w : Int} (ht : Small t) (h0 : 0 ≤ t) (hm : Small me) {q : Ned} {j : Nat} (hr : (qG t me k u).run (qY L) 0 = .need q j) (hq : Asked q) :
    Fn Tryz.prog 12 [.val (.int .i64 t), .val (.int .i64 c), .val (.int .i64 me), opV k u v w, logV L] (.tup [accV q.kind q.cell q.a q.b (.sl (byts (qH q.d))), outV 0 false 0 0, .val (.bool false)]) := by
  refine (nextV_need L hL c (v := v) (w := w) ht h0 hm hr).weakT (.cons (.agg (.cons (.refl _) (.cons (.refl _) (.cons (.refl _) (.cons (.refl _) (.cons ?_ (.cons (.refl _) .nil))))))) (.cons (.refl _) (.cons (.refl _) .nil)))
  rcases hq.d with ⟨_, e⟩ | ⟨_, bs, _, _, e⟩
  · rw [e]; exact .nil
  · rw [e, bytsOf_byts]; exact .refl _
theorem aloneV_fn (B : Nat) (W W' : Wd) (me : Nat) (k u v w : Int) (most : Nat) (m : Nat) (o : OutN) (hW : WdOK B W) (ht0 : Small W.t) (h0t : 0 ≤ W.t) (hme : me < W.r0.length)
    (hr : (qG W.t me k u).run (wSt me noFail) (W, 0) = .done o (W', m)) (hmm : m ≤ most) (h1000 : most ≤ 1000) (hB : B ≤ 70000000) (hB2 : B + 1000 * most ≤ 90000000) :
    Fn Tryz.prog 10 [W.pv, .val (.int .i64 me), opV k u v w, .val (.int .i64 most)] (.tup [W'.pv, outV o.e o.is o.n o.w, .val (.bool true)]) := by
  have hfine := fine_vop W.t me k u
  obtain ⟨t, c, ws, root, r0, r1⟩ := W
  have hme : me < r0.length := hme
  have ht0 : Small t := ht0
  have h0t : 0 ≤ t := h0t
  have hms : Small ((me : Nat) : Int) := ⟨by omega, by have h1 : r0.length ≤ 1000000 := hW.rows; omega⟩
  refine yR Tryz.func10 rfl Tryz.ntmps10 (Nat.le_of_ble_eq_true rfl) ?_
  repeat' (first | (refine zY.nil ?_) | (refine zZ.is ?_; first | refine zZ.seq ?_ | (refine zZ.isR (id := 0) ?_; refine zZ.rc [0, 1, 2, 3] [4, 6, 8, 9, 11, 13, 14, 16, 17, 50] (r := (.m y9 (.m y9 (.m zT (.m zT (.v zC .e)))))) (h := ?_)) | (refine zZ.isR (id := 1) ?_; refine zZ.rc [1, 3, 4, 6, 8, 9, 10] [4, 6, 8, 9, 11, 13, 14, 16, 17, 50] (r := (.v zC .e)) (h := ?_)) | (refine zZ.isR (id := 2) ?_; refine zZ.rc [1, 3, 4, 6, 8, 9, 10, 11] [4, 6, 8, 9, 11, 13, 14, 16, 17, 50] (r := (.v zC .e)) (h := ?_)) | refine zZ.block ?_) | refine zF.n ?_)
  refine zZ.loop (fun s => aloneVS me k u v w most s) (fun s => s.n ≤ m ∧ s.W.t = t ∧ s.W.r0.length = r0.length ∧ WdOK (B + 1000 * s.n) s.W ∧ s.L.length = s.n ∧ (∀ r ∈ s.L, U r.n) ∧ (qG t me k u).after s.L = some s.p ∧ s.p.wM yes (many - s.n) ∧ s.p.run (wSt me noFail) (s.W, s.n) = .done o (W', m)) (fun s => most + 1 - s.n) ⟨0, ⟨t, c, ws, root, r0, r1⟩, [], qG t me k u⟩ ?h0
    ⟨Nat.zero_le _, rfl, rfl, hW, rfl, (fun r h => by simp at h), (by cases qG t me k u <;> rfl), hfine, hr⟩ ?rd
  case h0 =>
    refine (sub_adopt (d := 11) (id := 11) (ty := 55) (sz := 3) (by decide) rfl).trans ?_
    refine (vC (id := 11) (b := .row 55 3 0 []) (b' := qB 55 3 []) (by rfl) (qQ 55 3 [])).sub.trans ?_
    refine (sub_lend (id := 11) (e := 55) (sz := 3) (es := []) (by rfl)).trans ?_
    exact z8 K_1a K_1b
  case rd =>
    rintro ⟨n, W, L, p⟩ ⟨hn, ht, hrl, hok, hl, hru, haf, hfi, hrun⟩
    dsimp only at hn ht hrl hok hl hru haf hfi hrun
    obtain ⟨t', c', ws', root', r0', r1'⟩ := W
    have ht : t' = t := ht
    subst ht
    change zZ _ _ _ (aloneVS me k u v w most ⟨n, ⟨t', c', ws', root', r0', r1'⟩, L, p⟩) _
    unfold aloneVS
    dsimp only
    have g1 : decide ((n : Int) ≤ most) = true := decide_eq_true (by omega)
    repeat' (first | (refine zY.nil ?_) | (refine zZ.is ?_; first | refine zZ.seq ?_ | (refine zZ.isR (id := 3) ?_; refine zZ.rc [1, 3, 4, 6, 8, 9, 10, 11, 12, 13, 14, 15, 16, 17, 20, 37] [4, 6, 8, 9, 11, 13, 14, 16, 17, 50] (r := (.v zV (.v zV (.v v44_0 .e)))) (h := ?_)) | (refine zZ.isR (id := 5) ?_; refine zZ.rc [1, 3, 4, 6, 8, 9, 10, 11, 12, 13, 14, 15, 16, 17, 20, 37] [4, 6, 8, 9, 11, 13, 14, 16, 17, 50] (r := (.v zP (.v zP (.v zS (.v zP (.v zP (.v zS (.v zV (.v wQ (.v v0_1 .e)))))))))) (h := ?_)) | refine zZ.yO rfl bA ?_ | refine zZ.skip ?_ | refine zZ.block ?_) | refine zF.n ?_)
    refine zY.sub (sub_view (d := 32) (id := 11) (e := 55) (sz := 3) (es := L.map resV) rfl rfl) ?_
    have hL : LogOK L := ⟨by omega, hru⟩
    cases p with
    | stuck => cases hrun
    | ret o' =>
      rw [zB] at hrun
      injection hrun with e1 e2
      injection e2 with e2 e3
      subst e1 e2
      have c1 := nextV_done L hL c' (v := v) (w := w) ht0 h0t hms (after_done haf)
      repeat' (first | (refine zY.is ?_; first | refine zY.nil ?_ | (refine zY.at_ 23 rfl ?_; refine zY.rc (.v wR (.v yK (.v yK (.v yK (.m zT (.m zT (.w zR (.w zR (.v zC .e))))))))) ?_) | (refine zY.in_ [33] rfl ?_; refine zY.v rfl rfl (yT (c1) rfl rfl rfl (by decide)) ?_)) | (refine zZ.is ?_; first | refine zZ.seq ?_ | (refine zZ.isR (id := 6) ?_; refine zZ.rc [1, 3, 4, 6, 8, 9, 10, 11, 12, 13, 14, 15, 16, 17, 20, 37] [4, 6, 8, 9, 11, 13, 14, 16, 17, 50] (r := (.v zV .e)) (h := ?_)) | (refine zZ.isR (id := 7) ?_; refine zZ.rk [1, 3, 4, 6, 8, 9, 10, 11, 12, 13, 14, 15, 16, 17, 20, 37] [4, 6, 8, 9, 11, 13, 14, 16, 17, 50] ?_; refine zZ.drawGo (by kernel_rfl) ?_) | refine zZ.yO rfl bA ?_ | refine zZ.ret ?_) | refine zF.n ?_ | refine zF.r ?_ | refine zO.r ?_ | (refine DGo.at_ [] ?_; refine DGo.all [0, 1] (by kernel_rfl) ?_) | (refine DGo.at_ [1] ?_; refine DGo.all [0] (by kernel_rfl) ?_) | (refine DGo.at_ [0, 1] ?_; refine DGo.all [2] (by kernel_rfl) ?_) | (refine DGo.at_ [2, 0, 1] ?_; refine DGo.all [3] (by kernel_rfl) ?_) | (refine DGo.at_ [3, 2, 0, 1] ?_; refine DGo.fr 4 ?_) | (refine DGo.at_ [4, 3, 2, 0, 1] ?_; refine DGo.fin (by kernel_rfl) ?_) | (refine DGo.at_ [0] ?_; refine DGo.all [1, 2] (by kernel_rfl) ?_) | (refine DGo.at_ [2, 0] ?_; refine DGo.all [1] (by kernel_rfl) ?_) | (refine DGo.at_ [1, 2, 0] ?_; refine DGo.all [3] (by kernel_rfl) ?_) | (refine DGo.at_ [3, 1, 2, 0] ?_; refine DGo.fr 4 ?_) | (refine DGo.at_ [4, 3, 1, 2, 0] ?_; refine DGo.fin (by kernel_rfl) ?_) | (refine DGo.at_ [1, 0] ?_; refine DGo.all [2] (by kernel_rfl) ?_) | (refine DGo.at_ [2, 1, 0] ?_; refine DGo.all [3] (by kernel_rfl) ?_) | (refine DGo.at_ [3, 2, 1, 0] ?_; refine DGo.fr 4 ?_) | (refine DGo.at_ [4, 3, 2, 1, 0] ?_; refine DGo.fin (by kernel_rfl) ?_) | refine zH.cons ?_ ?_ | exact zH.nil | (refine zL.at_ 0 ?_; refine zL.v rfl rfl rfl (yP rfl rfl rfl (by rfl) (by rfl) rfl (by decide)) ?_) | (refine zL.at_ 1 ?_; refine zL.v rfl rfl rfl (yP rfl rfl rfl (by rfl) (by rfl) rfl (by decide)) ?_) | (refine zL.at_ 2 ?_; refine zL.w rfl rfl (by exact yN rfl rfl rfl rfl rfl (by rfl) (by exact Nat.le_of_ble_eq_true rfl) rfl rfl) ?_) | (refine zL.at_ 3 ?_; refine zL.w rfl rfl (by exact yN rfl rfl rfl rfl rfl (by rfl) (by exact Nat.le_of_ble_eq_true rfl) rfl rfl) ?_))
      all_goals exact ⟨by first | exact .inl rfl | exact .inr rfl, _, Sub.refl _, .tup (rs := [.cell 8 33, .cell 9 41, .tmp 10]) (l := [Wd.pv ⟨t', c', ws', root', r0', r1'⟩, outV o'.e o'.is o'.n o'.w, .val (.bool true)]) rfl (by decide) (.cons (.cellN rfl rfl (by rfl) (by rfl)) (.cons (.cellN rfl rfl (by rfl) (by rfl)) (.cons (.tmp rfl) .nil)))⟩
    | ask q kq =>
      have hq : Asked q := hfi.1
      rw [qP] at hrun
      have hrun2 : (kq (doX ⟨t', c', ws', root', r0', r1'⟩ me q false).2).run (wSt me noFail) ((doX ⟨t', c', ws', root', r0', r1'⟩ me q false).1, n + 1) = .done o (W', m) := hrun
      have hle := wSt_le hrun2
      dsimp only at hle
      have c1 := nextV_needW L hL c' (v := v) (w := w) ht0 h0t hms (after_need haf) hq
      have hdo := doX_ok hok hq me false
      have hkeep := doX_keeps ⟨t', c', ws', root', r0', r1'⟩ me q false
      have hme' : me < r0'.length := by have : r0'.length = r0.length := hrl; omega
      have c2 := doX_fn hok (by omega) hq (me := me) hme' false
      have haf2 := after_snoc (doX ⟨t', c', ws', root', r0', r1'⟩ me q false).2 haf
      generalize hde : doX ⟨t', c', ws', root', r0', r1'⟩ me q false = dd at *
      obtain ⟨W2, r⟩ := dd
      dsimp only at hrun2 hle c2 hdo hkeep haf2
      have g3 : IntKind.i64.wrap ((n : Int) + 1) = ((n + 1 : Nat) : Int) := by rw [wrap_i64 _ (by omega)]; omega
      have g4 : ∀ e ∈ L.map resV, e.cells.length = 3 := resV_cells L
      have g5 : ∀ e ∈ [resV r], e.cells.length = 3 := fun e he => by simp at he; subst he; rfl
      have g10 : ((L.map resV).length + ([resV r] : List PV).length) * 40 ≤ 140737488355328 ∧ (L.map resV).length + ([resV r] : List PV).length ≤ maxLen := by
        simp only [List.length_map, List.length_cons, List.length_nil, maxLen]
        omega
      have hnext : n + 1 ≤ m ∧ W2.t = t' ∧ W2.r0.length = r0.length ∧ WdOK (B + 1000 * (n + 1)) W2 ∧ (L ++ [r]).length = n + 1 ∧ (∀ x ∈ L ++ [r], U x.n) ∧ (qG t' me k u).after (L ++ [r]) = some (kq r) ∧ (kq r).wM yes (many - (n + 1)) ∧ (kq r).run (wSt me noFail) (W2, n + 1) = .done o (W', m) :=
        ⟨hle, hkeep.1, hkeep.2.2.1.trans hrl, hdo.1.le (by omega), by simp [hl], (fun x hx => by
          rcases List.mem_append.1 hx with hx | hx
          · exact hru x hx
          · simp at hx; subst hx; exact hdo.2), haf2, Pr.wM.le (by omega) (hfi.2 r hdo.2), hrun2⟩
      have ps_ := trivial
      repeat' (first | (refine zY.is ?_; first | refine zY.nil ?_ | (refine zY.at_ 23 rfl ?_; refine zY.rc (.v wR (.v yK (.v yK (.v yK (.m zT (.m zT (.w zR (.w zR (.v zC .e))))))))) ?_) | (refine zY.at_ 40 rfl ?_; refine zY.rc (.v wR (.v yK (.v yK (.m zT (.m zT (.w zR (.w zR .e))))))) ?_) | (refine zY.in_ [33] rfl ?_; refine zY.v rfl rfl (yT (c1) rfl rfl rfl (by decide)) ?_) | (refine zY.in_ [44] rfl ?_; refine zY.v rfl rfl (yT (c2) rfl rfl rfl (by decide)) ?_)) | (refine zZ.is ?_; first | refine zZ.seq ?_ | (refine zZ.isR (id := 6) ?_; refine zZ.rc [1, 3, 4, 6, 8, 9, 10, 11, 12, 13, 14, 15, 16, 17, 20, 37] [4, 6, 8, 9, 11, 13, 14, 16, 17, 50] (r := (.v zV .e)) (h := ?_)) | (refine zZ.isR (id := 8) ?_; refine zZ.rc [1, 3, 4, 6, 8, 9, 10, 11, 12, 13, 14, 15, 16, 17, 20, 37] [4, 6, 8, 9, 11, 13, 14, 16, 17, 50] (r := (.v wQ (.v zV (.v wQ .e)))) (h := ?_)) | (refine zZ.isR (id := 9) ?_; refine zZ.rc [1, 3, 4, 6, 8, 9, 10, 11, 12, 13, 14, 15, 16, 17, 20, 37] [4, 6, 8, 9, 11, 13, 14, 16, 17, 50] (r := (.v wQ (.w zR .e))) (h := ?_)) | (refine zZ.isR (id := 10) ?_; refine zZ.rc [1, 3, 4, 6, 8, 9, 10, 11, 12, 13, 14, 15, 16, 17, 20, 37] [4, 6, 8, 9, 11, 13, 14, 16, 17, 50] (r := (.v v0_1 (.v wQ (.v v20_0 (.w w55_3 (.v v1_1 .e)))))) (h := ?_)) | (refine zZ.isR (id := 4) ?_; refine zZ.rc [1, 3, 4, 6, 8, 9, 10, 11, 12, 13, 14, 15, 16, 17, 20, 37] [4, 6, 8, 9, 11, 13, 14, 16, 17, 50] (r := (.v zV (.v vV (.v zC .e)))) (h := ?_)) | refine zZ.yM rfl bA ?_ | refine zZ.skip ?_) | refine zF.n ?_ | refine zO.n ?_)
      all_goals
        refine ⟨⟨n + 1, W2, L ++ [r], kq r⟩, ?_, hnext, by dsimp only; omega⟩
        show Sub _ (aloneVS me k u v w most ⟨n + 1, W2, L ++ [r], kq r⟩)
        unfold aloneVS
        dsimp only
        rw [List.map_append]
        exact z8 K_1a K_1b
end Go.Proofs.YtmfbamiciieooaaGreatDoor
/- New disks (reference): contract. -/
namespace Go.Proofs.YtmfbamiciieooaaGreatDoor
set_option maxRecDepth 100000
set_option maxHeartbeats 16000000
open Go Go.RowKit
set_option linter.unusedSimpArgs false
attribute [local irreducible] zY zZ Step zX Sub zD zG Fn
def zStr : PV := .agg [.val (.slice none 0 0), .val (.int .i64 0)]
theorem flat_zs : ∀ t : Nat, PL0s (flat (List.replicate t zStr)) (flat (strs (List.replicate t ([], 0))))
  | 0 => .nil
  | t + 1 => .cons .nil (.cons (.refl _) (flat_zs t))
theorem zStr_cells (t : Nat) : ∀ e ∈ List.replicate t zStr, e.cells.length = 2 := fun e he => by
  rw [List.eq_of_mem_replicate he]
  rfl
theorem new7_fn (t : Nat) (h1 : 1 ≤ t) (h64 : t ≤ 64) : Fn Tryz.prog 24 [.val (.int .i64 t)] (.tup [vQ 0 (List.replicate t ([], 0)) (List.replicate t ([], 0)), .val (.int .i64 0)]) := by
  have g1 : decide ((t : Int) < 1) = false := decide_eq_false (by omega)
  have g2 : decide ((64 : Int) < t) = false := decide_eq_false (by omega)
  have g3 : t * 2 ≤ 16777216 ∧ 32 * t ≤ 281474976710656 ∧ t ≤ maxLen := by simp only [maxLen]; omega
  have g4 := zStr_cells t
  refine Fn.weakT (l := [.agg [.val (.int .u64 0), .sl (List.replicate t zStr), .sl (List.replicate t zStr)], .val (.int .i64 0)]) ?_ (.cons (.agg (.cons (.refl _) (.cons (.sl (by simp [strs]) (flat_zs t)) (.cons (.sl (by simp [strs]) (flat_zs t)) .nil)))) (.cons (.refl _) .nil))
  refine yR Tryz.func24 rfl Tryz.ntmps24 (Nat.le_of_ble_eq_true rfl) ?_
  repeat' ((refine zZ.is ?_; first | refine zZ.seq ?_ | (refine zZ.iq 0 ?_; refine zZ.rqe _ K_q K_e ?_; (refine zY.m rfl rfl (w_alloc rfl (by decide) rfl (by decide)) ?_); (refine zY.v rfl rfl (xB rfl rfl rfl (by decide)) ?_); refine zY.nil ?_) | (refine zZ.iq 1 ?_; refine zZ.rqc _ K_1c K_e ?_; all_goals (refine zY.v rfl rfl (xO rfl rfl rfl (by decide)) ?_); all_goals (refine zY.v rfl rfl (by exact r_lss rfl rfl rfl (by exact g1) rfl (by decide)) ?_); all_goals (refine zY.v rfl rfl (xO rfl rfl rfl (by decide)) ?_); all_goals (refine zY.gY rfl rfl (by decide) rfl (by with_reducible rfl) rfl (by decide) (xO rfl rfl rfl (by decide)) ?_); all_goals (refine zY.gY rfl rfl (by decide) rfl (by with_reducible rfl) rfl (by decide) (by exact r_gtr rfl rfl rfl (by exact g2) rfl (by decide)) ?_); all_goals (refine zY.v rfl rfl (by exact w_pickN rfl rfl (by with_reducible rfl) rfl rfl (by decide)) ?_); all_goals (refine zY.nil ?_)) | (refine zZ.iq 3 ?_; refine zZ.rqc _ K_1c K_e ?_; (refine zY.m rfl rfl (w_alloc rfl (by decide) rfl (by decide)) ?_); refine zY.nil ?_) | (refine zZ.iq 4 ?_; refine zZ.rqc _ K_1n K_e ?_; (refine zY.v rfl rfl (xO rfl rfl rfl (by decide)) ?_); (refine zY.m rfl rfl (by exact w_makeVN rfl rfl rfl (by exact g3) rfl (by decide) (by rfl) rfl (by decide)) ?_); (refine zY.v rfl rfl (w_fieldR rfl rfl rfl (by decide)) ?_); (refine zY.v rfl rfl (by exact w_idxArr rfl rfl rfl (by omega) rfl (by decide)) ?_); (refine zY.w rfl (by exact w_storeO rfl rfl rfl rfl rfl rfl (by exact Nat.le_of_ble_eq_true rfl) rfl rfl) ?_); refine zY.nil ?_) | (refine zZ.isR (id := 5) ?_; refine zZ.vH [0, 2, 3, 4] [2, 4, 13, 17] (by repeat' first | exact zI.nil | apply zI.p rfl | apply zI.ptr rfl) (by repeat' first | exact zM.nil | apply zM.boxP rfl rfl | apply zM.some rfl | apply zM.skip) ?_; (refine zY.v rfl rfl (xO rfl rfl rfl (by decide)) ?_); (refine zY.m rfl rfl (by exact w_makeVN rfl rfl rfl (by exact g3) rfl (by decide) (by rfl) rfl (by decide)) ?_); (refine zY.v rfl rfl (w_fieldR rfl rfl rfl (by decide)) ?_); (refine zY.v rfl rfl (by exact w_idxArr rfl rfl rfl (by omega) rfl (by decide)) ?_); (refine zY.w rfl (by exact w_storeO rfl rfl rfl rfl rfl rfl (by exact Nat.le_of_ble_eq_true rfl) rfl rfl) ?_); refine zY.nil ?_) | (refine zZ.isR (id := 6) ?_; refine zZ.sub (sub_frz (id := 13) rfl) ?_; refine zZ.sub (sub_frz (id := 17) rfl) ?_; refine zZ.rqc _ K_b K_e ?_; (refine zY.v rfl rfl (yP rfl rfl rfl (by rfl) (by rfl) rfl (by decide)) ?_); (refine zY.w rfl (by exact yN rfl rfl rfl rfl rfl (by rfl) (by exact Nat.le_of_ble_eq_true rfl) rfl rfl) ?_); (refine zY.v rfl rfl (xB rfl rfl rfl (by decide)) ?_); refine zY.nil ?_) | refine zZ.yM rfl (by first | assumption | with_reducible rfl) ?_ | refine zZ.skip ?_ | refine zZ.ret ?_))
  all_goals exact ⟨by first | exact .inl rfl | exact .inr rfl, _, Sub.refl _, .tup (rs := [.cell 2 31, .tmp 3]) (l := [.agg [.val (.int .u64 0), .sl (List.replicate t zStr), .sl (List.replicate t zStr)], .val (.int .i64 0)]) rfl (by decide) (.cons (.cellN rfl rfl (by rfl) (by rfl)) (.cons (.tmp rfl) .nil))⟩
end Go.Proofs.YtmfbamiciieooaaGreatDoor
/- New worlds (reference), that their callers may write into: contracts. -/
namespace Go.Proofs.YtmfbamiciieooaaGreatDoor
set_option maxRecDepth 100000
set_option maxHeartbeats 16000000
open Go Go.RowKit
set_option linter.unusedSimpArgs false
attribute [local irreducible] zY zZ Step zX Sub zD zG Fn
/-- the free list's words -/
def freeW (t : Nat) : Nat → List Int → List Int
  | 0, l => l
  | k + 1, l => (freeW t k l).set (8 + t + 8 * k + 7) ((k : Int) + 2)
theorem freeW_len (t : Nat) (l : List Int) : ∀ k, (freeW t k l).length = l.length
  | 0 => rfl
  | k + 1 => by rw [freeW, List.length_set, freeW_len t l k]
def newW (t c : Nat) : List Int := freeW t (c - 1) ((List.replicate (8 + t + 8 * c) 0).set 1 1)
def newS (t c : Nat) (k : Nat) : AS :=
  { t := [(0, .p (.val (.int .i64 (t : Nat)))), (1, .p (.val (.int .i64 (c : Nat)))), (4, .ptr 4 0), (5, .p (.val (.int .i64 0))), (6, .ptr 6 0), (7, .p (.val (.int .i64 ((k + 1 : Nat) : Int))))],
    s := [(4, .box 26 ([.val (.int .i64 0), .val (.int .i64 0), .val (.slice none 0 0)].map AV.p)), (6, .box 26 [.p (.val (.int .i64 (t : Nat))), .p (.val (.int .i64 (c : Nat))), .own 30]), (30, qB 27 1 (wds (freeW t k ((List.replicate (8 + t + 8 * c) 0).set 1 1))))] }
theorem new9A_fn (t c : Nat) (h1 : 1 ≤ t) (h64 : t ≤ 64) (hc1 : 1 ≤ c) (hc : c ≤ 65536) : FnAg Tryz.prog 23 [.val (.int .i64 t), .val (.int .i64 c)] [.p (.val (.int .i64 t)), .p (.val (.int .i64 c)), .o 0] 27 1 (wds (newW t c)) (some (.int .i64 0)) := by
  have g1 : decide ((t : Int) < 1) = false := decide_eq_false (by omega)
  have g2 : decide ((64 : Int) < t) = false := decide_eq_false (by omega)
  have f1 : decide ((c : Int) < 0) = false := decide_eq_false (by omega)
  have f2 : decide ((65536 : Int) < c) = false := decide_eq_false (by omega)
  have g3 : (8 + t + 8 * c) * 1 ≤ 16777216 ∧ 8 * (8 + t + 8 * c) ≤ 281474976710656 ∧ 8 + t + 8 * c ≤ maxLen := by simp only [maxLen]; omega
  have g4 : IntKind.i64.wrap (8 + (t : Int)) = 8 + (t : Int) := wrap_i64 _ (by omega)
  have g4b : IntKind.i64.wrap (8 * (c : Int)) = 8 * (c : Int) := wrap_i64 _ (by omega)
  have g5 : IntKind.i64.wrap (8 + (t : Int) + 8 * (c : Int)) = ((8 + t + 8 * c : Nat) : Int) := by rw [wrap_i64 _ (by omega)]; omega
  have g6 : ∀ e ∈ List.replicate (8 + t + 8 * c) (PV.val (.int .u64 0)), e.cells.length = 1 := fun e he => by rw [List.eq_of_mem_replicate he]; rfl
  have g7 : (0 : Int) ≤ 1 ∧ (1 : Int) < (List.replicate (8 + t + 8 * c) (PV.val (.int .u64 0))).length := by simp; omega
  have g8 : (1 : Int).toNat < (List.replicate (8 + t + 8 * c) (PV.val (.int .u64 0))).length := by simp; omega
  have g9 : decide ((0 : Int) < c) = true := decide_eq_true (by omega)
  refine fn_ofAg Tryz.func23 rfl Tryz.ntmps23 (Nat.le_of_ble_eq_true rfl) ?_
  repeat' (first | (refine zY.at_ 31 rfl ?_; refine zY.v rfl rfl (w_buildAg 30 rfl (by rfl) (by rfl) rfl rfl (by rfl) (by rfl) rfl (by decide)) ?_) | (refine zY.is ?_; first | refine zY.nil ?_ | (refine zY.at_ 6 rfl ?_; refine zY.rc (.m zT (.w zR .e)) ?_)) | (refine zZ.is ?_; first | refine zZ.seq ?_ | (refine zZ.isR (id := 0) ?_; refine zZ.rc [0, 1] [4, 6, 30] (r := (.m zT (.v zC .e))) (h := ?_)) | (refine zZ.isR (id := 1) ?_; refine zZ.rc [0, 1, 4, 5] [4, 6, 30] (r := (.v zV (.v xJ (.v zV (.gY zV (.gY v45_0 (.v vG (.v zV (.gY zV (.gY xJ (.v vG (.v zV (.gY zV (.gY v45_0 (.v vG .e))))))))))))))) (h := ?_)) | (refine zZ.isR (id := 3) ?_; refine zZ.rc [0, 1, 4, 5] [4, 6, 30] (r := (.v zV (.v zV (.v zV (.v vV (.v zV (.v v32_0 (.v vV (.m m21_0 .e))))))))) (h := ?_)) | (refine zZ.isR (id := 4) ?_; refine zZ.rc [0, 1, 4, 5, 6] [4, 6, 30] (r := (.v zV (.v v45_0 .e))) (h := ?_)) | (refine zZ.isR (id := 5) ?_; refine zZ.rc [0, 1, 4, 5, 6] [4, 6, 30] (r := (.v zP (.v v2_8 (.v v7_38 (.w w24_1 .e))))) (h := ?_)) | (refine zZ.isR (id := 6) ?_; refine zZ.rc [0, 1, 4, 5, 6] [4, 6, 30] (r := (.v zC .e)) (h := ?_)) | refine zZ.yO rfl bA ?_ | refine zZ.yM rfl bA ?_ | refine zZ.skip ?_ | refine zZ.block ?_))
  refine zZ.loop (newS t c) (fun k => k + 1 ≤ c) (fun k => c - k) 0 ?h0 (by omega) ?rd
  case h0 =>
    have e0 : wds (freeW t 0 ((List.replicate (8 + t + 8 * c) 0).set 1 1)) = (List.replicate (8 + t + 8 * c) (PV.val (.int .u64 0))).set (1 : Int).toNat (.val (.int .u64 1)) := by simp [wds, freeW, List.map_set]
    unfold newS
    rw [e0]
    exact yH K_k K_l
  case rd =>
    rintro k hk
    have hfl : (freeW t k ((List.replicate (8 + t + 8 * c) 0).set 1 1)).length = 8 + t + 8 * c := by rw [freeW_len]; simp
    unfold newS
    by_cases hkc : k + 1 < c
    case pos =>
      have f3 : decide (((k + 1 : Nat) : Int) < c) = true := decide_eq_true (by omega)
      have c3 : Fn Tryz.prog 22 [.val (.int .i64 (t : Nat)), .val (.int .i64 ((k + 1 : Nat) : Int)), .val (.int .i64 7)] (.p (.val (.int .i64 ((8 + t + 8 * k + 7 : Nat) : Int)))) := by
        have h := fieldRef_fn t ((k + 1 : Nat) : Int) 7 (by unfold Small; omega) (by omega) (by unfold Small; omega)
        have e : zK t ((k + 1 : Nat) : Int) 7 = ((8 + t + 8 * k + 7 : Nat) : Int) := by unfold zK; omega
        rw [← e]; exact h
      have g10 : IntKind.i64.wrap (((k + 1 : Nat) : Int) + 1) = ((k + 2 : Nat) : Int) := by rw [wrap_i64 _ (by omega)]; omega
      have g11 : IntKind.u64.wrap ((k + 2 : Nat) : Int) = (k : Int) + 2 := by rw [wrap_u64 _ (by omega)]; omega
      have g12 := wds_cells (freeW t k ((List.replicate (8 + t + 8 * c) 0).set 1 1))
      have g13 : (0 : Int) ≤ ((8 + t + 8 * k + 7 : Nat) : Int) ∧ ((8 + t + 8 * k + 7 : Nat) : Int) < (wds (freeW t k ((List.replicate (8 + t + 8 * c) 0).set 1 1))).length := by rw [wds_len, hfl]; omega
      have g14 : ((8 + t + 8 * k + 7 : Nat) : Int).toNat < (wds (freeW t k ((List.replicate (8 + t + 8 * c) 0).set 1 1))).length := by rw [wds_len, hfl]; omega
      repeat' (first | (refine zY.nil ?_) | (refine zZ.is ?_; first | refine zZ.seq ?_ | (refine zZ.isR (id := 7) ?_; refine zZ.rc [0, 1, 4, 5, 6, 7, 39] [4, 6, 30] (r := (.v zV (.v zV (.v xJ .e)))) (h := ?_)) | (refine zZ.isR (id := 9) ?_; refine zZ.rk [0, 1, 4, 5, 6, 7, 39] [4, 6, 30] ?_; refine zZ.draws ?_) | (refine zZ.isR (id := 8) ?_; refine zZ.rc [0, 1, 4, 5, 6, 7, 39] [4, 6, 30] (r := (.v zV (.v vV (.v zC .e)))) (h := ?_)) | refine zZ.yO rfl bA ?_ | refine zZ.skip ?_ | refine zZ.block ?_) | refine zF.n ?_ | (refine Draws.is ?_; first | refine Draws.rc (.v zV (.v vV (.v v6_0 (.v v7_38 .e)))) ?_ | refine Draws.rc (.v zP (.v v2_8 (.v zV (.v zV .e)))) ?_ | (refine Draws.in_ [46] rfl ?_; refine Draws.v rfl rfl (zN (c3) rfl rfl rfl (by decide)) ?_) | refine Draws.done (by kernel_rfl) (by kernel_rfl) (by kernel_rfl) ?_) | (refine zD.is ?_; first | refine zD.nil ?_ | refine zD.rc (.w w24_1 .e) ?_))
      refine ⟨k + 1, ?_, by omega, by omega⟩
      have e1 : wds (freeW t (k + 1) ((List.replicate (8 + t + 8 * c) 0).set 1 1)) = (wds (freeW t k ((List.replicate (8 + t + 8 * c) 0).set 1 1))).set ((8 + t + 8 * k + 7 : Nat) : Int).toNat (.val (.int .u64 ((k : Int) + 2))) := by rw [wds_set, Int.toNat_natCast]; rfl
      show Sub _ (newS t c (k + 1))
      unfold newS
      rw [e1]
      exact yH K_k K_l
    case neg =>
      obtain rfl : k = c - 1 := by omega
      have f3 : decide (((c - 1 + 1 : Nat) : Int) < c) = false := decide_eq_false (by omega)
      repeat' (first | (refine zY.nil ?_) | (refine zZ.is ?_; first | refine zZ.seq ?_ | (refine zZ.isR (id := 7) ?_; refine zZ.rc [0, 1, 4, 5, 6, 7, 39] [4, 6, 30] (r := (.v zV (.v zV (.v xJ .e)))) (h := ?_)) | (refine zZ.isR (id := 10) ?_; refine zZ.rc [4, 5, 6] [4, 6, 30] (r := (.v v2_19 (.w zR (.v zC .e)))) (h := ?_)) | refine zZ.yM rfl bA ?_ | refine zZ.exit ?_ | refine zZ.ret ?_))
      all_goals exact ⟨by first | exact .inl rfl | exact .inr rfl, .two (k := 30) rfl rfl rfl (by rfl) (by rfl) rfl rfl⟩
theorem new10A_fn (t c : Nat) (h1 : 1 ≤ t) (h64 : t ≤ 64) (hc1 : 1 ≤ c) (hc : c ≤ 65536) : FnAg Tryz.prog 9 [.val (.int .i64 t), .val (.int .i64 c)] ([.p (.val (.int .i64 t)), .p (.val (.int .i64 c)), .o 0] ++ (vQ 0 (List.replicate t ([], 0)) (List.replicate t ([], 0))).cells.map .p) 27 1 (wds (newW t c)) none := by
  have c1 := new9A_fn t c h1 h64 hc1 hc
  have c2 := new7_fn t h1 h64
  refine fn_ofAg Tryz.func9 rfl Tryz.ntmps9 (Nat.le_of_ble_eq_true rfl) ?_
  repeat' (first | (refine zY.is ?_; first | refine zY.nil ?_ | (refine zY.at_ 15 rfl ?_; refine zY.rc (.v wR (.v yK (.v yK (.m zT (.w zR (.v zC .e)))))) ?_) | (refine zY.at_ 9 rfl ?_; refine zY.rc (.v wR (.v v9_2 (.v yK (.m zT (.w zR (.v zC .e)))))) ?_) | (refine zY.in_ [17] rfl ?_; refine zY.v rfl rfl (yT (c2) rfl rfl rfl (by decide)) ?_) | (refine zY.in_ [12] rfl ?_; refine zY.m rfl rfl (w_callAg c1 rfl rfl rfl (by decide)) ?_)) | (refine zZ.is ?_; first | refine zZ.seq ?_ | (refine zZ.isR (id := 0) ?_; refine zZ.rc [0, 1] [4, 5, 7, 12, 17] (r := (.m zT .e)) (h := ?_)) | (refine zZ.isR (id := 1) ?_; refine zZ.rc [0, 1, 4] [4, 5, 7, 12, 17] (r := (.v zV (.v zV .e))) (h := ?_)) | (refine zZ.isR (id := 2) ?_; refine zZ.rc [0, 4, 5] [4, 5, 7, 12, 17] (r := (.v zV .e)) (h := ?_)) | (refine zZ.isR (id := 3) ?_; refine zZ.rc [4, 5, 7] [4, 5, 7, 12, 17] (r := (.v v2_19 (.v wQ (.v v10_2 (.w zR .e))))) (h := ?_)) | refine zZ.ret ?_))
  all_goals exact ⟨by first | exact .inl rfl | exact .inr rfl, .one (k := 12) rfl rfl rfl (by rfl) (by rfl) rfl⟩
end Go.Proofs.YtmfbamiciieooaaGreatDoor
/- The list's example: by evaluation, and its contracts. -/
namespace Go.Proofs.YtmfbamiciieooaaGreatDoor
set_option maxRecDepth 100000
set_option maxHeartbeats 16000000
open Go Go.RowKit
set_option linter.unusedSimpArgs false
theorem run_keeps {α : Type} {good : α → Prop} {me : Nat} {f : Nat → Bool} : ∀ {p : Pr α} {n b i j : Nat} {W W' : Wd} {x : α}, p.wM good n → WdOK b W → p.run (wSt me f) (W, i) = .done x (W', j) →
    i ≤ j ∧ WdOK (b + 1000 * (j - i)) W' ∧ W'.t = W.t ∧ W'.c = W.c ∧ W'.r0.length = W.r0.length ∧ W'.ws.length = W.ws.length ∧ good x
  | .ret _, n, b, i, j, W, W', x, hf, h, hr => by
    rw [zB] at hr
    injection hr with e1 e2
    injection e2 with e2 e3
    subst e1 e2 e3
    exact ⟨Nat.le_refl _, h.le (by omega), rfl, rfl, rfl, rfl, hf⟩
  | .stuck, _, _, _, _, _, _, _, _, _, hr => by cases hr
  | .ask q k, n, b, i, j, W, W', x, hf, h, hr => by
    rw [qP] at hr
    have hr2 : (k (doX W me q (f i)).2).run (wSt me f) ((doX W me q (f i)).1, i + 1) = .done x (W', j) := hr
    obtain ⟨h1, h2⟩ := doX_ok h hf.1 me (f i)
    obtain ⟨k1, k2, k3, k4, _⟩ := doX_keeps W me q (f i)
    obtain ⟨a1, a2, a3, a4, a5, a6, a7⟩ := run_keeps (hf.2 _ h2) h1 hr2
    exact ⟨by omega, a2.le (by omega), a3.trans k1, a4.trans k2, a5.trans k3, a6.trans k4, a7⟩
def wd0 : Wd := ⟨0, 0, [], 0, [], []⟩
structure ResN where
  o : OutN
  W : Wd
  m : Nat
/-- what an operation answers, that steps alone -/
def rsN (p : Pr OutN) (me : Nat) (W : Wd) : ResN := match p.run (wSt me noFail) (W, 0) with
  | .done o s => ⟨o, s.1, s.2⟩
  | _ => ⟨⟨0, false, 0, 0⟩, wd0, 1000⟩
theorem freeW_U (t : Nat) {l : List Int} (hl : ∀ x ∈ l, U x) : ∀ k, k ≤ 65536 → ∀ x ∈ freeW t k l, U x
  | 0, _, x, hx => hl x hx
  | k + 1, hk, x, hx => by
    rw [freeW] at hx
    rcases List.mem_or_eq_of_mem_set hx with hx | rfl
    · exact freeW_U t hl k (by omega) x hx
    · unfold U; omega
theorem newW_U {t c : Nat} (h2 : c ≤ 65536) : ∀ x ∈ newW t c, U x := freeW_U t (fun x hx => by
    rcases List.mem_or_eq_of_mem_set hx with hx | rfl
    · rw [List.eq_of_mem_replicate hx]; exact U.zero
    · unfold U; decide) _ (by omega)
theorem newW_len (t c : Nat) : (newW t c).length = 8 + t + 8 * c := by rw [newW, freeW_len]; simp
end Go.Proofs.YtmfbamiciieooaaGreatDoor
/- Worlds of vertices, stepped alone: contracts for the laws. Generic over the program. -/
namespace Go.Proofs.YtmfbamiciieooaaGreatDoor
set_option maxRecDepth 100000
set_option maxHeartbeats 16000000
open Go Go.RowKit
set_option linter.unusedSimpArgs false
set_option linter.unusedVariables false
/-- a world of vertices -/
structure LwV (C : Nat) (b : Nat) (W : Wd) (M : Mm) (R : List Int) (E : Int) : Prop where
  mem : MmW C W M
  vs : VS C M R E
  ok : WdOK b W
theorem VS.rng {C : Nat} {M : Mm} {R : List Int} {E : Int} (h : VS C M R E) : ∀ r ∈ R, 1 ≤ r ∧ r ≤ C := by
  obtain ⟨P, B, o, hv⟩ := h.vi
  exact hv.rng
theorem VS.len {C : Nat} {M : Mm} {R : List Int} {E : Int} (h : VS C M R E) : R.length ≤ C := by
  obtain ⟨P, B, o, hv⟩ := h.vi
  exact hv.len
theorem VS.so {C : Nat} {M : Mm} {R : List Int} {E : Int} (h : VS C M R E) : (R.map fun r => M.m (zK 2 r 1)).Pairwise (· < ·) := by
  obtain ⟨P, B, o, hv⟩ := h.vi
  exact hv.so
theorem VS.lk {C : Nat} {M : Mm} {R : List Int} {E : Int} (h : VS C M R E) : xL C M.m 0 false (cl R) := by
  obtain ⟨P, B, o, hv⟩ := h.vi
  exact hv.st.lk
theorem LwV.op {C b : Nat} {W : Wd} {M : Mm} {R : List Int} {E : Int} (h : LwV C b W M R E) (hC : C ≤ 40) {me : Nat} (hme : me < 2) {k u : Int} (hk : k = 11 ∨ k = 12 ∨ k = 13) (hu : vOK u = true) {most : Nat} (hm : 57 + 9 * C ≤ most) (hmost : most ≤ 1000) (hb : b + 1000 * most ≤ 60000000) (hE : E + 5 < 18446744073709551616) :
    ∃ x W' M' R', Fn Tryz.prog 10 [W.pv, .val (.int .i64 me), opV k u 0 0, .val (.int .i64 most)] (.tup [W'.pv, outV x.e x.is 0 0, .val (.bool true)]) ∧ LwV C (b + 1000 * most) W' M' R' (E + 3) ∧ VopR C me M M' R R' k u x := by
  obtain ⟨x, M', R', r1, r2, r3⟩ := vop_run h.vs (by omega) hme hE hk hu
  obtain ⟨W', j, e1, e2, e3⟩ := r1 W 0 h.mem
  have ht := h.mem.t
  have hs := h.mem.st
  have hr : (qG W.t me k u).run (wSt me noFail) (W, 0) = .done ⟨x.e, x.is, 0, 0⟩ (W', j) := by rw [ht]; exact e1
  have hk := run_keeps (fine_vop W.t me k u) h.ok hr
  exact ⟨x, W', M', R', aloneV_fn b W W' me k u 0 0 most j ⟨x.e, x.is, 0, 0⟩ h.ok (by rw [ht]; unfold Small; omega) (by rw [ht]; decide) (by rw [hs]; exact hme) hr (by omega) hmost (by omega) (by omega), ⟨e2, r2, hk.2.1.le (by omega)⟩, r3⟩
/-! ### A new world -/
/-- records from one on -/
def upL : Nat → Int → List Int
  | 0, _ => []
  | n + 1, k => k :: upL n (k + 1)
theorem upL_mem : ∀ (n : Nat) (k x : Int), x ∈ upL n k ↔ k ≤ x ∧ x < k + n
  | 0, k, x => ⟨fun h => (by cases h), fun h => (by omega)⟩
  | n + 1, k, x => by
    show x ∈ k :: upL n (k + 1) ↔ _
    rw [List.mem_cons, upL_mem n (k + 1) x]
    push_cast
    omega
theorem upL_nd : ∀ (n : Nat) (k : Int), (upL n k).Nodup
  | 0, _ => List.nodup_nil
  | n + 1, k => List.nodup_cons.2 ⟨fun h => by rw [upL_mem] at h; omega, upL_nd n (k + 1)⟩
theorem upL_ch {C : Nat} {m : Int → Int} : ∀ (n : Nat) (k : Int), 1 ≤ k → k + n = C + 1 → (∀ x : Int, 1 ≤ x → x < C → m (zK 2 x 7) = x + 1) → m (zK 2 C 7) = 0 → ChV C m (if n = 0 then 0 else k) (upL n k)
  | 0, k, _, _, _, _ => rfl
  | n + 1, k, h1, h2, h3, h4 => by
    refine ⟨if_neg (by omega), ⟨h1, by omega⟩, ?_⟩
    have ih := upL_ch (C := C) n (k + 1) (by omega) (by push_cast at h2; omega) h3 h4
    by_cases e : n = 0
    · subst e
      have hk : k = C := by push_cast at h2; omega
      subst hk
      exact h4
    · rw [h3 k h1 (by push_cast at h2; omega)]
      rw [if_neg e] at ih
      exact ih
theorem newV_at (c : Nat) : ∀ (k : Nat), k + 1 ≤ c → ∀ i : Nat, i < 10 + 8 * c → (freeW 2 k ((List.replicate (8 + 2 + 8 * c) 0).set 1 1))[i]? = some (if i = 1 then (1 : Int) else if i % 8 = 1 ∧ 17 ≤ i ∧ i < 17 + 8 * k then (((i - 17) / 8 : Nat) : Int) + 2 else (0 : Int))
  | 0, hk, i, hi => by
    show ((List.replicate (8 + 2 + 8 * c) (0 : Int)).set 1 1)[i]? = _
    rw [List.getElem?_set]
    by_cases e : 1 = i
    · subst e
      rw [if_pos rfl, if_pos (by simp; omega), if_pos rfl]
    · rw [if_neg e, if_neg (fun h => e h.symm), if_neg (by omega), List.getElem?_replicate, if_pos (by omega)]
  | k + 1, hk, i, hi => by
    show ((freeW 2 k ((List.replicate (8 + 2 + 8 * c) (0 : Int)).set 1 1)).set (8 + 2 + 8 * k + 7) ((k : Int) + 2))[i]? = _
    rw [List.getElem?_set]
    by_cases e : 8 + 2 + 8 * k + 7 = i
    · subst e
      rw [if_pos rfl, if_pos (by rw [freeW_len]; simp; omega), if_neg (by omega), if_pos (by omega)]
      have : (8 + 2 + 8 * k + 7 - 17) / 8 = k := by omega
      rw [this]
    · rw [if_neg e, newV_at c k (by omega) i hi]
      by_cases e1 : i = 1
      · rw [if_pos e1, if_pos e1]
      · rw [if_neg e1, if_neg e1]
        by_cases e2 : i % 8 = 1 ∧ 17 ≤ i ∧ i < 17 + 8 * k
        · rw [if_pos e2, if_pos (by omega)]
        · rw [if_neg e2, if_neg (by omega)]
/-- a new memory, as a function -/
def nwM (c : Nat) (i : Int) : Int := if i = 1 then 1 else if i % 8 = 1 ∧ 17 ≤ i ∧ i < 17 + 8 * (c - 1) then (i - 17) / 8 + 2 else 0
def wNew (c : Nat) : Wd := ⟨2, c, newW 2 c, 0, [([], 0), ([], 0)], [([], 0), ([], 0)]⟩
theorem lwV_new {c : Nat} (h1 : 1 ≤ c) (h2 : c ≤ 40) : LwV c 0 (wNew c) ⟨nwM c, fun _ => []⟩ [] 0 := by
  have hm : MmW c (wNew c) ⟨nwM c, fun _ => []⟩ := by
    refine ⟨rfl, rfl, rfl, by show (newW 2 c).length = _; rw [newW_len], fun i hi => ?_, rfl, fun i hi => ?_, rfl⟩
    · show (freeW 2 (c - 1) _)[i]? = some (nwM c i)
      rw [newV_at c (c - 1) (by omega) i hi]
      unfold nwM
      congr 1
      by_cases e1 : i = 1
      · rw [if_pos e1, if_pos (show (i : Int) = 1 by omega)]
      · rw [if_neg e1, if_neg (show ¬ (i : Int) = 1 by omega)]
        by_cases e2 : i % 8 = 1 ∧ 17 ≤ i ∧ i < 17 + 8 * (c - 1)
        · rw [if_pos e2, if_pos (show (i : Int) % 8 = 1 ∧ 17 ≤ (i : Int) ∧ (i : Int) < 17 + 8 * ((c : Int) - 1) by omega)]
          omega
        · rw [if_neg e2, if_neg (show ¬ ((i : Int) % 8 = 1 ∧ 17 ≤ (i : Int) ∧ (i : Int) < 17 + 8 * ((c : Int) - 1)) by omega)]
    · have : i = 0 ∨ i = 1 := by omega
      rcases this with rfl | rfl <;> rfl
  have hz : ∀ i : Int, i ≠ 1 → i % 8 ≠ 1 → nwM c i = 0 := fun i a b => by unfold nwM; rw [if_neg a, if_neg (fun h => b h.1)]
  refine ⟨hm, ⟨⟨upL c 1, fun _ => [], fun r => if 1 ≤ r ∧ r ≤ c then 1 else 0, ⟨?_, ?_, fun i a b => ?_, fun r hr => (by cases hr), fun r hr => ?_, fun i a b r hr => (by cases hr), List.nodup_nil, upL_nd _ _, fun i a b => List.nodup_nil, fun r a b => ?_, ?_⟩, fun r => ?_, fun r hr => (by cases hr), List.Pairwise.nil, fun r hr => (by cases hr)⟩, fun j hj => ?_, ?_, ?_⟩, ?_⟩
  · show nwM c 0 = 0
    exact hz 0 (by decide) (by decide)
  · have := upL_ch (C := c) (m := nwM c) c 1 (by decide) (by omega) (fun x a b => by rw [fv]; unfold nwM; rw [if_neg (by omega), if_pos (by omega)]; omega) (by rw [fv]; unfold nwM; rw [if_neg (by omega), if_neg (by omega)])
    rw [if_neg (by omega)] at this
    exact this
  · exact hz i (by omega) (by omega)
  · rw [upL_mem] at hr
    exact if_pos (by omega)
  · exact .inr (.inr (.inl ((upL_mem _ _ _).2 (by omega))))
  · show 0 ≤ nwM c 3
    rw [hz 3 (by decide) (by decide)]; decide
  · show (if 1 ≤ r ∧ r ≤ (c : Int) then (1 : Int) else 0) ≠ 2
    split <;> decide
  · show nwM c (8 + j) = 0
    unfold nwM
    rw [if_neg (by omega), if_neg (by omega)]
  · exact hz 7 (by decide) (by decide)
  · show nwM c 3 ≤ 0
    rw [hz 3 (by decide) (by decide)]; decide
  · exact ⟨fun x hx => newW_U (by omega) x hx, by show (newW 2 c).length ≤ _; rw [newW_len]; omega, rfl, by show (2 : Nat) ≤ _; decide, fun p hp => by
      have hp : p ∈ [(([] : List Int), (0 : Int)), ([], 0)] := hp
      simp only [List.mem_cons, List.not_mem_nil, or_false] at hp
      rcases hp with rfl | rfl <;> exact Nat.le_refl _⟩
end Go.Proofs.YtmfbamiciieooaaGreatDoor
/- The law VertOrder, in plain terms: vertices that are added. Generic over the program. -/
namespace Go.Proofs.YtmfbamiciieooaaGreatDoor
set_option maxRecDepth 100000
set_option maxHeartbeats 16000000
open Go Go.RowKit
set_option linter.unusedSimpArgs false
set_option linter.unusedVariables false
theorem vkF_int {u : Int} (h : 0 ≤ u ∧ u < 65536) : vOK u = true ∧ vkF u = u * 2147483648 := by
  have h1 : vOK u = true := decide_eq_true (by omega)
  refine ⟨h1, ?_⟩
  unfold vkF
  rw [h1]
  rfl
/-- so many are in, all of them told ahead -/
structure OrI (M : Mm) (R l : List Int) : Prop where
  len : R.length ≤ l.length
  sub : ∀ r ∈ R, ∃ u ∈ l, M.m (zK 2 r 1) = u * 2147483648
theorem OrI.op {C me : Nat} {M M' : Mm} {R R' l : List Int} {u : Int} {x : OutB} (h : OrI M R l) (hu : 0 ≤ u ∧ u < 65536) (hC : l.length < C) (hv : VopR C me M M' R R' 11 u x) : x.e = 0 ∧ OrI M' R' (l ++ [u]) ∧ (R'.length : Int) = (R.length : Int) + (if x.is = true then 1 else 0) := by
  obtain ⟨v1, v2⟩ := vkF_int hu
  have up : ∀ {M2 : Mm} {S : List Int}, SamV M M2 R → S.length ≤ l.length + 1 → (∀ r ∈ S, r ∈ R ∨ M2.m (zK 2 r 1) = u * 2147483648) → OrI M2 S (l ++ [u]) := fun hs hl hm => ⟨by rw [List.length_append]; exact hl, fun r hr => by
    rcases hm r hr with e | e
    · obtain ⟨w, hw, e2⟩ := h.sub r e
      exact ⟨w, List.mem_append_left _ hw, by rw [(hs r e).1]; exact e2⟩
    · exact ⟨u, List.mem_append_right _ (List.mem_singleton.2 rfl), e⟩⟩
  have hl := h.len
  rcases hv with ⟨_, ha, hs⟩ | ⟨h12, _⟩ | ⟨h13, _⟩
  · cases ha with
    | old hm e hR hd hst =>
      subst e hR
      exact ⟨rfl, up hs (by omega) fun r hr => .inl hr, by simp⟩
    | full hm hn e hR hd hst => omega
    | new R1 R2 r hm hn e hR hR' hr hkr hf hd hst =>
      subst e
      have hlen : R'.length = R.length + 1 := by
        rw [hR', hR]
        simp only [List.length_append, List.length_cons]
        omega
      refine ⟨rfl, up hs (by omega) fun q hq => ?_, by rw [hlen]; simp⟩
      rw [hR'] at hq
      rcases List.mem_append.1 hq with hq | hq
      · exact .inl (by rw [hR]; exact List.mem_append_left _ hq)
      · rcases List.mem_cons.1 hq with rfl | hq
        · exact .inr (by rw [hkr, v2])
        · exact .inl (by rw [hR]; exact List.mem_append_right _ hq)
  · cases h12
  · cases h13
/-- vertices, by their records, rise -/
theorem OrI.rise {M : Mm} {R l : List Int} (hso : (R.map fun r => M.m (zK 2 r 1)).Pairwise (· < ·)) {j : Nat} {x y : Int} (hx : R[j]? = some x) (hy : R[j + 1]? = some y) : M.m (zK 2 x 1) < M.m (zK 2 y 1) := by
  obtain ⟨h1, e1⟩ := List.getElem?_eq_some_iff.1 hx
  obtain ⟨h2, e2⟩ := List.getElem?_eq_some_iff.1 hy
  have := List.pairwise_iff_getElem.1 hso j (j + 1) (by simpa using h1) (by simpa using h2) (by omega)
  simpa [e1, e2] using this
end Go.Proofs.YtmfbamiciieooaaGreatDoor
/- New worlds (reference) of two threads, and any number of records, none among them: contracts, and what they are. -/
namespace Go.Proofs.YtmfbamiciieooaaGreatDoor
set_option maxRecDepth 100000
set_option maxHeartbeats 16000000
open Go Go.RowKit
set_option linter.unusedSimpArgs false
set_option linter.unusedVariables false
attribute [local irreducible] zY zZ Step zX Sub zD zG Fn
def newZS : AS :=
  { t := [(0, .p (.val (.int .i64 (2 : Nat)))), (1, .p (.val (.int .i64 (0 : Nat)))), (4, .ptr 4 0), (5, .p (.val (.int .i64 0))), (6, .ptr 6 0), (7, .p (.val (.int .i64 1)))],
    s := [(4, .box 26 ([.val (.int .i64 0), .val (.int .i64 0), .val (.slice none 0 0)].map AV.p)), (6, .box 26 [.p (.val (.int .i64 (2 : Nat))), .p (.val (.int .i64 (0 : Nat))), .own 30]), (30, qB 27 1 (wds (List.replicate 10 0)))] }
theorem new9Z_fn : FnAg Tryz.prog 23 [.val (.int .i64 (2 : Nat)), .val (.int .i64 (0 : Nat))] [.p (.val (.int .i64 (2 : Nat))), .p (.val (.int .i64 (0 : Nat))), .o 0] 27 1 (wds (List.replicate 10 0)) (some (.int .i64 0)) := by
  have g1 : decide (((2 : Nat) : Int) < 1) = false := rfl
  have g2 : decide ((64 : Int) < (2 : Nat)) = false := rfl
  have f1 : decide (((0 : Nat) : Int) < 0) = false := rfl
  have f2 : decide ((65536 : Int) < (0 : Nat)) = false := rfl
  have g3 : 10 * 1 ≤ 16777216 ∧ 8 * 10 ≤ 281474976710656 ∧ 10 ≤ maxLen := by simp only [maxLen]; omega
  have g4 : IntKind.i64.wrap (8 + ((2 : Nat) : Int)) = 10 := rfl
  have g4b : IntKind.i64.wrap (8 * ((0 : Nat) : Int)) = 0 := rfl
  have g5 : IntKind.i64.wrap (10 + 0) = ((10 : Nat) : Int) := rfl
  have g6 : ∀ e ∈ List.replicate 10 (PV.val (.int .u64 0)), e.cells.length = 1 := fun e he => by rw [List.eq_of_mem_replicate he]; rfl
  have g9 : decide ((0 : Int) < (0 : Nat)) = false := rfl
  refine fn_ofAg Tryz.func23 rfl Tryz.ntmps23 (Nat.le_of_ble_eq_true rfl) ?_
  repeat' (first | (refine zY.at_ 31 rfl ?_; refine zY.v rfl rfl (w_buildAg 30 rfl (by rfl) (by rfl) rfl rfl (by rfl) (by rfl) rfl (by decide)) ?_) | (refine zY.is ?_; first | refine zY.nil ?_ | (refine zY.at_ 6 rfl ?_; refine zY.rc (.m zT (.w zR .e)) ?_)) | (refine zZ.is ?_; first | refine zZ.seq ?_ | (refine zZ.isR (id := 0) ?_; refine zZ.rc [0, 1] [4, 6, 30] (r := (.m zT (.v zC .e))) (h := ?_)) | (refine zZ.isR (id := 1) ?_; refine zZ.rc [0, 1, 4, 5] [4, 6, 30] (r := (.v zV (.v xJ (.v zV (.gY zV (.gY v45_0 (.v vG (.v zV (.gY zV (.gY xJ (.v vG (.v zV (.gY zV (.gY v45_0 (.v vG .e))))))))))))))) (h := ?_)) | (refine zZ.isR (id := 3) ?_; refine zZ.rc [0, 1, 4, 5] [4, 6, 30] (r := (.v zV (.v zV (.v zV (.v vV (.v zV (.v v32_0 (.v vV (.m m21_0 .e))))))))) (h := ?_)) | (refine zZ.isR (id := 4) ?_; refine zZ.rc [0, 1, 4, 5, 6] [4, 6, 30] (r := (.v zV (.v v45_0 .e))) (h := ?_)) | (refine zZ.isR (id := 6) ?_; refine zZ.rc [0, 1, 4, 5, 6] [4, 6, 30] (r := (.v zC .e)) (h := ?_)) | refine zZ.yM rfl bA ?_ | refine zZ.skip ?_ | refine zZ.block ?_))
  refine zZ.loop (fun _ : Unit => newZS) (fun _ => True) (fun _ => 0) () ?h0 trivial ?rd
  case h0 =>
    unfold newZS
    exact yH K_k K_l
  case rd =>
    rintro ⟨⟩ _
    unfold newZS
    have f3 : decide ((1 : Int) < (0 : Nat)) = false := rfl
    repeat' (first | (refine zY.nil ?_) | (refine zZ.is ?_; first | refine zZ.seq ?_ | (refine zZ.isR (id := 7) ?_; refine zZ.rc [0, 1, 4, 5, 6, 7, 39] [4, 6, 30] (r := (.v zV (.v zV (.v xJ .e)))) (h := ?_)) | (refine zZ.isR (id := 10) ?_; refine zZ.rc [4, 5, 6] [4, 6, 30] (r := (.v v2_19 (.w zR (.v zC .e)))) (h := ?_)) | refine zZ.yM rfl bA ?_ | refine zZ.exit ?_ | refine zZ.ret ?_))
    all_goals exact ⟨by first | exact .inl rfl | exact .inr rfl, .two (k := 30) rfl rfl rfl (by rfl) (by rfl) rfl rfl⟩
/-- a new memory's words -/
def newV (c : Nat) : List Int := if c = 0 then List.replicate 10 0 else newW 2 c
theorem new9V_fn (c : Nat) (hc : c ≤ 65536) : FnAg Tryz.prog 23 [.val (.int .i64 (2 : Nat)), .val (.int .i64 (c : Nat))] [.p (.val (.int .i64 (2 : Nat))), .p (.val (.int .i64 (c : Nat))), .o 0] 27 1 (wds (newV c)) (some (.int .i64 0)) := by
  unfold newV
  split
  · next h => subst h; exact new9Z_fn
  · next h => exact new9A_fn 2 c (by decide) (by decide) (by omega) hc
theorem new10V_fn (c : Nat) (hc : c ≤ 65536) : FnAg Tryz.prog 9 [.val (.int .i64 (2 : Nat)), .val (.int .i64 (c : Nat))] ([.p (.val (.int .i64 (2 : Nat))), .p (.val (.int .i64 (c : Nat))), .o 0] ++ (vQ 0 (List.replicate 2 ([], 0)) (List.replicate 2 ([], 0))).cells.map .p) 27 1 (wds (newV c)) none := by
  have c1 := new9V_fn c hc
  have c2 := new7_fn 2 (by decide) (by decide)
  refine fn_ofAg Tryz.func9 rfl Tryz.ntmps9 (Nat.le_of_ble_eq_true rfl) ?_
  repeat' (first | (refine zY.is ?_; first | refine zY.nil ?_ | (refine zY.at_ 15 rfl ?_; refine zY.rc (.v wR (.v yK (.v yK (.m zT (.w zR (.v zC .e)))))) ?_) | (refine zY.at_ 9 rfl ?_; refine zY.rc (.v wR (.v v9_2 (.v yK (.m zT (.w zR (.v zC .e)))))) ?_) | (refine zY.in_ [17] rfl ?_; refine zY.v rfl rfl (yT (c2) rfl rfl rfl (by decide)) ?_) | (refine zY.in_ [12] rfl ?_; refine zY.m rfl rfl (w_callAg c1 rfl rfl rfl (by decide)) ?_)) | (refine zZ.is ?_; first | refine zZ.seq ?_ | (refine zZ.isR (id := 0) ?_; refine zZ.rc [0, 1] [4, 5, 7, 12, 17] (r := (.m zT .e)) (h := ?_)) | (refine zZ.isR (id := 1) ?_; refine zZ.rc [0, 1, 4] [4, 5, 7, 12, 17] (r := (.v zV (.v zV .e))) (h := ?_)) | (refine zZ.isR (id := 2) ?_; refine zZ.rc [0, 4, 5] [4, 5, 7, 12, 17] (r := (.v zV .e)) (h := ?_)) | (refine zZ.isR (id := 3) ?_; refine zZ.rc [4, 5, 7] [4, 5, 7, 12, 17] (r := (.v v2_19 (.v wQ (.v v10_2 (.w zR .e))))) (h := ?_)) | refine zZ.ret ?_))
  all_goals exact ⟨by first | exact .inl rfl | exact .inr rfl, .one (k := 12) rfl rfl rfl (by rfl) (by rfl) rfl⟩
def wNewV (c : Nat) : Wd := ⟨2, c, newV c, 0, [([], 0), ([], 0)], [([], 0), ([], 0)]⟩
def nwMV (c : Nat) (i : Int) : Int := if c = 0 then 0 else nwM c i
theorem lwV_newV {c : Nat} (h2 : c ≤ 40) : LwV c 0 (wNewV c) ⟨nwMV c, fun _ => []⟩ [] 0 := by
  by_cases h : c = 0
  · subst h
    have e : nwMV 0 = fun _ => 0 := by funext i; exact if_pos rfl
    rw [e]
    have hm : MmW 0 (wNewV 0) ⟨fun _ => 0, fun _ => []⟩ := by
      refine ⟨rfl, rfl, rfl, rfl, fun i hi => ?_, rfl, fun i hi => ?_, rfl⟩
      · show (List.replicate 10 (0 : Int))[i]? = some 0
        rw [List.getElem?_replicate, if_pos (by omega)]
      · have : i = 0 ∨ i = 1 := by omega
        rcases this with rfl | rfl <;> rfl
    refine ⟨hm, ⟨⟨[], fun _ => [], fun _ => 0, ⟨rfl, rfl, fun i a b => rfl, fun r hr => (by cases hr), fun r hr => (by cases hr), fun i a b r hr => (by cases hr), List.nodup_nil, List.nodup_nil, fun i a b => List.nodup_nil, fun r a b => ?_, Int.le_refl _⟩, fun r => (by decide), fun r hr => (by cases hr), List.Pairwise.nil, fun r hr => (by cases hr)⟩, fun j hj => rfl, rfl, Int.le_refl _⟩, ?_⟩
    · omega
    · exact ⟨fun x hx => by rw [List.eq_of_mem_replicate (show x ∈ List.replicate 10 (0 : Int) from hx)]; exact U.zero, by decide, rfl, by show (2 : Nat) ≤ _; decide, fun p hp => by
        have hp : p ∈ [(([] : List Int), (0 : Int)), ([], 0)] := hp
        simp only [List.mem_cons, List.not_mem_nil, or_false] at hp
        rcases hp with rfl | rfl <;> exact Nat.le_refl _⟩
  · have e : nwMV c = nwM c := by funext i; exact if_neg h
    have e2 : wNewV c = wNew c := by unfold wNewV wNew newV; rw [if_neg h]
    rw [e, e2]
    exact lwV_new (by omega) h2
end Go.Proofs.YtmfbamiciieooaaGreatDoor
/- Two worlds that are the same: contract. -/
namespace Go.Proofs.YtmfbamiciieooaaGreatDoor
set_option maxRecDepth 100000
set_option maxHeartbeats 16000000
open Go Go.RowKit
set_option linter.unusedSimpArgs false
set_option linter.unusedVariables false
attribute [local irreducible] zY zZ Step zX Sub zD zG Fn
end Go.Proofs.YtmfbamiciieooaaGreatDoor
/- (Written by gen_lnkfv.py.) The records that are linked, as wealdref15.Linked tells them: contract. -/
namespace Go.Proofs.YtmfbamiciieooaaGreatDoor
set_option maxRecDepth 100000
set_option maxHeartbeats 16000000
open Go Go.RowKit
set_option linter.unusedSimpArgs false
set_option linter.unusedVariables false
attribute [local irreducible] zY zZ Step zX Sub zD zG Fn zF zO
def nmsP (l : List Int) : List PV := l.map fun x => .val (.int .i64 x)
theorem nmsP_len (l : List Int) : (nmsP l).length = l.length := by simp [nmsP]
theorem nmsP_app (l : List Int) (x : Int) : nmsP l ++ [.val (.int .i64 x)] = nmsP (l ++ [x]) := by simp [nmsP]
theorem xL.nth {C : Nat} {m : Int → Int} : ∀ {l : List (Int × Bool)} {p : Int} {k : Bool} {j : Nat} {x : Int} {b : Bool}, xL C m p k l → l[j]? = some (x, b) → (1 ≤ x ∧ x ≤ C) ∧ xL C m x b (l.drop (j + 1))
  | [], _, _, _, _, _, _, e => by simp at e
  | (y, c) :: l, p, k, 0, x, b, h, e => by
    simp at e
    obtain ⟨rfl, rfl⟩ := e
    exact ⟨h.2.1, h.2.2⟩
  | (y, c) :: l, p, k, j + 1, x, b, h, e => xL.nth (l := l) h.2.2 (by simpa using e)
def lkFV (C : Nat) (ws : List Int) (l : List (Int × Bool)) (j : Nat) : AS := { t := [(1, .ptr 1 0), (3, .own 42), (4, .p (.val (.int .i64 (hd (l.drop j)))))], s := [(1, .box 26 [.p (.val (.int .i64 2)), .p (.val (.int .i64 (C : Nat))), .p (.sl (wds ws))]), (42, qB 3 1 (nmsP (nms (l.take j))))] }
theorem linkedV_fn {C : Nat} (hC : C ≤ 100000) {m : Int → Int} {l : List (Int × Bool)} (h : xL C m 0 false l) (hl : l.length ≤ C) {ws : List Int} (hat : ∀ c : Nat, c < 10 + 8 * C → ws[c]? = some (m c)) : Fn Tryz.prog 21 [.agg [.val (.int .i64 2), .val (.int .i64 (C : Nat)), .sl (wds ws)]] (.p (.sl (nmsP (nms l)))) := by
  have hw := h.word
  have hb := h.hd_le
  have e0 : (wds ws)[0]? = some (.val (.int .u64 (m 0))) := wds_at (hat 0 (by omega))
  have e1 := wds_cells ws
  have hw0 : m 0 = 2 * hd l := by have e : m 0 = 2 * hd l + bI false := hw; rw [e]; show 2 * hd l + 0 = _; omega
  have c0 : Fn Tryz.prog 45 [.val (.int .u64 (m 0))] (.p (.val (.int .i64 (hd l)))) := by
    have := refRef_fn (m 0) (by omega) (by omega)
    rw [show xK (m 0) = hd l by unfold xK; omega] at this
    exact this
  refine yR Tryz.func21 rfl Tryz.ntmps21 (Nat.le_of_ble_eq_true rfl) ?_
  repeat' (first | (refine zY.is ?_; first | refine zY.nil ?_ | (refine zY.at_ 4 rfl ?_; refine zY.rc (.v zC .e) ?_) | (refine zY.in_ [9] rfl ?_; refine zY.v rfl rfl (zN (c0) rfl rfl rfl (by decide)) ?_)) | (refine zZ.is ?_; first | refine zZ.seq ?_ | (refine zZ.isR (id := 0) ?_; refine zZ.rc [0] [1, 2, 3, 27] (r := (.m y9 (.v zC .e))) (h := ?_)) | (refine zZ.isR (id := 1) ?_; refine zZ.rc [1, 2] [1, 2, 3, 27] (r := (.v zC .e)) (h := ?_)) | (refine zZ.isR (id := 2) ?_; refine zZ.rc [1, 2, 3] [1, 2, 3, 27] (r := (.v zP (.v zS (.v v7_18 (.v v2_1 .e))))) (h := ?_)) | refine zZ.block ?_) | refine zF.n ?_)
  refine zZ.loop (lkFV C ws l) (fun j => j ≤ l.length) (fun j => l.length - j) 0 ?h0 (Nat.zero_le _) ?rd
  case h0 =>
    unfold lkFV
    refine (sub_adopt (d := 3) (id := 42) (ty := 3) (sz := 1) (by decide) rfl).trans ?_
    refine (vC (id := 42) (b := .row 3 1 0 []) (b' := qB 3 1 []) (by rfl) (qQ 3 1 [])).sub.trans ?_
    exact yH K_1p K_1q
  case rd =>
    intro j hj
    unfold lkFV
    by_cases hlt : j < l.length
    case pos =>
      obtain ⟨⟨x, b⟩, hx⟩ : ∃ p, l[j]? = some p := ⟨_, List.getElem?_eq_getElem hlt⟩
      obtain ⟨hx1, hx2⟩ := h.nth hx
      have hdx : hd (l.drop j) = x := by
        rw [List.drop_eq_getElem_cons hlt]
        rw [List.getElem?_eq_getElem hlt] at hx
        rw [Option.some.inj hx]
        rfl
      have htk : nms (l.take j) ++ [x] = nms (l.take (j + 1)) := by rw [List.take_add_one, hx]; simp [nms]
      have hwx := hx2.word
      have hbx := hx2.hd_le
      rw [nx_posV hx1.1] at hwx
      rw [hdx]
      obtain ⟨pn, hpn⟩ : ∃ pn : Nat, zK 2 x 0 = (pn : Int) := ⟨(zK 2 x 0).toNat, by rw [fv]; omega⟩
      have hpl : pn < 10 + 8 * C := by have := hpn; rw [fv] at this; omega
      have c1 := fieldRef_fn 2 x 0 (by unfold Small; omega) (by omega) (by unfold Small; omega)
      rw [hpn] at c1 hwx
      have e2 : (wds ws)[pn]? = some (.val (.int .u64 (m pn))) := wds_at (hat pn hpl)
      have hbi := bI_lt b
      have c2 : Fn Tryz.prog 45 [.val (.int .u64 (m pn))] (.p (.val (.int .i64 (hd (l.drop (j + 1)))))) := by
        have := refRef_fn (m pn) (by omega) (by omega)
        rw [show xK (m pn) = hd (l.drop (j + 1)) by unfold xK; omega] at this
        exact this
      have g1 : decide (0 < x) = true := decide_eq_true (by omega)
      have g2 : decide (x ≤ (C : Nat)) = true := decide_eq_true (by omega)
      have g3 : decide (((nmsP (nms (l.take j))).length : Int) ≤ (C : Nat)) = true := decide_eq_true (by rw [nmsP_len, nms, List.length_map, List.length_take]; omega)
      have r6 : ∀ z ∈ ([.val (.int .i64 x)] : List PV), z.cells.length = 1 := fun z hz => by rw [List.mem_singleton.1 hz]; rfl
      have r7 : ([.val (.int .i64 x)] : List PV).length * 8 ≤ 140737488355328 ∧ ([.val (.int .i64 x)] : List PV).length ≤ maxLen := by simp [maxLen]
      have r8 : ((nmsP (nms (l.take j))).length + ([.val (.int .i64 x)] : List PV).length) * 8 ≤ 140737488355328 ∧ (nmsP (nms (l.take j))).length + ([.val (.int .i64 x)] : List PV).length ≤ maxLen := by
        have e : (nmsP (nms (l.take j))).length = j := by rw [nmsP_len, nms, List.length_map, List.length_take]; omega
        rw [e]
        simp [maxLen]
        omega
      have ps_ := trivial
      repeat' (first | (refine zY.nil ?_) | (refine zZ.is ?_; first | refine zZ.seq ?_ | (refine zZ.isR (id := 3) ?_; refine zZ.rc [1, 2, 3, 4, 24] [1, 2, 3, 27, 42] (r := (.v zV (.v v45_0 (.v zV (.gY zV (.gY zP (.gY zS (.gY v44_0 (.v wL (.v zV (.gY v0_1 (.gY v57_5 (.gY zP (.gY zS (.gY v44_0 (.v wL .e)))))))))))))))) (h := ?_)) | (refine zZ.isR (id := 4) ?_; refine zZ.rc [1, 2, 3, 4, 24] [1, 2, 3, 27, 42] (r := (.v v0_1 (.v zV (.v v20_0 (.w w55_2 (.v v1_1 .e)))))) (h := ?_)) | (refine zZ.isR (id := 5) ?_; refine zZ.rk [1, 2, 3, 4, 24] [1, 2, 3, 27, 42] ?_; refine zZ.draws ?_) | refine zZ.yO rfl bA ?_ | refine zZ.skip ?_ | refine zZ.block ?_) | refine zF.n ?_ | refine zO.n ?_ | (refine Draws.is ?_; first | refine Draws.rc (.v zC .e) ?_ | refine Draws.rc (.v zP (.v zS (.v zP (.v zS (.v zV .e))))) ?_ | refine Draws.rc (.v v7_18 (.v v2_1 .e)) ?_ | (refine Draws.in_ [34] rfl ?_; refine Draws.v rfl rfl (zN (c1) rfl rfl rfl (by decide)) ?_) | (refine Draws.in_ [37] rfl ?_; refine Draws.v rfl rfl (zN (c2) rfl rfl rfl (by decide)) ?_) | refine Draws.done (by kernel_rfl) (by kernel_rfl) (by kernel_rfl) ?_) | (refine zD.nil ?_))
      all_goals
        refine ⟨j + 1, ?_, hlt, by omega⟩
        rw [← htk, ← nmsP_app]
        refine sub_keep (is := [1, 3, 4]) (js := [1, 42]) ?_ ?_
        case refine_1 =>
          repeat' first | exact zI.nil | apply zI.p rfl | apply zI.ptr rfl | apply zI.own rfl | apply zI.clo rfl | apply zI.ifp rfl | apply zI.pt rfl | apply zI.tup rfl | apply zI.skip
        case refine_2 =>
          repeat' first | exact zM.nil | apply zM.boxP rfl rfl | apply zM.vM rfl | apply zM.some rfl | apply zM.skip
    case neg =>
      have hd0 : hd (l.drop j) = 0 := by rw [List.drop_of_length_le (by omega)]; rfl
      have htk : l.take j = l := List.take_of_length_le (by omega)
      rw [hd0, htk]
      repeat' (first | (refine zY.nil ?_) | (refine zZ.is ?_; first | refine zZ.seq ?_ | (refine zZ.isR (id := 3) ?_; refine zZ.rc [1, 2, 3, 4, 24] [1, 2, 3, 27, 42] (r := (.v zV (.v v45_5 (.v zV (.gT (.gT (.gT (.gT (.v vG (.v zV (.gT (.gT (.gT (.gT (.gT (.v vG .e)))))))))))))))) (h := ?_)) | (refine zZ.isR (id := 6) ?_; refine zZ.rc [2, 3] [1, 2, 3, 27, 42] (r := (.v v0_1 (.v v1_1 .e))) (h := ?_)) | refine zZ.yM rfl bA ?_ | refine zZ.exit ?_ | refine zZ.ret ?_) | refine zF.n ?_ | refine zO.eY ?_ | refine zF.e ?_)
      all_goals exact ⟨by first | exact .inl rfl | exact .inr rfl, _, sub_frzE 42 3 1 _ rfl, GivesV.p rfl (.tmp rfl)⟩
end Go.Proofs.YtmfbamiciieooaaGreatDoor
/- A key's ends (reference): contract. -/
namespace Go.Proofs.YtmfbamiciieooaaGreatDoor
set_option maxRecDepth 100000
set_option maxHeartbeats 16000000
open Go Go.RowKit
set_option linter.unusedSimpArgs false
attribute [local irreducible] zY zZ Step zX Sub zD zG Fn
theorem splitKRef_fn (n : Int) (h0 : 0 ≤ n) (h1 : n < 18446744073709551616) : Fn Tryz.prog 20 [.val (.int .u64 n)] (.tup [.val (.int .i64 (n / 2147483648)), .val (.int .i64 (n % 2147483648 - 1))]) := by
  have hq : n.tdiv 2147483648 = n / 2147483648 := Int.tdiv_eq_ediv_of_nonneg h0
  have hr : n.tmod 2147483648 = n % 2147483648 := Int.tmod_eq_emod_of_nonneg h0
  have hw : IntKind.u64.wrap (n.tdiv 2147483648) = n / 2147483648 := by rw [hq]; exact wrap_u64 _ (by omega)
  refine vZ Tryz.func20 rfl Tryz.ntmps20 (Nat.le_of_ble_eq_true rfl) ?_
  repeat' ((refine zZ.is ?_; first | refine zZ.seq ?_ | (refine zZ.isR (id := 0) ?_; refine zZ.vH [0] [] (by repeat' first | exact zI.nil | apply zI.p rfl) (by repeat' exact zM.nil) ?_; (refine zY.v rfl rfl (xB rfl rfl rfl (by decide)) ?_); (refine zY.v rfl rfl (xB rfl rfl rfl (by decide)) ?_); refine zY.nil ?_) | (refine zZ.isR (id := 1) ?_; refine zZ.vH [0, 2, 3] [] (by repeat' first | exact zI.nil | apply zI.p rfl) (by repeat' exact zM.nil) ?_; (refine zY.v rfl rfl (xO rfl rfl rfl (by decide)) ?_); (refine zY.v rfl rfl (by exact a_quo rfl rfl rfl (by decide) (by exact hw) rfl (by decide)) ?_); (refine zY.v rfl rfl (by exact w_conv rfl rfl (by exact wrap_i64 _ (by omega)) rfl (by decide)) ?_); (refine zY.v rfl rfl (xO rfl rfl rfl (by decide)) ?_); (refine zY.v rfl rfl (by exact a_rem rfl rfl rfl (by decide) (by exact hr) rfl (by decide)) ?_); (refine zY.v rfl rfl (by exact w_conv rfl rfl (by exact wrap_i64 _ (by omega)) rfl (by decide)) ?_); (refine zY.v rfl rfl (by exact a_sub rfl rfl rfl (by exact wrap_i64 _ (by omega)) rfl (by decide)) ?_); (refine zY.v rfl rfl (xB rfl rfl rfl (by decide)) ?_); (refine zY.v rfl rfl (xB rfl rfl rfl (by decide)) ?_); refine zY.nil ?_) | refine zZ.ret ?_))
  all_goals refine ⟨.inl rfl, givesT (ts := [2, 3]) rfl (by decide) rfl⟩
end Go.Proofs.YtmfbamiciieooaaGreatDoor
/- A law's arguments, as they come in, by their shapes. Generic over the program. -/
namespace Go.Proofs.YtmfbamiciieooaaGreatDoor
set_option maxRecDepth 100000
set_option maxHeartbeats 16000000
open Go Go.RowKit Go.ChangeShapes Go.WideShapes Go.ChangeAt
def NoM : Nat → Nat → Prop := fun _ _ => False
/-- what a cell may hold -/
inductive Leaf where
  | int (k : IntKind)
  | bool
  | any
deriving DecidableEq
def leafOK : Leaf → Value → Prop
  | .int k, v => ∃ n, v = .int k n ∧ (Lit.int k n).wf = true
  | .bool, v => ∃ b, v = .bool b
  | .any, v => v.oneCell' = true
/-- type t's cells, one behind the other, are of these kinds (any: a slice) -/
def flatB (P : Program) : Nat → TypeId → List Leaf → Bool
  | 0, _, _ => false
  | d + 1, t, ls => match P.underlying t with
    | some (.int k) => decide (ls = [.int k])
    | some .bool => decide (ls = [.bool])
    | some (.slice _) => decide (ls = [.any])
    | some (.struct fs) => (ls.length == P.cellsOf t) && (fs.toList.all fun f => flatB P d f.type ((ls.drop f.offset).take (P.cellsOf f.type)) && (((ls.drop f.offset).take (P.cellsOf f.type)).length == P.cellsOf f.type)) &&
      (List.range ls.length).all fun c => fs.toList.any fun f => decide (f.offset ≤ c) && decide (c < f.offset + P.cellsOf f.type)
    | _ => false
section
variable {H : Type} {enc : TypeId × Value → H} {P : Program} {W : World} {base : Nat} {spare : Nat → Bool} {held : Bool}
theorem flat_trod : ∀ (d : Nat) {t : TypeId} {ls : List Leaf}, flatB P d t ls = true → ∀ {fuel : Nat} {cs : List Value} {x : DataW H × List MemPlace}, DataW.trod enc P W base spare held fuel t cs = some x →
    cs.length = ls.length ∧ ∀ (i : Nat) l v, ls[i]? = some l → cs[i]? = some v → leafOK l v
  | 0, _, _, h, _, _, _, _ => by cases h
  | d + 1, t, ls, h, fuel, cs, x, hx => by
    unfold flatB at h
    cases hu : P.underlying t with
    | none => rw [hu] at h; cases h
    | some ds =>
      rw [hu] at h
      cases ds with
      | int k =>
        obtain rfl : ls = [.int k] := of_decide_eq_true h
        obtain ⟨n, rfl, _, hw⟩ := DataW.trod_int hu hx
        refine ⟨rfl, fun i l v hl hv => ?_⟩
        match i with
        | 0 => simp at hl hv; subst hl hv; exact ⟨n, rfl, hw⟩
        | i + 1 => simp at hl
      | bool =>
        obtain rfl : ls = [.bool] := of_decide_eq_true h
        obtain ⟨b, rfl, _⟩ := DataW.trod_bool hu hx
        refine ⟨rfl, fun i l v hl hv => ?_⟩
        match i with
        | 0 => simp at hl hv; subst hl hv; exact ⟨b, rfl⟩
        | i + 1 => simp at hl
      | slice e =>
        obtain rfl : ls = [.any] := of_decide_eq_true h
        have key : ∀ w : Value, w.oneCell' = true → cs = [w] → cs.length = [Leaf.any].length ∧ ∀ (i : Nat) l v, [Leaf.any][i]? = some l → cs[i]? = some v → leafOK l v := fun w hw e => by
          subst e
          refine ⟨rfl, fun i l v hl hv => ?_⟩
          match i with
          | 0 => simp at hl hv; subst hl hv; exact hw
          | i + 1 => simp at hl
        rcases DataW.trod_slice hu hx with ⟨e, _⟩ | ⟨a, len, cap, _, _, _, _, e, _⟩
        · exact key _ rfl e
        · exact key _ rfl e
      | struct fs =>
        simp only [Bool.and_eq_true, beq_iff_eq, List.all_eq_true, List.mem_range, List.any_eq_true, decide_eq_true_eq] at h
        obtain ⟨⟨hlen, hfs⟩, hcov⟩ := h
        obtain ⟨xs, n, _, _, hcl, hxl, hg⟩ := DataW.trod_struct hu hx
        refine ⟨by omega, fun i l v hl hv => ?_⟩
        have hil : i < ls.length := (List.getElem?_eq_some_iff.1 hl).1
        obtain ⟨f, hf, hf1, hf2⟩ := hcov i hil
        obtain ⟨hfl, hfn⟩ := hfs f hf
        obtain ⟨j, hj, hfj⟩ := List.getElem_of_mem hf
        have hfj2 : fs[j]? = some f := by
          rw [← hfj, Array.getElem_toList]
          exact Array.getElem?_eq_getElem _
        have h2 := hg j f hfj2
        have hjx : j < xs.length := by rw [hxl]; simpa using hj
        rw [List.getElem?_eq_getElem hjx] at h2
        obtain ⟨_, h3⟩ := flat_trod d hfl h2
        refine h3 (i - f.offset) l v ?_ ?_
        · rw [List.getElem?_take_of_lt (by omega), List.getElem?_drop, show f.offset + (i - f.offset) = i by omega]
          exact hl
        · rw [List.getElem?_take_of_lt (by omega), List.getElem?_drop, show f.offset + (i - f.offset) = i by omega]
          exact hv
      | _ => cases h
theorem has_block {r : Reach} {a : Addr} {e : TypeId} {n : Nat} (h : W.has P r base a e n) : a.spot = none ∧ a.block < W.heap.size := by
  obtain ⟨_, h1, row, cells, h2, _⟩ := h
  refine ⟨h1, ?_⟩
  unfold World.shape? at h2
  cases hb : W.heap[a.block]? with
  | none => rw [hb] at h2; cases h2
  | some o => exact (Array.getElem?_eq_some_iff.1 hb).1
theorem cell_slice {t e : TypeId} {a : Addr} {len cap : Nat} (ht : P.underlying t = some (.slice e)) (h : Cell.okWide P W .any base t (.slice (some a) len cap)) : a.spot = none ∧ a.block < W.heap.size ∧ len ≤ cap := by
  simp only [Cell.okWide, ht, Cell.ok] at h
  exact ⟨(has_block h.2.2).1, (has_block h.2.2).2, h.1⟩
theorem wide_slice {t e : TypeId} {a : Addr} {len cap : Nat} (ht : P.underlying t = some (.slice e)) (h : Value.okWide P W .any base t (.slice (some a) len cap)) : a.spot = none ∧ a.block < W.heap.size ∧ len ≤ cap :=
  cell_slice ht (by simpa only [Value.okWide, ht] using h)
theorem leaf_one {l : Leaf} {v : Value} (h : leafOK l v) : v.oneCell' = true := by
  cases l with
  | int k => obtain ⟨n, rfl, _⟩ := h; rfl
  | bool => obtain ⟨b, rfl⟩ := h; rfl
  | any => exact h
theorem flatten_len {n : Nat} : ∀ {rs : List (List Value)}, (∀ r ∈ rs, r.length = n) → rs.flatten.length = rs.length * n
  | [], _ => by simp
  | r :: rs, h => by
    rw [List.flatten_cons, List.length_append, h r (by simp), flatten_len fun x hx => h x (by simp [hx]), List.length_cons, Nat.add_mul]
    omega
theorem flatten_get {n : Nat} : ∀ {rs : List (List Value)}, (∀ r ∈ rs, r.length = n) → ∀ (i c : Nat), c < n → rs.flatten[i * n + c]? = (rs[i]?).bind (·[c]?)
  | [], _, i, c, _ => by simp
  | r :: rs, h, 0, c, hc => by
    rw [List.flatten_cons, Nat.zero_mul, Nat.zero_add, List.getElem?_append_left (by rw [h r (by simp)]; exact hc)]
    rfl
  | r :: rs, h, i + 1, c, hc => by
    have hr := h r (by simp)
    rw [List.flatten_cons, List.getElem?_append_right (by rw [hr, Nat.add_mul]; omega), hr]
    have e : (i + 1) * n + c - n = i * n + c := by rw [Nat.add_mul]; omega
    rw [e, flatten_get (fun x hx => h x (by simp [hx])) i c hc]
    rfl
/-- a slice of plain structs (of slices, as they are) that came in -/
theorem arg_rows {t e : TypeId} {ls : List Leaf} {dep : Nat} {v : Value} {fuel : Nat} {x : DataW H × List MemPlace} (ht : P.underlying t = some (.slice e)) (hfl : flatB P dep e ls = true) (hn : P.cellsOf e = ls.length)
    (hok : ∀ a len cap, v = .slice (some a) len cap → a.spot = none ∧ a.block < W.heap.size) (h : DataW.trod enc P W base (fun _ => true) held fuel t [v] = some x) :
    ∃ rows : List (List Value), (∀ r ∈ rows, r.length = ls.length ∧ ∀ (i : Nat) l u, ls[i]? = some l → r[i]? = some u → leafOK l u) ∧ rows.length ≤ maxLen ∧
      ∀ es : List PV, es.map PV.cells = rows.map (fun r => r.map PV.val) → Rep NoM W (.sl es) v := by
  rcases DataW.trod_slice ht h with ⟨hv, _⟩ | ⟨a, len, cap, elems, rest, n, _, hv, _, hb, hlc, hm, hlen, hel, _⟩
  · simp only [List.cons.injEq, and_true] at hv
    subst hv
    refine ⟨[], fun r hr => by simp at hr, Nat.zero_le _, fun es he => ?_⟩
    have : es = [] := by simpa using he
    subst this
    exact .nil
  · simp only [List.cons.injEq, and_true] at hv
    subst hv
    obtain ⟨hs, hbk⟩ := hok a len cap rfl
    obtain ⟨g, off, spot⟩ := a
    simp only at hs hbk
    subst hs
    have row : ∀ i, i < len → ∃ r : List Value, W.cells? base (Addr.add ⟨g, off, none⟩ (i * P.cellsOf e)) (P.cellsOf e) = some r ∧ r.length = ls.length ∧ ∀ (j : Nat) l u, ls[j]? = some l → r[j]? = some u → leafOK l u := by
      intro i hi
      have h1 := hel i hi
      rw [List.getElem?_eq_getElem (by omega : i < elems.length)] at h1
      obtain ⟨r, hr, h2⟩ := Option.bind_eq_some_iff.1 h1
      obtain ⟨h3, h4⟩ := flat_trod dep hfl h2
      exact ⟨r, hr, h3, h4⟩
    have rows : ∀ m, m ≤ len → ∃ rs : List (List Value), rs.length = m ∧ ∀ (i : Nat) r, rs[i]? = some r → W.cells? base (Addr.add ⟨g, off, none⟩ (i * P.cellsOf e)) (P.cellsOf e) = some r ∧ r.length = ls.length ∧ ∀ (j : Nat) l u, ls[j]? = some l → r[j]? = some u → leafOK l u := by
      intro m
      induction m with
      | zero => exact fun _ => ⟨[], rfl, fun i r h => by simp at h⟩
      | succ m ih =>
        intro hm2
        obtain ⟨rs, h1, h2⟩ := ih (by omega)
        obtain ⟨r, hr⟩ := row m (by omega)
        refine ⟨rs ++ [r], by simp [h1], fun i r' hi => ?_⟩
        rcases Nat.lt_or_ge i rs.length with h3 | h3
        · rw [List.getElem?_append_left h3] at hi
          exact h2 i r' hi
        · rw [List.getElem?_append_right h3] at hi
          have e0 : i - rs.length = 0 := by
            rcases Nat.eq_zero_or_pos (i - rs.length) with h | h
            · exact h
            · rw [List.getElem?_eq_none (by simp; omega)] at hi; cases hi
          rw [e0] at hi
          simp at hi
          subst hi
          rw [show i = m by omega]
          exact hr
    obtain ⟨rs, hrl, hrs⟩ := rows len (Nat.le_refl _)
    refine ⟨rs, fun r hr => ?_, by omega, fun es he => ?_⟩
    · obtain ⟨i, hi, rfl⟩ := List.getElem_of_mem hr
      exact (hrs i _ (List.getElem?_eq_getElem hi)).2
    · have hn0 : P.cellsOf e = ls.length := hn
      have hesl : es.length = rs.length := by simpa using congrArg List.length he
      have hflat : flat es = rs.flatten.map PV.val := by
        show es.flatMap PV.cells = _
        rw [List.flatMap_def, he, List.map_flatten]
      have hrn : ∀ r ∈ rs, r.length = ls.length := fun r hr => by
        obtain ⟨i, hi, rfl⟩ := List.getElem_of_mem hr
        exact (hrs i _ (List.getElem?_eq_getElem hi)).2.1
      have hyl : rs.flatten.length = rs.length * ls.length := flatten_len hrn
      have at_ : ∀ (j : Nat) y, rs.flatten[j]? = some y → ∃ i c r, j = i * ls.length + c ∧ rs[i]? = some r ∧ r[c]? = some y := fun j y hy => by
        have hj : j < rs.length * ls.length := by rw [← hyl]; exact (List.getElem?_eq_some_iff.1 hy).1
        have hpos : 0 < ls.length := by
          rcases Nat.eq_zero_or_pos ls.length with h | h
          · rw [h] at hj; omega
          · exact h
        have e1 : j = (j / ls.length) * ls.length + j % ls.length := by
          have := Nat.div_add_mod j ls.length
          rw [Nat.mul_comm] at this
          omega
        have hi : j / ls.length < rs.length := (Nat.div_lt_iff_lt_mul hpos).2 hj
        have hc : j % ls.length < ls.length := Nat.mod_lt _ hpos
        have h1 := flatten_get hrn (j / ls.length) (j % ls.length) hc
        rw [← e1, hy, List.getElem?_eq_getElem hi] at h1
        exact ⟨_, _, _, e1, List.getElem?_eq_getElem hi, h1.symm⟩
      refine .sl es g off len cap rs.flatten (by omega) (by rw [hflat, List.length_map]) (fun j y hy => ?_) (fun j c y hc hy => ?_) (fun y hy => ?_) (fun _ _ h => h) hbk hlc hm
      · obtain ⟨i, c, r, rfl, hr, hc⟩ := at_ j y hy
        have h1 := World.cells?_some (hrs i r hr).1
        have hcl : c < P.cellsOf e := by
          rw [hn0, ← (hrs i r hr).2.1]
          exact (List.getElem?_eq_some_iff.1 hc).1
        have h2 := h1.2.2 c hcl
        rw [hc, add_lit, add_lit, hn0, Nat.add_assoc] at h2
        exact h2
      · rw [hflat, List.getElem?_map, hy] at hc
        simp only [Option.map_some, Option.some.injEq] at hc
        subst hc
        exact .val _
      · obtain ⟨j, hj, rfl⟩ := List.getElem_of_mem hy
        obtain ⟨i, c, r, _, hr, hc⟩ := at_ j _ (List.getElem?_eq_getElem hj)
        have hcl : c < ls.length := by
          rw [← (hrs i r hr).2.1]
          exact (List.getElem?_eq_some_iff.1 hc).1
        exact leaf_one ((hrs i r hr).2.2 c _ _ (List.getElem?_eq_getElem hcl) hc)
end
end Go.Proofs.YtmfbamiciieooaaGreatDoor
/- Arguments: rows of truth values, and of bytes. Generic over the program. -/
namespace Go.Proofs.YtmfbamiciieooaaGreatDoor
set_option maxRecDepth 100000
set_option maxHeartbeats 16000000
open Go Go.RowKit Go.ChangeShapes Go.WideShapes Go.ChangeAt
set_option linter.unusedVariables false
section
variable {P : Program} {W : World} {H : Type} {enc : TypeId × Value → H}
theorem arg_one {t e : TypeId} {l : Leaf} {v : Value} {d : DataW H} {p : List MemPlace} {base : Nat} (ht : P.underlying t = some (.slice e)) (hfl : flatB P 3 e [l] = true) (hn : P.cellsOf e = 1) (hv : Value.okWide P W .any base t v)
    (h : DataW.Trod enc P W 0 (fun _ => true) true t v d p) : ∃ xs : List Value, (∀ x ∈ xs, leafOK l x) ∧ xs.length ≤ maxLen ∧ Rep NoM W (.sl (xs.map PV.val)) v := by
  obtain ⟨a, len, cap, rfl⟩ := okWide_slice ht hv
  obtain ⟨fuel, hf⟩ := h
  have hf' : DataW.trod enc P W 0 (fun _ => true) true fuel t [Value.slice a len cap] = some (d, p) := hf
  obtain ⟨rows, h1, h2, h3⟩ := arg_rows (ls := [l]) ht hfl hn (fun a' len' cap' e' => by
    injection e' with e1 e2 e3
    subst e1 e2 e3
    have := wide_slice ht hv
    exact ⟨this.1, this.2.1⟩) hf'
  have hr : ∀ r ∈ rows, ∃ x, r = [x] ∧ leafOK l x := fun r hr => by
    obtain ⟨hl, hx⟩ := h1 r hr
    match r, hl with
    | [x], _ => exact ⟨x, rfl, hx 0 l x rfl rfl⟩
  refine ⟨rows.flatten, fun x hx => ?_, ?_, h3 _ ?_⟩
  · obtain ⟨r, h4, h5⟩ := List.mem_flatten.1 hx
    obtain ⟨y, rfl, h6⟩ := hr r h4
    simp at h5; subst h5; exact h6
  · have : rows.flatten.length = rows.length * 1 := flatten_len fun r h => (h1 r h).1
    omega
  · clear h3 h2 h1 hf hf'
    induction rows with
    | nil => rfl
    | cons r rs ih =>
      obtain ⟨y, rfl, _⟩ := hr r (by simp)
      have := ih fun r h => hr r (by simp [h])
      show (PV.val y).cells :: (rs.flatten.map PV.val).map PV.cells = [PV.val y] :: rs.map fun r => r.map PV.val
      rw [this]
      rfl
end
end Go.Proofs.YtmfbamiciieooaaGreatDoor
/- Arguments: rows of numbers of two bytes. Generic over the program. -/
namespace Go.Proofs.YtmfbamiciieooaaGreatDoor
set_option maxRecDepth 100000
set_option maxHeartbeats 16000000
open Go Go.RowKit Go.ChangeShapes Go.WideShapes Go.ChangeAt
set_option linter.unusedVariables false
def u16s (l : List Int) : List PV := l.map fun x => .val (.int .u16 x)
theorem u16s_len (l : List Int) : (u16s l).length = l.length := by simp [u16s]
theorem u16s_cells (l : List Int) : ∀ e ∈ u16s l, e.cells.length = 1 := fun e he => by
  obtain ⟨x, _, rfl⟩ := List.mem_map.1 he
  rfl
theorem u16s_at {l : List Int} {i : Nat} {x : Int} (h : l[i]? = some x) : (u16s l)[i]? = some (.val (.int .u16 x)) := by simp [u16s, h]
section
variable {P : Program} {W : World} {H : Type} {enc : TypeId × Value → H}
theorem arg_u16s {t e : TypeId} {v : Value} {d : DataW H} {p : List MemPlace} {base : Nat} (ht : P.underlying t = some (.slice e)) (hfl : flatB P 3 e [.int .u16] = true) (hn : P.cellsOf e = 1) (hv : Value.okWide P W .any base t v)
    (h : DataW.Trod enc P W 0 (fun _ => true) true t v d p) : ∃ l : List Int, Rep NoM W (.sl (u16s l)) v ∧ (∀ x ∈ l, 0 ≤ x ∧ x < 65536) ∧ l.length ≤ maxLen := by
  obtain ⟨xs, h1, h2, h3⟩ := arg_one ht hfl hn hv h
  suffices ∃ l : List Int, xs = l.map (Value.int .u16) ∧ ∀ x ∈ l, 0 ≤ x ∧ x < 65536 by
    obtain ⟨l, rfl, h4⟩ := this
    exact ⟨l, by rw [List.map_map] at h3; exact h3, h4, by simpa using h2⟩
  clear h3 h2
  induction xs with
  | nil => exact ⟨[], rfl, fun x hx => by simp at hx⟩
  | cons x r ih =>
    obtain ⟨b, rfl, hb⟩ := h1 x (by simp)
    obtain ⟨l, rfl, hl⟩ := ih fun y hy => h1 y (by simp [hy])
    refine ⟨b :: l, rfl, fun y hy => ?_⟩
    rcases List.mem_cons.1 hy with rfl | hy
    · have := bounds_u16 hb
      omega
    · exact hl y hy
end
end Go.Proofs.YtmfbamiciieooaaGreatDoor
/- The vertices' example: by evaluation, and its contracts. -/
namespace Go.Proofs.YtmfbamiciieooaaGreatDoor
set_option maxRecDepth 100000
set_option maxHeartbeats 16000000
open Go Go.RowKit
set_option linter.unusedSimpArgs false
/-- an operation that steps alone, in a world: its contract, and what is kept -/
structure AlV (B : Nat) (me : Nat) (k u v w : Int) (most : Nat) (W : Wd) (R : ResN) : Prop where
  fn : Fn Tryz.prog 10 [W.pv, .val (.int .i64 me), opV k u v w, .val (.int .i64 most)] (.tup [R.W.pv, outV R.o.e R.o.is R.o.n R.o.w, .val (.bool true)])
  ok : WdOK (B + 100000) R.W
  t : R.W.t = W.t
  c : R.W.c = W.c
  r0 : R.W.r0.length = W.r0.length
  ws : R.W.ws.length = W.ws.length
theorem alV_of {B me : Nat} {k u v w : Int} {most : Nat} {W : Wd} {R : ResN} (hr : (qG W.t me k u).run (wSt me noFail) (W, 0) = .done R.o (R.W, R.m)) (ht : Small W.t) (h0 : 0 ≤ W.t) (hW : WdOK B W) (hme : me < W.r0.length) (hm : R.m ≤ most) (h20 : most ≤ 100) (hB : B ≤ 500000) : AlV B me k u v w most W R := by
  have hk := run_keeps (fine_vop W.t me k u) hW hr
  exact ⟨aloneV_fn B W R.W me k u v w most R.m R.o hW ht h0 hme hr hm (by omega) (by omega) (by omega), hk.2.1.le (by omega), hk.2.2.1, hk.2.2.2.1, hk.2.2.2.2.1, hk.2.2.2.2.2.1⟩
/-! ### The document's example -/
def sv0 : Wd := ⟨2, 2, newW 2 2, 0, [([], 0), ([], 0)], [([], 0), ([], 0)]⟩
def sv1 : ResN := rsN (qG 2 (0 : Nat) 11 3) 0 sv0
def sv2 : ResN := rsN (qG 2 (1 : Nat) 11 3) 1 sv1.W
def sv3 : ResN := rsN (qG 2 (0 : Nat) 13 3) 0 sv2.W
def sv4 : ResN := rsN (qG 2 (1 : Nat) 12 3) 1 sv3.W
def sv5 : ResN := rsN (qG 2 (0 : Nat) 13 3) 0 sv4.W
def sv6 : ResN := rsN (qG 2 (0 : Nat) 13 (-1)) 0 sv0
theorem sr1 : (qG 2 (0 : Nat) 11 3).run (wSt 0 noFail) (sv0, 0) = .done sv1.o (sv1.W, sv1.m) := by kernel_rfl
theorem sr2 : (qG 2 (1 : Nat) 11 3).run (wSt 1 noFail) (sv1.W, 0) = .done sv2.o (sv2.W, sv2.m) := by kernel_rfl
theorem sr3 : (qG 2 (0 : Nat) 13 3).run (wSt 0 noFail) (sv2.W, 0) = .done sv3.o (sv3.W, sv3.m) := by kernel_rfl
theorem sr4 : (qG 2 (1 : Nat) 12 3).run (wSt 1 noFail) (sv3.W, 0) = .done sv4.o (sv4.W, sv4.m) := by kernel_rfl
theorem sr5 : (qG 2 (0 : Nat) 13 3).run (wSt 0 noFail) (sv4.W, 0) = .done sv5.o (sv5.W, sv5.m) := by kernel_rfl
theorem sr6 : (qG 2 (0 : Nat) 13 (-1)).run (wSt 0 noFail) (sv0, 0) = .done sv6.o (sv6.W, sv6.m) := by kernel_rfl
theorem sr7 : sv1.o.is = true ∧ sv2.o.is = false ∧ sv3.o.is = true ∧ sv4.o.is = true ∧ sv5.o.is = false ∧ sv6.o.e = 4 := by refine ⟨?_, ?_, ?_, ?_, ?_, ?_⟩ <;> kernel_rfl
theorem sr8 : sv1.m ≤ 99 ∧ sv2.m ≤ 99 ∧ sv3.m ≤ 99 ∧ sv4.m ≤ 99 ∧ sv5.m ≤ 99 ∧ sv6.m ≤ 0 := by refine ⟨?_, ?_, ?_, ?_, ?_, ?_⟩ <;> exact Nat.le_of_ble_eq_true (by kernel_rfl)
theorem sv0_ok : WdOK 0 sv0 := ⟨fun x hx => newW_U (by decide) x hx, by show (newW 2 2).length ≤ _; rw [newW_len]; decide, rfl, by decide, fun p hp => by
    have hp : p ∈ [(([] : List Int), (0 : Int)), ([], 0)] := hp
    simp only [List.mem_cons, List.not_mem_nil, or_false] at hp
    rcases hp with rfl | rfl <;> exact Nat.le_refl _⟩
theorem al_sv : AlV 0 0 11 3 0 0 99 sv0 sv1 ∧ AlV 100000 1 11 3 0 0 99 sv1.W sv2 ∧ AlV 200000 0 13 3 0 0 99 sv2.W sv3 ∧ AlV 300000 1 12 3 0 0 99 sv3.W sv4 ∧ AlV 400000 0 13 3 0 0 99 sv4.W sv5 ∧ AlV 0 0 13 (-1) 0 0 0 sv0 sv6 := by
  obtain ⟨m1, m2, m3, m4, m5, m6⟩ := sr8
  have hs : Small 2 := by unfold Small; omega
  have h2 : (0 : Int) ≤ 2 := by decide
  have a1 : AlV 0 0 11 3 0 0 99 sv0 sv1 := alV_of sr1 hs h2 sv0_ok (by decide) m1 (by decide) (by decide)
  have t1 : sv1.W.t = 2 := a1.t
  have r1 : sv1.W.r0.length = 2 := a1.r0
  have a2 : AlV 100000 1 11 3 0 0 99 sv1.W sv2 := alV_of (by rw [t1]; exact sr2) (by rw [t1]; exact hs) (by rw [t1]; exact h2) a1.ok (by omega) m2 (by decide) (by decide)
  have t2 : sv2.W.t = 2 := a2.t.trans t1
  have r2 : sv2.W.r0.length = 2 := a2.r0.trans r1
  have a3 : AlV 200000 0 13 3 0 0 99 sv2.W sv3 := alV_of (by rw [t2]; exact sr3) (by rw [t2]; exact hs) (by rw [t2]; exact h2) a2.ok (by omega) m3 (by decide) (by decide)
  have t3 : sv3.W.t = 2 := a3.t.trans t2
  have r3 : sv3.W.r0.length = 2 := a3.r0.trans r2
  have a4 : AlV 300000 1 12 3 0 0 99 sv3.W sv4 := alV_of (by rw [t3]; exact sr4) (by rw [t3]; exact hs) (by rw [t3]; exact h2) a3.ok (by omega) m4 (by decide) (by decide)
  have t4 : sv4.W.t = 2 := a4.t.trans t3
  have r4 : sv4.W.r0.length = 2 := a4.r0.trans r3
  exact ⟨a1, a2, a3, a4, alV_of (by rw [t4]; exact sr5) (by rw [t4]; exact hs) (by rw [t4]; exact h2) a4.ok (by omega) m5 (by decide) (by decide), alV_of sr6 hs h2 sv0_ok (by decide) m6 (by decide) (by decide)⟩
end Go.Proofs.YtmfbamiciieooaaGreatDoor
/- The vertices' example: contract. -/
namespace Go.Proofs.YtmfbamiciieooaaGreatDoor
set_option maxRecDepth 100000
set_option maxHeartbeats 16000000
open Go Go.RowKit
set_option linter.unusedSimpArgs false
set_option linter.unusedVariables false
attribute [local irreducible] zY zZ Step zX Sub zD zG Fn zF zO
theorem shown16_fn : Fn Tryz.prog 8 [] (.p (.val (.bool true))) := by
  have c0 := new10A_fn 2 2 (by decide) (by decide) (by decide) (by decide)
  obtain ⟨a1, a2, a3, a4, a5, a6⟩ := al_sv
  have c1 := a1.fn
  have c2 := a2.fn
  have c3 := a3.fn
  have c4 := a4.fn
  have c5 := a5.fn
  have c6 := a6.fn
  clear a1 a2 a3 a4 a5 a6
  obtain ⟨z1, z2, z3, z4, z5, z6⟩ := sr7
  generalize sv1 = q1 at *
  generalize sv2 = q2 at *
  generalize sv3 = q3 at *
  generalize sv4 = q4 at *
  generalize sv5 = q5 at *
  generalize sv6 = q6 at *
  obtain ⟨⟨e1, s1, n1, w1⟩, ⟨t1, u1, ws1, root1, r01, r11⟩, m1⟩ := q1
  obtain ⟨⟨e2, s2, n2, w2⟩, ⟨t2, u2, ws2, root2, r02, r12⟩, m2⟩ := q2
  obtain ⟨⟨e3, s3, n3, w3⟩, ⟨t3, u3, ws3, root3, r03, r13⟩, m3⟩ := q3
  obtain ⟨⟨e4, s4, n4, w4⟩, ⟨t4, u4, ws4, root4, r04, r14⟩, m4⟩ := q4
  obtain ⟨⟨e5, s5, n5, w5⟩, ⟨t5, u5, ws5, root5, r05, r15⟩, m5⟩ := q5
  obtain ⟨⟨e6, s6, n6, w6⟩, ⟨t6, u6, ws6, root6, r06, r16⟩, m6⟩ := q6
  dsimp only at z1 z2 z3 z4 z5 z6
  subst z1 z2 z3 z4 z5 z6
  have g0 : sv0 = ⟨2, 2, newW 2 2, 0, [([], 0), ([], 0)], [([], 0), ([], 0)]⟩ := rfl
  rw [g0] at c1 c6
  dsimp only [Wd.pv, vW] at c1 c2 c3 c4 c5 c6
  generalize newW 2 2 = nw at *
  clear g0
  refine yR Tryz.func8 rfl Tryz.ntmps8 (Nat.le_of_ble_eq_true rfl) ?_
  repeat' (first | (refine zY.is ?_; first | refine zY.nil ?_ | (refine zY.at_ 1 rfl ?_; refine zY.rc (.m zT (.w zR .e)) ?_) | (refine zY.at_ 21 rfl ?_; refine zY.rc (.v wR (.v yK (.v yK (.v yK (.m zT (.m zT (.w zR (.w zR (.v zC .e))))))))) ?_) | (refine zY.at_ 28 rfl ?_; refine zY.rc (.v wR (.v yK (.v yK (.v yK (.m zT (.m zT (.w zR (.w zR (.v zC .e))))))))) ?_) | (refine zY.at_ 35 rfl ?_; refine zY.rc (.v wR (.v yK (.v yK (.v yK (.m zT (.m zT (.w zR (.w zR (.v zC .e))))))))) ?_) | (refine zY.at_ 42 rfl ?_; refine zY.rc (.v wR (.v yK (.v yK (.v yK (.m zT (.m zT (.w zR (.w zR (.v zC .e))))))))) ?_) | (refine zY.at_ 49 rfl ?_; refine zY.rc (.v wR (.v yK (.v yK (.v yK (.m zT (.m zT (.w zR (.w zR (.v zC .e))))))))) ?_) | (refine zY.at_ 56 rfl ?_; refine zY.rc (.v wR (.v yK (.v yK (.v yK (.m zT (.m zT (.w zR (.w zR (.v zC .e))))))))) ?_) | (refine zY.in_ [24] rfl ?_; refine zY.v rfl rfl (yT (c1) rfl rfl rfl (by decide)) ?_) | (refine zY.in_ [31] rfl ?_; refine zY.v rfl rfl (yT (c2) rfl rfl rfl (by decide)) ?_) | (refine zY.in_ [38] rfl ?_; refine zY.v rfl rfl (yT (c3) rfl rfl rfl (by decide)) ?_) | (refine zY.in_ [45] rfl ?_; refine zY.v rfl rfl (yT (c4) rfl rfl rfl (by decide)) ?_) | (refine zY.in_ [52] rfl ?_; refine zY.v rfl rfl (yT (c5) rfl rfl rfl (by decide)) ?_) | (refine zY.in_ [59] rfl ?_; refine zY.v rfl rfl (yT (c6) rfl rfl rfl (by decide)) ?_) | (refine zY.in_ [20] rfl ?_; refine zY.m rfl rfl (w_callAg c0 rfl rfl rfl (by decide)) ?_)) | (refine zZ.is ?_; first | refine zZ.seq ?_ | (refine zZ.isR (id := 0) ?_; refine zZ.rc [] [1, 2, 3, 5, 6, 8, 9, 11, 12, 14, 15, 17, 18, 20, 24, 31, 38, 45, 52, 59] (r := (.v zC .e)) (h := ?_)) | (refine zZ.isR (id := 1) ?_; refine zZ.rc [0] [1, 2, 3, 5, 6, 8, 9, 11, 12, 14, 15, 17, 18, 20, 24, 31, 38, 45, 52, 59] (r := .e) (h := ?_)) | (refine zZ.isR (id := 2) ?_; refine zZ.sub ((sub_frzE 20 27 1 (wds nw) rfl)) ?_; refine zZ.rc [0, 1] [1, 2, 3, 5, 6, 8, 9, 11, 12, 14, 15, 17, 18, 20, 24, 31, 38, 45, 52, 59] (r := (.v wQ (.v xQ .e))) (h := ?_)) | (refine zZ.isR (id := 3) ?_; refine zZ.rc [0, 1, 2, 3, 4] [1, 2, 3, 5, 6, 8, 9, 11, 12, 14, 15, 17, 18, 20, 24, 31, 38, 45, 52, 59] (r := (.v wQ (.v xQ .e))) (h := ?_)) | (refine zZ.isR (id := 4) ?_; refine zZ.rc [0, 1, 3, 4, 5, 6, 7] [1, 2, 3, 5, 6, 8, 9, 11, 12, 14, 15, 17, 18, 20, 24, 31, 38, 45, 52, 59] (r := (.v wQ (.v xQ .e))) (h := ?_)) | (refine zZ.isR (id := 5) ?_; refine zZ.rc [0, 1, 3, 4, 6, 7, 8, 9, 10] [1, 2, 3, 5, 6, 8, 9, 11, 12, 14, 15, 17, 18, 20, 24, 31, 38, 45, 52, 59] (r := (.v wQ (.v xQ .e))) (h := ?_)) | (refine zZ.isR (id := 6) ?_; refine zZ.rc [0, 1, 3, 4, 6, 7, 9, 10, 11, 12, 13] [1, 2, 3, 5, 6, 8, 9, 11, 12, 14, 15, 17, 18, 20, 24, 31, 38, 45, 52, 59] (r := (.v wQ (.v xQ .e))) (h := ?_)) | (refine zZ.isR (id := 7) ?_; refine zZ.rc [0, 1, 3, 4, 6, 7, 9, 10, 12, 13, 15, 16] [1, 2, 3, 5, 6, 8, 9, 11, 12, 14, 15, 17, 18, 20, 24, 31, 38, 45, 52, 59] (r := (.v wQ (.v xQ .e))) (h := ?_)) | (refine zZ.isR (id := 8) ?_; refine zZ.rc [0, 3, 4, 6, 7, 9, 10, 12, 13, 15, 16, 18, 19] [1, 2, 3, 5, 6, 8, 9, 11, 12, 14, 15, 17, 18, 20, 24, 31, 38, 45, 52, 59] (r := (.v zV (.v zV (.gY zV (.v wL (.v zV (.gY zV (.v wL (.v zV (.gY zV (.v wL (.v zV (.gY zV (.v wL (.v zV (.gY zV (.v wL (.v zV (.gY zP (.gY zS (.v wL (.v zV (.gY zP (.gY zS (.gY v52_4 (.v wL (.v zV (.gY zP (.gY zS (.v wL (.v zV (.gY zP (.gY zS (.v wL (.v zV (.gY zP (.gY zS (.gY v52_4 (.v wL (.v zV (.gY zP (.gY zS (.gY v41_4 (.v wL (.v zC .e))))))))))))))))))))))))))))))))))))))))))))) (h := ?_)) | refine zZ.ret ?_) | refine zF.n ?_)
  all_goals exact ⟨by first | exact .inl rfl | exact .inr rfl, _, Sub.refl _, .p rfl (.tmp rfl)⟩
end Go.Proofs.YtmfbamiciieooaaGreatDoor
/- A region that draws its order, of which some operations may come late. Generic over the program. -/
namespace Go.Proofs.YtmfbamiciieooaaGreatDoor
set_option maxRecDepth 100000
set_option maxHeartbeats 16000000
open Go Go.RowKit
attribute [local semireducible] wD DOne Draws
/-- as schedB; some of the first m may come behind others -/
def schedL (l : List Oper) (m : Nat) (bss : List (List Nat)) (late : List Nat) : Bool :=
  decide (m ≤ l.length) && ((List.range l.length).all fun i => match l[i]? with
    | some o => o.after.toList.all fun e => !Region.binds .any e || decide (e.on < i)
    | none => true) &&
  ((List.range m).all fun i => (List.range m).all fun j =>
    (i == j || xX l i != xX l j) && (xX l i).isSome && (decide (i < j) || !(ord l i j)) &&
    (match xX l j with
     | some t => (!(readsOf l i).contains t || i == j || (decide (j < i) && ord l j i) || (decide (i < j) && ord l i j)) && (!(bss.getD i []).contains t || (decide (j < i) && ord l j i))
     | none => true)) &&
  ((List.range l.length).all fun t => decide (t < m) || (List.range m).all fun j => ord l j t || late.contains j)
structure SchedL (l : List Oper) (xs : List AI) (late : List Nat) : Prop where
  len : xs.length ≤ l.length
  back : ∀ (i : Nat) (o : Oper), l[i]? = some o → ∀ e ∈ o.after.toList, Region.binds .any e = true → e.on < i
  one : ∀ i j, i < xs.length → j < xs.length → xX l i = xX l j → i = j
  has : ∀ i, i < xs.length → (xX l i).isSome = true
  fwd : ∀ i j, i < xs.length → j < xs.length → ord l i j = true → i < j
  reads : ∀ i j t, i < xs.length → j < xs.length → xX l j = some t → t ∈ readsOf l i → i = j ∨ (j < i ∧ ord l j i = true) ∨ (i < j ∧ ord l i j = true)
  blks : ∀ i j t x, i < xs.length → j < xs.length → xX l j = some t → xs[i]? = some x → t ∈ x.bs → j < i ∧ ord l j i = true
  tail : ∀ t, xs.length ≤ t → t < l.length → ∀ j, j < xs.length → ord l j t = true ∨ late.contains j = true
theorem SchedL.of {l : List Oper} {xs : List AI} {late : List Nat} (h : schedL l xs.length (xs.map (·.bs)) late = true) : SchedL l xs late := by
  unfold schedL at h
  simp only [Bool.and_eq_true, List.all_eq_true, List.mem_range, decide_eq_true_eq, Bool.or_eq_true] at h
  obtain ⟨⟨⟨h1, h2⟩, h3⟩, h4⟩ := h
  refine ⟨h1, fun i o ho e he hb => ?_, fun i j hi hj he => ?_, fun i hi => ?_, fun i j hi hj ho => ?_, fun i j t hi hj hd ht => ?_, fun i j t x hi hj hd hx ht => ?_, fun t ht htl j hj => ?_⟩
  · have hi : i < l.length := (List.getElem?_eq_some_iff.1 ho).1
    have := h2 i hi
    rw [ho] at this
    simp only [List.all_eq_true, Bool.or_eq_true, decide_eq_true_eq, Bool.not_eq_true'] at this
    rcases this e he with h5 | h5
    · rw [hb] at h5; cases h5
    · exact h5
  · have := (h3 i hi j hj).1.1.1
    rcases this with h5 | h5
    · simpa using h5
    · simp [he] at h5
  · exact (h3 i hi i hi).1.1.2
  · rcases (h3 i hi j hj).1.2 with h5 | h5
    · exact h5
    · simp [ho] at h5
  · have := (h3 i hi j hj).2
    rw [hd] at this
    simp only [Bool.and_eq_true, Bool.or_eq_true, decide_eq_true_eq, beq_iff_eq] at this
    rcases this.1 with ((h5 | h5) | h5) | h5
    · simp [ht] at h5
    · exact .inl h5
    · exact .inr (.inl h5)
    · exact .inr (.inr h5)
  · have := (h3 i hi j hj).2
    rw [hd] at this
    simp only [Bool.and_eq_true, Bool.or_eq_true, decide_eq_true_eq, beq_iff_eq] at this
    rcases this.2 with h5 | h5
    · exfalso
      have e : (List.map (fun x : AI => x.bs) xs).getD i [] = x.bs := by simp [List.getD_eq_getElem?_getD, hx]
      rw [e] at h5
      simp [ht] at h5
    · exact h5
  · rcases h4 t htl with h5 | h5
    · omega
    · exact h5 j hj
theorem Apart.ofL {l : List Oper} {xs : List AI} {late : List Nat} {S0 : AS} (hs : SchedL l xs late) (h : madeB l xs S0 = true) : Apart l xs S0 := by
  have hd' : ∀ {i : Nat} {o : Oper}, l[i]? = some o → xX l i = o.dst := fun {i o} ho => by simp [xX, ho]
  have hlt : ∀ {i : Nat} {x : AI}, xs[i]? = some x → i < xs.length := fun {i x} hx => (List.getElem?_eq_some_iff.1 hx).1
  have main : ∀ (i : Nat) (o : Oper) (x : AI) (d : Nat), l[i]? = some o → xs[i]? = some x → o.dst = some d → x.nb ≠ none → noRef d S0 = true ∧ ∀ (k : Nat) (x' : AI), xs[k]? = some x' →
      (ord l i k = true ∧ i ≠ k) ∨ ((i = k ∨ freeOf d x'.av = true) ∧ ∀ b, x'.nb = some b → freeOfB d b = true) := by
    intro i o x d ho hx hd hnb
    unfold madeB at h
    rw [List.all_eq_true] at h
    have h1 := h i (List.mem_range.2 (hlt hx))
    rw [hx, hd' ho, hd] at h1
    obtain ⟨b, hb⟩ := Option.ne_none_iff_exists'.1 hnb
    obtain ⟨bs, av, nb⟩ := x
    simp only at hb
    subst hb
    simp only [Bool.and_eq_true, List.all_eq_true, List.mem_range, Bool.or_eq_true] at h1
    refine ⟨h1.1, fun k x' hx' => ?_⟩
    have h2 := h1.2 k (hlt hx')
    rw [hx'] at h2
    rcases h2 with h2 | h2
    · exact .inl ⟨h2.1, by simpa using h2.2⟩
    · right
      simp only [Bool.and_eq_true, Bool.or_eq_true, beq_iff_eq] at h2
      refine ⟨h2.1, fun b' hb' => ?_⟩
      have h3 := h2.2
      rw [hb'] at h3
      exact h3
  refine ⟨fun i j o o' x x' d ho ho' hx hx' hd hd2 => hs.one i j (hlt hx) (hlt hx') (by rw [hd' ho, hd' ho', hd, hd2]), fun i k o x x' d ho hx hx' hd hnb => (main i o x d ho hx hd hnb).2 k x' hx', fun i o x d ho hx hd hnb => (main i o x d ho hx hd hnb).1, fun i o x ho hx => ?_⟩
  have := hs.has i (hlt hx)
  rw [hd' ho] at this
  exact Option.isSome_iff_exists.1 this
/-- What an operation that may come up reads is as it is where the text comes to it. -/
theorem Agr.readsL {l : List Oper} {xs : List AI} {late : List Nat} {S0 S2 Si : AS} {listed : Array Bool} (hs : SchedL l xs late) (hc : Closed l listed) {i : Nat} {x : AI} (hr : i ∈ Region.ready .any l.toArray listed)
    (hx : xs[i]? = some x) (h : Agr l xs S0 (Done listed) S2) (h' : Agr l xs S0 (fun k => k < i) Si) :
    (∀ t ∈ readsOf l i, S2.tmp t = Si.tmp t) ∧ ∀ id ∈ x.bs, S2.blk id = Si.blk id := by
  have hix : i < xs.length := (List.getElem?_eq_some_iff.1 hx).1
  have hnd := (yE hr).2.1
  have hil := (yE hr).1
  have hd' : ∀ {k : Nat} {ok : Oper}, l[k]? = some ok → xX l k = ok.dst := fun {k ok} hk => by simp [xX, hk]
  refine ⟨fun t ht => ?_, fun id hid => ?_⟩
  · have iff : ∀ (k : Nat) (ok : Oper) (xk : AI), l[k]? = some ok → xs[k]? = some xk → ok.dst = some t → (Done listed k ↔ k < i) := by
      intro k ok xk h1 h2 h3
      have hkx : k < xs.length := (List.getElem?_eq_some_iff.1 h2).1
      rcases hs.reads i k t hix hkx (by rw [hd' h1, h3]) ht with h4 | ⟨h4, h5⟩ | ⟨h4, h5⟩
      · subst h4; exact ⟨fun h => (hnd h).elim, fun h => by omega⟩
      · exact ⟨fun _ => h4, fun _ => hc.ready_ord hr h5⟩
      · refine ⟨fun h => (hnd ?_).elim, fun h => by omega⟩
        exact hc.ord (k + 1) k i (by omega) (Nat.lt_of_lt_of_le hkx hs.len) h h5
    by_cases hex : ∃ (k : Nat) (ok : Oper) (xk : AI), l[k]? = some ok ∧ xs[k]? = some xk ∧ Done listed k ∧ ok.dst = some t
    · obtain ⟨k, ok, xk, h1, h2, h3, h4⟩ := hex
      rw [h.t1 k ok xk t h1 h2 h3 h4, h'.t1 k ok xk t h1 h2 ((iff k ok xk h1 h2 h4).1 h3) h4]
    · rw [h.t2 t fun k ok xk h1 h2 h3 h4 => hex ⟨k, ok, xk, h1, h2, h3, h4⟩, h'.t2 t fun k ok xk h1 h2 h3 h4 => hex ⟨k, ok, xk, h1, h2, (iff k ok xk h1 h2 h4).2 h3, h4⟩]
  · have iff : ∀ (k : Nat) (ok : Oper) (xk : AI), l[k]? = some ok → xs[k]? = some xk → ok.dst = some id → (Done listed k ∧ k < i) := by
      intro k ok xk h1 h2 h3
      have hkx : k < xs.length := (List.getElem?_eq_some_iff.1 h2).1
      obtain ⟨h4, h5⟩ := hs.blks i k id x hix hkx (by rw [hd' h1, h3]) hx hid
      exact ⟨hc.ready_ord hr h5, h4⟩
    by_cases hex : ∃ (k : Nat) (ok : Oper) (xk : AI), l[k]? = some ok ∧ xs[k]? = some xk ∧ xk.nb ≠ none ∧ ok.dst = some id
    · obtain ⟨k, ok, xk, h1, h2, h4, h5⟩ := hex
      obtain ⟨b, hb⟩ := Option.ne_none_iff_exists'.1 h4
      obtain ⟨h6, h7⟩ := iff k ok xk h1 h2 h5
      rw [h.b1 k ok xk id b h1 h2 h6 h5 hb, h'.b1 k ok xk id b h1 h2 h7 h5 hb]
    · rw [h.b2 id fun k ok xk h1 h2 _ h4 h5 => hex ⟨k, ok, xk, h1, h2, h4, h5⟩, h'.b2 id fun k ok xk h1 h2 _ h4 h5 => hex ⟨k, ok, xk, h1, h2, h4, h5⟩]
theorem ready_or_allL {l : List Oper} {xs : List AI} {late : List Nat} {listed : Array Bool} (hs : SchedL l xs late) (hc : Closed l listed) : Region.ready .any l.toArray listed ≠ [] ∨ ∀ i, i < l.length → Done listed i := by
  by_cases hall : ∀ i, i < l.length → Done listed i
  · exact .inr hall
  · left
    have hex : ∃ i, i < l.length ∧ ¬ Done listed i := by
      apply Classical.byContradiction
      intro h
      exact hall fun i hi => Classical.byContradiction fun hn => h ⟨i, hi, hn⟩
    -- the least that is not done may come up
    have least : ∃ i, i < l.length ∧ ¬ Done listed i ∧ ∀ j, j < i → Done listed j := by
      obtain ⟨i, hi, hn⟩ := hex
      induction i using Nat.strongRecOn with
      | _ i ih =>
        by_cases h : ∀ j, j < i → Done listed j
        · exact ⟨i, hi, hn, h⟩
        · obtain ⟨j, hj, hnj⟩ : ∃ j, j < i ∧ ¬ Done listed j := by
            apply Classical.byContradiction
            intro h2
            exact h fun j hj => Classical.byContradiction fun hn => h2 ⟨j, hj, hn⟩
          exact ih j hj (by omega) hnj
    obtain ⟨i, hi, hn, hlow⟩ := least
    intro hnil
    have : i ∈ Region.ready .any l.toArray listed := by
      unfold Region.ready
      simp only [List.size_toArray, List.mem_filter, List.mem_range, Bool.and_eq_true, Bool.not_eq_true']
      refine ⟨hi, ?_, ?_⟩
      · unfold Done at hn
        have hil : i < listed.size := by rw [hc.size]; exact hi
        simp [hil] at hn ⊢
        exact hn
      · simp only [List.getElem?_toArray, List.getElem?_eq_getElem hi, Option.map_some, Option.getD_some]
        rw [Array.all_eq_true']
        intro e he
        by_cases hb : Region.binds .any e = true
        · have := hlow e.on (hs.back i l[i] (List.getElem?_eq_getElem hi) e (by simpa using he) hb)
          unfold Done at this
          simp [hb, this]
        · simp [Bool.not_eq_true] at hb; simp [hb]
    rw [hnil] at this
    cases this
theorem runA_agrL {P : Program} {n : Nat} {l : List Oper} {xs : List AI} {late : List Nat} {S0 : AS} (hs : SchedL l xs late) (hA : Apart l xs S0) :
    ∀ (m : Nat) (S : AS), m ≤ xs.length → Agr l xs S0 (fun k => k < m) S → AChain P n l S (l.drop m) (xs.drop m) →
      (∀ (i : Nat) (o : Oper) (x : AI), m ≤ i → l[i]? = some o → xs[i]? = some x → ∃ Si, Agr l xs S0 (fun k => k < i) Si ∧ GStep P n l Si o x) ∧ Agr l xs S0 (fun k => k < xs.length) (runA S (l.drop m) (xs.drop m)) := by
  intro m
  generalize hd : xs.length - m = d
  induction d generalizing m with
  | zero =>
    intro S hm hagr _
    have e : xs.length = m := by omega
    refine ⟨fun i o x hi ho hx => ?_, ?_⟩
    · have := (List.getElem?_eq_some_iff.1 hx).1; omega
    · rw [List.drop_eq_nil_of_le (by omega : xs.length ≤ m)]
      have : runA S (l.drop m) [] = S := by cases l.drop m <;> rfl
      rw [this, e]
      exact hagr
  | succ d ih =>
    intro S hm hagr hc
    have hmx : m < xs.length := by omega
    have hml : m < l.length := Nat.lt_of_lt_of_le hmx hs.len
    rw [List.drop_eq_getElem_cons hmx, List.drop_eq_getElem_cons hml] at hc
    obtain ⟨hg, hc⟩ := hc
    have ho : l[m]? = some l[m] := List.getElem?_eq_getElem hml
    have hx : xs[m]? = some xs[m] := List.getElem?_eq_getElem hmx
    have hst := hagr.step hA ho hx (by omega) (fun k hk hok => by
      have := hs.fwd m k hmx (by omega) hok
      omega)
    have e : (fun k => k = m ∨ k < m) = (fun k => k < m + 1) := by funext k; apply propext; omega
    rw [e] at hst
    obtain ⟨r1, r2⟩ := ih (m + 1) (by omega) (S.out l[m].dst xs[m].av xs[m].nb) (by omega) hst hc
    refine ⟨fun i o x hi ho' hx' => ?_, ?_⟩
    · by_cases him : i = m
      · subst him
        rw [ho] at ho'; rw [hx] at hx'
        obtain rfl := Option.some.inj ho'
        obtain rfl := Option.some.inj hx'
        exact ⟨S, hagr, hg⟩
      · exact r1 i o x (by omega) ho' hx'
    · rw [List.drop_eq_getElem_cons hmx, List.drop_eq_getElem_cons hml]
      exact r2
section
variable {P : Program} {n : Nat} {S : AS}
theorem wD.any {l : List Oper} {K : Exit → AS → Prop} {M : Nat → Nat → Prop} {w0 : Home} {Q : Exit → Act → World → Prop} (hK : ∀ e S' ρ' a' w', K (bare e) S' → Sat M n w0 S' ρ' a' w' → ExOK M S' ρ' w' e → Q e a' w') :
    ∀ (m : Nat) (listed : Array Bool) (done : List Nat) (S : AS) (ρ : Nat → Value) (a : Act) (w : World), listed.size = l.length → (∀ i, listed.getD i false = done.contains i) → wD P n l K m done S → Sat M n w0 S ρ a w → wpAny P .any l.toArray Q m listed a w := by
  intro m
  induction m with
  | zero =>
    intro listed done S ρ a w hz hl hd hs
    refine ⟨List.eq_nil_iff_forall_not_mem.2 fun i hi => ?_, hK .normal S ρ a w hd.2 hs trivial⟩
    have := (wC hz hl i).1 hi
    rw [hd.1] at this
    simp at this
  | succ m ih =>
    intro listed done S ρ a w hz hl hd hs
    refine ⟨fun hnil => ?_, fun i hi => ?_⟩
    · obtain ⟨j, hj⟩ := List.exists_mem_of_ne_nil _ hd.1
      have := (wC hz hl j).2 hj
      rw [hnil] at this
      simp at this
    · obtain ⟨hil, _, _⟩ := yE hi
      obtain ⟨o, ho, hg, ht⟩ := hd.2 i ((wC hz hl i).1 hi)
      unfold wpOp
      simp only [List.getElem?_toArray, ho]
      rw [if_pos (by simp [Region.wanted, hg])]
      refine .inl (ht M w0 ρ a w _ Q hs (fun S1 ρ' a' w' hd1 hs' => ?_) hK)
      refine ih _ _ S1 ρ' a' w' (by simp [hz]) (fun k => ?_) hd1 hs'
      simp only [Array.getD_eq_getD_getElem?, Array.getElem?_setIfInBounds, List.contains_cons]
      by_cases hik : i = k
      · subst hik
        simp [hz, hil]
      · have : (k == i) = false := by simpa using fun e => hik e.symm
        rw [if_neg hik, this, Bool.false_or, ← hl k, Array.getD_eq_getD_getElem?]
def subs1 : List Nat → List (List Nat)
  | [] => []
  | a :: r => subs1 r ++ ([a] :: (subs1 r).map (a :: ·))
theorem filter_subs1 (p : Nat → Bool) : ∀ l : List Nat, l.filter p = [] ∨ l.filter p ∈ subs1 l
  | [] => .inl rfl
  | a :: r => by
    rw [List.filter_cons]
    by_cases h : p a = true
    · rw [if_pos h]
      right
      unfold subs1
      rcases filter_subs1 p r with h1 | h1
      · rw [h1]; exact List.mem_append.2 (.inr (List.mem_cons_self ..))
      · exact List.mem_append.2 (.inr (List.mem_cons_of_mem _ (List.mem_map.2 ⟨_, h1, rfl⟩)))
    · rw [if_neg h]
      rcases filter_subs1 p r with h1 | h1
      · exact .inl h1
      · right
        unfold subs1
        exact List.mem_append.2 (.inl h1)
/-- the frame behind the first operations, without some -/
def runX : Nat → List Nat → AS → List Oper → List AI → AS
  | i, X, S, o :: os, x :: xs => runX (i + 1) X (bif X.contains i then S else S.out o.dst x.av x.nb) os xs
  | _, _, S, _, _ => S
def qD (m : Nat) (X : List Nat) : List Nat := (List.range m).filter fun i => !X.contains i
def restX (l : List Oper) (done : List Nat) : List Nat := (List.range l.length).filter fun i => !done.contains i
theorem doneX_iff {m : Nat} {X : List Nat} {i : Nat} : i ∈ qD m X ↔ i < m ∧ X.contains i = false := by
  unfold qD
  rw [List.mem_filter, List.mem_range, Bool.not_eq_true']
theorem left_done {l : List Oper} {listed : Array Bool} {done : List Nat} (hz : listed.size = l.length) (h : ∀ i, listed.getD i false = done.contains i) : left listed = (restX l done).length := by
  unfold left restX
  rw [List.countP_eq_length_filter, hz]
  congr 1
  exact List.filter_congr fun i _ => by rw [h i]
theorem runX_agr {l : List Oper} {xs : List AI} {late : List Nat} {S0 : AS} (hs : SchedL l xs late) (hA : Apart l xs S0) (X : List Nat) :
    ∀ (m : Nat) (S : AS), m ≤ xs.length → Agr l xs S0 (fun k => k < m ∧ X.contains k = false) S → Agr l xs S0 (fun k => k < xs.length ∧ X.contains k = false) (runX m X S (l.drop m) (xs.drop m)) := by
  intro m
  generalize hd : xs.length - m = d
  induction d generalizing m with
  | zero =>
    intro S hm hagr
    have e : xs.length = m := by omega
    rw [List.drop_eq_nil_of_le (by omega : xs.length ≤ m)]
    have : runX m X S (l.drop m) [] = S := by cases l.drop m <;> rfl
    rw [this, e]
    exact hagr
  | succ d ih =>
    intro S hm hagr
    have hmx : m < xs.length := by omega
    have hml : m < l.length := Nat.lt_of_lt_of_le hmx hs.len
    rw [List.drop_eq_getElem_cons hmx, List.drop_eq_getElem_cons hml]
    have ho : l[m]? = some l[m] := List.getElem?_eq_getElem hml
    have hx : xs[m]? = some xs[m] := List.getElem?_eq_getElem hmx
    unfold runX
    refine ih (m + 1) (by omega) _ (by omega) ?_
    cases hX : X.contains m with
    | true =>
      have e : (fun k => k < m ∧ X.contains k = false) = (fun k => k < m + 1 ∧ X.contains k = false) := by
        funext k; apply propext
        constructor
        · rintro ⟨h1, h2⟩; exact ⟨by omega, h2⟩
        · rintro ⟨h1, h2⟩
          refine ⟨?_, h2⟩
          rcases Nat.lt_or_ge k m with h | h
          · exact h
          · have : k = m := by omega
            subst this
            rw [hX] at h2; cases h2
      rw [← e]
      exact hagr
    | false =>
      have hst := hagr.step hA ho hx (by omega) (fun k hk hok => by
        have := hs.fwd m k hmx (by omega) hok
        omega)
      have e : (fun k => k = m ∨ (k < m ∧ X.contains k = false)) = (fun k => k < m + 1 ∧ X.contains k = false) := by
        funext k; apply propext
        constructor
        · rintro (h | ⟨h1, h2⟩)
          · subst h; exact ⟨by omega, hX⟩
          · exact ⟨by omega, h2⟩
        · rintro ⟨h1, h2⟩
          rcases Nat.lt_or_ge k m with h | h
          · exact .inr ⟨h, h2⟩
          · exact .inl (by omega)
      rw [e] at hst
      exact hst
/-- A region that draws its order, of which some operations may come late. -/
theorem zZ.drawL {id : Nat} {l : List Oper} {K : Exit → AS → Prop} (xs : List AI) (late : List Nat) (hm : P.follows .mixedOrders = true) (hsch : schedL l xs.length (xs.map (·.bs)) late = true) (hmade : madeB l xs S = true)
    (hch : AChain P n l S l xs) (h0 : wD P n l K (restX l (qD xs.length [])).length (qD xs.length []) (runA S l xs))
    (h1 : ∀ X ∈ subs1 late, wD P n l K (restX l (qD xs.length X)).length (qD xs.length X) (runX 0 X S l xs)) : zZ P n (.region id l.toArray true) S K := by
  have hS := SchedL.of hsch
  have hA := Apart.ofL hS hmade
  intro M w0 ρ a w Q hs hK
  have start : Agr l xs S (fun k => k < 0) S := ⟨fun i o x d _ _ h => by omega, fun _ _ => rfl, fun i o x d b _ _ h => by omega, fun _ _ => rfl⟩
  have startX : ∀ X : List Nat, Agr l xs S (fun k => k < 0 ∧ X.contains k = false) S := fun X => ⟨fun i o x d _ _ h => by omega, fun _ _ => rfl, fun i o x d b _ _ h => by omega, fun _ _ => rfl⟩
  obtain ⟨hgs, hfin⟩ := runA_agrL hS hA 0 S (by omega) start hch
  have tailD : ∀ (fuel : Nat) (listed : Array Bool) (S2 : AS) (ρ : Nat → Value) (a : Act) (w : World), Closed l listed → (∀ i, xs.length ≤ i → i < l.length → ¬ Done listed i) → (∀ i, i < xs.length → Done listed i ∨ late.contains i = true) → Agr l xs S (Done listed) S2 → left listed = fuel →
      Sat M n w0 S2 ρ a w → wpAny P .any l.toArray Q fuel listed a w := by
    intro fuel listed S2 ρ a w hc htl hnl hagr hl hsat
    let X := late.filter fun i => !(listed.getD i false)
    have hX : ∀ i, i < xs.length → (Done listed i ↔ X.contains i = false) := by
      intro i hi
      have e : X.contains i = true ↔ late.contains i = true ∧ ¬ Done listed i := by
        simp only [X, List.contains_iff_mem, List.mem_filter, Bool.not_eq_true', Done]
        simp
      constructor
      · intro h
        apply Bool.eq_false_iff.2
        intro h2
        exact (e.1 h2).2 h
      · intro h
        rcases hnl i hi with h2 | h2
        · exact h2
        · apply Classical.byContradiction
          intro h3
          rw [e.2 ⟨h2, h3⟩] at h
          cases h
    have hlt : ∀ k, Done listed k → k < xs.length := by
      intro k hk
      apply Classical.byContradiction
      intro h
      rcases Nat.lt_or_ge k l.length with h2 | h2
      · exact htl k (by omega) h2 hk
      · unfold Done at hk
        simp [Array.getD_eq_getD_getElem?, Array.getElem?_eq_none (by rw [hc.size]; omega : listed.size ≤ k)] at hk
    have hdone : ∀ i, listed.getD i false = (qD xs.length X).contains i := by
      intro i
      have h2 : Done listed i ↔ i ∈ qD xs.length X := by
        rw [doneX_iff]
        exact ⟨fun h => ⟨hlt i h, (hX i (hlt i h)).1 h⟩, fun h => (hX i h.1).2 h.2⟩
      unfold Done at h2
      rw [Bool.eq_iff_iff, h2, List.contains_iff_mem]
    have eD : Done listed = fun k => k < xs.length ∧ X.contains k = false := by
      funext k; apply propext
      exact ⟨fun h => ⟨hlt k h, (hX k (hlt k h)).1 h⟩, fun h => (hX k h.1).2 h.2⟩
    have hfuel := left_done hc.size hdone
    rw [hl] at hfuel
    rw [hfuel]
    rcases filter_subs1 (fun i => !(listed.getD i false)) late with h | h
    · have eX : X = [] := h
      rw [eX] at eD hdone ⊢
      refine wD.any hK _ listed _ (runA S l xs) ρ a w hc.size hdone h0 (hsat.same (hagr.same ?_))
      rw [eD]
      have e : (fun k => k < xs.length) = (fun k => k < xs.length ∧ ([] : List Nat).contains k = false) := by
        funext k; apply propext; simp
      rw [← e]
      exact hfin
    · refine wD.any hK _ listed _ (runX 0 X S l xs) ρ a w hc.size hdone (h1 X h) (hsat.same (hagr.same ?_))
      rw [eD]
      exact runX_agr hS hA X 0 S (by omega) (startX X)
  have main1 : ∀ (fuel : Nat) (listed : Array Bool) (S2 : AS) (ρ : Nat → Value) (a : Act) (w : World), Closed l listed → (∀ i, xs.length ≤ i → i < l.length → ¬ Done listed i) → Agr l xs S (Done listed) S2 → left listed = fuel →
      Sat M n w0 S2 ρ a w → wpAny P .any l.toArray Q fuel listed a w := by
    intro fuel
    induction fuel with
    | zero =>
      intro listed S2 ρ a w hc htl hagr hl hsat
      refine tailD 0 listed S2 ρ a w hc htl (fun i hi => .inl ?_) hagr hl hsat
      apply Classical.byContradiction
      intro hn
      have := left_set (listed := listed) (by rw [hc.size]; exact Nat.lt_of_lt_of_le hi hS.len) hn
      omega
    | succ fuel ih =>
      intro listed S2 ρ a w hc htl hagr hl hsat
      by_cases hallA : ∀ i, i < xs.length → Done listed i ∨ late.contains i = true
      · exact tailD (fuel + 1) listed S2 ρ a w hc htl hallA hagr hl hsat
      · refine ⟨fun hnil => ?_, fun i hi => ?_⟩
        · rcases ready_or_allL hS hc with h | h
          · exact (h hnil).elim
          · exact (hallA fun i hi => .inl (h i (Nat.lt_of_lt_of_le hi hS.len))).elim
        · obtain ⟨hil, hnd, o, hoi, _⟩ := yE hi
          have hix : i < xs.length := by
            apply Classical.byContradiction
            intro h
            exact hallA fun j hj => (hS.tail i (by omega) hil j hj).imp (fun h2 => hc.ready_ord hi h2) (fun h2 => h2)
          have hx : xs[i]? = some xs[i] := List.getElem?_eq_getElem hix
          obtain ⟨Si, hagi, hgst⟩ := hgs i o xs[i] (by omega) hoi hx
          obtain ⟨hrt, hrb⟩ := Agr.readsL hS hc hi hx hagr hagi
          have hget : ∀ y ∈ o.op.operands.toList, S2.get y = Si.get y := by
            intro y hy
            cases y with
            | tmp t => exact hrt t (readsOf_operand hoi hy)
            | _ => rfl
          have hnext := hagr.step hA hoi hx hnd (fun k hk hok => hnd (hc.ord (k + 1) k i (by omega) (by
            apply Classical.byContradiction
            intro h
            unfold Done at hk
            simp [Array.getD_eq_getD_getElem?, Array.getElem?_eq_none (by rw [hc.size]; omega : listed.size ≤ k)] at hk) hk hok))
          have cont : ∀ ρ' a' w', Sat M n w0 (S2.out o.dst xs[i].av xs[i].nb) ρ' a' w' → wpAny P .any l.toArray Q fuel (listed.setIfInBounds i true) a' w' := by
            intro ρ' a' w' hs'
            refine ih _ _ ρ' a' w' (hc.set hi) (fun k hk hkl hdk => ?_) ?_ ?_ hs'
            · rw [done_set (by rw [hc.size]; exact hil)] at hdk
              rcases hdk with h | h
              · omega
              · exact htl k hk hkl h
            · have e : (fun k => k = i ∨ Done listed k) = Done (listed.setIfInBounds i true) := by
                funext k
                apply propext
                rw [done_set (by rw [hc.size]; exact hil)]
                constructor
                · rintro (h | h)
                  · exact .inl h.symm
                  · exact .inr h
                · rintro (h | h)
                  · exact .inl h.symm
                  · exact .inr h
              rw [← e]
              exact hnext
            · have := left_set (listed := listed) (by rw [hc.size]; exact hil) hnd
              omega
          unfold wpOp
          simp only [List.getElem?_toArray, hoi]
          rcases hgst with ⟨hg, hast⟩ | ⟨j, want, t, b, hg, hdj, htn, hb, hcase⟩
          · rw [if_pos (by simp [Region.wanted, hg])]
            exact .inl (hast S2 hget hrb M w0 ρ a w _ Q hsat cont)
          · have hb2 : S2.tmp t = .p (.val b) := by rw [hrt t (readsOf_guard hoi hg hdj)]; exact hb
            have hw := hsat.wanted (ops := l.toArray) hg (by simpa [xX] using hdj) htn hb2
            rcases hcase with ⟨hbw, hast⟩ | ⟨hbw, hav, hnb, d, hd, hdn⟩
            · rw [if_pos (by rw [hw, hbw])]
              exact .inl (hast S2 hget hrb M w0 ρ a w _ Q hsat cont)
            · rw [if_neg (by rw [hw, hbw]; simp)]
              rw [hd]
              refine cont ρ _ w ?_
              rw [hd, hav, hnb]
              exact hsat.put_undef hdn
  refine wp_region_any hm ?_
  refine main1 _ _ S ρ a _ ⟨by simp, fun i o hi hd => ?_⟩ (fun i _ _ hd => ?_) ⟨fun i o x d _ _ h => ?_, fun _ _ => rfl, fun i o x d b _ _ h => ?_, fun _ _ => rfl⟩ ?_ (hs.ext ((Below.refl _ _).drew))
  · unfold Done at hd; rw [getD_replicate_false] at hd; cases hd
  · unfold Done at hd; rw [getD_replicate_false] at hd; cases hd
  · unfold Done at h; rw [getD_replicate_false] at h; cases h
  · unfold Done at h; rw [getD_replicate_false] at h; cases h
  · unfold left
    simp only [Array.size_replicate, List.size_toArray]
    have : ∀ k ∈ List.range l.length, (!((Array.replicate l.length false).getD k false)) = true := fun k _ => by rw [getD_replicate_false]; rfl
    rw [List.countP_eq_length.2 this, List.length_range]
def qE (p : List Nat → Prop) : List (List Nat) → Prop
  | [] => True
  | X :: r => p X ∧ qE p r
theorem qE.all {p : List Nat → Prop} : ∀ {rs : List (List Nat)}, qE p rs → ∀ X ∈ rs, p X
  | [], _, i, hi => by simp at hi
  | j :: r, h, i, hi => by
    rcases List.mem_cons.1 hi with rfl | hi
    · exact h.1
    · exact qE.all h.2 i hi
theorem qE.nil {p : List Nat → Prop} : qE p [] := trivial
theorem qE.cons {p : List Nat → Prop} {X : List Nat} {r : List (List Nat)} (h : p X) (hr : qE p r) : qE p (X :: r) := ⟨h, hr⟩
theorem Draws.late {id : Nat} {l os : List Oper} {S0 S : AS} {K : Exit → AS → Prop} {rev : List AI} (late : List Nat) (hm : P.follows .mixedOrders = true) (hsch : schedL l rev.reverse.length (rev.reverse.map (·.bs)) late = true) (hmade : madeB l rev.reverse S0 = true)
    (h0 : wD P n l K (restX l (qD rev.reverse.length [])).length (qD rev.reverse.length []) S) (h1 : qE (fun X => wD P n l K (restX l (qD rev.reverse.length X)).length (qD rev.reverse.length X) (runX 0 X S0 l rev.reverse)) (subs1 late)) : Draws P n id l S0 K rev S os := by
  unfold Draws
  intro hc
  obtain ⟨c1, c2, c3⟩ := hc.chain
  exact zZ.drawL _ late hm hsch hmade c1 (by rw [c2]; exact h0) h1.all
theorem Draws.late2 {id : Nat} {l os : List Oper} {S0 S : AS} {K : Exit → AS → Prop} {rev : List AI} (late : List Nat) (fu : Nat) (done : List Nat) (hm : P.follows .mixedOrders = true) (hsch : schedL l rev.reverse.length (rev.reverse.map (·.bs)) late = true) (hmade : madeB l rev.reverse S0 = true)
    (e1 : (restX l (qD rev.reverse.length [])).length = fu) (e2 : qD rev.reverse.length [] = done)
    (h0 : wD P n l K fu done S) (h1 : qE (fun X => wD P n l K (restX l (qD rev.reverse.length X)).length (qD rev.reverse.length X) (runX 0 X S0 l rev.reverse)) (subs1 late)) : Draws P n id l S0 K rev S os :=
  Draws.late late hm hsch hmade (by rw [e1, e2]; exact h0) h1
theorem qE.consD {l : List Oper} {S0 : AS} {K : Exit → AS → Prop} {xs : List AI} {X : List Nat} {r : List (List Nat)} {m : Nat} (fu : Nat) (done : List Nat) (e1 : (restX l (qD m X)).length = fu) (e2 : qD m X = done) (h : wD P n l K fu done (runX 0 X S0 l xs))
    (hr : qE (fun X => wD P n l K (restX l (qD m X)).length (qD m X) (runX 0 X S0 l xs)) r) : qE (fun X => wD P n l K (restX l (qD m X)).length (qD m X) (runX 0 X S0 l xs)) (X :: r) :=
  .cons (by rw [e1, e2]; exact h) hr
end
end Go.Proofs.YtmfbamiciieooaaGreatDoor
