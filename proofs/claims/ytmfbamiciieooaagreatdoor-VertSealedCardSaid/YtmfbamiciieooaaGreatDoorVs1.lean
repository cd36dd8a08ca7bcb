/- Of a sealed store each operation of a vertex that may be is answered so, by one access, and turns nothing; one of a key that may not be by none. (Part 1 of 9.) -/
import Derived.Test.YtmfbamiciieooaaGreatDoorRows
import Derived.WalkKit
import Derived.WalkSpells
import Derived.WalkLawsBesides
import Derived.StillTailTactics
import Derived.Laws.CopyOwn
import Derived.Lib.Hide
import Derived.Deep.DeepCutAuto
import Derived.Deep.LoopGhost
import Derived.Deep.DeepFit
import Derived.Deep.QuietTactic
import Derived.BigQuiet
import Derived.Deep.RegionWith
import Derived.Deep.RegionHeld3
import Derived.Deep.RegionLaw
import Derived.Deep.AppendLies
import Derived.Great.BuildSlice
import Derived.Maps.AppendAt
import Derived.Laws.BytesArg
import Derived.Laws.StructEq
/- Small laws on the model's operations that the kit lacks: append of n zero elements (append(s, make(S, n)...)). -/
namespace Go.Proofs.YtmfbamiciieooaaGreatDoor
set_option maxRecDepth 100000
set_option maxHeartbeats 16000000
open Go Go.RowKit
/-- append(s[:0], make(S, n)...) where s has less room than n: a new array, zero all over. -/
theorem run_append_zeros {P : Program} (w : World) (t ti ty e : TypeId) (i : TypeInfo) (z : Value) (ht : P.underlying t = some (.slice e)) (hti : P.underlying ti = some (.int .i64))
    (hi : P.info? e = some i) (hz : i.zero = some z) (hs : i.size = 1) (b : Addr) (sCap n : Nat)
    (hg : sCap < n) (h63 : (n : Int) ≤ 9223372036854775807) (hb : (n : Int) * i.bytes ≤ 281474976710656) (hfit : Builtin.nextslicecap n sCap * i.bytes ≤ 281474976710656) :
    (Builtin.append_ #[t, ti] ty #[.slice (some b) 0 sCap, .int .i64 n]).run P w =
      .ok (.slice (some ⟨w.heap.size, 0, none⟩) n (grownCap w n sCap e))
        (w.drew.alloc (.cells (Builtin.zeroCells z.cells n ++ Builtin.zeroCells z.cells (grownCap w n sCap e - n)) e)) := by
  have hn : ¬ (n ≤ sCap) := by omega
  have hn0 : n ≠ 0 := by omega
  have h63' : ¬ (9223372036854775807 < (n : Int)) := by omega
  have hw : IntKind.i64.wrap (n : Int) = (n : Int) := by rw [IntKind.wrap_i64]; omega
  have hneg : ¬ ((n : Int) < 0) := by omega
  have hb' : ¬ (281474976710656 < (n : Int) * i.bytes) := by omega
  have h48' : ¬ (281474976710656 < Builtin.nextslicecap n sCap * i.bytes) := by omega
  have hfo := run_firstCells_some (P := P) w.drew 1 0 b 0 sCap [] (by simp) (by simp)
  simp [Builtin.append_, run_underlying ht, run_underlying hti, sizeOf, typeInfo, zeroValue, hi, hz, hs, asInt, asIntOf, hn, hw, hn0, hneg, hb', h63', h48', Question.forced, hfo, newRow, grownCap]
theorem zeroCells_one (z : Value) (n : Nat) : Builtin.zeroCells #[z] n = (List.replicate n z).toArray := by
  apply Array.ext'
  apply List.ext_getElem?
  intro j
  by_cases hj : j < n
  · simp [Builtin.zeroCells, hj, Nat.mod_one]
  · simp [Builtin.zeroCells, hj]
/-- append(s[:0], make(S, n)...) in the walk: the new row is known whole. -/
theorem wpList_append_zeros {P : Program} {w : World} {ops : Array Oper} {rest : List Oper} {o : Oper} {a : Act} {Q : Exit → Act → World → Prop} (hgd : o.guard = none) (s x : Operand) (t ti : TypeId)
    (ho : o.op = .call { callee := .builtin .append, args := #[s, x], argTypes := #[t, ti] })
    (e : TypeId) (i : TypeInfo) (z z1 : Value) (ht : P.underlying t = some (.slice e)) (hti : P.underlying ti = some (.int .i64)) (hi : P.info? e = some i) (hz : i.zero = some z) (hz1 : z.cells = #[z1]) (hs : i.size = 1)
    (b : Addr) (sCap n : Nat) (hsv : a.eval s = .slice (some b) 0 sCap) (hxv : a.eval x = .int .i64 n)
    (hg : sCap < n) (hmax : n ≤ maxLen) (hb : (n : Int) * i.bytes ≤ 281474976710656) (hfit : Builtin.nextslicecap n sCap * i.bytes ≤ 281474976710656)
    (h : ∀ (cap : Nat) (Z : List Value) (w' : World), Hid (Z = List.replicate cap z1) → Hid (w'.heap[w.heap.size]? = some (.cells Z.toArray e (0, 0))) → Below w.heap.size w w' → n ≤ cap → cap ≤ maxLen → wpList P ops Q rest (a.put o.dst (.slice (some ⟨w.heap.size, 0, none⟩) n cap)) w') :
    wpList P ops Q (o :: rest) a w := by
  refine wpList_plain hgd fun K hK => ?_
  have hr := run_append_zeros (P := P) w t ti o.type e i z ht hti hi hz hs b sCap n hg (by simp only [maxLen] at hmax; omega) hb hfit
  unfold Oper.wp execOp
  simp only [ho, resolve, invoke, builtin, Sem.run_bind, Sem.run_pure, Result.andThen_ok, List.map_toArray, List.map_cons, List.map_nil, hsv, hxv, hr]
  refine hK _ _ (h _ _ _ rfl ?_ (((Below.refl _ _).drew).alloc (Nat.le_refl _) _) (grownCap_ge w n sCap e) (grownCap_le_maxLen w n sCap e hmax))
  have hge := grownCap_ge w n sCap e
  show (w.drew.alloc _).heap[w.drew.heap.size]? = _
  rw [heap_alloc_new, hz1, zeroCells_one, zeroCells_one]
  congr 2
  rw [List.append_toArray, List.replicate_append_replicate]
  congr 2
  omega
theorem ownsRow_base {w : World} {B B' : Nat} {e : TypeId} {size : Nat} {v : Value} {n : Nat} {xs : List Value} (h : w.ownsRow B e size v n xs) (hB : B' ≤ B) : w.ownsRow B' e size v n xs := by
  obtain ⟨h1, h2⟩ := h
  refine ⟨h1, ?_⟩
  rcases h2 with h2 | ⟨g, cap, cur, hv, hg, r⟩
  · exact .inl h2
  · exact .inr ⟨g, cap, cur, hv, by omega, r⟩
/-- What is owned in a block from B on stays owned where below B' nothing turns. -/
theorem ownsRow_below {w w' : World} {B B' : Nat} {e : TypeId} {size : Nat} {v : Value} {n : Nat} {xs : List Value} (h : w.ownsRow B e size v n xs) (hb : Below B' w w') (hB : ∀ k, v.ownBlock = some k → k < B') : w'.ownsRow B e size v n xs := by
  obtain ⟨h1, h2⟩ := h
  refine ⟨h1, ?_⟩
  rcases h2 with h2 | ⟨g, cap, cur, hv, hg, hh, r⟩
  · exact .inl h2
  · subst hv
    exact .inr ⟨g, cap, cur, rfl, hg, (hb.block g (hB g rfl)).trans hh, r⟩
theorem ownsRow_size {w w' : World} {B : Nat} {e : TypeId} {size : Nat} {v : Value} {n : Nat} {xs : List Value} (h : w.ownsRow B e size v n xs) (hb : Below w.heap.size w w') : w'.ownsRow B e size v n xs :=
  ownsRow_below h hb fun k hk => (h.lt k hk).2
theorem cells_one {w : World} {g : Nat} {p : Value} (h : w.cell? ⟨g, 0, none⟩ = some p) : ∀ (j : Nat) v, [p][j]? = some v → w.cell? ((⟨g, 0, none⟩ : Addr).add j) = some v := by
  intro j v hv
  cases j with
  | zero => simp at hv; subst hv; exact h
  | succ j => simp at hv
end Go.Proofs.YtmfbamiciieooaaGreatDoor
/- What the listed package-level variables hold. Written by tbl.py. -/
namespace Go.Proofs.YtmfbamiciieooaaGreatDoor
set_option maxRecDepth 100000
set_option maxHeartbeats 16000000
open Go
def tbl0 : List (IntKind × Int) := [(.u32, 0), (.u32, 498536548), (.u32, 997073096), (.u32, 651767980), (.u32, 1994146192), (.u32, 1802195444), (.u32, 1303535960), (.u32, 1342533948), (.u32, 3988292384), (.u32, 4027552580), (.u32, 3604390888), (.u32, 3412177804), (.u32, 2607071920), (.u32, 2262029012), (.u32, 2685067896), (.u32, 3183342108)]
/-- what a package-level variable holds, by its number -/
def seatTbl (g : Nat) : Option (List (IntKind × Int)) := if g = 0 then some tbl0 else none
end Go.Proofs.YtmfbamiciieooaaGreatDoor
/- Abstract values for the walk: what a Go value reads as, and a frame of them. Generic over the program. -/
namespace Go.Proofs.YtmfbamiciieooaaGreatDoor
set_option maxRecDepth 100000
set_option maxHeartbeats 16000000
open Go Go.RowKit
/-- What a value reads as, in memory that nobody turns: a value as it is; a slice with its elements; a value of several cells; an interface's value. -/
inductive PV where
  | val (v : Value)
  | sl (es : List PV)
  | agg (cs : List PV)
  | ifc (t : Nat) (x : PV)
def PV.cells : PV → List PV
  | .agg cs => cs
  | x => [x]
def flat (es : List PV) : List PV := es.flatMap PV.cells
/-- M: cells (of a block, by number) that may be turned. -/
inductive Rep (M : Nat → Nat → Prop) (w : World) : PV → Value → Prop
  | val (v : Value) : Rep M w (.val v) v
  | agg (cs : List PV) (vs : List Value) (hl : vs.length = cs.length) (h : ∀ (i : Nat) c v, cs[i]? = some c → vs[i]? = some v → Rep M w c v) (h1 : ∀ v ∈ vs, v.oneCell' = true) : Rep M w (.agg cs) (.agg vs.toArray)
  | nil {b : Option Addr} : Rep M w (.sl []) (.slice b 0 0)
  | sl (es : List PV) (g o n cap : Nat) (ys : List Value) (hn : n = es.length) (hl : ys.length = (flat es).length) (hc : ∀ (j : Nat) y, ys[j]? = some y → w.cell? ⟨g, o + j, none⟩ = some y)
      (h : ∀ (j : Nat) c y, (flat es)[j]? = some c → ys[j]? = some y → Rep M w c y) (h1 : ∀ v ∈ ys, v.oneCell' = true) (hM : ∀ j, j < ys.length → ¬ M g (o + j)) (hg : g < w.heap.size) (hcap : n ≤ cap) (hm : cap ≤ maxLen) : Rep M w (.sl es) (.slice (some ⟨g, o, none⟩) n cap)
  | ifc (t : Nat) (x : PV) (v : Value) (h : Rep M w x v) : Rep M w (.ifc t x) (.iface t v)
/-- The cells of something, each read. -/
structure RepL (M : Nat → Nat → Prop) (w : World) (cs : List PV) (vs : List Value) : Prop where
  len : vs.length = cs.length
  each : ∀ (i : Nat) c v, cs[i]? = some c → vs[i]? = some v → Rep M w c v
  one : ∀ v ∈ vs, v.oneCell' = true
/-- Outside of M what was there is as it was. -/
structure Keeps (M : Nat → Nat → Prop) (w w' : World) : Prop where
  size : w.heap.size ≤ w'.heap.size
  cell : ∀ k c, k < w.heap.size → ¬ M k c → w'.cell? ⟨k, c, none⟩ = w.cell? ⟨k, c, none⟩
theorem Keeps.of_block {M : Nat → Nat → Prop} {w w' : World} (hs : w.heap.size ≤ w'.heap.size) (h : ∀ k, k < w.heap.size → (∃ c, ¬ M k c) → w'.heap[k]? = w.heap[k]?) : Keeps M w w' := ⟨hs, fun k c hk hn => World.cell?_of_block (w := w) (h k hk ⟨c, hn⟩)⟩
theorem Keeps.of_below {w w' : World} (M : Nat → Nat → Prop) (h : Below w.heap.size w w') : Keeps M w w' := .of_block h.size fun k hk _ => h.block k hk
theorem Rep.keep {M : Nat → Nat → Prop} {w w' : World} {x : PV} {v : Value} (h : Rep M w x v) (hk : Keeps M w w') : Rep M w' x v := by
  induction h with
  | val v => exact .val v
  | agg cs vs hl _ h1 ih => exact .agg cs vs hl ih h1
  | nil => exact .nil
  | sl es g o n cap ys hn hl hc _ h1 hM hg hcap hm ih =>
    refine .sl es g o n cap ys hn hl (fun j y hy => ?_) ih h1 hM (Nat.lt_of_lt_of_le hg hk.size) hcap hm
    rw [hk.cell g _ hg (hM j (List.getElem?_eq_some_iff.1 hy).1)]
    exact hc j y hy
  | ifc t x v _ ih => exact .ifc t x v ih
theorem Rep.mono {M M' : Nat → Nat → Prop} {w : World} {x : PV} {v : Value} (h : Rep M w x v) (hM' : ∀ k c, k < w.heap.size → M' k c → M k c) : Rep M' w x v := by
  induction h with
  | val v => exact .val v
  | agg cs vs hl _ h1 ih => exact .agg cs vs hl ih h1
  | nil => exact .nil
  | sl es g o n cap ys hn hl hc _ h1 hM hg hcap hm ih => exact .sl es g o n cap ys hn hl hc ih h1 (fun j hj h => hM j hj (hM' g _ hg h)) hg hcap hm
  | ifc t x v _ ih => exact .ifc t x v ih
theorem RepL.keep {M : Nat → Nat → Prop} {w w' : World} {cs : List PV} {vs : List Value} (h : RepL M w cs vs) (hk : Keeps M w w') : RepL M w' cs vs :=
  ⟨h.len, fun i c v hc hv => (h.each i c v hc hv).keep hk, h.one⟩
def zU : Value → Option Nat
  | .slice (some a) _ _ => some a.block
  | .pointer (some a) => some a.block
  | .map (some g) => some g
  | _ => none
/-- a struct's cell: a pure one, the slice that owns row id, or a closure of the variables ids -/
inductive Cl where
  | p (x : PV)
  | o (id : Nat)
  | c (f : Nat) (ids : List Nat)
def Cl.is (id : Nat) : Cl → Bool
  | .o j => j == id
  | .p _ => false
  | .c _ ids => ids.contains id
/-- a closure's value -/
def CloV (ρ : Nat → Value) (f : Nat) (ids : List Nat) (v : Value) : Prop := ∃ vs : List Value, v = .func (.func f) #[] vs.toArray ∧ vs.length = ids.length ∧ ∀ (i : Nat) k v, ids[i]? = some k → vs[i]? = some v → ∃ g, zU (ρ k) = some g ∧ v = .pointer (some ⟨g, 0, none⟩)
def ClOK (M : Nat → Nat → Prop) (ρ : Nat → Value) (w : World) : Cl → Value → Prop
  | .p x, v => Rep M w x v
  | .o id, v => v = ρ id
  | .c f ids, v => CloV ρ f ids v
/-- A frame's value: nothing known; a pure one; the slice that owns row id; a pointer into block id; a pointer to cells that nobody turns; several results; a closure of function f, that holds the variables ids; a package-level variable's address. -/
inductive AV where
  | any
  | p (x : PV)
  | own (id : Nat)
  | ptr (id off : Nat)
  | pt (xs : List PV)
  | tup (vs : List AV)
  | clo (f : Nat) (ids : List Nat)
  | glob (g : Nat)
  | ifp (t id : Nat)
  | ag (cs : List Cl)
inductive yY (M : Nat → Nat → Prop) (ρ : Nat → Value) (w : World) : AV → Value → Prop
  | any (v : Value) : yY M ρ w .any v
  | p {x : PV} {v : Value} (h : Rep M w x v) : yY M ρ w (.p x) v
  | own (id : Nat) : yY M ρ w (.own id) (ρ id)
  | ptr (id off g : Nat) (h : zU (ρ id) = some g) : yY M ρ w (.ptr id off) (.pointer (some ⟨g, off, none⟩))
  | pt (xs : List PV) (g o : Nat) (ys : List Value) (h : RepL M w xs ys) (hc : ∀ (j : Nat) y, ys[j]? = some y → w.cell? ⟨g, o + j, none⟩ = some y) (hM : ∀ j, j < ys.length → ¬ M g (o + j)) (hg : g < w.heap.size) : yY M ρ w (.pt xs) (.pointer (some ⟨g, o, none⟩))
  | tup (avs : List AV) (vs : List Value) (hl : vs.length = avs.length) (h : ∀ (i : Nat) c v, avs[i]? = some c → vs[i]? = some v → yY M ρ w c v) : yY M ρ w (.tup avs) (.tuple vs.toArray)
  | clo (f : Nat) (ids : List Nat) (vs : List Value) (hl : vs.length = ids.length) (h : ∀ (i : Nat) k v, ids[i]? = some k → vs[i]? = some v → ∃ g, zU (ρ k) = some g ∧ v = .pointer (some ⟨g, 0, none⟩)) : yY M ρ w (.clo f ids) (.func (.func f) #[] vs.toArray)
  | glob (g : Nat) : yY M ρ w (.glob g) (.pointer (some ⟨g, 0, none⟩))
  | ifp (t id g : Nat) (h : zU (ρ id) = some g) : yY M ρ w (.ifp t id) (.iface t (.pointer (some ⟨g, 0, none⟩)))
  | ag (cs : List Cl) (vs : List Value) (hl : vs.length = cs.length) (h : ∀ (i : Nat) c v, cs[i]? = some c → vs[i]? = some v → ClOK M ρ w c v) (h1 : ∀ v ∈ vs, v.oneCell' = true) : yY M ρ w (.ag cs) (.agg vs.toArray)
theorem ClOK.keep {M : Nat → Nat → Prop} {ρ : Nat → Value} {w w' : World} {c : Cl} {v : Value} (h : ClOK M ρ w c v) (hk : Keeps M w w') : ClOK M ρ w' c v := by
  cases c with
  | p x => exact Rep.keep h hk
  | o id => exact h
  | c f ids => exact h
theorem ClOK.mono {M M' : Nat → Nat → Prop} {ρ : Nat → Value} {w : World} {c : Cl} {v : Value} (h : ClOK M ρ w c v) (hM' : ∀ k c, k < w.heap.size → M' k c → M k c) : ClOK M' ρ w c v := by
  cases c with
  | p x => exact Rep.mono h hM'
  | o id => exact h
  | c f ids => exact h
theorem yY.keep {M : Nat → Nat → Prop} {ρ : Nat → Value} {w w' : World} {x : AV} {v : Value} (h : yY M ρ w x v) (hk : Keeps M w w') : yY M ρ w' x v := by
  induction h with
  | any v => exact .any v
  | p h => exact .p (h.keep hk)
  | own id => exact .own id
  | ptr id off g h => exact .ptr id off g h
  | pt xs g o ys h hc hM hg =>
    refine .pt xs g o ys (h.keep hk) (fun j y hy => ?_) hM (Nat.lt_of_lt_of_le hg hk.size)
    rw [hk.cell g _ hg (hM j (List.getElem?_eq_some_iff.1 hy).1)]
    exact hc j y hy
  | tup avs vs hl _ ih => exact .tup avs vs hl ih
  | clo f ids vs hl h => exact .clo f ids vs hl h
  | glob g => exact .glob g
  | ifp t id g h => exact .ifp t id g h
  | ag cs vs hl h h1 => exact .ag cs vs hl (fun i c v a b => (h i c v a b).keep hk) h1
theorem RepL.mono {M M' : Nat → Nat → Prop} {w : World} {cs : List PV} {vs : List Value} (h : RepL M w cs vs) (hM' : ∀ k c, k < w.heap.size → M' k c → M k c) : RepL M' w cs vs :=
  ⟨h.len, fun i c v hc hv => (h.each i c v hc hv).mono hM', h.one⟩
theorem yY.mono {M M' : Nat → Nat → Prop} {ρ : Nat → Value} {w : World} {x : AV} {v : Value} (h : yY M ρ w x v) (hM' : ∀ k c, k < w.heap.size → M' k c → M k c) : yY M' ρ w x v := by
  induction h with
  | any v => exact .any v
  | p h => exact .p (h.mono hM')
  | own id => exact .own id
  | ptr id off g h => exact .ptr id off g h
  | pt xs g o ys h hc hM hg => exact .pt xs g o ys (h.mono hM') hc (fun j hj h => hM j hj (hM' g _ hg h)) hg
  | tup avs vs hl _ ih => exact .tup avs vs hl ih
  | clo f ids vs hl h => exact .clo f ids vs hl h
  | glob g => exact .glob g
  | ifp t id g h => exact .ifp t id g h
  | ag cs vs hl h h1 => exact .ag cs vs hl (fun i c v a b => (h i c v a b).mono hM') h1
/-- without what is said of id -/
def AV.isP : AV → Bool
  | .p _ => true
  | _ => false
def AV.kill (id : Nat) : AV → AV
  | .own j => if j = id then .any else .own j
  | .ptr j o => if j = id then .any else .ptr j o
  | .ifp t j => if j = id then .any else .ifp t j
  | .ag cs => if cs.any (Cl.is id) then .any else .ag cs
  | .tup vs => bif vs.all AV.isP then .tup vs else .any
  | .clo f ids => if ids.contains id then .any else .clo f ids
  | x => x
def upd (ρ : Nat → Value) (id : Nat) (v : Value) : Nat → Value := fun j => if j = id then v else ρ j
theorem yY.killed {M : Nat → Nat → Prop} {ρ : Nat → Value} {w : World} {x : AV} {v : Value} (h : yY M ρ w x v) (id : Nat) (u : Value) : yY M (upd ρ id u) w (x.kill id) v := by
  cases h with
  | any v => exact .any v
  | p h => exact .p h
  | own j =>
    show yY M (upd ρ id u) w (if j = id then .any else .own j) (ρ j)
    by_cases hj : j = id
    · rw [if_pos hj]; exact .any _
    · rw [if_neg hj]
      have e : ρ j = upd ρ id u j := by simp [upd, hj]
      rw [e]
      exact .own j
  | ptr j off g h =>
    show yY M (upd ρ id u) w (if j = id then .any else .ptr j off) _
    by_cases hj : j = id
    · rw [if_pos hj]; exact .any _
    · rw [if_neg hj]
      exact .ptr j off g (by simpa [upd, hj] using h)
  | pt xs g o ys h hc hM hg => exact .pt xs g o ys h hc hM hg
  | tup avs vs hl h =>
    show yY M (upd ρ id u) w (bif avs.all AV.isP then .tup avs else .any) _
    cases hb : avs.all AV.isP with
    | false => exact .any _
    | true =>
      refine .tup avs vs hl fun i c v hc hv => ?_
      have h1 := List.all_eq_true.1 hb c (List.mem_of_getElem? hc)
      have h2 := h i c v hc hv
      cases c with
      | p x => cases h2 with
        | p h3 => exact .p h3
      | _ => cases h1
  | clo f ids vs hl h =>
    show yY M (upd ρ id u) w (if ids.contains id then .any else .clo f ids) _
    by_cases hj : ids.contains id = true
    · rw [if_pos hj]; exact .any _
    · rw [if_neg hj]
      refine .clo f ids vs hl fun i k v hk hv => ?_
      have hne : k ≠ id := by
        rintro rfl
        exact hj (List.contains_iff_mem.2 (List.mem_of_getElem? hk))
      have e : upd ρ id u k = ρ k := by simp [upd, hne]
      rw [e]
      exact h i k v hk hv
  | glob g => exact .glob g
  | ifp t j g h =>
    show yY M (upd ρ id u) w (if j = id then .any else .ifp t j) _
    by_cases hj : j = id
    · rw [if_pos hj]; exact .any _
    · rw [if_neg hj]
      exact .ifp t j g (by simpa [upd, hj] using h)
  | ag cs vs hl h h1 =>
    show yY M (upd ρ id u) w (if cs.any (Cl.is id) then .any else .ag cs) _
    by_cases hj : cs.any (Cl.is id) = true
    · rw [if_pos hj]; exact .any _
    · rw [if_neg hj]
      refine .ag cs vs hl (fun i c v hc hv => ?_) h1
      have h2 := h i c v hc hv
      cases c with
      | p x => exact h2
      | o j =>
        have hne : j ≠ id := by
          rintro rfl
          exact hj (List.any_eq_true.2 ⟨_, List.mem_of_getElem? hc, by simp [Cl.is]⟩)
        show v = upd ρ id u j
        simp only [upd, if_neg hne]
        exact h2
      | c f ks =>
        obtain ⟨us, e, hl2, h3⟩ := h2
        refine ⟨us, e, hl2, fun i2 k v2 hk hv2 => ?_⟩
        have hne : k ≠ id := by
          rintro rfl
          exact hj (List.any_eq_true.2 ⟨_, List.mem_of_getElem? hc, List.contains_iff_mem.2 (List.mem_of_getElem? hk)⟩)
        have e2 : upd ρ id u k = ρ k := by simp [upd, hne]
        rw [e2]
        exact h3 i2 k v2 hk hv2
/-- A block of the frame's own: a slice's row that it owns (type of the elements, cells of each, how many, the cells), or a variable (its type, its cells); a row whose cells up to its length stay as they are, but that may grow. -/
inductive Blk where
  | row (t size n : Nat) (xs : List AV)
  | prow (t size n : Nat) (xs : List PV)
  | box (t : Nat) (xs : List AV)
  | lent (t size n : Nat) (xs : List PV)
  | obj (mp : Bool) (Q : Nat → Obj → Prop)
/-- an object of another kind (a map; what goes along one): its value -/
def objV (mp : Bool) (g : Nat) : Value := bif mp then .map (some g) else .pointer (some ⟨g, 0, none⟩)
theorem objV_blk (mp : Bool) (g : Nat) : zU (objV mp g) = some g := by cases mp <;> rfl
def Blk.xs : Blk → List AV
  | .row _ _ _ xs => xs
  | .prow _ _ _ xs => xs.map AV.p
  | .box _ xs => xs
  | .lent _ _ _ xs => xs.map AV.p
  | .obj _ _ => []
/-- the cells of its block that may be turned -/
def Blk.turns : Blk → Nat → Prop
  | .lent _ size n _, c => n * size ≤ c
  | _, _ => True
def Blk.kill (id : Nat) : Blk → Blk
  | .row t size n xs => .row t size n (xs.map (AV.kill id))
  | .prow t size n xs => .prow t size n xs
  | .box t xs => .box t (xs.map (AV.kill id))
  | .lent t size n xs => .lent t size n xs
  | .obj mp Q => .obj mp Q
theorem Blk.turns_kill (b : Blk) (id c : Nat) : (b.kill id).turns c ↔ b.turns c := by cases b <;> exact Iff.rfl
theorem vB (xs : List PV) (id : Nat) : (xs.map AV.p).map (AV.kill id) = xs.map AV.p := by
  rw [List.map_map]
  rfl
structure yA (M : Nat → Nat → Prop) (ρ : Nat → Value) (w : World) (xs : List AV) (ys : List Value) : Prop where
  len : ys.length = xs.length
  each : ∀ (i : Nat) c v, xs[i]? = some c → ys[i]? = some v → yY M ρ w c v
  one : ∀ v ∈ ys, v.oneCell' = true
theorem yA.keep {M : Nat → Nat → Prop} {ρ : Nat → Value} {w w' : World} {xs : List AV} {ys : List Value} (h : yA M ρ w xs ys) (hk : Keeps M w w') : yA M ρ w' xs ys :=
  ⟨h.len, fun i c v hc hv => (h.each i c v hc hv).keep hk, h.one⟩
theorem yA.mono {M M' : Nat → Nat → Prop} {ρ : Nat → Value} {w : World} {xs : List AV} {ys : List Value} (h : yA M ρ w xs ys) (hM' : ∀ k c, k < w.heap.size → M' k c → M k c) : yA M' ρ w xs ys :=
  ⟨h.len, fun i c v hc hv => (h.each i c v hc hv).mono hM', h.one⟩
theorem yA.killed {M : Nat → Nat → Prop} {ρ : Nat → Value} {w : World} {xs : List AV} {ys : List Value} (h : yA M ρ w xs ys) (id : Nat) (u : Value) : yA M (upd ρ id u) w (xs.map (AV.kill id)) ys := by
  refine ⟨by simp [h.len], fun i c v hc hv => ?_, h.one⟩
  simp only [List.getElem?_map, Option.map_eq_some_iff] at hc
  obtain ⟨c', hc', rfl⟩ := hc
  exact (h.each i c' v hc' hv).killed id u
/-- What a block of the frame's own holds. B: blocks from B on are the frame's. -/
def xG (M : Nat → Nat → Prop) (B : Nat) (ρ : Nat → Value) (w : World) (v : Value) : Blk → Prop
  | .row t size n xs => ∃ ys, w.ownsRow B t size v n ys ∧ yA M ρ w xs ys
  | .prow t size n xs => ∃ ys, w.ownsRow B t size v n ys ∧ yA M ρ w (xs.map AV.p) ys
  | .box t xs => ∃ g ys, v = .pointer (some ⟨g, 0, none⟩) ∧ B ≤ g ∧ w.heap[g]? = some (.cells ys.toArray t (0, 0)) ∧ yA M ρ w xs ys
  | .lent t size n xs => ∃ ys, w.ownsRow B t size v n ys ∧ yA M ρ w (xs.map AV.p) ys
  | .obj mp Q => ∃ g o, v = objV mp g ∧ B ≤ g ∧ w.heap[g]? = some o ∧ Q g o
def look {α : Type} : List (Nat × α) → Nat → Option α
  | [], _ => none
  | (k, x) :: r, i => if k = i then some x else look r i
def putL {α : Type} (l : List (Nat × α)) (i : Nat) (x : α) : List (Nat × α) := (i, x) :: l
theorem qH {α : Type} (l : List (Nat × α)) (i : Nat) (x : α) (j : Nat) : look (putL l i x) j = if i = j then some x else look l j := rfl
theorem look_map {α β : Type} (f : α → β) (l : List (Nat × α)) (j : Nat) : look (l.map fun p => (p.1, f p.2)) j = (look l j).map f := by
  induction l with
  | nil => rfl
  | cons p r ih =>
    simp only [List.map_cons, look, ih]
    split <;> simp
/-- A frame of abstract values: of its slots (others: nothing known), and its own blocks; x: what it panics with, where it does. -/
structure AS where
  t : List (Nat × AV)
  s : List (Nat × Blk)
  x : AV := .any
def AS.tmp (S : AS) (i : Nat) : AV := (look S.t i).getD .any
def AS.blk (S : AS) (i : Nat) : Option Blk := look S.s i
def AS.get (S : AS) : Operand → AV
  | .tmp i => S.tmp i
  | .const v => .p (.val v)
  | .global g => .glob g
  | .func f => .p (.val (.func (.func f) #[] #[]))
def AS.put (S : AS) (d : Nat) (x : AV) : AS := { S with t := putL S.t d x }
def AS.kill (S : AS) (id : Nat) : AS := { t := S.t.map fun p => (p.1, p.2.kill id), s := S.s.map fun p => (p.1, p.2.kill id) }
def AS.create (S : AS) (id : Nat) (b : Blk) : AS := { (S.kill id) with s := putL (S.kill id).s id (b.kill id) }
theorem AS.tmp_put (S : AS) (d : Nat) (x : AV) (i : Nat) : (S.put d x).tmp i = if d = i then x else S.tmp i := by
  simp only [AS.tmp, AS.put, qH]
  split <;> rfl
theorem AS.blk_put (S : AS) (d : Nat) (x : AV) (i : Nat) : (S.put d x).blk i = S.blk i := rfl
theorem AS.tmp_kill (S : AS) (id i : Nat) : (S.kill id).tmp i = (S.tmp i).kill id := by
  simp only [AS.tmp, AS.kill, look_map]
  cases look S.t i <;> rfl
theorem AS.blk_kill (S : AS) (id i : Nat) : (S.kill id).blk i = (S.blk i).map (Blk.kill id) := by
  simp only [AS.blk, AS.kill, look_map]
theorem AS.tmp_create (S : AS) (id : Nat) (b : Blk) (i : Nat) : (S.create id b).tmp i = (S.tmp i).kill id := S.tmp_kill id i
theorem AS.wT (S : AS) (id : Nat) (b : Blk) (i : Nat) : (S.create id b).blk i = if id = i then some (b.kill id) else (S.blk i).map (Blk.kill id) := by
  simp only [AS.blk, AS.create, qH]
  split
  · rfl
  · exact S.blk_kill id i
/-- Blocks that may be turned: by frames further out (M), and this frame's own. -/
def Mut (M : Nat → Nat → Prop) (S : AS) (ρ : Nat → Value) (k c : Nat) : Prop := M k c ∨ ∃ id b, S.blk id = some b ∧ zU (ρ id) = some k ∧ b.turns c
/-- The package-level variables hold what they hold. -/
def Lays (w : World) : Prop := ∀ g xs, seatTbl g = some xs → g < w.heap.size ∧ ∀ (j : Nat) p, xs[j]? = some p → w.cell? ⟨g, j, none⟩ = some (.int p.1 p.2)
def Tabs (g : Nat) : Prop := ∃ xs, seatTbl g = some xs
/-- The world at the frame's beginning; the old blocks that were handed over to the frame: it may turn them; and the variables among these, by their numbers from 1000 on; d: the calls that are deferred by then. -/
structure Home where
  w : World
  t : Nat → Prop
  lays : Lays w
  tabs : ∀ g, Tabs g → ¬ t g
  r : Nat → Option Value
  ptr : ∀ k v, r k = some v → ∃ mp g, v = objV mp g
  lo : ∀ k, k < 1000 → r k = none
  d : List Deferred
def Home.has (h : Home) (k : Nat) : Prop := h.w.heap.size ≤ k ∨ h.t k
structure xO (h : Home) (w : World) : Prop where
  os : w.os = h.w.os
  tape : w.tape = h.w.tape
  output : w.output = h.w.output
  size : h.w.heap.size ≤ w.heap.size
  block : ∀ k, k < h.w.heap.size → ¬ h.t k → w.heap[k]? = h.w.heap[k]?
def NoT : Nat → Prop := fun _ => False
def Home.plain (w : World) (hl : Lays w) : Home := ⟨w, NoT, hl, (fun _ _ h => h), fun _ => none, (fun _ _ h => by cases h), (fun _ _ => rfl), []⟩
theorem xO.refl (h : Home) : xO h h.w := ⟨rfl, rfl, rfl, Nat.le_refl _, fun _ _ _ => rfl⟩
theorem xO.next {h : Home} {w w' : World} (hb : xO h w) (hg : Below w.heap.size w w') : xO h w' :=
  ⟨hg.os.trans hb.os, hg.tape.trans hb.tape, hg.output.trans hb.output, Nat.le_trans hb.size hg.size, fun k hk ht => (hg.block k (Nat.lt_of_lt_of_le hk hb.size)).trans (hb.block k hk ht)⟩
theorem xO.grown {h : Home} {w w' : World} {row : Option Nat} (hb : xO h w) (hg : w.grownBy w' row) (hr : ∀ k, row = some k → h.has k) : xO h w' :=
  ⟨hg.os.trans hb.os, hg.tape.trans hb.tape, hg.output.trans hb.output, Nat.le_trans hb.size hg.size, fun k hk ht => (hg.block k (Nat.lt_of_lt_of_le hk hb.size) (fun e => by
    rcases hr k e.symm with h1 | h1
    · omega
    · exact ht h1)).trans (hb.block k hk ht)⟩
theorem xO.plain {w w' : World} {hl : Lays w} (hb : xO (Home.plain w hl) w') : Below w.heap.size w w' := ⟨hb.os, hb.tape, hb.output, hb.size, fun k hk => hb.block k hk (fun h => h)⟩
structure Sat (M : Nat → Nat → Prop) (n : Nat) (w0 : Home) (S : AS) (ρ : Nat → Value) (a : Act) (w : World) : Prop where
  below : xO w0 w
  out : ∀ k c, M k c → ¬ w0.has k
  tab : ∀ g c, Tabs g → ¬ M g c
  size : a.tmps.size = n
  defers : a.defers = w0.d
  tmps : ∀ i, yY (Mut M S ρ) ρ w (S.tmp i) (a.tmps.getD i undef)
  blks : ∀ id b, S.blk id = some b → xG (Mut M S ρ) 0 ρ w (ρ id) b
  mine : ∀ id b k, S.blk id = some b → zU (ρ id) = some k → w0.has k
  fix : ∀ k v, w0.r k = some v → ρ k = v
  free : ∀ k, k < n → w0.r k = none
  dist : ∀ i j bi bj k, S.blk i = some bi → S.blk j = some bj → zU (ρ i) = some k → zU (ρ j) = some k → i = j
section
variable {M : Nat → Nat → Prop} {n : Nat} {w0 : Home} {w w' : World} {S : AS} {ρ : Nat → Value} {a : Act}
theorem Sat.put (h : Sat M n w0 S ρ a w) {d : Nat} {x : AV} {v : Value} (hd : d < n) (hx : yY (Mut M S ρ) ρ w x v) : Sat M n w0 (S.put d x) ρ (a.put (some d) v) w := by
  have hm : Mut M (S.put d x) ρ = Mut M S ρ := rfl
  refine ⟨h.below, h.out, h.tab, by simp [Act.put, h.size], h.defers, fun i => ?_, fun id b hb => ?_, h.mine, h.fix, h.free, h.dist⟩
  · rw [AS.tmp_put, hm]
    by_cases hi : d = i
    · subst hi
      rw [if_pos rfl]
      have e : (a.put (some d) v).tmps.getD d undef = v := by simp [Act.put, h.size, hd]
      rw [e]
      exact hx
    · rw [if_neg hi]
      have e : (a.put (some d) v).tmps.getD i undef = a.tmps.getD i undef := by
        simp only [Act.put, Array.getD_eq_getD_getElem?, Array.getElem?_setIfInBounds]
        rw [if_neg hi]
      rw [e]
      exact h.tmps i
  · exact h.blks id b hb
/-- The world has grown, and nothing that was there has turned. -/
theorem Sat.ext (h : Sat M n w0 S ρ a w) (hb : Below w.heap.size w w') : Sat M n w0 S ρ a w' := by
  refine ⟨h.below.next hb, h.out, h.tab, h.size, h.defers, fun i => (h.tmps i).keep (.of_below _ hb), fun id b hbk => ?_, h.mine, h.fix, h.free, h.dist⟩
  have hk := h.blks id b hbk
  cases b with
  | row t size m xs =>
    obtain ⟨ys, ho, hc⟩ := hk
    exact ⟨ys, ownsRow_size ho hb, hc.keep (.of_below _ hb)⟩
  | prow t size m xs =>
    obtain ⟨ys, ho, hc⟩ := hk
    exact ⟨ys, ownsRow_size ho hb, hc.keep (.of_below _ hb)⟩
  | box t xs =>
    obtain ⟨g, ys, hv, hg, hh, hc⟩ := hk
    exact ⟨g, ys, hv, hg, (hb.block g (Array.getElem?_eq_some_iff.1 hh).1).trans hh, hc.keep (.of_below _ hb)⟩
  | lent t size m xs =>
    obtain ⟨ys, ho, hc⟩ := hk
    exact ⟨ys, ownsRow_size ho hb, hc.keep (.of_below _ hb)⟩
  | obj mp Q =>
    obtain ⟨g, o, hv, hg, hh, hq⟩ := hk
    exact ⟨g, o, hv, hg, (hb.block g (Array.getElem?_eq_some_iff.1 hh).1).trans hh, hq⟩
theorem ownsRow_blk {w : World} {B : Nat} {t : TypeId} {size : Nat} {v : Value} {n : Nat} {ys : List Value} (ho : w.ownsRow B t size v n ys) {k : Nat} (hv : zU v = some k) : k < w.heap.size := by
  refine (ho.lt k ?_).2
  cases hr : v with
  | slice o l c => rw [hr] at hv; cases o with
    | none => simp [zU] at hv
    | some a => simpa [zU, Value.ownBlock] using hv
  | pointer o =>
    rcases ho.2 with ⟨e, _⟩ | ⟨g, cap, cur, e, _⟩ <;> (rw [hr] at e; cases e)
  | map o =>
    rcases ho.2 with ⟨e, _⟩ | ⟨g, cap, cur, e, _⟩ <;> (rw [hr] at e; cases e)
  | _ => rw [hr] at hv; simp [zU] at hv
theorem Mut.blk_lt (h : Sat M n w0 S ρ a w) {id : Nat} {b : Blk} (hb : S.blk id = some b) {k : Nat} (hv : zU (ρ id) = some k) : k < w.heap.size := by
  have hB := h.blks id b hb
  cases b with
  | row t size m xs => obtain ⟨ys, ho, hc⟩ := hB; exact ownsRow_blk ho hv
  | prow t size m xs => obtain ⟨ys, ho, hc⟩ := hB; exact ownsRow_blk ho hv
  | lent t size m xs => obtain ⟨ys, ho, hc⟩ := hB; exact ownsRow_blk ho hv
  | obj mp Q =>
    obtain ⟨g, o, e, hg, hh, hc⟩ := hB
    rw [e, objV_blk] at hv
    simp only [Option.some.injEq] at hv
    subst hv
    exact (Array.getElem?_eq_some_iff.1 hh).1
  | box t xs =>
    obtain ⟨g, ys, e, hg, hh, hc⟩ := hB
    rw [e] at hv
    simp only [zU, Option.some.injEq] at hv
    subst hv
    exact (Array.getElem?_eq_some_iff.1 hh).1
theorem Mut.lt (h : Sat M n w0 S ρ a w) {k c : Nat} (hk : Mut M S ρ k c) : k < w.heap.size := by
  rcases hk with hk | ⟨id, b, hb, hv, _⟩
  · exact Nat.lt_of_lt_of_le (Nat.lt_of_not_le fun h1 => h.out k c hk (.inl h1)) h.below.size
  · exact Mut.blk_lt h hb hv
/-- A package-level variable's cells are as they were, and nobody's to turn. -/
theorem Sat.tbl (h : Sat M n w0 S ρ a w) {g : Nat} {xs : List (IntKind × Int)} (hg : seatTbl g = some xs) : (∀ c, ¬ Mut M S ρ g c) ∧ g < w.heap.size ∧ ∀ (j : Nat) p, xs[j]? = some p → w.cell? ⟨g, j, none⟩ = some (.int p.1 p.2) := by
  obtain ⟨h1, h2⟩ := w0.lays g xs hg
  have h3 := w0.tabs g ⟨xs, hg⟩
  refine ⟨?_, Nat.lt_of_lt_of_le h1 h.below.size, fun j p hp => ?_⟩
  · rintro c (hk | ⟨id, b, hb, hk, _⟩)
    · exact h.tab g c ⟨xs, hg⟩ hk
    · rcases h.mine id b g hb hk with h4 | h4
      · omega
      · exact h3 h4
  · rw [World.cell?_of_block (w := w0.w) (h.below.block g h1 h3)]
    exact h2 j p hp
theorem Sat.lays (h : Sat M n w0 S ρ a w) : Lays w := fun _ _ hg => (h.tbl hg).2
theorem Sat.tabs (h : Sat M n w0 S ρ a w) : ∀ g c, Tabs g → ¬ Mut M S ρ g c := fun _ c ⟨_, hg⟩ => (h.tbl hg).1 c
/-- A block's fact in a world in which its own block is as it was. -/
theorem xG.keep {M M' : Nat → Nat → Prop} {B : Nat} {v : Value} {b : Blk} {w w' : World} {ρ : Nat → Value} (h : xG M B ρ w v b) (hk : ∀ k, zU v = some k → w'.heap[k]? = w.heap[k]?) (hks : Keeps M' w w') (hM : ∀ k c, k < w.heap.size → M' k c → M k c) : xG M' B ρ w' v b := by
  cases b with
  | row t size m xs =>
    obtain ⟨ys, ⟨h1, h2⟩, hc⟩ := h
    refine ⟨ys, ⟨h1, ?_⟩, (hc.mono hM).keep hks⟩
    rcases h2 with h2 | ⟨g, cap, cur, hv, hg, hh, r⟩
    · exact .inl h2
    · subst hv
      exact .inr ⟨g, cap, cur, rfl, hg, (hk g rfl).trans hh, r⟩
  | prow t size m xs =>
    obtain ⟨ys, ⟨h1, h2⟩, hc⟩ := h
    refine ⟨ys, ⟨h1, ?_⟩, (hc.mono hM).keep hks⟩
    rcases h2 with h2 | ⟨g, cap, cur, hv, hg, hh, r⟩
    · exact .inl h2
    · subst hv
      exact .inr ⟨g, cap, cur, rfl, hg, (hk g rfl).trans hh, r⟩
  | box t xs =>
    obtain ⟨g, ys, e, hg, hh, hc⟩ := h
    subst e
    exact ⟨g, ys, rfl, hg, (hk g rfl).trans hh, (hc.mono hM).keep hks⟩
  | lent t size m xs =>
    obtain ⟨ys, ⟨h1, h2⟩, hc⟩ := h
    refine ⟨ys, ⟨h1, ?_⟩, (hc.mono hM).keep hks⟩
    rcases h2 with h2 | ⟨g, cap, cur, hv, hg, hh, r⟩
    · exact .inl h2
    · subst hv
      exact .inr ⟨g, cap, cur, rfl, hg, (hk g rfl).trans hh, r⟩
  | obj mp Q =>
    obtain ⟨g, o, e, hg, hh, hq⟩ := h
    exact ⟨g, o, e, hg, (hk g (by rw [e, objV_blk])).trans hh, hq⟩
theorem xG.mono {M M' : Nat → Nat → Prop} {B : Nat} {v : Value} {b : Blk} {w : World} {ρ : Nat → Value} (h : xG M B ρ w v b) (hM : ∀ k c, M' k c → M k c) : xG M' B ρ w v b := by
  cases b with
  | row t size m xs =>
    obtain ⟨ys, ho, hc⟩ := h
    exact ⟨ys, ho, hc.mono fun k c _ hk => hM k c hk⟩
  | prow t size m xs =>
    obtain ⟨ys, ho, hc⟩ := h
    exact ⟨ys, ho, hc.mono fun k c _ hk => hM k c hk⟩
  | box t xs =>
    obtain ⟨g, ys, e, hg, hh, hc⟩ := h
    exact ⟨g, ys, e, hg, hh, hc.mono fun k c _ hk => hM k c hk⟩
  | lent t size m xs =>
    obtain ⟨ys, ho, hc⟩ := h
    exact ⟨ys, ho, hc.mono fun k c _ hk => hM k c hk⟩
  | obj mp Q => exact h
theorem xG.killed {M : Nat → Nat → Prop} {B : Nat} {v : Value} {b : Blk} {w : World} {ρ : Nat → Value} (h : xG M B ρ w v b) (id : Nat) (u : Value) : xG M B (upd ρ id u) w v (b.kill id) := by
  cases b with
  | row t size m xs =>
    obtain ⟨ys, ho, hc⟩ := h
    exact ⟨ys, ho, hc.killed id u⟩
  | prow t size m xs =>
    obtain ⟨ys, ho, hc⟩ := h
    exact ⟨ys, ho, vB xs id ▸ hc.killed id u⟩
  | box t xs =>
    obtain ⟨g, ys, e, hg, hh, hc⟩ := h
    exact ⟨g, ys, e, hg, hh, hc.killed id u⟩
  | lent t size m xs =>
    obtain ⟨ys, ho, hc⟩ := h
    exact ⟨ys, ho, vB xs id ▸ hc.killed id u⟩
  | obj mp Q => exact h
/-- Block id is made, or made anew: the world has grown, and of what was there only id's own block may have turned. -/
theorem Sat.change (h : Sat M n w0 S ρ a w) (id : Nat) (b : Blk) (v : Value) (row : Option Nat) (hr : w0.r id = none) (hg : w.grownBy w' row)
    (hrow : ∀ k, row = some k → ∃ b0, S.blk id = some b0 ∧ zU (ρ id) = some k ∧ (∀ c, b.turns c → b0.turns c) ∧ ∀ c, ¬ b0.turns c → w'.cell? ⟨k, c, none⟩ = w.cell? ⟨k, c, none⟩) (hv : ∀ k, zU v = some k → w.heap.size ≤ k ∨ row = some k)
    (hok : xG (fun k c => Mut M S ρ k c ∨ (zU v = some k ∧ b.turns c)) 0 ρ w' v b) : Sat M n w0 (S.create id b) (upd ρ id v) a w' := by
  have hb' : xO w0 w' := h.below.grown hg (fun k e => by
    obtain ⟨b0, hb0, hk0, _⟩ := hrow k e
    exact h.mine id b0 k hb0 hk0)
  have hown : ∀ k, zU v = some k → w0.has k := fun k hk => by
    rcases hv k hk with h1 | h1
    · exact .inl (Nat.le_trans h.below.size h1)
    · obtain ⟨b0, hb0, hk0, _⟩ := hrow k h1
      exact h.mine id b0 k hb0 hk0
  have hm : ∀ k c, Mut M (S.create id b) (upd ρ id v) k c → Mut M S ρ k c ∨ (zU v = some k ∧ b.turns c) := by
    rintro k c (hk | ⟨j, bj, hbj, hkj, htj⟩)
    · exact .inl (.inl hk)
    · rw [AS.wT] at hbj
      by_cases hj : id = j
      · subst hj
        right
        rw [if_pos rfl] at hbj
        obtain rfl := Option.some.inj hbj
        exact ⟨by simpa [upd] using hkj, (Blk.turns_kill b id c).1 htj⟩
      · rw [if_neg hj] at hbj
        obtain ⟨b1, hb1, rfl⟩ := Option.map_eq_some_iff.1 hbj
        exact .inl (.inr ⟨j, b1, hb1, by simpa [upd, Ne.symm hj] using hkj, (Blk.turns_kill b1 id c).1 htj⟩)
  have hm2 : ∀ k c, k < w.heap.size → Mut M (S.create id b) (upd ρ id v) k c → Mut M S ρ k c := by
    intro k c hk hmk
    rcases hm k c hmk with h1 | ⟨h1, ht⟩
    · exact h1
    · rcases hv k h1 with h2 | h2
      · omega
      · obtain ⟨b0, hb0, hk0, ht0, _⟩ := hrow k h2
        exact .inr ⟨id, b0, hb0, hk0, ht0 c ht⟩
  have hks : Keeps (fun k c => Mut M S ρ k c ∨ Mut M (S.create id b) (upd ρ id v) k c) w w' := ⟨hg.size, fun k c hk hnm => by
    by_cases hrk : row = some k
    · obtain ⟨b0, hb0, hk0, _, hc0⟩ := hrow k hrk
      exact hc0 c fun ht => hnm (.inl (.inr ⟨id, b0, hb0, hk0, ht⟩))
    · exact World.cell?_of_block (w := w) (hg.block k hk fun e => hrk e.symm)⟩
  have hm4 : ∀ k c, k < w.heap.size → (Mut M S ρ k c ∨ Mut M (S.create id b) (upd ρ id v) k c) → Mut M S ρ k c := fun k c hk h1 => h1.elim (fun h => h) (hm2 k c hk)
  have step : ∀ x u, yY (Mut M S ρ) ρ w x u → yY (Mut M (S.create id b) (upd ρ id v)) (upd ρ id v) w' (x.kill id) u := fun x u hx =>
    (((hx.mono hm4).keep hks).mono (fun k c _ hk => .inr hk)).killed id v
  refine ⟨hb', h.out, h.tab, h.size, h.defers, fun i => by rw [AS.tmp_create]; exact step _ _ (h.tmps i), fun j bj hbj => ?_, fun j bj k hbj hk => ?_, fun k u hk => ?_, h.free, fun i j bi bj k hbi hbj hi hj => ?_⟩
  · rw [AS.wT] at hbj
    by_cases hj : id = j
    · subst hj
      rw [if_pos rfl] at hbj
      obtain rfl := Option.some.inj hbj
      have e : upd ρ id v id = v := by simp [upd]
      rw [e]
      have h1 := hok.killed id v
      cases hbc : b.kill id with
      | row t size m xs =>
        rw [hbc] at h1
        obtain ⟨ys, ho, hc⟩ := h1
        exact ⟨ys, ho, hc.mono fun k c _ hk => hm k c hk⟩
      | prow t size m xs =>
        rw [hbc] at h1
        obtain ⟨ys, ho, hc⟩ := h1
        exact ⟨ys, ho, hc.mono fun k c _ hk => hm k c hk⟩
      | box t xs =>
        rw [hbc] at h1
        obtain ⟨g, ys, e, hg, hh, hc⟩ := h1
        exact ⟨g, ys, e, hg, hh, hc.mono fun k c _ hk => hm k c hk⟩
      | lent t size m xs =>
        rw [hbc] at h1
        obtain ⟨ys, ho, hc⟩ := h1
        exact ⟨ys, ho, hc.mono fun k c _ hk => hm k c hk⟩
      | obj mp Q =>
        rw [hbc] at h1
        exact h1
    · rw [if_neg hj] at hbj
      obtain ⟨b1, hb1, rfl⟩ := Option.map_eq_some_iff.1 hbj
      have e : upd ρ id v j = ρ j := by simp [upd, Ne.symm hj]
      rw [e]
      refine xG.killed ?_ id v
      refine (xG.keep (h.blks j b1 hb1) (fun k hk => ?_) hks hm4).mono fun k c hk => .inr hk
      refine hg.block k (Mut.blk_lt h hb1 hk) (fun e => ?_)
      obtain ⟨b0, hb0, hk0, _⟩ := hrow k e.symm
      exact hj (h.dist id j b0 b1 k hb0 hb1 hk0 hk)
  · rw [AS.wT] at hbj
    by_cases hj : id = j
    · subst hj
      exact hown k (by simpa [upd] using hk)
    · rw [if_neg hj] at hbj
      obtain ⟨b1, hb1, rfl⟩ := Option.map_eq_some_iff.1 hbj
      exact h.mine j b1 k hb1 (by simpa [upd, Ne.symm hj] using hk)
  · have hne : k ≠ id := by
      rintro rfl
      rw [hr] at hk
      cases hk
    simpa [upd, hne] using h.fix k u hk
  · rw [AS.wT] at hbi hbj
    have fresh : ∀ j b1, id ≠ j → S.blk j = some b1 → zU (ρ j) = some k → zU v = some k → False := by
      intro j b1 hne hb1 hk1 hk2
      rcases hv k hk2 with h2 | h2
      · have := Mut.blk_lt h hb1 hk1
        omega
      · obtain ⟨b0, hb0, hk0, _⟩ := hrow k h2
        exact hne (h.dist id j b0 b1 k hb0 hb1 hk0 hk1)
    by_cases hii : id = i
    · subst hii
      by_cases hjj : id = j
      · exact hjj
      · rw [if_neg hjj] at hbj
        obtain ⟨b1, hb1, _⟩ := Option.map_eq_some_iff.1 hbj
        exact (fresh j b1 hjj hb1 (by simpa [upd, Ne.symm hjj] using hj) (by simpa [upd] using hi)).elim
    · rw [if_neg hii] at hbi
      obtain ⟨b1, hb1, _⟩ := Option.map_eq_some_iff.1 hbi
      by_cases hjj : id = j
      · subst hjj
        exact (fresh i b1 hii hb1 (by simpa [upd, Ne.symm hii] using hi) (by simpa [upd] using hj)).elim
      · rw [if_neg hjj] at hbj
        obtain ⟨b2, hb2, _⟩ := Option.map_eq_some_iff.1 hbj
        exact h.dist i j b1 b2 k hb1 hb2 (by simpa [upd, Ne.symm hii] using hi) (by simpa [upd, Ne.symm hjj] using hj)
/-- The cells of block id are turned in place. -/
theorem Sat.turn (h : Sat M n w0 S ρ a w) {id g : Nat} {b b' : Blk} (hb : S.blk id = some b) (hgk : zU (ρ id) = some g) (hg : w.grownBy w' (some g)) (ht : ∀ c, b.turns c)
    (hok : xG (Mut M S ρ) 0 ρ w' (ρ id) b') : Sat M n w0 { S with s := putL S.s id b' } ρ a w' := by
  have hbk : ∀ i, ({ S with s := putL S.s id b' } : AS).blk i = if id = i then some b' else S.blk i := fun i => by simp only [AS.blk, qH]
  have hb' : xO w0 w' := h.below.grown hg (fun k e => by
    simp only [Option.some.injEq] at e
    subst e
    exact h.mine id b _ hb hgk)
  have hmm : ∀ k c, Mut M ({ S with s := putL S.s id b' } : AS) ρ k c → Mut M S ρ k c := by
    rintro k c (hk | ⟨j, bj, hbj, hkj, htj⟩)
    · exact .inl hk
    · rw [hbk] at hbj
      by_cases hj : id = j
      · subst hj; exact .inr ⟨id, b, hb, hkj, ht c⟩
      · rw [if_neg hj] at hbj; exact .inr ⟨j, bj, hbj, hkj, htj⟩
  have hks : Keeps (Mut M S ρ) w w' := ⟨hg.size, fun k c hk hnm => World.cell?_of_block (w := w) (hg.block k hk (fun e => hnm (.inr ⟨id, b, hb, by rw [hgk]; exact e.symm, ht c⟩)))⟩
  refine ⟨hb', h.out, h.tab, h.size, h.defers, fun i => ((h.tmps i).keep hks).mono fun k c _ hk => hmm k c hk, fun j bj hbj => ?_, fun j bj k hbj hk => ?_, h.fix, h.free, fun i j bi bj k hbi hbj hi hj => ?_⟩
  · rw [hbk] at hbj
    by_cases hj : id = j
    · subst hj
      rw [if_pos rfl] at hbj
      obtain rfl := Option.some.inj hbj
      exact hok.mono hmm
    · rw [if_neg hj] at hbj
      refine (xG.keep (h.blks j bj hbj) (fun k hk => ?_) hks (fun k c _ hk => hk)).mono hmm
      refine hg.block k (Mut.blk_lt h hbj hk) (fun e => ?_)
      simp only [Option.some.injEq] at e
      subst e
      exact hj (h.dist id j b bj k hb hbj hgk hk)
  · rw [hbk] at hbj
    by_cases hj : id = j
    · subst hj
      exact h.mine id b k hb hk
    · rw [if_neg hj] at hbj
      exact h.mine j bj k hbj hk
  · have some_of : ∀ i bi, ({ S with s := putL S.s id b' } : AS).blk i = some bi → ∃ b1, S.blk i = some b1 := by
      intro i bi hbi
      rw [hbk] at hbi
      by_cases hii : id = i
      · subst hii; exact ⟨b, hb⟩
      · rw [if_neg hii] at hbi; exact ⟨bi, hbi⟩
    obtain ⟨b1, h1⟩ := some_of i bi hbi
    obtain ⟨b2, h2⟩ := some_of j bj hbj
    exact h.dist i j b1 b2 k h1 h2 hi hj
end
end Go.Proofs.YtmfbamiciieooaaGreatDoor
/- What an operation, a region, a code, a call does to a frame of abstract values. Generic over the program. -/
namespace Go.Proofs.YtmfbamiciieooaaGreatDoor
set_option maxRecDepth 100000
set_option maxHeartbeats 16000000
open Go Go.RowKit
def AS.out (S : AS) : Option Nat → AV → Option Blk → AS
  | some d, x, none => S.put d x
  | some d, x, some b => (S.create d b).put d x
  | none, _, _ => S
/-- The operation leads from S to S'. -/
def Step (P : Program) (n : Nat) (o : Oper) (S S' : AS) : Prop :=
  ∀ (M : Nat → Nat → Prop) (w0 : Home) (ρ : Nat → Value) (a : Act) (w : World) (K : Act → World → Prop) (Q : Exit → Act → World → Prop),
    Sat M n w0 S ρ a w → (∀ ρ' a' w', Sat M n w0 S' ρ' a' w' → K a' w') → o.wp P a w K Q
/-- The operation's value is av (and a new block nb), wherever its operands and the blocks bs are as in S. -/
def zX (P : Program) (n : Nat) (o : Oper) (S : AS) (bs : List Nat) (av : AV) (nb : Option Blk) : Prop :=
  ∀ S2 : AS, (∀ x ∈ o.op.operands.toList, S2.get x = S.get x) → (∀ id ∈ bs, S2.blk id = S.blk id) → Step P n o S2 (S2.out o.dst av nb)
theorem zX.step {P : Program} {n : Nat} {o : Oper} {S : AS} {bs : List Nat} {av : AV} {nb : Option Blk} (h : zX P n o S bs av nb) : Step P n o S (S.out o.dst av nb) :=
  h S (fun _ _ => rfl) (fun _ _ => rfl)
/-- An exit, without the panic's values. -/
def bare : Exit → Exit
  | .panic _ => .panic []
  | e => e
/-- What is panicked with is what the frame says. -/
def ExOK (M : Nat → Nat → Prop) (S : AS) (ρ : Nat → Value) (w : World) : Exit → Prop
  | .panic c => ∃ v, c = [{ v := v, recovered := false }] ∧ yY (Mut M S ρ) ρ w S.x v
  | _ => True
/-- A region's operations in the text's order. -/
def zY (P : Program) (n : Nat) (ops : Array Oper) (l : List Oper) (S : AS) (K : Exit → AS → Prop) : Prop :=
  ∀ (M : Nat → Nat → Prop) (w0 : Home) (ρ : Nat → Value) (a : Act) (w : World) (Q : Exit → Act → World → Prop),
    Sat M n w0 S ρ a w → (∀ e S' ρ' a' w', K (bare e) S' → Sat M n w0 S' ρ' a' w' → ExOK M S' ρ' w' e → Q e a' w') → wpList P ops Q l a w
def zZ (P : Program) (n : Nat) (c : Code) (S : AS) (K : Exit → AS → Prop) : Prop :=
  ∀ (M : Nat → Nat → Prop) (w0 : Home) (ρ : Nat → Value) (a : Act) (w : World) (Q : Exit → Act → World → Prop),
    Sat M n w0 S ρ a w → (∀ e S' ρ' a' w', K (bare e) S' → Sat M n w0 S' ρ' a' w' → ExOK M S' ρ' w' e → Q e a' w') → c.wp P Q a w
/-- S' says no more than S. -/
def Sub (S S' : AS) : Prop := ∀ (M : Nat → Nat → Prop) (n : Nat) (w0 : Home) (ρ : Nat → Value) (a : Act) (w : World), Sat M n w0 S ρ a w → ∃ ρ', Sat M n w0 S' ρ' a w
section
variable {P : Program} {n : Nat} {ops : Array Oper} {S S' S1 : AS}
theorem Sub.refl (S : AS) : Sub S S := fun _ _ _ ρ _ _ h => ⟨ρ, h⟩
theorem Sub.trans (h : Sub S S') (h' : Sub S' S1) : Sub S S1 := fun M n w0 ρ a w hs => by
  obtain ⟨ρ', h1⟩ := h M n w0 ρ a w hs
  exact h' M n w0 ρ' a w h1
theorem zY.nil {K : Exit → AS → Prop} (h : K .normal S) : zY P n ops [] S K := fun _ _ ρ a w _ hs hK => hK .normal S ρ a w h hs trivial
theorem zY.cons {o : Oper} {rest : List Oper} {K : Exit → AS → Prop} (hg : o.guard = none) (h : Step P n o S S1) (hr : zY P n ops rest S1 K) : zY P n ops (o :: rest) S K := by
  intro M w0 ρ a w Q hs hK
  unfold wpList
  rw [if_pos (by simp [Region.wanted, hg])]
  exact .inl (h M w0 ρ a w _ Q hs fun ρ' a' w' hs' => hr M w0 ρ' a' w' Q hs' hK)
def wN : AV := .p (.val undef)
theorem Sat.put_undef {M : Nat → Nat → Prop} {w0 : Home} {w : World} {ρ : Nat → Value} {a : Act} (hs : Sat M n w0 S ρ a w) {d : Nat} (hd : d < n) : Sat M n w0 (S.put d wN) ρ (a.put (some d) undef) w :=
  hs.put hd (.p (.val _))
/-- What a slot reads as, known to be a bool. -/
theorem Sat.bool {M : Nat → Nat → Prop} {w0 : Home} {w : World} {ρ : Nat → Value} {a : Act} (hs : Sat M n w0 S ρ a w) {t : Nat} {v : Value} (h : S.tmp t = .p (.val v)) : a.tmps.getD t undef = v := by
  have h1 := hs.tmps t
  rw [h] at h1
  cases h1 with
  | p h2 => cases h2; rfl
theorem Sat.val {M : Nat → Nat → Prop} {w0 : Home} {w : World} {ρ : Nat → Value} {a : Act} (hs : Sat M n w0 S ρ a w) {x : Operand} {v : Value} (h : S.get x = .p (.val v)) : a.eval x = v := by
  cases x with
  | tmp t => exact hs.bool h
  | const u => simp only [AS.get, AV.p.injEq, PV.val.injEq] at h; exact h
  | global g => cases h
  | func f => simp only [AS.get, AV.p.injEq, PV.val.injEq] at h; exact h
theorem Sat.rep {M : Nat → Nat → Prop} {w0 : Home} {w : World} {ρ : Nat → Value} {a : Act} (hs : Sat M n w0 S ρ a w) (x : Operand) : yY (Mut M S ρ) ρ w (S.get x) (a.eval x) := by
  cases x with
  | tmp t => exact hs.tmps t
  | const v => exact .p (.val v)
  | global g => exact .glob g
  | func f => exact .p (.val _)
/-- what a guard's value says -/
def wantB (v : Value) (want : Bool) : Bool := match v with
  | .bool b => b == want
  | _ => false
theorem Sat.wanted {M : Nat → Nat → Prop} {w0 : Home} {w : World} {ρ : Nat → Value} {a : Act} (hs : Sat M n w0 S ρ a w) {o : Oper} {j t : Nat} {want : Bool} {v : Value} (hg : o.guard = some (j, want)) (ht : (ops[j]?).bind (·.dst) = some t)
    (htn : t < n) (hb : S.tmp t = .p (.val v)) : Region.wanted o (yielded ops a.tmps) = wantB v want := by
  have hv := hs.bool hb
  have hlt : t < a.tmps.size := by rw [hs.size]; exact htn
  have hv2 : a.tmps[t] = v := by
    simpa [Array.getD_eq_getD_getElem?, hlt] using hv
  unfold Region.wanted yielded
  simp only [hg, ht, Option.bind_some, Array.getElem?_eq_getElem hlt, hv2]
  cases v <;> first | (rename_i b; cases b <;> cases want <;> rfl) | rfl
theorem zY.guardedV {o : Oper} {rest : List Oper} {K : Exit → AS → Prop} {j t d : Nat} {want : Bool} {v : Value} (hg : o.guard = some (j, want)) (ht : (ops[j]?).bind (·.dst) = some t) (htn : t < n)
    (hb : S.tmp t = .p (.val v)) (hd : o.dst = some d) (hdn : d < n)
    (hyes : wantB v want = true → ∃ S1, Step P n o S S1 ∧ zY P n ops rest S1 K) (hno : wantB v want = false → zY P n ops rest (S.put d wN) K) : zY P n ops (o :: rest) S K := by
  intro M w0 ρ a w Q hs hK
  unfold wpList
  rw [hs.wanted hg ht htn hb]
  by_cases h : wantB v want = true
  · obtain ⟨S1, h1, h2⟩ := hyes h
    rw [if_pos h]
    exact .inl (h1 M w0 ρ a w _ Q hs fun ρ' a' w' hs' => h2 M w0 ρ' a' w' Q hs' hK)
  · rw [if_neg h, hd]
    exact hno (by simpa using h) M w0 ρ _ w Q (hs.put_undef hdn) hK
theorem zY.guarded {o : Oper} {rest : List Oper} {K : Exit → AS → Prop} {j t d : Nat} {want b : Bool} (hg : o.guard = some (j, want)) (ht : (ops[j]?).bind (·.dst) = some t) (htn : t < n)
    (hb : S.tmp t = .p (.val (.bool b))) (hd : o.dst = some d) (hdn : d < n)
    (hyes : b = want → ∃ S1, Step P n o S S1 ∧ zY P n ops rest S1 K) (hno : b = !want → zY P n ops rest (S.put d wN) K) : zY P n ops (o :: rest) S K :=
  zY.guardedV hg ht htn hb hd hdn (fun h => hyes (by simpa [wantB] using h)) (fun h => hno (by cases b <;> cases want <;> simp_all [wantB]))
theorem zY.sub {l : List Oper} {K : Exit → AS → Prop} (hs : Sub S S') (h : zY P n ops l S' K) : zY P n ops l S K :=
  fun M w0 ρ a w Q h1 hK => by
    obtain ⟨ρ', h2⟩ := hs M n w0 ρ a w h1
    exact h M w0 ρ' a w Q h2 hK
theorem zZ.mono {c : Code} {K K' : Exit → AS → Prop} (h : zZ P n c S K) (hk : ∀ e S, K e S → K' e S) : zZ P n c S K' :=
  fun M w0 ρ a w Q hs hK => h M w0 ρ a w Q hs fun e S' ρ' a' w' h1 => hK e S' ρ' a' w' (hk _ S' h1)
theorem zZ.sub {c : Code} {K : Exit → AS → Prop} (hs : Sub S S') (h : zZ P n c S' K) : zZ P n c S K :=
  fun M w0 ρ a w Q h1 hK => by
    obtain ⟨ρ', h2⟩ := hs M n w0 ρ a w h1
    exact h M w0 ρ' a w Q h2 hK
theorem zZ.region {id : Nat} {l : List Oper} {K : Exit → AS → Prop} (h : zY P n l.toArray l S K) : zZ P n (.region id l.toArray false) S K :=
  fun M w0 ρ a w Q hs hK => wp_region_lit (h M w0 ρ a w Q hs hK)
theorem zZ.skip {K : Exit → AS → Prop} (h : K .normal S) : zZ P n .skip S K := fun _ _ ρ a w _ hs hK => wp_skip (hK _ S ρ a w h hs trivial)
theorem zZ.ret {K : Exit → AS → Prop} (h : K .ret S) : zZ P n .ret S K := fun _ _ ρ a w _ hs hK => wp_ret (hK _ S ρ a w h hs trivial)
theorem zZ.exit {id : Nat} {K : Exit → AS → Prop} (h : K (.exit id) S) : zZ P n (.exit id) S K := fun _ _ ρ a w _ hs hK => wp_exit (hK _ S ρ a w h hs trivial)
theorem zZ.goto {l : Nat} {K : Exit → AS → Prop} (h : K (.goto l) S) : zZ P n (.goto l) S K := fun _ _ ρ a w _ hs hK => wp_goto (hK _ S ρ a w h hs trivial)
theorem zZ.label {l : Nat} {K : Exit → AS → Prop} (h : K .normal S) : zZ P n (.label l) S K := fun _ _ ρ a w _ hs hK => wp_label (hK _ S ρ a w h hs trivial)
def zB (next : AS → Prop) (K : Exit → AS → Prop) : Exit → AS → Prop
  | .normal, S => next S
  | e, S => K e S
theorem zZ.seq {x y : Code} {K : Exit → AS → Prop} (h : zZ P n x S (zB (fun S' => zZ P n y S' K) K)) : zZ P n (.seq x y) S K :=
  fun M w0 ρ a w Q hs hK => wp_seq (h M w0 ρ a w _ hs fun e S' ρ' a' w' hk hs' hx => by
    cases e with
    | normal => exact hk M w0 ρ' a' w' Q hs' hK
    | exit id => exact hK (.exit id) S' ρ' a' w' hk hs' hx
    | goto l => exact hK (.goto l) S' ρ' a' w' hk hs' hx
    | ret => exact hK .ret S' ρ' a' w' hk hs' hx
    | panic c => exact hK (.panic c) S' ρ' a' w' hk hs' hx
    | outgrown => exact hK .outgrown S' ρ' a' w' hk hs' hx)
theorem zZ.cond {c : Operand} {x y : Code} {K : Exit → AS → Prop} {b : Bool} (hc : S.get c = .p (.val (.bool b))) (ht : b = true → zZ P n x S K) (hf : b = false → zZ P n y S K) : zZ P n (.cond c x y) S K :=
  fun M w0 ρ a w Q hs hK => wp_cond_split (hs.val hc) (fun h => ht h M w0 ρ a w Q hs hK) (fun h => hf h M w0 ρ a w Q hs hK)
def zP (id : Nat) (K : Exit → AS → Prop) : Exit → AS → Prop
  | .exit id', S => if id' = id then K .normal S else K (.exit id') S
  | e, S => K e S
theorem zZ.block {id : Nat} {c : Code} {K : Exit → AS → Prop} (h : zZ P n c S (zP id K)) : zZ P n (.block id c) S K :=
  fun M w0 ρ a w Q hs hK => wp_block (h M w0 ρ a w _ hs fun e S' ρ' a' w' hk hs' hx => by
    cases e with
    | exit id' =>
      show if id' = id then Q .normal a' w' else Q (.exit id') a' w'
      have hk' : if id' = id then K .normal S' else K (.exit id') S' := hk
      by_cases h1 : id' = id
      · rw [if_pos h1] at hk' ⊢; exact hK _ _ ρ' a' w' hk' hs' hx
      · rw [if_neg h1] at hk' ⊢; exact hK _ _ ρ' a' w' hk' hs' hx
    | normal => exact hK .normal S' ρ' a' w' hk hs' hx
    | goto l => exact hK (.goto l) S' ρ' a' w' hk hs' hx
    | ret => exact hK .ret S' ρ' a' w' hk hs' hx
    | panic c => exact hK (.panic c) S' ρ' a' w' hk hs' hx
    | outgrown => exact hK .outgrown S' ρ' a' w' hk hs' hx)
theorem zZ.loop {c : Code} {K : Exit → AS → Prop} {ι : Type} (inv : ι → AS) (ok : ι → Prop) (μ : ι → Nat) (i0 : ι) (h0 : Sub S (inv i0)) (hi0 : ok i0)
    (round : ∀ i, ok i → zZ P n c (inv i) (zB (fun S' => ∃ j, Sub S' (inv j) ∧ ok j ∧ μ j < μ i) K)) : zZ P n (.loop c) S K := by
  intro M w0 ρ a w Q hs hK
  obtain ⟨ρ0, hs0⟩ := h0 M n w0 ρ a w hs
  intro b k cs
  have key : ∀ (m : Nat) (i : ι) (ρ : Nat → Value) (a : Act) (w : World), μ i = m → ok i → Sat M n w0 (inv i) ρ a w →
      ∃ e a' w', Q e a' w' ∧ Arrives P (lone (b.at a (.code c :: .inLoop c :: k)) cs w) b k cs e a' w' := by
    intro m
    induction m using Nat.strongRecOn with
    | _ m ih =>
      intro i ρ a w hm hi hsi
      have hr := round i hi M w0 ρ a w (Exit.then (fun a' w' => ∃ j ρ', ok j ∧ μ j < μ i ∧ Sat M n w0 (inv j) ρ' a' w') Q) hsi (fun e S' ρ' a' w' hk hs' hx => by
        cases e with
        | normal =>
          obtain ⟨j, hsub, hj, hlt⟩ := hk
          obtain ⟨ρ'', hs''⟩ := hsub M n w0 ρ' a' w' hs'
          exact ⟨j, ρ'', hj, hlt, hs''⟩
        | exit id => exact hK (.exit id) S' ρ' a' w' hk hs' hx
        | goto l => exact hK (.goto l) S' ρ' a' w' hk hs' hx
        | ret => exact hK .ret S' ρ' a' w' hk hs' hx
        | panic c => exact hK (.panic c) S' ρ' a' w' hk hs' hx
        | outgrown => exact hK .outgrown S' ρ' a' w' hk hs' hx)
      obtain ⟨e, a₁, w₁, hq, harr⟩ := hr b (.inLoop c :: k) cs
      cases e with
      | normal =>
        obtain ⟨j, ρ', hj, hlt, hs'⟩ := hq
        obtain ⟨e₂, a₂, w₂, hq₂, harr₂⟩ := ih (μ j) (by omega) j ρ' a₁ w₁ rfl hj hs'
        exact ⟨e₂, a₂, w₂, hq₂, .of_steps (Steps.trans harr (.one step_inLoop)) harr₂⟩
      | exit id => exact ⟨_, a₁, w₁, hq, .pass (x := .inLoop c) rfl (fun _ _ => .inl (by simp)) harr⟩
      | goto l => exact ⟨_, a₁, w₁, hq, .pass (x := .inLoop c) rfl (fun _ _ => .inl (by simp)) harr⟩
      | ret => exact ⟨_, a₁, w₁, hq, .pass (x := .inLoop c) rfl (fun _ _ => .inl (by simp)) harr⟩
      | panic ch => exact ⟨_, a₁, w₁, hq, .pass (x := .inLoop c) rfl (fun _ _ => .inl (by simp)) harr⟩
      | outgrown => exact ⟨_, a₁, w₁, hq, .pass (x := .inLoop c) rfl (fun _ _ => .inl (by simp)) harr⟩
  obtain ⟨e, a', w', hq, harr⟩ := key _ i0 ρ0 a w rfl hi0 hs0
  exact ⟨e, a', w', hq, .of_steps (.one step_loop) harr⟩
end
end Go.Proofs.YtmfbamiciieooaaGreatDoor
/- A region that draws its order, by its operations in the text's order. Generic over the program. -/
namespace Go.Proofs.YtmfbamiciieooaaGreatDoor
set_option maxRecDepth 100000
set_option maxHeartbeats 16000000
open Go Go.RowKit
def maskOf (acc : List Nat) (o : Oper) : Nat := o.after.toList.foldl (fun s e => if Region.binds .any e then s ||| (2 ^ e.on ||| acc.getD e.on 0) else s) 0
/-- Of each operation those that are surely ahead of it, as bits. -/
def masks : List Oper → List Nat → List Nat
  | [], acc => acc
  | o :: r, acc => masks r (acc ++ [maskOf acc o])
theorem masks_prefix : ∀ (l : List Oper) (acc : List Nat) (i : Nat), i < acc.length → (masks l acc).getD i 0 = acc.getD i 0
  | [], acc, i, h => rfl
  | o :: r, acc, i, h => by
    unfold masks
    rw [masks_prefix r (acc ++ [maskOf acc o]) i (by simp; omega)]
    simp [List.getD_eq_getElem?_getD, List.getElem?_append_left h]
theorem maskOf_bit (acc : List Nat) (l : List Edge) (j : Nat) : ∀ (s : Nat), (l.foldl (fun s e => if Region.binds .any e then s ||| (2 ^ e.on ||| acc.getD e.on 0) else s) s).testBit j = true →
    s.testBit j = true ∨ ∃ e ∈ l, Region.binds .any e = true ∧ (e.on = j ∨ (acc.getD e.on 0).testBit j = true) := by
  induction l with
  | nil => intro s h; exact .inl h
  | cons e l ih =>
    intro s h
    simp only [List.foldl_cons] at h
    rcases ih _ h with h1 | ⟨e', he', h2⟩
    · by_cases hb : Region.binds .any e = true
      · rw [if_pos hb, Nat.testBit_or, Nat.testBit_or, Bool.or_eq_true, Bool.or_eq_true] at h1
        rcases h1 with h1 | h1 | h1
        · exact .inl h1
        · rw [Nat.testBit_two_pow] at h1
          exact .inr ⟨e, by simp, hb, .inl (by simpa using h1)⟩
        · exact .inr ⟨e, by simp, hb, .inr h1⟩
      · rw [if_neg hb] at h1
        exact .inl h1
    · exact .inr ⟨e', by simp [he'], h2⟩
theorem masks_spec : ∀ (l : List Oper) (acc : List Nat) (i : Nat) (o : Oper) (j : Nat), l[i]? = some o → ((masks l acc).getD (acc.length + i) 0).testBit j = true →
    ∃ e ∈ o.after.toList, Region.binds .any e = true ∧ (e.on = j ∨ (e.on < acc.length + i ∧ ((masks l acc).getD e.on 0).testBit j = true))
  | [], acc, i, o, j, h, _ => by simp at h
  | o' :: r, acc, 0, o, j, h, hb => by
    simp only [List.getElem?_cons_zero, Option.some.injEq] at h
    subst h
    unfold masks at hb ⊢
    rw [masks_prefix r _ _ (by simp)] at hb
    have e1 : (acc ++ [maskOf acc o']).getD (acc.length + 0) 0 = maskOf acc o' := by simp [List.getD_eq_getElem?_getD]
    rw [e1] at hb
    rcases maskOf_bit acc _ j 0 hb with h1 | ⟨e, he, hbe, h1⟩
    · simp at h1
    · refine ⟨e, he, hbe, ?_⟩
      rcases h1 with h1 | h1
      · exact .inl h1
      · right
        have hlt : e.on < acc.length := by
          rcases Nat.lt_or_ge e.on acc.length with h2 | h2
          · exact h2
          · simp [List.getD_eq_getElem?_getD, List.getElem?_eq_none h2] at h1
        refine ⟨by omega, ?_⟩
        rw [masks_prefix r _ _ (by simp; omega)]
        simpa [List.getD_eq_getElem?_getD, List.getElem?_append_left hlt] using h1
  | o' :: r, acc, i + 1, o, j, h, hb => by
    simp only [List.getElem?_cons_succ] at h
    unfold masks at hb ⊢
    have e1 : acc.length + (i + 1) = (acc ++ [maskOf acc o']).length + i := by simp; omega
    rw [e1] at hb
    obtain ⟨e, he, hbe, h1⟩ := masks_spec r (acc ++ [maskOf acc o']) i o j h hb
    refine ⟨e, he, hbe, ?_⟩
    rw [e1]
    exact h1
/-- j is surely ahead of i. -/
def ord (l : List Oper) (j i : Nat) : Bool := ((masks l []).getD i 0).testBit j
def Done (listed : Array Bool) (i : Nat) : Prop := listed.getD i false = true
structure Closed (l : List Oper) (listed : Array Bool) : Prop where
  size : listed.size = l.length
  edge : ∀ (i : Nat) (o : Oper), l[i]? = some o → Done listed i → ∀ e ∈ o.after.toList, Region.binds .any e = true → Done listed e.on
theorem Closed.ord {l : List Oper} {listed : Array Bool} (h : Closed l listed) : ∀ (m i j : Nat), i < m → i < l.length → Done listed i → ord l j i = true → Done listed j
  | 0, i, _, hm, _, _, _ => by omega
  | m + 1, i, j, hm, hi, hd, ho => by
    unfold Go.Proofs.YtmfbamiciieooaaGreatDoor.ord at ho
    obtain ⟨o, hoi⟩ : ∃ o, l[i]? = some o := ⟨l[i], List.getElem?_eq_getElem hi⟩
    obtain ⟨e, he, hb, h1⟩ := masks_spec l [] i o j hoi (by simpa using ho)
    have hd2 := h.edge i o hoi hd e he hb
    rcases h1 with h1 | ⟨h1, h2⟩
    · rw [← h1]; exact hd2
    · simp only [List.length_nil, Nat.zero_add] at h1
      exact Closed.ord h m e.on j (by omega) (by omega) hd2 h2
theorem xZ {l : List Oper} {listed : Array Bool} {i : Nat} (h : i ∈ Region.ready .any l.toArray listed) :
    i < l.length ∧ ¬ Done listed i ∧ ∃ o, l[i]? = some o ∧ ∀ e ∈ o.after.toList, Region.binds .any e = true → Done listed e.on := by
  unfold Region.ready at h
  simp only [List.size_toArray, List.mem_filter, List.mem_range, Bool.and_eq_true, Bool.not_eq_true'] at h
  obtain ⟨hi, h1, h2⟩ := h
  refine ⟨hi, ?_, l[i], List.getElem?_eq_getElem hi, ?_⟩
  · intro hd
    unfold Done at hd
    rcases Nat.lt_or_ge i listed.size with h3 | h3
    · simp [h3] at h1 hd; rw [h1] at hd; cases hd
    · simp [Array.getElem?_eq_none h3] at hd
  · intro e he hb
    simp only [List.getElem?_toArray, List.getElem?_eq_getElem hi, Option.map_some, Option.getD_some] at h2
    have := Array.all_eq_true'.1 h2 e (by simpa using he)
    simpa [hb, Done] using this
theorem Closed.ready_ord {l : List Oper} {listed : Array Bool} (h : Closed l listed) {i : Nat} (hr : i ∈ Region.ready .any l.toArray listed) {j : Nat} (ho : Go.Proofs.YtmfbamiciieooaaGreatDoor.ord l j i = true) : Done listed j := by
  obtain ⟨hi, _, o, hoi, hall⟩ := xZ hr
  unfold Go.Proofs.YtmfbamiciieooaaGreatDoor.ord at ho
  obtain ⟨e, he, hb, h1⟩ := masks_spec l [] i o j hoi (by simpa using ho)
  have hd2 := hall e he hb
  rcases h1 with h1 | ⟨h1, h2⟩
  · rw [← h1]; exact hd2
  · simp only [List.length_nil, Nat.zero_add] at h1
    exact h.ord (e.on + 1) e.on j (by omega) (by omega) hd2 h2
theorem done_set {listed : Array Bool} {i j : Nat} (hi : i < listed.size) : Done (listed.setIfInBounds i true) j ↔ (i = j ∨ Done listed j) := by
  unfold Done
  simp only [Array.getD_eq_getD_getElem?, Array.getElem?_setIfInBounds]
  by_cases h : i = j
  · subst h; simp [hi]
  · simp [h]
theorem Closed.set {l : List Oper} {listed : Array Bool} (h : Closed l listed) {i : Nat} (hr : i ∈ Region.ready .any l.toArray listed) : Closed l (listed.setIfInBounds i true) := by
  obtain ⟨hi, _, o, hoi, hall⟩ := xZ hr
  have hs : i < listed.size := by rw [h.size]; exact hi
  refine ⟨by simp [h.size], fun k ok hok hd e he hb => ?_⟩
  rw [done_set hs] at hd ⊢
  rcases hd with hd | hd
  · subst hd
    obtain rfl : o = ok := by rw [hoi] at hok; exact Option.some.inj hok
    exact .inr (hall e he hb)
  · exact .inr (h.edge k ok hok hd e he hb)
/-! ### What agrees with what is done -/
def AV.ids : AV → List Nat
  | .own j => [j]
  | .ptr j _ => [j]
  | .ifp _ j => [j]
  | .ag cs => cs.flatMap fun | .o j => [j] | .p _ => [] | .c _ js => js
  | .tup vs => [0, 1, 2, 3, 4, 5, 6, 7, 8, 9].filter fun _ => !vs.isEmpty
  | .clo _ ids => ids
  | _ => []
theorem AV.kill_of_ids {x : AV} {d : Nat} (h : (match x with | .tup vs => vs.all AV.isP | x => !x.ids.contains d) = true) : x.kill d = x := by
  cases x with
  | own j =>
    have hj : j ≠ d := by intro e; subst e; simp [AV.ids] at h
    simp [AV.kill, hj]
  | ptr j o =>
    have hj : j ≠ d := by intro e; subst e; simp [AV.ids] at h
    simp [AV.kill, hj]
  | ifp t j =>
    have hj : j ≠ d := by intro e; subst e; simp [AV.ids] at h
    simp [AV.kill, hj]
  | ag cs =>
    have hn : ¬ cs.any (Cl.is d) = true := by
      intro e
      obtain ⟨c, hc, hd⟩ := List.any_eq_true.1 e
      cases c with
      | p x => cases hd
      | o j =>
        obtain rfl : j = d := by simpa [Cl.is] using hd
        have h : (!(AV.ag cs).ids.contains j) = true := h
        rw [Bool.not_eq_true'] at h
        have := List.contains_iff_mem.2 (List.mem_flatMap.2 ⟨Cl.o j, hc, List.mem_singleton.2 rfl⟩ : j ∈ (AV.ag cs).ids)
        exact absurd (this.symm.trans h) (by decide)
      | c f js =>
        have h : (!(AV.ag cs).ids.contains d) = true := h
        rw [Bool.not_eq_true'] at h
        have := List.contains_iff_mem.2 (List.mem_flatMap.2 ⟨Cl.c f js, hc, List.contains_iff_mem.1 (show js.contains d = true from hd)⟩ : d ∈ (AV.ag cs).ids)
        exact absurd (this.symm.trans h) (by decide)
    show (if cs.any (Cl.is d) then AV.any else .ag cs) = _
    rw [if_neg hn]
  | tup vs =>
    have h : vs.all AV.isP = true := h
    show (bif vs.all AV.isP then AV.tup vs else .any) = _
    rw [h]
    rfl
  | clo f ids =>
    have hj : ids.contains d = false := by simpa [AV.ids] using h
    show (if ids.contains d then AV.any else AV.clo f ids) = _
    rw [hj]
    rfl
  | _ => rfl
def freeOf (d : Nat) : AV → Bool
  | .tup vs => vs.all AV.isP
  | x => !x.ids.contains d
def freeOfB (d : Nat) : Blk → Bool
  | .row _ _ _ xs => xs.all (freeOf d)
  | .prow _ _ _ _ => true
  | .box _ xs => xs.all (freeOf d)
  | .lent _ _ _ _ => true
  | .obj _ _ => true
def noRef (d : Nat) (S : AS) : Bool := S.t.all (fun p => freeOf d p.2) && S.s.all (fun p => freeOfB d p.2)
theorem kill_of_free {x : AV} {d : Nat} (h : freeOf d x = true) : x.kill d = x := by
  apply AV.kill_of_ids
  cases x <;> exact h
theorem map_kill_of_free {xs : List AV} {d : Nat} (h : xs.all (freeOf d) = true) : xs.map (AV.kill d) = xs := by
  rw [List.all_eq_true] at h
  exact (List.map_congr_left (fun x hx => kill_of_free (h x hx))).trans (by simp)
theorem blk_kill_of_free {b : Blk} {d : Nat} (h : freeOfB d b = true) : b.kill d = b := by
  cases b with
  | row t size n xs => simp only [Blk.kill]; rw [map_kill_of_free (xs := xs) h]
  | prow t size n xs => rfl
  | box t xs => simp only [Blk.kill]; rw [map_kill_of_free (xs := xs) h]
  | lent t size n xs => rfl
  | obj mp Q => rfl
theorem look_all {α : Type} {f : α → Bool} : ∀ {l : List (Nat × α)}, l.all (fun p => f p.2) = true → ∀ {i : Nat} {x : α}, look l i = some x → f x = true
  | [], _, i, x, h => by simp [look] at h
  | (k, y) :: r, hl, i, x, h => by
    simp only [List.all_cons, Bool.and_eq_true] at hl
    unfold look at h
    split at h
    · obtain rfl := Option.some.inj h; exact hl.1
    · exact look_all hl.2 h
theorem noRef_tmp {d : Nat} {S : AS} (h : noRef d S = true) (i : Nat) : (S.tmp i).kill d = S.tmp i := by
  unfold noRef at h
  rw [Bool.and_eq_true] at h
  unfold AS.tmp
  cases hl : look S.t i with
  | none => rfl
  | some x => exact kill_of_free (look_all h.1 hl)
theorem noRef_blk {d : Nat} {S : AS} (h : noRef d S = true) {i : Nat} {b : Blk} (hb : S.blk i = some b) : b.kill d = b := by
  unfold noRef at h
  rw [Bool.and_eq_true] at h
  exact blk_kill_of_free (look_all h.2 hb)
structure AI where
  bs : List Nat
  av : AV
  nb : Option Blk
/-- S2 is S0 with what the operations that are done have made. -/
structure Agr (l : List Oper) (xs : List AI) (S0 : AS) (D : Nat → Prop) (S2 : AS) : Prop where
  t1 : ∀ (i : Nat) (o : Oper) (x : AI) (d : Nat), l[i]? = some o → xs[i]? = some x → D i → o.dst = some d → S2.tmp d = x.av
  t2 : ∀ t, (∀ (i : Nat) (o : Oper) (x : AI), l[i]? = some o → xs[i]? = some x → D i → o.dst ≠ some t) → S2.tmp t = S0.tmp t
  b1 : ∀ (i : Nat) (o : Oper) (x : AI) (d : Nat) (b : Blk), l[i]? = some o → xs[i]? = some x → D i → o.dst = some d → x.nb = some b → S2.blk d = some b
  b2 : ∀ t, (∀ (i : Nat) (o : Oper) (x : AI), l[i]? = some o → xs[i]? = some x → D i → x.nb ≠ none → o.dst ≠ some t) → S2.blk t = S0.blk t
/-- No two write one slot; what is made is not spoken of but by what hangs on it. -/
structure Apart (l : List Oper) (xs : List AI) (S0 : AS) : Prop where
  c1 : ∀ (i j : Nat) (o o' : Oper) (x x' : AI) (d : Nat), l[i]? = some o → l[j]? = some o' → xs[i]? = some x → xs[j]? = some x' → o.dst = some d → o'.dst = some d → i = j
  c4 : ∀ (i k : Nat) (o : Oper) (x x' : AI) (d : Nat), l[i]? = some o → xs[i]? = some x → xs[k]? = some x' → o.dst = some d → x.nb ≠ none → (ord l i k = true ∧ i ≠ k) ∨ ((i = k ∨ freeOf d x'.av = true) ∧ ∀ b, x'.nb = some b → freeOfB d b = true)
  c5 : ∀ (i : Nat) (o : Oper) (x : AI) (d : Nat), l[i]? = some o → xs[i]? = some x → o.dst = some d → x.nb ≠ none → noRef d S0 = true
  dsts : ∀ (i : Nat) (o : Oper) (x : AI), l[i]? = some o → xs[i]? = some x → ∃ d, o.dst = some d
theorem Agr.step {l : List Oper} {xs : List AI} {S0 S2 : AS} {D : Nat → Prop} (hA : Apart l xs S0) (h : Agr l xs S0 D S2) {i : Nat} {o : Oper} {x : AI} (ho : l[i]? = some o) (hx : xs[i]? = some x) (hn : ¬ D i)
    (hk : ∀ k, D k → ord l i k = true → False) : Agr l xs S0 (fun k => k = i ∨ D k) (S2.out o.dst x.av x.nb) := by
  obtain ⟨d, hd⟩ := hA.dsts i o x ho hx
  have uniq : ∀ (k : Nat) (ok : Oper) (xk : AI), l[k]? = some ok → xs[k]? = some xk → ok.dst = some d → k = i := fun k ok xk h1 h2 h3 => hA.c1 k i ok o xk x d h1 ho h2 hx h3 hd
  have hdone : ∀ (k : Nat) (ok : Oper) (xk : AI), l[k]? = some ok → xs[k]? = some xk → D k → ok.dst ≠ some d := fun k ok xk h1 h2 h3 h4 => hn (uniq k ok xk h1 h2 h4 ▸ h3)
  rw [hd]
  cases hnb : x.nb with
  | none =>
    refine ⟨fun k ok xk e h1 h2 h3 h4 => ?_, fun t ht => ?_, fun k ok xk e b h1 h2 h3 h4 h5 => ?_, fun t ht => ?_⟩
    · show (S2.put d x.av).tmp e = xk.av
      rw [AS.tmp_put]
      by_cases hde : d = e
      · subst hde
        obtain rfl := uniq k ok xk h1 h2 h4
        rw [hx] at h2
        obtain rfl := Option.some.inj h2
        rw [if_pos rfl]
      · rw [if_neg hde]
        rcases h3 with rfl | h3
        · rw [ho] at h1; obtain rfl := Option.some.inj h1
          rw [hd] at h4; exact (hde (Option.some.inj h4)).elim
        · exact h.t1 k ok xk e h1 h2 h3 h4
    · show (S2.put d x.av).tmp t = S0.tmp t
      rw [AS.tmp_put]
      by_cases hdt : d = t
      · subst hdt; exact (ht i o x ho hx (.inl rfl) hd).elim
      · rw [if_neg hdt]; exact h.t2 t fun k ok xk h1 h2 h3 => ht k ok xk h1 h2 (.inr h3)
    · show S2.blk e = some b
      rcases h3 with rfl | h3
      · rw [hx] at h2; obtain rfl := Option.some.inj h2
        rw [hnb] at h5; cases h5
      · exact h.b1 k ok xk e b h1 h2 h3 h4 h5
    · show S2.blk t = S0.blk t
      exact h.b2 t fun k ok xk h1 h2 h3 => ht k ok xk h1 h2 (.inr h3)
  | some b =>
    have hnn : x.nb ≠ none := by rw [hnb]; simp
    have kt : ∀ e, e ≠ d → (S2.tmp e).kill d = S2.tmp e := by
      intro e he
      by_cases hex : ∃ (k : Nat) (ok : Oper) (xk : AI), l[k]? = some ok ∧ xs[k]? = some xk ∧ D k ∧ ok.dst = some e
      · obtain ⟨k, ok, xk, h1, h2, h3, h4⟩ := hex
        rw [h.t1 k ok xk e h1 h2 h3 h4]
        rcases hA.c4 i k o x xk d ho hx h2 hd hnn with h5 | ⟨h5, _⟩
        · exact (hk k h3 h5.1).elim
        · rcases h5 with h5 | h5
          · subst h5; exact (hn h3).elim
          · exact kill_of_free h5
      · rw [h.t2 e fun k ok xk h1 h2 h3 h4 => hex ⟨k, ok, xk, h1, h2, h3, h4⟩]
        exact noRef_tmp (hA.c5 i o x d ho hx hd hnn) e
    have kb : ∀ e b', e ≠ d → S2.blk e = some b' → b'.kill d = b' := by
      intro e b' he hb'
      by_cases hex : ∃ (k : Nat) (ok : Oper) (xk : AI), l[k]? = some ok ∧ xs[k]? = some xk ∧ D k ∧ xk.nb ≠ none ∧ ok.dst = some e
      · obtain ⟨k, ok, xk, h1, h2, h3, h4, h5⟩ := hex
        obtain ⟨b2, hb2⟩ := Option.ne_none_iff_exists'.1 h4
        rw [h.b1 k ok xk e b2 h1 h2 h3 h5 hb2] at hb'
        obtain rfl := Option.some.inj hb'
        rcases hA.c4 i k o x xk d ho hx h2 hd hnn with h6 | ⟨_, h6⟩
        · exact (hk k h3 h6.1).elim
        · exact blk_kill_of_free (h6 b2 hb2)
      · rw [h.b2 e fun k ok xk h1 h2 h3 h4 h5 => hex ⟨k, ok, xk, h1, h2, h3, h4, h5⟩] at hb'
        exact noRef_blk (hA.c5 i o x d ho hx hd hnn) hb'
    have kown : b.kill d = b := by
      rcases hA.c4 i i o x x d ho hx hx hd hnn with h6 | ⟨_, h6⟩
      · exact (h6.2 rfl).elim
      · exact blk_kill_of_free (h6 b hnb)
    have tmp' : ∀ e, e ≠ d → ((S2.create d b).put d x.av).tmp e = S2.tmp e := fun e he => by
      rw [AS.tmp_put, if_neg (Ne.symm he), AS.tmp_create, kt e he]
    have blk' : ∀ e, e ≠ d → ((S2.create d b).put d x.av).blk e = S2.blk e := fun e he => by
      rw [AS.blk_put, AS.wT, if_neg (Ne.symm he)]
      cases hb' : S2.blk e with
      | none => rfl
      | some b' => rw [Option.map_some, kb e b' he hb']
    refine ⟨fun k ok xk e h1 h2 h3 h4 => ?_, fun t ht => ?_, fun k ok xk e b' h1 h2 h3 h4 h5 => ?_, fun t ht => ?_⟩
    · show ((S2.create d b).put d x.av).tmp e = xk.av
      by_cases hde : e = d
      · subst hde
        obtain rfl := uniq k ok xk h1 h2 h4
        rw [hx] at h2
        obtain rfl := Option.some.inj h2
        rw [AS.tmp_put, if_pos rfl]
      · rw [tmp' e hde]
        rcases h3 with rfl | h3
        · rw [ho] at h1; obtain rfl := Option.some.inj h1
          rw [hd] at h4; exact (hde (Option.some.inj h4).symm).elim
        · exact h.t1 k ok xk e h1 h2 h3 h4
    · show ((S2.create d b).put d x.av).tmp t = S0.tmp t
      by_cases hdt : t = d
      · subst hdt; exact (ht i o x ho hx (.inl rfl) hd).elim
      · rw [tmp' t hdt]; exact h.t2 t fun k ok xk h1 h2 h3 => ht k ok xk h1 h2 (.inr h3)
    · show ((S2.create d b).put d x.av).blk e = some b'
      by_cases hde : e = d
      · subst hde
        obtain rfl := uniq k ok xk h1 h2 h4
        rw [hx] at h2
        obtain rfl := Option.some.inj h2
        rw [hnb] at h5
        obtain rfl := Option.some.inj h5
        rw [AS.blk_put, AS.wT, if_pos rfl, kown]
      · rw [blk' e hde]
        rcases h3 with rfl | h3
        · rw [ho] at h1; obtain rfl := Option.some.inj h1
          rw [hd] at h4; exact (hde (Option.some.inj h4).symm).elim
        · exact h.b1 k ok xk e b' h1 h2 h3 h4 h5
    · show ((S2.create d b).put d x.av).blk t = S0.blk t
      by_cases hdt : t = d
      · subst hdt; exact (ht i o x ho hx (.inl rfl) hnn hd).elim
      · rw [blk' t hdt]; exact h.b2 t fun k ok xk h1 h2 h3 h4 => ht k ok xk h1 h2 (.inr h3) h4
/-! ### The region -/
def wZ (l : List Oper) (i : Nat) : Option Nat := (l[i]?).bind (·.dst)
def tmpOf : Operand → Option Nat
  | .tmp t => some t
  | _ => none
def readsOf (l : List Oper) (i : Nat) : List Nat :=
  match l[i]? with
  | some o => o.op.operands.toList.filterMap tmpOf ++ (match o.guard with
    | some (j, _) => (wZ l j).toList
    | none => [])
  | none => []
/-- Of the first m operations: each has a slot of its own; what is read of another's is ordered against it; the others stand behind all that is ahead of them. -/
def schedB (l : List Oper) (m : Nat) (bss : List (List Nat)) : Bool :=
  decide (m ≤ l.length) && ((List.range l.length).all fun i => match l[i]? with
    | some o => o.after.toList.all fun e => !Region.binds .any e || decide (e.on < i)
    | none => true) &&
  ((List.range m).all fun i => (List.range m).all fun j =>
    (i == j || wZ l i != wZ l j) && (wZ l i).isSome && (decide (i < j) || !(ord l i j)) &&
    (match wZ l j with
     | some t => (!(readsOf l i).contains t || i == j || (decide (j < i) && ord l j i) || (decide (i < j) && ord l i j)) && (!(bss.getD i []).contains t || (decide (j < i) && ord l j i))
     | none => true)) &&
  ((List.range l.length).all fun t => decide (t < m) || (List.range t).all fun j => ord l j t)
/-- What is made is not spoken of but by what hangs on it. -/
def madeB (l : List Oper) (xs : List AI) (S0 : AS) : Bool :=
  (List.range xs.length).all fun i => match xs[i]?, wZ l i with
    | some ⟨_, _, some _⟩, some d => noRef d S0 && ((List.range xs.length).all fun k => (ord l i k && i != k) || (match xs[k]? with
      | some x => (i == k || freeOf d x.av) && (match x.nb with | some b => freeOfB d b | none => true)
      | none => true))
    | _, _ => true
def GStep (P : Program) (n : Nat) (l : List Oper) (S : AS) (o : Oper) (x : AI) : Prop :=
  (o.guard = none ∧ zX P n o S x.bs x.av x.nb) ∨ (∃ (j : Nat) (want : Bool) (t : Nat) (v : Value), o.guard = some (j, want) ∧ wZ l j = some t ∧ t < n ∧ S.tmp t = .p (.val v) ∧
    ((wantB v want = true ∧ zX P n o S x.bs x.av x.nb) ∨ (wantB v want = false ∧ x.av = wN ∧ x.nb = none ∧ ∃ d, o.dst = some d ∧ d < n)))
def AChain (P : Program) (n : Nat) (l : List Oper) : AS → List Oper → List AI → Prop
  | S, o :: os, x :: xs => GStep P n l S o x ∧ AChain P n l (S.out o.dst x.av x.nb) os xs
  | _, [], _ :: _ => False
  | _, _, [] => True
def runA : AS → List Oper → List AI → AS
  | S, o :: os, x :: xs => runA (S.out o.dst x.av x.nb) os xs
  | S, _, _ => S
/-- The operation leads to where N says, or out, where K says. -/
def zF (P : Program) (n : Nat) (o : Oper) (S : AS) (K : Exit → AS → Prop) (N : AS → Prop) : Prop :=
  ∀ (M : Nat → Nat → Prop) (w0 : Home) (ρ : Nat → Value) (a : Act) (w : World) (KK : Act → World → Prop) (Q : Exit → Act → World → Prop),
    Sat M n w0 S ρ a w → (∀ S1 ρ' a' w', N S1 → Sat M n w0 S1 ρ' a' w' → KK a' w') → (∀ e S' ρ' a' w', K (bare e) S' → Sat M n w0 S' ρ' a' w' → ExOK M S' ρ' w' e → Q e a' w') → o.wp P a w KK Q
theorem Step.t {P : Program} {n : Nat} {o : Oper} {S S1 : AS} {K : Exit → AS → Prop} {N : AS → Prop} (h : Step P n o S S1) (hN : N S1) : zF P n o S K N :=
  fun M w0 ρ a w KK Q hs hk _ => h M w0 ρ a w KK Q hs fun ρ' a' w' hs' => hk S1 ρ' a' w' hN hs'
/-- The operations that come last, in the text's order. -/
def zD (P : Program) (n : Nat) (K : Exit → AS → Prop) : AS → List Oper → Prop
  | S, [] => K .normal S
  | S, o :: os => o.guard = none ∧ zF P n o S K (fun S1 => zD P n K S1 os)
structure Sched (l : List Oper) (xs : List AI) : Prop where
  len : xs.length ≤ l.length
  back : ∀ (i : Nat) (o : Oper), l[i]? = some o → ∀ e ∈ o.after.toList, Region.binds .any e = true → e.on < i
  one : ∀ i j, i < xs.length → j < xs.length → wZ l i = wZ l j → i = j
  has : ∀ i, i < xs.length → (wZ l i).isSome = true
  fwd : ∀ i j, i < xs.length → j < xs.length → ord l i j = true → i < j
  reads : ∀ i j t, i < xs.length → j < xs.length → wZ l j = some t → t ∈ readsOf l i → i = j ∨ (j < i ∧ ord l j i = true) ∨ (i < j ∧ ord l i j = true)
  blks : ∀ i j t x, i < xs.length → j < xs.length → wZ l j = some t → xs[i]? = some x → t ∈ x.bs → j < i ∧ ord l j i = true
  tail : ∀ t, xs.length ≤ t → t < l.length → ∀ j, j < t → ord l j t = true
theorem Sched.of {l : List Oper} {xs : List AI} (h : schedB l xs.length (xs.map (·.bs)) = true) : Sched l xs := by
  unfold schedB at h
  simp only [Bool.and_eq_true, List.all_eq_true, List.mem_range, decide_eq_true_eq, Bool.or_eq_true] at h
  obtain ⟨⟨⟨h1, h2⟩, h3⟩, h4⟩ := h
  refine ⟨h1, fun i o ho e he hb => ?_, fun i j hi hj he => ?_, fun i hi => ?_, fun i j hi hj ho => ?_, fun i j t hi hj hd ht => ?_, fun i j t x hi hj hd hx ht => ?_, fun t ht htl j hj => ?_⟩
  · have hi : i < l.length := (List.getElem?_eq_some_iff.1 ho).1
    have := h2 i hi
    rw [ho] at this
    simp only [List.all_eq_true, Bool.or_eq_true, decide_eq_true_eq, Bool.not_eq_true'] at this
    rcases this e he with h5 | h5
    · rw [hb] at h5; cases h5
    · exact h5
  · have := (h3 i hi j hj).1.1.1
    rcases this with h5 | h5
    · simpa using h5
    · simp [he] at h5
  · exact (h3 i hi i hi).1.1.2
  · rcases (h3 i hi j hj).1.2 with h5 | h5
    · exact h5
    · simp [ho] at h5
  · have := (h3 i hi j hj).2
    rw [hd] at this
    simp only [Bool.and_eq_true, Bool.or_eq_true, decide_eq_true_eq, beq_iff_eq] at this
    rcases this.1 with ((h5 | h5) | h5) | h5
    · simp [ht] at h5
    · exact .inl h5
    · exact .inr (.inl h5)
    · exact .inr (.inr h5)
  · have := (h3 i hi j hj).2
    rw [hd] at this
    simp only [Bool.and_eq_true, Bool.or_eq_true, decide_eq_true_eq, beq_iff_eq] at this
    rcases this.2 with h5 | h5
    · exfalso
      have e : (List.map (fun x : AI => x.bs) xs).getD i [] = x.bs := by simp [List.getD_eq_getElem?_getD, hx]
      rw [e] at h5
      simp [ht] at h5
    · exact h5
  · rcases h4 t htl with h5 | h5
    · omega
    · exact h5 j hj
theorem Apart.of {l : List Oper} {xs : List AI} {S0 : AS} (hs : Sched l xs) (h : madeB l xs S0 = true) : Apart l xs S0 := by
  have hd' : ∀ {i : Nat} {o : Oper}, l[i]? = some o → wZ l i = o.dst := fun {i o} ho => by simp [wZ, ho]
  have hlt : ∀ {i : Nat} {x : AI}, xs[i]? = some x → i < xs.length := fun {i x} hx => (List.getElem?_eq_some_iff.1 hx).1
  have main : ∀ (i : Nat) (o : Oper) (x : AI) (d : Nat), l[i]? = some o → xs[i]? = some x → o.dst = some d → x.nb ≠ none → noRef d S0 = true ∧ ∀ (k : Nat) (x' : AI), xs[k]? = some x' →
      (ord l i k = true ∧ i ≠ k) ∨ ((i = k ∨ freeOf d x'.av = true) ∧ ∀ b, x'.nb = some b → freeOfB d b = true) := by
    intro i o x d ho hx hd hnb
    unfold madeB at h
    rw [List.all_eq_true] at h
    have h1 := h i (List.mem_range.2 (hlt hx))
    rw [hx, hd' ho, hd] at h1
    obtain ⟨b, hb⟩ := Option.ne_none_iff_exists'.1 hnb
    obtain ⟨bs, av, nb⟩ := x
    simp only at hb
    subst hb
    simp only [Bool.and_eq_true, List.all_eq_true, List.mem_range, Bool.or_eq_true] at h1
    refine ⟨h1.1, fun k x' hx' => ?_⟩
    have h2 := h1.2 k (hlt hx')
    rw [hx'] at h2
    rcases h2 with h2 | h2
    · exact .inl ⟨h2.1, by simpa using h2.2⟩
    · right
      simp only [Bool.and_eq_true, Bool.or_eq_true, beq_iff_eq] at h2
      refine ⟨h2.1, fun b' hb' => ?_⟩
      have h3 := h2.2
      rw [hb'] at h3
      exact h3
  refine ⟨fun i j o o' x x' d ho ho' hx hx' hd hd2 => hs.one i j (hlt hx) (hlt hx') (by rw [hd' ho, hd' ho', hd, hd2]), fun i k o x x' d ho hx hx' hd hnb => (main i o x d ho hx hd hnb).2 k x' hx', fun i o x d ho hx hd hnb => (main i o x d ho hx hd hnb).1, fun i o x ho hx => ?_⟩
  have := hs.has i (hlt hx)
  rw [hd' ho] at this
  exact Option.isSome_iff_exists.1 this
theorem runA_agr {P : Program} {n : Nat} {l : List Oper} {xs : List AI} {S0 : AS} (hs : Sched l xs) (hA : Apart l xs S0) :
    ∀ (m : Nat) (S : AS), m ≤ xs.length → Agr l xs S0 (fun k => k < m) S → AChain P n l S (l.drop m) (xs.drop m) →
      (∀ (i : Nat) (o : Oper) (x : AI), m ≤ i → l[i]? = some o → xs[i]? = some x → ∃ Si, Agr l xs S0 (fun k => k < i) Si ∧ GStep P n l Si o x) ∧ Agr l xs S0 (fun k => k < xs.length) (runA S (l.drop m) (xs.drop m)) := by
  intro m
  generalize hd : xs.length - m = d
  induction d generalizing m with
  | zero =>
    intro S hm hagr _
    have e : xs.length = m := by omega
    refine ⟨fun i o x hi ho hx => ?_, ?_⟩
    · have := (List.getElem?_eq_some_iff.1 hx).1; omega
    · rw [List.drop_eq_nil_of_le (by omega : xs.length ≤ m)]
      have : runA S (l.drop m) [] = S := by cases l.drop m <;> rfl
      rw [this, e]
      exact hagr
  | succ d ih =>
    intro S hm hagr hc
    have hmx : m < xs.length := by omega
    have hml : m < l.length := Nat.lt_of_lt_of_le hmx hs.len
    rw [List.drop_eq_getElem_cons hmx, List.drop_eq_getElem_cons hml] at hc
    obtain ⟨hg, hc⟩ := hc
    have ho : l[m]? = some l[m] := List.getElem?_eq_getElem hml
    have hx : xs[m]? = some xs[m] := List.getElem?_eq_getElem hmx
    have hst := hagr.step hA ho hx (by omega) (fun k hk hok => by
      have := hs.fwd m k hmx (by omega) hok
      omega)
    have e : (fun k => k = m ∨ k < m) = (fun k => k < m + 1) := by funext k; apply propext; omega
    rw [e] at hst
    obtain ⟨r1, r2⟩ := ih (m + 1) (by omega) (S.out l[m].dst xs[m].av xs[m].nb) (by omega) hst hc
    refine ⟨fun i o x hi ho' hx' => ?_, ?_⟩
    · by_cases him : i = m
      · subst him
        rw [ho] at ho'; rw [hx] at hx'
        obtain rfl := Option.some.inj ho'
        obtain rfl := Option.some.inj hx'
        exact ⟨S, hagr, hg⟩
      · exact r1 i o x (by omega) ho' hx'
    · rw [List.drop_eq_getElem_cons hmx, List.drop_eq_getElem_cons hml]
      exact r2
/-- Two frames that say the same. -/
def Same (S S' : AS) : Prop := (∀ t, S.tmp t = S'.tmp t) ∧ ∀ t, S.blk t = S'.blk t
theorem Sat.same {M : Nat → Nat → Prop} {n : Nat} {w0 : Home} {w : World} {S S' : AS} {ρ : Nat → Value} {a : Act} (h : Sat M n w0 S ρ a w) (hs : Same S S') : Sat M n w0 S' ρ a w := by
  have hm : Mut M S ρ = Mut M S' ρ := by funext k c; apply propext; unfold Mut; simp only [hs.2]
  refine ⟨h.below, h.out, h.tab, h.size, h.defers, fun i => ?_, fun id b hb => ?_, fun id b k hb hk => h.mine id b k (by rw [hs.2]; exact hb) hk, h.fix, h.free, fun i j bi bj k hi hj => ?_⟩
  · rw [← hs.1, ← hm]; exact h.tmps i
  · rw [← hm]; exact h.blks id b (by rw [hs.2]; exact hb)
  · exact h.dist i j bi bj k (by rw [hs.2]; exact hi) (by rw [hs.2]; exact hj)
theorem Agr.same {l : List Oper} {xs : List AI} {S0 S2 S3 : AS} {D : Nat → Prop} (h : Agr l xs S0 D S2) (h' : Agr l xs S0 D S3) : Same S2 S3 := by
  refine ⟨fun t => ?_, fun t => ?_⟩
  · by_cases hex : ∃ (i : Nat) (o : Oper) (x : AI), l[i]? = some o ∧ xs[i]? = some x ∧ D i ∧ o.dst = some t
    · obtain ⟨i, o, x, h1, h2, h3, h4⟩ := hex
      rw [h.t1 i o x t h1 h2 h3 h4, h'.t1 i o x t h1 h2 h3 h4]
    · rw [h.t2 t fun i o x h1 h2 h3 h4 => hex ⟨i, o, x, h1, h2, h3, h4⟩, h'.t2 t fun i o x h1 h2 h3 h4 => hex ⟨i, o, x, h1, h2, h3, h4⟩]
  · by_cases hex : ∃ (i : Nat) (o : Oper) (x : AI), l[i]? = some o ∧ xs[i]? = some x ∧ D i ∧ x.nb ≠ none ∧ o.dst = some t
    · obtain ⟨i, o, x, h1, h2, h3, h4, h5⟩ := hex
      obtain ⟨b, hb⟩ := Option.ne_none_iff_exists'.1 h4
      rw [h.b1 i o x t b h1 h2 h3 h5 hb, h'.b1 i o x t b h1 h2 h3 h5 hb]
    · rw [h.b2 t fun i o x h1 h2 h3 h4 h5 => hex ⟨i, o, x, h1, h2, h3, h4, h5⟩, h'.b2 t fun i o x h1 h2 h3 h4 h5 => hex ⟨i, o, x, h1, h2, h3, h4, h5⟩]
/-- What an operation that may come up reads is as it is where the text comes to it. -/
theorem Agr.reads {l : List Oper} {xs : List AI} {S0 S2 Si : AS} {listed : Array Bool} (hs : Sched l xs) (hc : Closed l listed) {i : Nat} {x : AI} (hr : i ∈ Region.ready .any l.toArray listed)
    (hx : xs[i]? = some x) (h : Agr l xs S0 (Done listed) S2) (h' : Agr l xs S0 (fun k => k < i) Si) :
    (∀ t ∈ readsOf l i, S2.tmp t = Si.tmp t) ∧ ∀ id ∈ x.bs, S2.blk id = Si.blk id := by
  have hix : i < xs.length := (List.getElem?_eq_some_iff.1 hx).1
  have hnd := (xZ hr).2.1
  have hil := (xZ hr).1
  have hd' : ∀ {k : Nat} {ok : Oper}, l[k]? = some ok → wZ l k = ok.dst := fun {k ok} hk => by simp [wZ, hk]
  refine ⟨fun t ht => ?_, fun id hid => ?_⟩
  · have iff : ∀ (k : Nat) (ok : Oper) (xk : AI), l[k]? = some ok → xs[k]? = some xk → ok.dst = some t → (Done listed k ↔ k < i) := by
      intro k ok xk h1 h2 h3
      have hkx : k < xs.length := (List.getElem?_eq_some_iff.1 h2).1
      rcases hs.reads i k t hix hkx (by rw [hd' h1, h3]) ht with h4 | ⟨h4, h5⟩ | ⟨h4, h5⟩
      · subst h4; exact ⟨fun h => (hnd h).elim, fun h => by omega⟩
      · exact ⟨fun _ => h4, fun _ => hc.ready_ord hr h5⟩
      · refine ⟨fun h => (hnd ?_).elim, fun h => by omega⟩
        exact hc.ord (k + 1) k i (by omega) (Nat.lt_of_lt_of_le hkx hs.len) h h5
    by_cases hex : ∃ (k : Nat) (ok : Oper) (xk : AI), l[k]? = some ok ∧ xs[k]? = some xk ∧ Done listed k ∧ ok.dst = some t
    · obtain ⟨k, ok, xk, h1, h2, h3, h4⟩ := hex
      rw [h.t1 k ok xk t h1 h2 h3 h4, h'.t1 k ok xk t h1 h2 ((iff k ok xk h1 h2 h4).1 h3) h4]
    · rw [h.t2 t fun k ok xk h1 h2 h3 h4 => hex ⟨k, ok, xk, h1, h2, h3, h4⟩, h'.t2 t fun k ok xk h1 h2 h3 h4 => hex ⟨k, ok, xk, h1, h2, (iff k ok xk h1 h2 h4).2 h3, h4⟩]
  · have iff : ∀ (k : Nat) (ok : Oper) (xk : AI), l[k]? = some ok → xs[k]? = some xk → ok.dst = some id → (Done listed k ∧ k < i) := by
      intro k ok xk h1 h2 h3
      have hkx : k < xs.length := (List.getElem?_eq_some_iff.1 h2).1
      obtain ⟨h4, h5⟩ := hs.blks i k id x hix hkx (by rw [hd' h1, h3]) hx hid
      exact ⟨hc.ready_ord hr h5, h4⟩
    by_cases hex : ∃ (k : Nat) (ok : Oper) (xk : AI), l[k]? = some ok ∧ xs[k]? = some xk ∧ xk.nb ≠ none ∧ ok.dst = some id
    · obtain ⟨k, ok, xk, h1, h2, h4, h5⟩ := hex
      obtain ⟨b, hb⟩ := Option.ne_none_iff_exists'.1 h4
      obtain ⟨h6, h7⟩ := iff k ok xk h1 h2 h5
      rw [h.b1 k ok xk id b h1 h2 h6 h5 hb, h'.b1 k ok xk id b h1 h2 h7 h5 hb]
    · rw [h.b2 id fun k ok xk h1 h2 _ h4 h5 => hex ⟨k, ok, xk, h1, h2, h4, h5⟩, h'.b2 id fun k ok xk h1 h2 _ h4 h5 => hex ⟨k, ok, xk, h1, h2, h4, h5⟩]
/-- How many are not done. -/
def left (listed : Array Bool) : Nat := (List.range listed.size).countP fun i => !(listed.getD i false)
theorem left_set {listed : Array Bool} {i : Nat} (hi : i < listed.size) (hn : ¬ Done listed i) : left (listed.setIfInBounds i true) + 1 = left listed := by
  unfold left
  simp only [Array.size_setIfInBounds]
  have key : ∀ (m : Nat), (List.range m).countP (fun k => !((listed.setIfInBounds i true).getD k false)) + (if i < m then 1 else 0) = (List.range m).countP (fun k => !(listed.getD k false)) := by
    intro m
    induction m with
    | zero => simp
    | succ m ih =>
      rw [List.range_succ, List.countP_append, List.countP_append, ← ih]
      simp only [List.countP_cons, List.countP_nil]
      by_cases him : i = m
      · subst him
        have e1 : (listed.setIfInBounds i true).getD i false = true := by simp [hi]
        have e2 : listed.getD i false = false := by unfold Done at hn; simpa using hn
        rw [e1, e2]
        simp
      · have e1 : (listed.setIfInBounds i true).getD m false = listed.getD m false := by
          simp only [Array.getD_eq_getD_getElem?, Array.getElem?_setIfInBounds]
          rw [if_neg him]
        rw [e1]
        by_cases h : i < m
        · have e3 : i < m + 1 := by omega
          simp only [h, e3, if_true]
          omega
        · have e3 : ¬ i < m + 1 := by omega
          simp only [h, e3, if_false]
          omega
  have := key listed.size
  rw [if_pos hi] at this
  exact this
theorem ready_or_all {l : List Oper} {xs : List AI} {listed : Array Bool} (hs : Sched l xs) (hc : Closed l listed) : Region.ready .any l.toArray listed ≠ [] ∨ ∀ i, i < l.length → Done listed i := by
  by_cases hall : ∀ i, i < l.length → Done listed i
  · exact .inr hall
  · left
    have hex : ∃ i, i < l.length ∧ ¬ Done listed i := by
      apply Classical.byContradiction
      intro h
      exact hall fun i hi => Classical.byContradiction fun hn => h ⟨i, hi, hn⟩
    -- the least that is not done may come up
    have least : ∃ i, i < l.length ∧ ¬ Done listed i ∧ ∀ j, j < i → Done listed j := by
      obtain ⟨i, hi, hn⟩ := hex
      induction i using Nat.strongRecOn with
      | _ i ih =>
        by_cases h : ∀ j, j < i → Done listed j
        · exact ⟨i, hi, hn, h⟩
        · obtain ⟨j, hj, hnj⟩ : ∃ j, j < i ∧ ¬ Done listed j := by
            apply Classical.byContradiction
            intro h2
            exact h fun j hj => Classical.byContradiction fun hn => h2 ⟨j, hj, hn⟩
          exact ih j hj (by omega) hnj
    obtain ⟨i, hi, hn, hlow⟩ := least
    intro hnil
    have : i ∈ Region.ready .any l.toArray listed := by
      unfold Region.ready
      simp only [List.size_toArray, List.mem_filter, List.mem_range, Bool.and_eq_true, Bool.not_eq_true']
      refine ⟨hi, ?_, ?_⟩
      · unfold Done at hn
        have hil : i < listed.size := by rw [hc.size]; exact hi
        simp [hil] at hn ⊢
        exact hn
      · simp only [List.getElem?_toArray, List.getElem?_eq_getElem hi, Option.map_some, Option.getD_some]
        rw [Array.all_eq_true']
        intro e he
        by_cases hb : Region.binds .any e = true
        · have := hlow e.on (hs.back i l[i] (List.getElem?_eq_getElem hi) e (by simpa using he) hb)
          unfold Done at this
          simp [hb, this]
        · simp [Bool.not_eq_true] at hb; simp [hb]
    rw [hnil] at this
    cases this
section
variable {P : Program} {n : Nat} {S : AS}
theorem readsOf_operand {l : List Oper} {i : Nat} {o : Oper} (ho : l[i]? = some o) {t : Nat} (h : Operand.tmp t ∈ o.op.operands.toList) : t ∈ readsOf l i := by
  unfold readsOf
  rw [ho]
  simp only [List.mem_append, List.mem_filterMap]
  exact .inl ⟨_, h, rfl⟩
theorem readsOf_guard {l : List Oper} {i : Nat} {o : Oper} (ho : l[i]? = some o) {j t : Nat} {want : Bool} (hg : o.guard = some (j, want)) (ht : wZ l j = some t) : t ∈ readsOf l i := by
  unfold readsOf
  rw [ho]
  simp only [hg, ht, List.mem_append]
  exact .inr (by simp)
/-- A region that draws its order: its operations in the text's order. -/
theorem zZ.draw {id : Nat} {l : List Oper} {K : Exit → AS → Prop} (xs : List AI) (hm : P.follows .mixedOrders = true) (hsch : schedB l xs.length (xs.map (·.bs)) = true) (hmade : madeB l xs S = true)
    (hch : AChain P n l S l xs) (ht : zD P n K (runA S l xs) (l.drop xs.length)) : zZ P n (.region id l.toArray true) S K := by
  have hS := Sched.of hsch
  have hA := Apart.of hS hmade
  intro M w0 ρ a w Q hs hK
  have start : Agr l xs S (fun k => k < 0) S := ⟨fun i o x d _ _ h => by omega, fun _ _ => rfl, fun i o x d b _ _ h => by omega, fun _ _ => rfl⟩
  obtain ⟨hgs, hfin⟩ := runA_agr hS hA 0 S (by omega) start hch
  have main2 : ∀ (fuel t : Nat) (listed : Array Bool) (S2 : AS) (ρ : Nat → Value) (a : Act) (w : World), Closed l listed → (∀ i, i < l.length → (Done listed i ↔ i < t)) → xs.length ≤ t → left listed = fuel →
      Sat M n w0 S2 ρ a w → zD P n K S2 (l.drop t) → wpAny P .any l.toArray Q fuel listed a w := by
    intro fuel
    induction fuel with
    | zero =>
      intro t listed S2 ρ a w hc hd htm hl hsat htc
      have hall : ∀ i, i < l.length → Done listed i := by
        intro i hi
        apply Classical.byContradiction
        intro hn
        have := left_set (listed := listed) (by rw [hc.size]; exact hi) hn
        omega
      have htl : l.length ≤ t := by
        apply Classical.byContradiction
        intro hn
        have := (hd t (by omega)).1 (hall t (by omega))
        omega
      rw [List.drop_eq_nil_of_le htl] at htc
      refine ⟨?_, hK .normal S2 ρ a w htc hsat trivial⟩
      rcases ready_or_all hS hc with h | _
      · exfalso
        obtain ⟨i, hi⟩ := List.exists_mem_of_ne_nil _ h
        exact (xZ hi).2.1 (hall i (xZ hi).1)
      · apply List.eq_nil_iff_forall_not_mem.2
        intro i hi
        exact (xZ hi).2.1 (hall i (xZ hi).1)
    | succ fuel ih =>
      intro t listed S2 ρ a w hc hd htm hl hsat htc
      refine ⟨fun hnil => ?_, fun i hi => ?_⟩
      · rcases ready_or_all hS hc with h | h
        · exact (h hnil).elim
        · exfalso
          unfold left at hl
          have : (List.range listed.size).countP (fun i => !(listed.getD i false)) = 0 := by
            rw [List.countP_eq_zero]
            intro k hk
            have := h k (by rw [← hc.size]; exact List.mem_range.1 hk)
            unfold Done at this
            simp [this]
          omega
      · obtain ⟨hil, hnd, o, hoi, hall⟩ := xZ hi
        have hti : t ≤ i := by
          apply Classical.byContradiction
          intro h
          exact hnd ((hd i hil).2 (by omega))
        have hit : i = t := by
          apply Classical.byContradiction
          intro h
          have := hc.ready_ord hi (hS.tail i (by omega) hil t (by omega))
          have := (hd t (by omega)).1 this
          omega
        subst hit
        rw [List.drop_eq_getElem_cons hil] at htc
        obtain ⟨hg, hst⟩ := htc
        have ho : o = l[i] := by rw [List.getElem?_eq_getElem hil] at hoi; exact (Option.some.inj hoi).symm
        unfold wpOp
        simp only [List.getElem?_toArray, List.getElem?_eq_getElem hil]
        rw [if_pos (by simp [Region.wanted, hg])]
        refine .inl (hst M w0 ρ a w _ Q hsat (fun S1 ρ' a' w' htc hs' => ?_) hK)
        refine ih (i + 1) _ S1 ρ' a' w' (hc.set hi) (fun k hk => ?_) (by omega) ?_ hs' htc
        · rw [done_set (by rw [hc.size]; exact hil), hd k hk]
          omega
        · have := left_set (listed := listed) (by rw [hc.size]; exact hil) hnd
          omega
  have main1 : ∀ (fuel : Nat) (listed : Array Bool) (S2 : AS) (ρ : Nat → Value) (a : Act) (w : World), Closed l listed → (∀ i, xs.length ≤ i → i < l.length → ¬ Done listed i) → Agr l xs S (Done listed) S2 → left listed = fuel →
      Sat M n w0 S2 ρ a w → wpAny P .any l.toArray Q fuel listed a w := by
    intro fuel
    induction fuel with
    | zero =>
      intro listed S2 ρ a w hc htl hagr hl hsat
      have hall : ∀ i, i < l.length → Done listed i := by
        intro i hi
        apply Classical.byContradiction
        intro hn
        have := left_set (listed := listed) (by rw [hc.size]; exact hi) hn
        omega
      refine main2 0 xs.length listed (runA S l xs) ρ a w hc (fun i hi => ⟨fun h => ?_, fun h => hall i hi⟩) (Nat.le_refl _) hl (hsat.same ?_) ht
      · apply Classical.byContradiction
        intro hn
        exact htl i (by omega) hi h
      · refine hagr.same ⟨fun i o x d h1 h2 h3 => hfin.t1 i o x d h1 h2 (List.getElem?_eq_some_iff.1 h2).1, fun t h => hfin.t2 t fun i o x h1 h2 _ => h i o x h1 h2 (hall i (List.getElem?_eq_some_iff.1 h1).1), fun i o x d b h1 h2 h3 => hfin.b1 i o x d b h1 h2 (List.getElem?_eq_some_iff.1 h2).1, fun t h => hfin.b2 t fun i o x h1 h2 _ => h i o x h1 h2 (hall i (List.getElem?_eq_some_iff.1 h1).1)⟩
    | succ fuel ih =>
      intro listed S2 ρ a w hc htl hagr hl hsat
      by_cases hallA : ∀ i, i < xs.length → Done listed i
      · refine main2 (fuel + 1) xs.length listed (runA S l xs) ρ a w hc (fun i hi => ⟨fun h => ?_, fun h => hallA i h⟩) (Nat.le_refl _) hl (hsat.same ?_) ht
        · apply Classical.byContradiction
          intro hn
          exact htl i (by omega) hi h
        · refine hagr.same ⟨fun i o x d h1 h2 h3 => hfin.t1 i o x d h1 h2 (List.getElem?_eq_some_iff.1 h2).1, fun t h => hfin.t2 t fun i o x h1 h2 h3 => h i o x h1 h2 (hallA i h3), fun i o x d b h1 h2 h3 => hfin.b1 i o x d b h1 h2 (List.getElem?_eq_some_iff.1 h2).1, fun t h => hfin.b2 t fun i o x h1 h2 h3 => h i o x h1 h2 (hallA i h3)⟩
      · refine ⟨fun hnil => ?_, fun i hi => ?_⟩
        · rcases ready_or_all hS hc with h | h
          · exact (h hnil).elim
          · exact (hallA fun i hi => h i (Nat.lt_of_lt_of_le hi hS.len)).elim
        · obtain ⟨hil, hnd, o, hoi, _⟩ := xZ hi
          have hix : i < xs.length := by
            apply Classical.byContradiction
            intro h
            exact hallA fun j hj => hc.ready_ord hi (hS.tail i (by omega) hil j (by omega))
          have hx : xs[i]? = some xs[i] := List.getElem?_eq_getElem hix
          obtain ⟨Si, hagi, hgst⟩ := hgs i o xs[i] (by omega) hoi hx
          obtain ⟨hrt, hrb⟩ := Agr.reads hS hc hi hx hagr hagi
          have hget : ∀ y ∈ o.op.operands.toList, S2.get y = Si.get y := by
            intro y hy
            cases y with
            | tmp t => exact hrt t (readsOf_operand hoi hy)
            | _ => rfl
          have hnext := hagr.step hA hoi hx hnd (fun k hk hok => hnd (hc.ord (k + 1) k i (by omega) (by
            apply Classical.byContradiction
            intro h
            unfold Done at hk
            simp [Array.getD_eq_getD_getElem?, Array.getElem?_eq_none (by rw [hc.size]; omega : listed.size ≤ k)] at hk) hk hok))
          have cont : ∀ ρ' a' w', Sat M n w0 (S2.out o.dst xs[i].av xs[i].nb) ρ' a' w' → wpAny P .any l.toArray Q fuel (listed.setIfInBounds i true) a' w' := by
            intro ρ' a' w' hs'
            refine ih _ _ ρ' a' w' (hc.set hi) (fun k hk hkl hdk => ?_) ?_ ?_ hs'
            · rw [done_set (by rw [hc.size]; exact hil)] at hdk
              rcases hdk with h | h
              · omega
              · exact htl k hk hkl h
            · have e : (fun k => k = i ∨ Done listed k) = Done (listed.setIfInBounds i true) := by
                funext k
                apply propext
                rw [done_set (by rw [hc.size]; exact hil)]
                constructor
                · rintro (h | h)
                  · exact .inl h.symm
                  · exact .inr h
                · rintro (h | h)
                  · exact .inl h.symm
                  · exact .inr h
              rw [← e]
              exact hnext
            · have := left_set (listed := listed) (by rw [hc.size]; exact hil) hnd
              omega
          unfold wpOp
          simp only [List.getElem?_toArray, hoi]
          rcases hgst with ⟨hg, hast⟩ | ⟨j, want, t, b, hg, hdj, htn, hb, hcase⟩
          · rw [if_pos (by simp [Region.wanted, hg])]
            exact .inl (hast S2 hget hrb M w0 ρ a w _ Q hsat cont)
          · have hb2 : S2.tmp t = .p (.val b) := by rw [hrt t (readsOf_guard hoi hg hdj)]; exact hb
            have hw := hsat.wanted (ops := l.toArray) hg (by simpa [wZ] using hdj) htn hb2
            rcases hcase with ⟨hbw, hast⟩ | ⟨hbw, hav, hnb, d, hd, hdn⟩
            · rw [if_pos (by rw [hw, hbw])]
              exact .inl (hast S2 hget hrb M w0 ρ a w _ Q hsat cont)
            · rw [if_neg (by rw [hw, hbw]; simp)]
              rw [hd]
              refine cont ρ _ w ?_
              rw [hd, hav, hnb]
              exact hsat.put_undef hdn
  refine wp_region_any hm ?_
  refine main1 _ _ S ρ a _ ⟨by simp, fun i o hi hd => ?_⟩ (fun i _ _ hd => ?_) ⟨fun i o x d _ _ h => ?_, fun _ _ => rfl, fun i o x d b _ _ h => ?_, fun _ _ => rfl⟩ ?_ (hs.ext ((Below.refl _ _).drew))
  · unfold Done at hd; rw [getD_replicate_false] at hd; cases hd
  · unfold Done at hd; rw [getD_replicate_false] at hd; cases hd
  · unfold Done at h; rw [getD_replicate_false] at h; cases h
  · unfold Done at h; rw [getD_replicate_false] at h; cases h
  · unfold left
    simp only [Array.size_replicate, List.size_toArray]
    have : ∀ k ∈ List.range l.length, (!((Array.replicate l.length false).getD k false)) = true := fun k _ => by rw [getD_replicate_false]; rfl
    rw [List.countP_eq_length.2 this, List.length_range]
end
end Go.Proofs.YtmfbamiciieooaaGreatDoor
/- The rules of the walk over abstract frames, operation by operation. Generic over the program. -/
namespace Go.Proofs.YtmfbamiciieooaaGreatDoor
set_option maxRecDepth 100000
set_option maxHeartbeats 16000000
open Go Go.RowKit
section
variable {P : Program} {n : Nat} {o : Oper} {S : AS} {d : Nat}
/-- An operation that yields a value and turns nothing that was there. -/
theorem zX.pure {bs : List Nat} {av : AV} (hd : o.dst = some d) (hn : d < n)
    (h : ∀ (S2 : AS), (∀ x ∈ o.op.operands.toList, S2.get x = S.get x) → (∀ id ∈ bs, S2.blk id = S.blk id) → ∀ (M : Nat → Nat → Prop) (w0 : Home) (ρ : Nat → Value) (a : Act) (w : World), Sat M n w0 S2 ρ a w →
      ∃ v w', (execOp a.eval o).run P w = .ok (.value v) w' ∧ Below w.heap.size w w' ∧ yY (Mut M S2 ρ) ρ w' av v) : zX P n o S bs av none := by
  intro S2 hg hb M w0 ρ a w K Q hs hK
  obtain ⟨v, w', hr, hbw, hrep⟩ := h S2 hg hb M w0 ρ a w hs
  unfold Oper.wp
  rw [hr]
  show K (a.put o.dst v) w'
  rw [hd] at hK ⊢
  exact hK ρ _ w' ((hs.ext hbw).put hn hrep)
/-- An operation that makes a block. -/
theorem zX.made {bs : List Nat} {av : AV} {b : Blk} (hd : o.dst = some d) (hn : d < n)
    (h : ∀ (S2 : AS), (∀ x ∈ o.op.operands.toList, S2.get x = S.get x) → (∀ id ∈ bs, S2.blk id = S.blk id) → ∀ (M : Nat → Nat → Prop) (w0 : Home) (ρ : Nat → Value) (a : Act) (w : World), Sat M n w0 S2 ρ a w →
      ∃ v w', (execOp a.eval o).run P w = .ok (.value v) w' ∧ w.grownBy w' none ∧ (∀ k, zU v = some k → w.heap.size ≤ k) ∧
        xG (fun k c => Mut M S2 ρ k c ∨ zU v = some k) 0 ρ w' v b ∧ (av = .own d ∨ (av = .ptr d 0 ∧ ∃ g, v = .pointer (some ⟨g, 0, none⟩)))) : zX P n o S bs av (some b) := by
  intro S2 hg hb M w0 ρ a w K Q hs hK
  obtain ⟨v, w', hr, hgr, hnew, hok, hav⟩ := h S2 hg hb M w0 ρ a w hs
  unfold Oper.wp
  rw [hr]
  show K (a.put o.dst v) w'
  rw [hd] at hK ⊢
  have h1 := hs.change d b v none (hs.free d hn) hgr (fun k hk => by cases hk) (fun k hk => .inl (hnew k hk)) (hok.mono fun k c hk => hk.elim .inl fun h => .inr h.1)
  refine hK (upd ρ d v) _ w' (h1.put hn ?_)
  have e : upd ρ d v d = v := by simp [upd]
  rcases hav with rfl | ⟨rfl, g, rfl⟩
  · have := yY.own (M := Mut M (S2.create d b) (upd ρ d v)) (ρ := upd ρ d v) (w := w') d
    rw [e] at this
    exact this
  · exact .ptr d 0 g (by rw [e]; rfl)
/-! ### Copies -/
theorem a_move {x : Operand} (ho : o.op = .move x ∨ o.op = .assign x) (hd : o.dst = some d) (hn : d < n) : zX P n o S [] (S.get x) none :=
  zX.pure hd hn fun S2 hg _ M w0 ρ a w hs => by
    have hx : S2.get x = S.get x := by rcases ho with ho | ho <;> exact hg x (by rw [ho]; simp [Op.operands])
    refine ⟨a.eval x, w, ?_, Below.refl _ _, ?_⟩
    · unfold execOp; rcases ho with ho | ho <;> rw [ho] <;> rfl
    · rw [← hx]; exact hs.rep x
theorem a_pick {c x y : Operand} {t : Bool} (ho : o.op = .pick c x y) (hc : S.get c = .p (.val (.bool t))) (hd : o.dst = some d) (hn : d < n) : zX P n o S [] (if t then S.get x else S.get y) none :=
  zX.pure hd hn fun S2 hg _ M w0 ρ a w hs => by
    have h1 : S2.get c = S.get c := hg c (by rw [ho]; simp [Op.operands])
    have h2 : S2.get x = S.get x := hg x (by rw [ho]; simp [Op.operands])
    have h3 : S2.get y = S.get y := hg y (by rw [ho]; simp [Op.operands])
    have hv := hs.val (h1.trans hc)
    refine ⟨if t then a.eval x else a.eval y, w, ?_, Below.refl _ _, ?_⟩
    · unfold execOp
      rw [ho]
      simp only [hv]
      cases t <;> rfl
    · cases t
      · rw [← h3]; exact hs.rep y
      · rw [← h2]; exact hs.rep x
/-! ### Operations on numbers, bools, strings, whatever the world -/
theorem wH {op : BinOp} {xt yt : TypeId} {x y : Operand} {u v r : Value} (ho : o.op = .binOp op xt x y yt) (hx : S.get x = .p (.val u)) (hy : S.get y = .p (.val v)) (hd : o.dst = some d) (hn : d < n)
    (h : ∀ w, Sem.run P (do eqGuard op xt x y u v; binOp op xt u v) w = .ok r w) : zX P n o S [] (.p (.val r)) none :=
  zX.pure hd hn fun S2 hg _ M w0 ρ a w hs => by
    have h1 := hs.val ((hg x (by rw [ho]; simp [Op.operands])).trans hx)
    have h2 := hs.val ((hg y (by rw [ho]; simp [Op.operands])).trans hy)
    refine ⟨r, w, ?_, Below.refl _ _, .p (.val r)⟩
    unfold execOp
    rw [ho]
    simp only [h1, h2]
    have := h w
    simp only [Sem.run_bind] at this ⊢
    rw [this]
    rfl
theorem a_unOp {op : UnOp} {xt : TypeId} {x : Operand} {u r : Value} (ho : o.op = .unOp op xt x) (hx : S.get x = .p (.val u)) (hd : o.dst = some d) (hn : d < n)
    (h : ∀ w, Sem.run P (Op.unary op u) w = .ok r w) : zX P n o S [] (.p (.val r)) none :=
  zX.pure hd hn fun S2 hg _ M w0 ρ a w hs => by
    have h1 := hs.val ((hg x (by rw [ho]; simp [Op.operands])).trans hx)
    refine ⟨r, w, ?_, Below.refl _ _, .p (.val r)⟩
    unfold execOp
    rw [ho]
    simp only [h1, Sem.run_bind, h w]
    rfl
theorem a_convert {src dst : TypeId} {x : Operand} {u r : Value} (ho : o.op = .convert src dst x) (hx : S.get x = .p (.val u)) (hd : o.dst = some d) (hn : d < n)
    (h : ∀ w, Sem.run P (convert src dst u) w = .ok r w) : zX P n o S [] (.p (.val r)) none :=
  zX.pure hd hn fun S2 hg _ M w0 ρ a w hs => by
    have h1 := hs.val ((hg x (by rw [ho]; simp [Op.operands])).trans hx)
    refine ⟨r, w, ?_, Below.refl _ _, .p (.val r)⟩
    unfold execOp
    rw [ho]
    simp only [h1, Sem.run_bind, h w]
    rfl
end
theorem vC {w : World} {b B : Nat} {t : TypeId} {size : Nat} {v : Value} {n : Nat} {ys : List Value} (h : w.ownsRow b t size v n ys) (hB : ∀ k, zU v = some k → B ≤ k) : w.ownsRow B t size v n ys := by
  refine ⟨h.1, ?_⟩
  rcases h.2 with h1 | ⟨g, cap, cur, hv, _, r⟩
  · exact .inl h1
  · exact .inr ⟨g, cap, cur, hv, hB g (by rw [hv]; rfl), r⟩
/-! ### A function -/
inductive RV where
  | p (x : PV)
  | row (t size n : Nat) (xs : List PV)
  | tup (l : List PV)
def RepR (M : Nat → Nat → Prop) (w0 w : World) : RV → Value → Prop
  | .p x, v => Rep M w x v
  | .row t size n xs, v => ∃ ys, w.ownsRow w0.heap.size t size v n ys ∧ RepL (fun k c => M k c ∨ zU v = some k) w xs ys
  | .tup l, v => ∃ vs : List Value, v = .tuple vs.toArray ∧ vs.length = l.length ∧ ∀ (i : Nat) x u, l[i]? = some x → vs[i]? = some u → Rep M w x u
/-- What function f gives, of such arguments, in whatever world. -/
def Fn (P : Program) (f : FuncId) (args : List PV) (r : RV) : Prop :=
  ∀ (M : Nat → Nat → Prop) (w : World) (vs : List Value), Lays w ∧ (∀ g c, Tabs g → ¬ M g c) → (∀ k c, M k c → k < w.heap.size) → vs.length = args.length → (∀ (i : Nat) x v, args[i]? = some x → vs[i]? = some v → Rep M w x v) →
    Calls P f vs.toArray w fun e w' => ∃ v, e = .returned v ∧ RepR M w w' r v ∧ Below w.heap.size w w'
theorem yR {M : Nat → Nat → Prop} {S : AS} {ρ : Nat → Value} {w : World} {a : Act} {n : Nat} {w0 : Home} (hs : Sat M n w0 S ρ a w) {x : Operand} {y : PV} (h : S.get x = .p y) : Rep (Mut M S ρ) w y (a.eval x) := by
  have := hs.rep x
  rw [h] at this
  cases this with
  | p h => exact h
section
variable {P : Program} {n : Nat} {o : Oper} {S : AS} {d : Nat}
/-- A call of a function by its contract; the result is a pure value. -/
theorem a_call {f : FuncId} {args : Array Operand} {ts : Array TypeId} {xs : List PV} {r : PV} (ho : o.op = .call { callee := .value (.func f), args := args, argTypes := ts })
    (hc : ∀ (vs : Array Value) w, (callFunc f vs).run P w = .ok (.enter f vs) w) (hx : args.toList.map S.get = xs.map AV.p) (hf : Fn P f xs (.p r)) (hd : o.dst = some d) (hn : d < n) : zX P n o S [] (.p r) none := by
  intro S2 hg _ M w0 ρ a w K Q hs hK
  have hargs : ∀ x ∈ args.toList, S2.get x = S.get x := fun x hx => hg x (by rw [ho]; simp [Op.operands, Call.operands]; exact .inr (by simpa using hx))
  have he : (execOp a.eval o).run P w = .ok (.enter f (args.map a.eval)) w := by
    unfold execOp
    rw [ho]
    simp [resolve, Deferred.ofValue, Act.eval, invoke, hc]
  unfold Oper.wp
  rw [he, Oper.upon_enter]
  have hlen : (args.toList.map a.eval).length = xs.length := by
    have := congrArg List.length hx
    simpa using this
  have := hf (Mut M S2 ρ) w (args.toList.map a.eval) ⟨hs.lays, hs.tabs⟩ (fun k c hk => Mut.lt hs hk) hlen (fun i x v h1 h2 => by
    rw [List.getElem?_map, Option.map_eq_some_iff] at h2
    obtain ⟨y, hy, rfl⟩ := h2
    have h3 : S.get y = .p x := by
      have h4 : (args.toList.map S.get)[i]? = (xs.map AV.p)[i]? := by rw [hx]
      rw [List.getElem?_map, List.getElem?_map, hy, h1] at h4
      simpa using h4
    exact yR hs ((hargs y (List.mem_of_getElem? hy)).trans h3))
  have e : (args.toList.map a.eval).toArray = args.map a.eval := by apply Array.ext'; simp
  rw [e] at this
  refine this.mono ?_
  rintro en w' ⟨v, rfl, hr, hb⟩
  show K (a.put o.dst v) w'
  rw [hd] at hK ⊢
  exact hK ρ _ w' ((hs.ext hb).put hn (.p hr))
/-- A call by its contract; several results. -/
theorem a_callTup {f : FuncId} {args : Array Operand} {ts : Array TypeId} {xs : List PV} {l : List PV} (ho : o.op = .call { callee := .value (.func f), args := args, argTypes := ts })
    (hc : ∀ (vs : Array Value) w, (callFunc f vs).run P w = .ok (.enter f vs) w) (hx : args.toList.map S.get = xs.map AV.p) (hf : Fn P f xs (.tup l)) (hd : o.dst = some d) (hn : d < n) : zX P n o S [] (.tup (l.map AV.p)) none := by
  intro S2 hg _ M w0 ρ a w K Q hs hK
  have hargs : ∀ x ∈ args.toList, S2.get x = S.get x := fun x hx => hg x (by rw [ho]; simp [Op.operands, Call.operands]; exact .inr (by simpa using hx))
  have he : (execOp a.eval o).run P w = .ok (.enter f (args.map a.eval)) w := by
    unfold execOp
    rw [ho]
    simp [resolve, Deferred.ofValue, Act.eval, invoke, hc]
  unfold Oper.wp
  rw [he, Oper.upon_enter]
  have hlen : (args.toList.map a.eval).length = xs.length := by
    have := congrArg List.length hx
    simpa using this
  have := hf (Mut M S2 ρ) w (args.toList.map a.eval) ⟨hs.lays, hs.tabs⟩ (fun k c hk => Mut.lt hs hk) hlen (fun i x v h1 h2 => by
    rw [List.getElem?_map, Option.map_eq_some_iff] at h2
    obtain ⟨y, hy, rfl⟩ := h2
    have h3 : S.get y = .p x := by
      have h4 : (args.toList.map S.get)[i]? = (xs.map AV.p)[i]? := by rw [hx]
      rw [List.getElem?_map, List.getElem?_map, hy, h1] at h4
      simpa using h4
    exact yR hs ((hargs y (List.mem_of_getElem? hy)).trans h3))
  have e : (args.toList.map a.eval).toArray = args.map a.eval := by apply Array.ext'; simp
  rw [e] at this
  refine this.mono ?_
  rintro en w' ⟨v, rfl, ⟨us, rfl, hul, hu⟩, hb⟩
  show K (a.put o.dst (.tuple us.toArray)) w'
  rw [hd] at hK ⊢
  refine hK ρ _ w' ((hs.ext hb).put hn (.tup _ us (by simpa using hul) fun i c v h1 h2 => ?_))
  rw [List.getElem?_map, Option.map_eq_some_iff] at h1
  obtain ⟨x, hx', rfl⟩ := h1
  exact .p (hu i x v hx' h2)
end
/-! ### Entry and return -/
def zipArgs : Nat → List PV → List (Nat × AV)
  | _, [] => []
  | i, x :: r => (i, .p x) :: zipArgs (i + 1) r
theorem look_zipArgs (xs : List PV) : ∀ (i j : Nat), look (zipArgs i xs) j = if i ≤ j then (xs[j - i]?).map AV.p else none := by
  induction xs with
  | nil => intro i j; simp [zipArgs, look]
  | cons x r ih =>
    intro i j
    simp only [zipArgs, look, ih]
    by_cases h : i = j
    · subst h; simp
    · rw [if_neg h]
      by_cases h2 : i ≤ j
      · have e : j - i = (j - (i + 1)) + 1 := by omega
        rw [if_pos h2, if_pos (by omega), e, List.getElem?_cons_succ]
      · rw [if_neg h2, if_neg (by omega)]
/-- The frame with which a function begins. -/
def AS.entry (xs : List PV) : AS := { t := zipArgs 0 xs, s := [] }
/-- What stands in the results' slots at the return, as the function's result. -/
def Gives (fn : Func) (S : AS) (r : RV) : Prop :=
  (∃ t x, fn.results = #[.tmp t] ∧ S.tmp t = .p x ∧ r = .p x) ∨
  (∃ (ts : List Nat) (l : List PV), fn.results = (ts.map ResultVar.tmp).toArray ∧ 2 ≤ ts.length ∧ ts.map S.tmp = l.map AV.p ∧ r = .tup l) ∨
  (∃ t id ty size n xs, fn.results = #[.tmp t] ∧ S.tmp t = .own id ∧ S.blk id = some (.row ty size n (xs.map AV.p)) ∧ r = .row ty size n xs)
theorem Rep.outer {M : Nat → Nat → Prop} {S : AS} {ρ : Nat → Value} {w : World} {x : PV} {v : Value} (h : Rep (Mut M S ρ) w x v) : Rep M w x v := h.mono fun _ _ _ hk => .inl hk
theorem vD {M : Nat → Nat → Prop} {ρ : Nat → Value} {w : World} {id : Nat} {v : Value} (h : yY M ρ w (.own id) v) : v = ρ id := by cases h; rfl
theorem results_tmps {P : Program} {w : World} (fn : Func) (ts : List Nat) (tmps : Array Value) (h : fn.results = (ts.map ResultVar.tmp).toArray) (hl : 2 ≤ ts.length) :
    (results fn tmps).run P w = .ok (.tuple (ts.map fun t => tmps.getD t undef).toArray) w := by
  have key : ∀ (F : ResultVar → Sem Value), (∀ t, F (.tmp t) = pure (tmps.getD t undef)) → ∀ (l : List Nat), (List.mapM F (l.map ResultVar.tmp)).run P w = .ok (l.map fun t => tmps.getD t undef) w := by
    intro F hF l
    induction l with
    | nil => simp
    | cons t r ih => simp only [List.map_cons, List.mapM_cons, Sem.run_bind, Sem.run_pure, Result.andThen, ih, hF]
  unfold results
  rw [h]
  simp only [List.mapM_toArray, Sem.run_bind, Sem.run_map]
  rw [key _ (fun _ => rfl)]
  simp only [Result.andThen]
  rw [dif_neg (by simp; omega)]
  simp
theorem vY {P : Program} {f : FuncId} {fn : Func} {c : Code} {args : List PV} {r : RV} {n : Nat} (hf : P.funcs[f]? = some fn) (hb : fn.body = some c) (hn : fn.ntmps = n) (hle : args.length ≤ n)
    (h : zZ P n c (AS.entry args) (fun e S => (e = .ret ∨ e = .normal) ∧ Gives fn S r)) : Fn P f args r := by
  intro M w vs hT hM hvl hvs
  refine calls_of_wp hf hb ?_
  have hsat : Sat M n (Home.plain w hT.1) (AS.entry args) (fun _ => undef) { tmps := vs.toArray ++ Array.replicate (fn.ntmps - vs.toArray.size) undef, defers := [] } w := by
    refine ⟨xO.refl (Home.plain w hT.1), (fun k c hk hh => by rcases hh with hh | hh; exact absurd (hM k c hk) (Nat.not_lt.2 hh); exact hh), hT.2, by simp; omega, rfl, fun i => ?_, (fun id b hb => by cases hb), (fun id b k hb => by cases hb), (fun k v hk => by cases hk), (fun _ _ => rfl), (fun i j bi bj k hi => by cases hi)⟩
    show yY _ _ _ ((look (zipArgs 0 args) i).getD .any) _
    rw [look_zipArgs]
    simp only [Nat.zero_le, if_true, Nat.sub_zero]
    cases hx : args[i]? with
    | none => exact .any _
    | some x =>
      have hi : i < vs.length := by rw [hvl]; exact (List.getElem?_eq_some_iff.1 hx).1
      have e : ({ tmps := vs.toArray ++ Array.replicate (fn.ntmps - vs.toArray.size) undef, defers := [] } : Act).tmps.getD i undef = vs[i] := by
        simp [Array.getD_eq_getD_getElem?, Array.getElem?_append, hi]
      rw [e]
      refine .p ((hvs i x vs[i] hx (List.getElem?_eq_getElem hi)).mono ?_)
      rintro k c _ (hk | ⟨id, b, hb, _⟩)
      · exact hk
      · cases hb
  refine h M (Home.plain w hT.1) _ _ w _ hsat ?_
  rintro e S' ρ' a' w' ⟨he, hg⟩ hs'
  have fin : a'.defers = [] ∧ ∃ v, (results fn a'.tmps).run P w' = .ok v w' ∧ (∃ v', Ending.returned v = .returned v' ∧ RepR M w w' r v' ∧ Below w.heap.size w w') := by
    refine ⟨hs'.defers, ?_⟩
    rcases hg with ⟨t, x, hr, ht, rfl⟩ | ⟨ts, l, hr, hl, ht, rfl⟩ | ⟨t, id, ty, size, m, xs, hr, ht, hblk, rfl⟩
    · have h1 := hs'.tmps t
      rw [ht] at h1
      refine ⟨_, results_tmp hr _ _ _, _, rfl, ?_, hs'.below.plain⟩
      cases h1 with
      | p h2 => exact h2.outer
    · refine ⟨_, results_tmps fn ts a'.tmps hr hl, _, rfl, ⟨_, rfl, by simpa using congrArg List.length ht, fun i x u hx hu => ?_⟩, hs'.below.plain⟩
      rw [List.getElem?_map, Option.map_eq_some_iff] at hu
      obtain ⟨t, hti, rfl⟩ := hu
      have h1 := hs'.tmps t
      have h2 : S'.tmp t = .p x := by
        have h3 : (ts.map S'.tmp)[i]? = (l.map AV.p)[i]? := by rw [ht]
        rw [List.getElem?_map, List.getElem?_map, hti, hx] at h3
        simpa using h3
      rw [h2] at h1
      cases h1 with
      | p h3 => exact h3.outer
    · have h1 := hs'.tmps t
      rw [ht] at h1
      refine ⟨_, results_tmp hr _ _ _, _, rfl, ?_, hs'.below.plain⟩
      have h2 := hs'.blks id _ hblk
      have e : a'.tmps.getD t undef = ρ' id := vD h1
      obtain ⟨ys, ho, hc⟩ := h2
      rw [e]
      refine ⟨ys, vC ho (fun k hk => (hs'.mine id _ k hblk hk).elim (fun h => h) (fun h => h.elim)), by simpa using hc.len, fun i c v h3 h4 => ?_, hc.one⟩
      have h5 := hc.each i (.p c) v (by rw [List.getElem?_map, h3]; rfl) h4
      cases h5 with
      | p h6 =>
        refine h6.mono ?_
        rintro k c _ (hk | hk)
        · exact Or.inl hk
        · exact Or.inr ⟨id, _, hblk, hk, trivial⟩
  intro _
  cases e with
  | ret => exact fin
  | normal => exact fin
  | exit id => rcases he with h | h <;> cases h
  | goto l => rcases he with h | h <;> cases h
  | panic c => rcases he with h | h <;> cases h
  | outgrown => rcases he with h | h <;> cases h
/-! ### The rules in the form that the walk takes -/
section
variable {P : Program} {n : Nat} {ops : Array Oper} {o : Oper} {rest : List Oper} {S : AS} {d : Nat} {K : Exit → AS → Prop}
theorem zY.v {bs : List Nat} {av : AV} (hg : o.guard = none) (hd : o.dst = some d) (h : zX P n o S bs av none) (hr : zY P n ops rest (S.put d av) K) : zY P n ops (o :: rest) S K := by
  refine zY.cons hg h.step ?_
  rw [hd]
  exact hr
theorem zY.m {bs : List Nat} {av : AV} {b : Blk} (hg : o.guard = none) (hd : o.dst = some d) (h : zX P n o S bs av (some b)) (hr : zY P n ops rest ((S.create d b).put d av) K) : zY P n ops (o :: rest) S K := by
  refine zY.cons hg h.step ?_
  rw [hd]
  exact hr
/-- A guarded operation: its guard says yes. -/
theorem zY.gy {j t : Nat} {want : Bool} {bs : List Nat} {av : AV} (hg : o.guard = some (j, want)) (ht : (ops[j]?).bind (·.dst) = some t) (htn : t < n) (hb : S.tmp t = .p (.val (.bool want))) (hd : o.dst = some d) (hdn : d < n)
    (h : zX P n o S bs av none) (hr : zY P n ops rest (S.put d av) K) : zY P n ops (o :: rest) S K :=
  zY.guarded hg ht htn hb hd hdn (fun _ => ⟨S.put d av, by have := h.step; rw [hd] at this; exact this, hr⟩) (fun h => by cases want <;> cases h)
/-- its guard says no -/
theorem zY.gn {j t : Nat} {want b : Bool} (hg : o.guard = some (j, want)) (ht : (ops[j]?).bind (·.dst) = some t) (htn : t < n) (hb : S.tmp t = .p (.val (.bool b))) (hbw : b = !want) (hd : o.dst = some d) (hdn : d < n)
    (hr : zY P n ops rest (S.put d wN) K) : zY P n ops (o :: rest) S K :=
  zY.guarded hg ht htn hb hd hdn (fun h => by subst h; cases b <;> cases hbw) (fun _ => hr)
theorem yE {x : Operand} {v : PV} (ho : o.op = .move x) (hx : S.get x = .p v) (hd : o.dst = some d) (hn : d < n) : zX P n o S [] (.p v) none := hx ▸ a_move (.inl ho) hd hn
theorem yB {x : Operand} {v : PV} (ho : o.op = .assign x) (hx : S.get x = .p v) (hd : o.dst = some d) (hn : d < n) : zX P n o S [] (.p v) none := hx ▸ a_move (.inr ho) hd hn
theorem a_moveO {x : Operand} {id : Nat} (ho : o.op = .move x) (hx : S.get x = .own id) (hd : o.dst = some d) (hn : d < n) : zX P n o S [] (.own id) none := hx ▸ a_move (.inl ho) hd hn
theorem a_assignO {x : Operand} {id : Nat} (ho : o.op = .assign x) (hx : S.get x = .own id) (hd : o.dst = some d) (hn : d < n) : zX P n o S [] (.own id) none := hx ▸ a_move (.inr ho) hd hn
theorem a_moveR {x : Operand} {id off : Nat} (ho : o.op = .move x) (hx : S.get x = .ptr id off) (hd : o.dst = some d) (hn : d < n) : zX P n o S [] (.ptr id off) none := hx ▸ a_move (.inl ho) hd hn
theorem a_assignR {x : Operand} {id off : Nat} (ho : o.op = .assign x) (hx : S.get x = .ptr id off) (hd : o.dst = some d) (hn : d < n) : zX P n o S [] (.ptr id off) none := hx ▸ a_move (.inr ho) hd hn
theorem a_moveT {x : Operand} {xs : List AV} (ho : o.op = .move x) (hx : S.get x = .tup xs) (hd : o.dst = some d) (hn : d < n) : zX P n o S [] (.tup xs) none := hx ▸ a_move (.inl ho) hd hn
theorem a_pickY {c x y : Operand} {v : PV} (ho : o.op = .pick c x y) (hc : S.get c = .p (.val (.bool true))) (hx : S.get x = .p v) (hd : o.dst = some d) (hn : d < n) : zX P n o S [] (.p v) none := by
  have h := a_pick (P := P) ho hc hd hn
  rw [if_pos rfl, hx] at h
  exact h
theorem a_pickN {c x y : Operand} {v : PV} (ho : o.op = .pick c x y) (hc : S.get c = .p (.val (.bool false))) (hy : S.get y = .p v) (hd : o.dst = some d) (hn : d < n) : zX P n o S [] (.p v) none := by
  have h := a_pick (P := P) ho hc hd hn
  rw [if_neg (by simp), hy] at h
  exact h
/-! Numbers -/
variable {x y : Operand} {k : IntKind} {a b r : Int} {xt yt : TypeId}
theorem a_add (ho : o.op = .binOp .add xt x y yt) (hx : S.get x = .p (.val (.int k a))) (hy : S.get y = .p (.val (.int k b))) (hr : k.wrap (a + b) = r) (hd : o.dst = some d) (hn : d < n) : zX P n o S [] (.p (.val (.int k r))) none :=
  wH ho hx hy hd hn fun w => by rw [← hr]; simp [eqGuard, binOp, go_sem]
theorem a_sub (ho : o.op = .binOp .sub xt x y yt) (hx : S.get x = .p (.val (.int k a))) (hy : S.get y = .p (.val (.int k b))) (hr : k.wrap (a - b) = r) (hd : o.dst = some d) (hn : d < n) : zX P n o S [] (.p (.val (.int k r))) none :=
  wH ho hx hy hd hn fun w => by rw [← hr]; simp [eqGuard, binOp, go_sem]
theorem a_mul (ho : o.op = .binOp .mul xt x y yt) (hx : S.get x = .p (.val (.int k a))) (hy : S.get y = .p (.val (.int k b))) (hr : k.wrap (a * b) = r) (hd : o.dst = some d) (hn : d < n) : zX P n o S [] (.p (.val (.int k r))) none :=
  wH ho hx hy hd hn fun w => by rw [← hr]; simp [eqGuard, binOp, go_sem]
theorem a_lss (ho : o.op = .binOp .lss xt x y yt) (hx : S.get x = .p (.val (.int k a))) (hy : S.get y = .p (.val (.int k b))) (hd : o.dst = some d) (hn : d < n) : zX P n o S [] (.p (.val (.bool (decide (a < b))))) none :=
  wH ho hx hy hd hn fun w => by simp [eqGuard, binOp, go_sem]
theorem a_leq (ho : o.op = .binOp .leq xt x y yt) (hx : S.get x = .p (.val (.int k a))) (hy : S.get y = .p (.val (.int k b))) (hd : o.dst = some d) (hn : d < n) : zX P n o S [] (.p (.val (.bool (decide (a ≤ b))))) none :=
  wH ho hx hy hd hn fun w => by simp [eqGuard, binOp, go_sem]
theorem a_gtr (ho : o.op = .binOp .gtr xt x y yt) (hx : S.get x = .p (.val (.int k a))) (hy : S.get y = .p (.val (.int k b))) (hd : o.dst = some d) (hn : d < n) : zX P n o S [] (.p (.val (.bool (decide (b < a))))) none :=
  wH ho hx hy hd hn fun w => by simp [eqGuard, binOp, go_sem]
theorem a_geq (ho : o.op = .binOp .geq xt x y yt) (hx : S.get x = .p (.val (.int k a))) (hy : S.get y = .p (.val (.int k b))) (hd : o.dst = some d) (hn : d < n) : zX P n o S [] (.p (.val (.bool (decide (b ≤ a))))) none :=
  wH ho hx hy hd hn fun w => by simp [eqGuard, binOp, go_sem]
theorem a_eql (ho : o.op = .binOp .eql xt x y yt) (hx : S.get x = .p (.val (.int k a))) (hy : S.get y = .p (.val (.int k b))) (hd : o.dst = some d) (hn : d < n) : zX P n o S [] (.p (.val (.bool (decide (a = b))))) none :=
  wH ho hx hy hd hn fun w => by simp [eqGuard, binOp, go_sem]; rfl
theorem a_neq (ho : o.op = .binOp .neq xt x y yt) (hx : S.get x = .p (.val (.int k a))) (hy : S.get y = .p (.val (.int k b))) (hd : o.dst = some d) (hn : d < n) : zX P n o S [] (.p (.val (.bool (!decide (a = b))))) none :=
  wH ho hx hy hd hn fun w => by simp [eqGuard, binOp, go_sem]; rfl
theorem a_rem (ho : o.op = .binOp .rem xt x y yt) (hx : S.get x = .p (.val (.int k a))) (hy : S.get y = .p (.val (.int k b))) (hb : b ≠ 0) (hr : a.tmod b = r) (hd : o.dst = some d) (hn : d < n) : zX P n o S [] (.p (.val (.int k r))) none :=
  wH ho hx hy hd hn fun w => by rw [← hr]; simp [eqGuard, binOp, Op.intDiv, hb]
theorem a_and (ho : o.op = .binOp .and xt x y yt) (hx : S.get x = .p (.val (.int k a))) (hy : S.get y = .p (.val (.int k b))) (hr : bits .and k a b = r) (hd : o.dst = some d) (hn : d < n) : zX P n o S [] (.p (.val (.int k r))) none :=
  wH ho hx hy hd hn fun w => by rw [← hr]; simp [eqGuard, go_sem]
theorem a_or (ho : o.op = .binOp .or xt x y yt) (hx : S.get x = .p (.val (.int k a))) (hy : S.get y = .p (.val (.int k b))) (hr : bits .or k a b = r) (hd : o.dst = some d) (hn : d < n) : zX P n o S [] (.p (.val (.int k r))) none :=
  wH ho hx hy hd hn fun w => by rw [← hr]; simp [eqGuard, go_sem]
theorem a_shr {yk : IntKind} (ho : o.op = .binOp .shr xt x y yt) (hx : S.get x = .p (.val (.int k a))) (hy : S.get y = .p (.val (.int yk b))) (hb0 : 0 ≤ b) (hb1 : b ≤ k.bits) (hr : a / 2 ^ b.toNat = r) (hd : o.dst = some d) (hn : d < n) : zX P n o S [] (.p (.val (.int k r))) none :=
  wH ho hx hy hd hn fun w => by rw [← hr]; simp [eqGuard, binOp_shr, shift_shr k yk a b hb0 hb1]
theorem a_shl {yk : IntKind} (ho : o.op = .binOp .shl xt x y yt) (hx : S.get x = .p (.val (.int k a))) (hy : S.get y = .p (.val (.int yk b))) (hb0 : 0 ≤ b) (hb1 : b ≤ k.bits) (hr : k.wrap (a * 2 ^ b.toNat) = r) (hd : o.dst = some d) (hn : d < n) : zX P n o S [] (.p (.val (.int k r))) none :=
  wH ho hx hy hd hn fun w => by rw [← hr]; simp [eqGuard, binOp_shl, shift_shl k yk a b hb0 hb1]
theorem a_conv {src dst : TypeId} {k2 : IntKind} (ho : o.op = .convert src dst x) (hx : S.get x = .p (.val (.int k a))) (hs : (P.underlying src).isSome = true) (ht : P.underlying dst = some (.int k2)) (hr : k2.wrap a = r) (hd : o.dst = some d) (hn : d < n) : zX P n o S [] (.p (.val (.int k2 r))) none :=
  a_convert ho hx hd hn fun w => by
    have e : P.intKind dst = k2 := by simp [Program.intKind, ht]
    rw [← hr, run_convert_int w src dst k a hs (by rw [e]; exact ht), e]
theorem a_notB {xt : TypeId} {u : Bool} (ho : o.op = .unOp .not xt x) (hx : S.get x = .p (.val (.bool u))) (hd : o.dst = some d) (hn : d < n) : zX P n o S [] (.p (.val (.bool (!u)))) none :=
  a_unOp ho hx hd hn fun w => by simp [Op.unary, go_sem]
end
end Go.Proofs.YtmfbamiciieooaaGreatDoor
/- The rules of the walk over abstract frames: memory. Generic over the program. -/
namespace Go.Proofs.YtmfbamiciieooaaGreatDoor
set_option maxRecDepth 100000
set_option maxHeartbeats 16000000
open Go Go.RowKit
theorem cell_at {w : World} {g j : Nat} {ys : List Value} {t : TypeId} (hg : w.heap[g]? = some (.cells ys.toArray t (0, 0))) {y : Value} (hy : ys[j]? = some y) : w.cell? ⟨g, j, none⟩ = some y := by
  rw [cell_of_row w g j ys.toArray t (0, 0) hg]
  simpa using hy
/-- A block's cells, where they lie. -/
theorem xG.cells {M : Nat → Nat → Prop} {B : Nat} {ρ : Nat → Value} {w : World} {v : Value} {b : Blk} {g : Nat} (h : xG M B ρ w v b) (hv : zU v = some g) :
    ∃ ys, yA M ρ w b.xs ys ∧ ∀ (j : Nat) y, ys[j]? = some y → w.cell? ⟨g, j, none⟩ = some y ∧ w.frozen? ⟨g, j, none⟩ = false := by
  cases b with
  | row t size n xs =>
    obtain ⟨ys, ho, hc⟩ := h
    refine ⟨ys, hc, fun j y hy => ?_⟩
    rcases ho.2 with ⟨rfl, _⟩ | ⟨g', cap, cur, rfl, _, hh, hn, _, hs, ht⟩
    · simp [zU] at hv
    · simp only [zU, Option.some.injEq] at hv
      subst hv
      refine ⟨?_, frozen_of_row w g' j cur t hh⟩
      rw [cell_of_row w g' j cur t (0, 0) hh]
      rw [← ht, List.getElem?_take] at hy
      split at hy
      · simpa using hy
      · cases hy
  | prow t size n xs =>
    obtain ⟨ys, ho, hc⟩ := h
    refine ⟨ys, hc, fun j y hy => ?_⟩
    rcases ho.2 with ⟨rfl, _⟩ | ⟨g', cap, cur, rfl, _, hh, hn, _, hs, ht⟩
    · simp [zU] at hv
    · simp only [zU, Option.some.injEq] at hv
      subst hv
      refine ⟨?_, frozen_of_row w g' j cur t hh⟩
      rw [cell_of_row w g' j cur t (0, 0) hh]
      rw [← ht, List.getElem?_take] at hy
      split at hy
      · simpa using hy
      · cases hy
  | lent t size n xs =>
    obtain ⟨ys, ho, hc⟩ := h
    refine ⟨ys, hc, fun j y hy => ?_⟩
    rcases ho.2 with ⟨rfl, _⟩ | ⟨g', cap, cur, rfl, _, hh, hn, _, hs, ht⟩
    · simp [zU] at hv
    · simp only [zU, Option.some.injEq] at hv
      subst hv
      refine ⟨?_, frozen_of_row w g' j cur t hh⟩
      rw [cell_of_row w g' j cur t (0, 0) hh]
      rw [← ht, List.getElem?_take] at hy
      split at hy
      · simpa using hy
      · cases hy
  | box t xs =>
    obtain ⟨g', ys, rfl, _, hh, hc⟩ := h
    simp only [zU, Option.some.injEq] at hv
    subst hv
    exact ⟨ys, hc, fun j y hy => ⟨cell_at hh hy, frozen_of_row w g' j ys.toArray t hh⟩⟩
  | obj mp Q => exact ⟨[], ⟨rfl, (fun i c v hc => by cases hc), (fun v hv => by cases hv)⟩, fun j y hy => by cases hy⟩
theorem wU {M : Nat → Nat → Prop} {ρ : Nat → Value} {w : World} {id off : Nat} {v : Value} (h : yY M ρ w (.ptr id off) v) : ∃ g, zU (ρ id) = some g ∧ v = .pointer (some ⟨g, off, none⟩) := by
  cases h with
  | ptr _ _ g h => exact ⟨g, h, rfl⟩
theorem rep_pt {M : Nat → Nat → Prop} {ρ : Nat → Value} {w : World} {xs : List PV} {v : Value} (h : yY M ρ w (.pt xs) v) :
    ∃ g o ys, v = .pointer (some ⟨g, o, none⟩) ∧ RepL M w xs ys ∧ (∀ (j : Nat) y, ys[j]? = some y → w.cell? ⟨g, o + j, none⟩ = some y) ∧ (∀ j, j < ys.length → ¬ M g (o + j)) ∧ g < w.heap.size := by
  cases h with
  | pt _ g o ys h hc hM hg => exact ⟨g, o, ys, rfl, h, hc, hM, hg⟩
theorem qO {M : Nat → Nat → Prop} {ρ : Nat → Value} {w : World} {x : PV} {v : Value} (h : yY M ρ w (.p x) v) : Rep M w x v := by
  cases h with
  | p h => exact h
theorem run_load_cell {P : Program} {w : World} {a : Addr} {v : Value} (h : w.cell? a = some v) : (load a).run P w = .ok v w := by
  rw [run_load]
  rw [h]
theorem loadAt_one {P : Program} {w : World} {t : TypeId} {a : Addr} {v : Value} (ht : (isAgg t).run P w = .ok false w) (h : w.cell? a = some v) : (Instr.loadAt t (.pointer (some a))).run P w = .ok v w := by
  unfold Instr.loadAt loadVar
  simp only [Instr.sureAddr, Sem.run_bind, Sem.run_pure, Result.andThen, ht]
  exact run_load_cell h
theorem add_lit (g o n : Nat) : Addr.add ⟨g, o, none⟩ n = ⟨g, o + n, none⟩ := Addr.add_lit g o n
theorem loadAt_many {P : Program} {w : World} {t : TypeId} {g o m : Nat} {ys : List Value} (ht : (isAgg t).run P w = .ok true w) (hs : (sizeOf t).run P w = .ok m w) (hl : ys.length = m)
    (h : ∀ (j : Nat) y, ys[j]? = some y → w.cell? ⟨g, o + j, none⟩ = some y) : (Instr.loadAt t (.pointer (some ⟨g, o, none⟩))).run P w = .ok (.agg ys.toArray) w := by
  subst hl
  unfold Instr.loadAt loadVar
  have hc := run_loadCells_list (P := P) w ⟨g, o, none⟩ ys (fun j v hv => by rw [add_lit]; exact h j v hv)
  simp only [Instr.sureAddr, Sem.run_bind, Sem.run_pure, Result.andThen, ht, hs, if_true, hc]
section
variable {P : Program} {n : Nat} {o : Oper} {S : AS} {d : Nat} {t : TypeId} {x : Operand}
/-! ### Loads -/
theorem a_load1 {xs : List PV} {c : PV} (ho : o.op = .load t x) (hx : S.get x = .pt xs) (hc : xs[0]? = some c) (ht : ∀ w, (isAgg t).run P w = .ok false w) (hd : o.dst = some d) (hn : d < n) : zX P n o S [] (.p c) none :=
  zX.pure hd hn fun S2 hg _ M w0 ρ a w hs => by
    have h1 := hs.rep x
    rw [hg x (by rw [ho]; simp [Op.operands]), hx] at h1
    obtain ⟨g, off, ys, hv, hl, hcell, _, _⟩ := rep_pt h1
    have h0 : 0 < xs.length := (List.getElem?_eq_some_iff.1 hc).1
    have h00 : 0 < ys.length := by rw [hl.len]; exact h0
    have hy : ys[0]? = some ys[0] := List.getElem?_eq_getElem h00
    have hcl : w.cell? ⟨g, off, none⟩ = some ys[0] := hcell 0 _ hy
    refine ⟨ys[0], w, ?_, Below.refl _ _, .p (hl.each 0 c _ hc hy)⟩
    unfold execOp
    rw [ho]
    simp only [hv, Sem.run_bind, loadAt_one (ht w) hcl]
    rfl
theorem a_loadN {xs : List PV} {m : Nat} (ho : o.op = .load t x) (hx : S.get x = .pt xs) (ht : ∀ w, (isAgg t).run P w = .ok true w) (hm : ∀ w, (sizeOf t).run P w = .ok m w) (hle : m ≤ xs.length) (hd : o.dst = some d) (hn : d < n) : zX P n o S [] (.p (.agg (xs.take m))) none :=
  zX.pure hd hn fun S2 hg _ M w0 ρ a w hs => by
    have h1 := hs.rep x
    rw [hg x (by rw [ho]; simp [Op.operands]), hx] at h1
    obtain ⟨g, off, ys, hv, hl, hcell, _, _⟩ := rep_pt h1
    refine ⟨.agg (ys.take m).toArray, w, ?_, Below.refl _ _, .p (.agg _ _ (by simp [hl.len]) (fun i c v h1 h2 => ?_) (fun v hv => hl.one v (List.mem_of_mem_take hv)))⟩
    · unfold execOp
      rw [ho]
      have := loadAt_many (P := P) (w := w) (t := t) (g := g) (o := off) (ys := ys.take m) (ht w) (hm w) (by rw [List.length_take, hl.len]; omega) (fun j y hy => hcell j y (by
        rw [List.getElem?_take] at hy
        split at hy
        · exact hy
        · cases hy))
      simp only [hv, Sem.run_bind, this]
      rfl
    · rw [List.getElem?_take] at h1 h2
      split at h1
      · rename_i hi
        rw [if_pos hi] at h2
        exact hl.each i c v h1 h2
      · cases h1
/-- a variable's cell -/
theorem a_loadR1 {id off : Nat} {b : Blk} {c : AV} (ho : o.op = .load t x) (hx : S.get x = .ptr id off) (hb : S.blk id = some b) (hc : b.xs[off]? = some c) (ht : ∀ w, (isAgg t).run P w = .ok false w) (hd : o.dst = some d) (hn : d < n) : zX P n o S [id] c none :=
  zX.pure hd hn fun S2 hg hbl M w0 ρ a w hs => by
    have h1 := hs.rep x
    rw [hg x (by rw [ho]; simp [Op.operands]), hx] at h1
    obtain ⟨g, hgv, hv⟩ := wU h1
    have hb2 : S2.blk id = some b := (hbl id (by simp)).trans hb
    obtain ⟨ys, hcs, hcell⟩ := (hs.blks id b hb2).cells hgv
    have h0 : off < b.xs.length := (List.getElem?_eq_some_iff.1 hc).1
    have hy : ys[off]? = some (ys[off]'(by rw [hcs.len]; exact h0)) := List.getElem?_eq_getElem _
    refine ⟨_, w, ?_, Below.refl _ _, hcs.each off c _ hc hy⟩
    unfold execOp
    rw [ho]
    simp only [hv, Sem.run_bind, loadAt_one (ht w) (hcell off _ hy).1]
    rfl
/-- a variable of several cells -/
theorem a_loadRN {id off m : Nat} {b : Blk} {cs : List PV} (ho : o.op = .load t x) (hx : S.get x = .ptr id off) (hb : S.blk id = some b) (hc : (b.xs.drop off).take m = cs.map AV.p) (hl : cs.length = m) (ht : ∀ w, (isAgg t).run P w = .ok true w) (hm : ∀ w, (sizeOf t).run P w = .ok m w) (hd : o.dst = some d) (hn : d < n) : zX P n o S [id] (.p (.agg cs)) none :=
  zX.pure hd hn fun S2 hg hbl M w0 ρ a w hs => by
    have h1 := hs.rep x
    rw [hg x (by rw [ho]; simp [Op.operands]), hx] at h1
    obtain ⟨g, hgv, hv⟩ := wU h1
    have hb2 : S2.blk id = some b := (hbl id (by simp)).trans hb
    obtain ⟨ys, hcs, hcell⟩ := (hs.blks id b hb2).cells hgv
    have hlen : ((b.xs.drop off).take m).length = m := by rw [hc, List.length_map, hl]
    have hlen2 : ((ys.drop off).take m).length = m := by
      simp only [List.length_take, List.length_drop] at hlen ⊢
      rw [hcs.len]
      exact hlen
    have get : ∀ (j : Nat) y, ((ys.drop off).take m)[j]? = some y → j < m ∧ ys[off + j]? = some y := by
      intro j y hy
      rw [List.getElem?_take] at hy
      split at hy
      · rename_i hj
        rw [List.getElem?_drop] at hy
        exact ⟨hj, hy⟩
      · cases hy
    refine ⟨.agg ((ys.drop off).take m).toArray, w, ?_, Below.refl _ _, .p (.agg _ _ (by rw [hlen2, hl]) (fun i c v h1 h2 => ?_) (fun v hv => hcs.one v (List.mem_of_mem_drop (List.mem_of_mem_take hv))))⟩
    · unfold execOp
      rw [ho]
      have := loadAt_many (P := P) (w := w) (t := t) (g := g) (o := off) (ys := (ys.drop off).take m) (ht w) (hm w) hlen2 (fun j y hy => (hcell (off + j) y (get j y hy).2).1)
      simp only [hv, Sem.run_bind, this]
      rfl
    · obtain ⟨hj, hy⟩ := get i v h2
      have h3 : b.xs[off + i]? = some (.p c) := by
        have h4 : ((b.xs.drop off).take m)[i]? = (cs.map AV.p)[i]? := by rw [hc]
        rw [List.getElem?_take, if_pos hj, List.getElem?_drop, List.getElem?_map, h1] at h4
        exact h4
      exact qO (hcs.each (off + i) (.p c) v h3 hy)
/-! ### Addresses -/
theorem a_fieldPt {s f k : Nat} {xs : List PV} (ho : o.op = .fieldAddr s x f) (hx : S.get x = .pt xs) (hf : ∀ g off w, (Instr.fieldAt s (.pointer (some ⟨g, off, none⟩)) f).run P w = .ok (.pointer (some ⟨g, off + k, none⟩)) w) (hd : o.dst = some d) (hn : d < n) : zX P n o S [] (.pt (xs.drop k)) none :=
  zX.pure hd hn fun S2 hg _ M w0 ρ a w hs => by
    have h1 := hs.rep x
    rw [hg x (by rw [ho]; simp [Op.operands]), hx] at h1
    obtain ⟨g, off, ys, hv, hl, hcell, hM, hgl⟩ := rep_pt h1
    refine ⟨.pointer (some ⟨g, off + k, none⟩), w, ?_, Below.refl _ _, .pt _ g (off + k) (ys.drop k) ⟨by simp [hl.len], fun i c v h1 h2 => ?_, fun v hv => hl.one v (List.mem_of_mem_drop hv)⟩ (fun j y hy => ?_) (fun j hj => by rw [Nat.add_assoc]; exact hM (k + j) (by rw [List.length_drop] at hj; omega)) hgl⟩
    · unfold execOp
      rw [ho]
      simp only [hv, Sem.run_bind, hf g off w]
      rfl
    · rw [List.getElem?_drop] at h1 h2
      exact hl.each _ c v h1 h2
    · rw [List.getElem?_drop] at hy
      rw [Nat.add_assoc]
      exact hcell _ y hy
theorem a_fieldR {s f k id off : Nat} (ho : o.op = .fieldAddr s x f) (hx : S.get x = .ptr id off) (hf : ∀ g off w, (Instr.fieldAt s (.pointer (some ⟨g, off, none⟩)) f).run P w = .ok (.pointer (some ⟨g, off + k, none⟩)) w) (hd : o.dst = some d) (hn : d < n) : zX P n o S [] (.ptr id (off + k)) none :=
  zX.pure hd hn fun S2 hg _ M w0 ρ a w hs => by
    have h1 := hs.rep x
    rw [hg x (by rw [ho]; simp [Op.operands]), hx] at h1
    obtain ⟨g, hgv, hv⟩ := wU h1
    refine ⟨.pointer (some ⟨g, off + k, none⟩), w, ?_, Below.refl _ _, .ptr id (off + k) g hgv⟩
    unfold execOp
    rw [ho]
    simp only [hv, Sem.run_bind, hf g off w]
    rfl
theorem a_nilR {id off : Nat} (ho : o.op = .nilCheck x) (hx : S.get x = .ptr id off) (hd : o.dst = some d) (hn : d < n) : zX P n o S [] (.ptr id off) none :=
  zX.pure hd hn fun S2 hg _ M w0 ρ a w hs => by
    have h1 := hs.rep x
    rw [hg x (by rw [ho]; simp [Op.operands]), hx] at h1
    have h2 := h1
    obtain ⟨g, hgv, hv⟩ := wU h1
    refine ⟨a.eval x, w, ?_, Below.refl _ _, h2⟩
    unfold execOp
    rw [ho]
    simp only [hv]
    rfl
/-! ### Slices -/
theorem flat_len {es : List PV} {sz : Nat} (h : ∀ e ∈ es, e.cells.length = sz) : (flat es).length = es.length * sz := by
  induction es with
  | nil => simp [flat]
  | cons e r ih =>
    have h1 := h e (by simp)
    have h2 := ih fun e he => h e (by simp [he])
    unfold flat at h2 ⊢
    rw [List.flatMap_cons, List.length_append, h1, h2, List.length_cons, Nat.add_mul]
    omega
theorem flat_get {es : List PV} {sz : Nat} (h : ∀ e ∈ es, e.cells.length = sz) {i : Nat} {c : PV} (hi : es[i]? = some c) : ((flat es).drop (i * sz)).take sz = c.cells := by
  induction es generalizing i with
  | nil => simp at hi
  | cons e r ih =>
    have h1 := h e (by simp)
    have h2 : ∀ e ∈ r, e.cells.length = sz := fun e he => h e (by simp [he])
    unfold flat at ih ⊢
    rw [List.flatMap_cons]
    cases i with
    | zero =>
      simp only [List.getElem?_cons_zero, Option.some.injEq] at hi
      subst hi
      rw [Nat.zero_mul, List.drop_zero, ← h1, List.take_left]
    | succ i =>
      simp only [List.getElem?_cons_succ] at hi
      have e1 : (i + 1) * sz = e.cells.length + i * sz := by rw [h1, Nat.add_mul]; omega
      rw [e1, ← List.drop_drop, List.drop_left]
      exact ih h2 hi
theorem rep_sl {M : Nat → Nat → Prop} {w : World} {es : List PV} {v : Value} (h : Rep M w (.sl es) v) : ((∃ b, v = .slice b 0 0) ∧ es = []) ∨
    ∃ g o cap ys, v = .slice (some ⟨g, o, none⟩) es.length cap ∧ RepL M w (flat es) ys ∧ (∀ (j : Nat) y, ys[j]? = some y → w.cell? ⟨g, o + j, none⟩ = some y) ∧ (∀ j, j < ys.length → ¬ M g (o + j)) ∧ g < w.heap.size ∧ es.length ≤ cap ∧ cap ≤ maxLen := by
  cases h with
  | nil => exact .inl ⟨⟨_, rfl⟩, rfl⟩
  | sl _ g o n cap ys hn hl hc h h1 hM hg hcap hm =>
    subst hn
    exact .inr ⟨g, o, cap, ys, rfl, ⟨hl, h, h1⟩, hc, hM, hg, hcap, hm⟩
theorem mulI (i sz : Nat) : ((i : Int)).toNat * sz = i * sz := by simp
/-- the address of an element -/
theorem a_indexS {ix : Operand} {e sz : Nat} {k : IntKind} {i : Nat} {es : List PV} {c : PV} (ho : o.op = .indexAddr t x ix) (hx : S.get x = .p (.sl es)) (hi : S.get ix = .p (.val (.int k i))) (ht : P.underlying t = some (.slice e)) (hsz : ∀ w, (sizeOf e).run P w = .ok sz w)
    (hes : ∀ e ∈ es, e.cells.length = sz) (hc : es[i]? = some c) (hd : o.dst = some d) (hn : d < n) : zX P n o S [] (.pt c.cells) none :=
  zX.pure hd hn fun S2 hg _ M w0 ρ a w hs => by
    have h1 := hs.rep x
    rw [hg x (by rw [ho]; simp [Op.operands]), hx] at h1
    have h2 := hs.val ((hg ix (by rw [ho]; simp [Op.operands])).trans hi)
    have hlt : i < es.length := (List.getElem?_eq_some_iff.1 hc).1
    rcases rep_sl (qO h1) with ⟨_, h⟩ | ⟨g, off, cap, ys, hv, hl, hcell, hM, hgl, _, _⟩
    · rw [h] at hlt; simp at hlt
    · have hfl := flat_len hes
      have hle : i * sz + sz ≤ (flat es).length := by
        rw [hfl]
        have : (i + 1) * sz ≤ es.length * sz := Nat.mul_le_mul_right _ hlt
        rw [Nat.add_mul] at this
        omega
      refine ⟨.pointer (some ⟨g, off + i * sz, none⟩), w, ?_, Below.refl _ _, .pt _ g (off + i * sz) ((ys.drop (i * sz)).take sz) ⟨?_, fun j c' v h1 h2 => ?_, fun v hv => hl.one v (List.mem_of_mem_drop (List.mem_of_mem_take hv))⟩ (fun j y hy => ?_) (fun j hj => by rw [Nat.add_assoc]; exact hM (i * sz + j) (by rw [List.length_take, List.length_drop] at hj; omega)) hgl⟩
      · unfold execOp
        rw [ho]
        simp only [hv, h2, Sem.run_bind]
        have : (Instr.indexAt t (.slice (some ⟨g, off, none⟩) es.length cap) (.int k i)).run P w = .ok (.pointer (some ⟨g, off + i * sz, none⟩)) w := by
          have he : P.elem t = e := by simp [Program.elem, ht]
          rw [run_indexAt_slice w t _ _ _ _ _ (by rw [he]; exact ht), if_pos ⟨by omega, by omega⟩, he, hsz w]
          show Result.ok _ w = _
          rw [add_lit, mulI]
        rw [this]
        rfl
      · rw [List.length_take, List.length_drop, hl.len]
        have := hes c (List.mem_of_getElem? hc)
        omega
      · rw [← flat_get hes hc] at h1
        rw [List.getElem?_take] at h1 h2
        split at h1
        · rename_i hj
          rw [if_pos hj] at h2
          rw [List.getElem?_drop] at h1 h2
          exact hl.each _ c' v h1 h2
        · cases h1
      · rw [List.getElem?_take] at hy
        split at hy
        · rw [List.getElem?_drop] at hy
          rw [Nat.add_assoc]
          exact hcell _ y hy
        · cases hy
theorem a_lenS {es : List PV} {t' : TypeId} (ho : o.op = .call { callee := .builtin .len, args := #[x], argTypes := #[t] }) (hx : S.get x = .p (.sl es)) (ht : P.underlying t = some (.slice t')) (hd : o.dst = some d) (hn : d < n) : zX P n o S [] (.p (.val (.int .i64 es.length))) none :=
  zX.pure hd hn fun S2 hg _ M w0 ρ a w hs => by
    have h1 := hs.rep x
    rw [hg x (by rw [ho]; simp [Op.operands, Call.operands]), hx] at h1
    have he : P.elem t = t' := by simp [Program.elem, ht]
    refine ⟨.int .i64 es.length, w, ?_, Below.refl _ _, .p (.val _)⟩
    have run : ∀ b m c, (Builtin.len_ #[t] o.type #[.slice b m c]).run P w = .ok (goInt m) w := fun b m c => run_len_slice w t o.type b m c (by rw [he]; exact ht)
    unfold execOp
    rw [ho]
    rcases rep_sl (qO h1) with ⟨⟨b, hv⟩, h⟩ | ⟨g, off, cap, ys, hv, _⟩
    · simp only [resolve, invoke, builtin, Sem.run_bind, Sem.run_pure, Result.andThen_ok, List.map_toArray, List.map_cons, List.map_nil, hv, run]
      rw [h]; rfl
    · simp only [resolve, invoke, builtin, Sem.run_bind, Sem.run_pure, Result.andThen_ok, List.map_toArray, List.map_cons, List.map_nil, hv, run]
      rfl
theorem a_lenO {id ty sz m : Nat} {xs : List AV} {t' : TypeId} (ho : o.op = .call { callee := .builtin .len, args := #[x], argTypes := #[t] }) (hx : S.get x = .own id) (hb : S.blk id = some (.row ty sz m xs)) (ht : P.underlying t = some (.slice t')) (hd : o.dst = some d) (hn : d < n) : zX P n o S [id] (.p (.val (.int .i64 m))) none :=
  zX.pure hd hn fun S2 hg hbl M w0 ρ a w hs => by
    have h1 := hs.rep x
    rw [hg x (by rw [ho]; simp [Op.operands, Call.operands]), hx] at h1
    have h2 := vD h1
    have he : P.elem t = t' := by simp [Program.elem, ht]
    obtain ⟨ys, hown, _⟩ := hs.blks id _ ((hbl id (by simp)).trans hb)
    refine ⟨.int .i64 m, w, ?_, Below.refl _ _, .p (.val _)⟩
    have run : ∀ b m c, (Builtin.len_ #[t] o.type #[.slice b m c]).run P w = .ok (goInt m) w := fun b m c => run_len_slice w t o.type b m c (by rw [he]; exact ht)
    unfold execOp
    rw [ho]
    rcases hown.2 with ⟨hv, h⟩ | ⟨g, cap, cur, hv, _⟩
    · simp only [resolve, invoke, builtin, Sem.run_bind, Sem.run_pure, Result.andThen_ok, List.map_toArray, List.map_cons, List.map_nil, h2, hv, run]
      rw [h]; rfl
    · simp only [resolve, invoke, builtin, Sem.run_bind, Sem.run_pure, Result.andThen_ok, List.map_toArray, List.map_cons, List.map_nil, h2, hv, run]
      rfl
/-- one of several results -/
theorem a_extract {avs : List AV} {i : Nat} {v : PV} (ho : o.op = .extract x i) (hx : S.get x = .tup avs) (hi : avs[i]? = some (.p v)) (hd : o.dst = some d) (hn : d < n) : zX P n o S [] (.p v) none :=
  zX.pure hd hn fun S2 hg _ M w0 ρ a w hs => by
    have h1 := hs.rep x
    rw [hg x (by rw [ho]; simp [Op.operands]), hx] at h1
    generalize hev : a.eval x = ev at h1
    cases h1 with
    | tup _ vs hl h =>
      have hlt : i < vs.length := by rw [hl]; exact (List.getElem?_eq_some_iff.1 hi).1
      refine ⟨vs[i], w, ?_, Below.refl _ _, h i _ _ hi (List.getElem?_eq_getElem hlt)⟩
      unfold execOp
      rw [ho]
      simp [hev, Instr.extract, hlt]
/-! ### New variables -/
/-- A value's own cells. -/
theorem rep_cells {M : Nat → Nat → Prop} {w : World} {x : PV} {v : Value} (h : Rep M w x v) (h1 : ∀ u, x = .val u → u.oneCell' = true) : RepL M w x.cells v.cells.toList := by
  have single : ∀ {x : PV} {v : Value}, Rep M w x v → v.oneCell' = true → RepL M w [x] [v] := fun {x v} h h1 => ⟨rfl, fun i c u hc hu => by
    cases i with
    | zero => simp at hc hu; subst hc; subst hu; exact h
    | succ i => simp at hc, fun u hu => by simp at hu; subst hu; exact h1⟩
  have cells1 : ∀ {v : Value}, v.oneCell' = true → v.cells.toList = [v] := fun {v} h => by cases v <;> first | rfl | simp [Value.oneCell'] at h
  cases h with
  | val v =>
    have := h1 v rfl
    rw [cells1 this]
    exact single (.val v) this
  | agg cs vs hl h hone => exact ⟨hl, h, hone⟩
  | nil => exact single .nil rfl
  | sl es g o m cap ys hm hl hc h hone hM hg hcap hmx => exact single (.sl es g o m cap ys hm hl hc h hone hM hg hcap hmx) rfl
  | ifc t x v h => exact single (.ifc t x v h) rfl
/-- A new variable with a value in it. -/
theorem a_box {v : PV} (ho : o.op = .box t x) (hx : S.get x = .p v) (h1 : ∀ u, v = .val u → u.oneCell' = true) (hd : o.dst = some d) (hn : d < n) : zX P n o S [] (.ptr d 0) (some (.box t (v.cells.map AV.p))) :=
  zX.made hd hn fun S2 hg _ M w0 ρ a w hs => by
    have hr := yR hs ((hg x (by rw [ho]; simp [Op.operands])).trans hx)
    have hc := rep_cells hr h1
    refine ⟨.pointer (some ⟨w.heap.size, 0, none⟩), w.alloc (.cells (a.eval x).cells t), ?_, World.grownBy_alloc w _ none, fun k hk => ?_, ?_, .inr ⟨rfl, _, rfl⟩⟩
    · unfold execOp
      rw [ho]
      simp [Instr.box, newVar, newRow, newObj, Sem.run, Result.andThen]
    · simp only [zU, Option.some.injEq] at hk; omega
    · refine ⟨w.heap.size, (a.eval x).cells.toList, rfl, Nat.zero_le _, by rw [heap_alloc_new], ⟨by simpa using hc.len, fun i c u h2 h3 => ?_, hc.one⟩⟩
      rw [List.getElem?_map, Option.map_eq_some_iff] at h2
      obtain ⟨y, hy, rfl⟩ := h2
      refine .p (((hc.each i y u hy h3).mono fun k c hk h => ?_).keep (.of_below _ ((Below.refl _ _).alloc (Nat.le_refl _) _)))
      rcases h with h | h
      · exact h
      · simp only [zU, Option.some.injEq] at h; omega
/-- A new variable, zero. -/
theorem a_alloc {z : Value} (ho : o.op = .alloc t) (hz : ∀ w, (zeroValue t).run P w = .ok z w) (h1 : ∀ u ∈ z.cells.toList, u.oneCell' = true) (hd : o.dst = some d) (hn : d < n) : zX P n o S [] (.ptr d 0) (some (.box t (z.cells.toList.map fun u => .p (.val u)))) :=
  zX.made hd hn fun S2 _ _ M w0 ρ a w hs => by
    refine ⟨.pointer (some ⟨w.heap.size, 0, none⟩), w.alloc (.cells z.cells t), ?_, World.grownBy_alloc w _ none, fun k hk => ?_, ?_, .inr ⟨rfl, _, rfl⟩⟩
    · unfold execOp
      rw [ho]
      simp [Instr.alloc, newVar, newRow, newObj, Sem.run, Result.andThen, hz w]
    · simp only [zU, Option.some.injEq] at hk; omega
    · refine ⟨w.heap.size, z.cells.toList, rfl, Nat.zero_le _, by rw [heap_alloc_new], ⟨by simp, fun i c u h2 h3 => ?_, h1⟩⟩
      rw [List.getElem?_map, Option.map_eq_some_iff] at h2
      obtain ⟨y, hy, rfl⟩ := h2
      rw [h3] at hy
      obtain rfl := Option.some.inj hy
      exact .p (.val _)
end
end Go.Proofs.YtmfbamiciieooaaGreatDoor
/- The rules of the walk over abstract frames: literals of structs and slices, stores, appends, strings. Generic over the program. -/
namespace Go.Proofs.YtmfbamiciieooaaGreatDoor
set_option maxRecDepth 100000
set_option maxHeartbeats 16000000
open Go Go.RowKit
/-! ### Cells -/
def Cl.av : Cl → AV
  | .p x => .p x
  | .o id => .own id
  | .c f ids => .clo f ids
def AV.xH : AV → List AV
  | .p x => x.cells.map .p
  | .ag cs => cs.map Cl.av
  | x => [x]
def AV.vU : AV → Bool
  | .p (.val v) => v.oneCell'
  | .p _ => true
  | .ptr _ _ => true
  | .pt _ => true
  | .clo _ _ => true
  | .glob _ => true
  | .ifp _ _ => true
  | .ag _ => true
  | _ => false
theorem repA_cells {M : Nat → Nat → Prop} {ρ : Nat → Value} {w : World} {av : AV} {v : Value} (h : yY M ρ w av v) (hk : av.vU = true) : yA M ρ w av.xH v.cells.toList := by
  have single : ∀ {x : AV} {v : Value}, yY M ρ w x v → v.oneCell' = true → v.cells.toList = [v] → yA M ρ w [x] v.cells.toList := fun {x v} h h1 e => by
    rw [e]
    exact ⟨rfl, fun i c u hc hu => by
      cases i with
      | zero => simp at hc hu; subst hc; subst hu; exact h
      | succ i => simp at hc, fun u hu => by simp at hu; subst hu; exact h1⟩
  cases h with
  | any => cases hk
  | p h =>
    have h1 := rep_cells h (fun u hu => by subst hu; exact hk)
    exact ⟨by simpa [AV.xH] using h1.len, fun i c u hc hu => by
      rw [AV.xH, List.getElem?_map, Option.map_eq_some_iff] at hc
      obtain ⟨y, hy, rfl⟩ := hc
      exact .p (h1.each i y u hy hu), h1.one⟩
  | own => cases hk
  | ptr id off g h => exact single (.ptr id off g h) rfl rfl
  | pt xs g o ys h hc hM hg => exact single (.pt xs g o ys h hc hM hg) rfl rfl
  | tup => cases hk
  | clo f ids vs hl h => exact single (.clo f ids vs hl h) rfl rfl
  | glob g => exact single (.glob g) rfl rfl
  | ifp t id g h => exact single (.ifp t id g h) rfl rfl
  | ag cs vs hl h h1 =>
    refine ⟨by simpa [AV.xH, Value.cells] using hl, fun i c u hc hu => ?_, fun u hu => h1 u (by simpa [Value.cells] using hu)⟩
    rw [AV.xH, List.getElem?_map, Option.map_eq_some_iff] at hc
    obtain ⟨c0, hc0, rfl⟩ := hc
    have h2 := h i c0 u hc0 (by simpa [Value.cells] using hu)
    cases c0 with
    | p x => exact .p h2
    | o id =>
      obtain rfl : u = ρ id := h2
      exact .own id
    | c f ids =>
      obtain ⟨us, rfl, h3, h4⟩ := h2
      exact .clo f ids us h3 h4
def splice {α : Type} (xs : List α) (off : Nat) (cs : List α) : List α := xs.take off ++ cs ++ xs.drop (off + cs.length)
theorem wG {α : Type} {xs cs : List α} {off : Nat} (h : off + cs.length ≤ xs.length) : (splice xs off cs).length = xs.length := by
  simp only [splice, List.length_append, List.length_take, List.length_drop]
  omega
theorem xV {α : Type} {xs cs : List α} {off : Nat} (h : off + cs.length ≤ xs.length) (i : Nat) : (splice xs off cs)[i]? = if i < off then xs[i]? else if i < off + cs.length then cs[i - off]? else xs[i]? := by
  unfold splice
  by_cases h1 : i < off
  · rw [if_pos h1, List.append_assoc, List.getElem?_append_left (by simp; omega), List.getElem?_take, if_pos h1]
  · rw [if_neg h1]
    by_cases h2 : i < off + cs.length
    · rw [if_pos h2, List.getElem?_append_left (by simp; omega), List.getElem?_append_right (by simp; omega)]
      congr 1
      simp
      omega
    · rw [if_neg h2, List.getElem?_append_right (by simp; omega), List.getElem?_drop]
      congr 1
      simp
      omega
theorem yA.splice {M : Nat → Nat → Prop} {ρ : Nat → Value} {w : World} {xs cs : List AV} {ys us : List Value} (h : yA M ρ w xs ys) (hc : yA M ρ w cs us) {off : Nat} (hle : off + cs.length ≤ xs.length) :
    yA M ρ w (splice xs off cs) (splice ys off us) := by
  have hle2 : off + us.length ≤ ys.length := by rw [hc.len, h.len]; exact hle
  refine ⟨by rw [wG hle, wG hle2, h.len], fun i c v h1 h2 => ?_, fun v hv => ?_⟩
  · rw [xV hle] at h1
    rw [xV hle2, hc.len] at h2
    split at h1
    · rename_i h3
      rw [if_pos h3] at h2
      exact h.each i c v h1 h2
    · rename_i h3
      rw [if_neg h3] at h2
      split at h1
      · rename_i h4
        rw [if_pos h4] at h2
        exact hc.each _ c v h1 h2
      · rename_i h4
        rw [if_neg h4] at h2
        exact h.each i c v h1 h2
  · simp only [Proofs.YtmfbamiciieooaaGreatDoor.splice, List.mem_append] at hv
    rcases hv with (hv | hv) | hv
    · exact h.one v (List.mem_of_mem_take hv)
    · exact hc.one v hv
    · exact h.one v (List.mem_of_mem_drop hv)
theorem foldl_set (off : Nat) : ∀ (l : List Value) (k : Nat) (cs : Array Value), off + k + l.length ≤ cs.size →
    (l.zipIdx k).foldl (fun cs p => cs.setIfInBounds (off + p.2) p.1) cs = (splice cs.toList (off + k) l).toArray
  | [], k, cs, h => by simp [splice]
  | v :: r, k, cs, h => by
    simp only [List.length_cons] at h
    rw [List.zipIdx_cons, List.foldl_cons, foldl_set off r (k + 1) _ (by simp; omega)]
    congr 1
    apply List.ext_getElem?
    intro i
    rw [xV (by simp; omega), xV (by simp; omega)]
    simp only [Array.toList_setIfInBounds, List.getElem?_set, List.length_cons, Array.length_toList]
    by_cases h1 : i < off + k
    · rw [if_pos (show i < off + (k + 1) by omega), if_neg (show ¬ off + k = i by omega), if_pos h1]
    · by_cases h2 : i = off + k
      · subst h2
        rw [if_pos (show off + k < off + (k + 1) by omega), if_pos rfl, if_pos (show off + k < cs.size by omega), if_neg (show ¬ off + k < off + k by omega), if_pos (show off + k < off + k + (r.length + 1) by omega)]
        simp
      · rw [if_neg (show ¬ i < off + (k + 1) by omega), if_neg h1]
        by_cases h3 : i < off + k + (r.length + 1)
        · rw [if_pos (show i < off + (k + 1) + r.length by omega), if_pos h3, show i - (off + k) = (i - (off + (k + 1))) + 1 by omega, List.getElem?_cons_succ]
        · rw [if_neg (show ¬ i < off + (k + 1) + r.length by omega), if_neg h3, if_neg (show ¬ off + k = i by omega)]
def fillA (place : Nat → Option (Nat × Nat)) (cells : List AV) : List (Nat × AV) → Option (List AV)
  | [] => some cells
  | (i, v) :: rest =>
    match place i with
    | none => none
    | some (off, size) => if v.xH.length = size ∧ off + v.xH.length ≤ cells.length then fillA place (splice cells off v.xH) rest else none
theorem fill_rep {M : Nat → Nat → Prop} {ρ : Nat → Value} {w : World} (place : Nat → Option (Nat × Nat)) (f : Operand → AV) (g : Operand → Value) : ∀ (l : List (Nat × Operand)) (xs zs : List AV) (ys : List Value),
    (∀ p ∈ l, yA M ρ w (f p.2).xH (g p.2).cells.toList) → fillA place xs (l.map fun p => (p.1, f p.2)) = some zs → yA M ρ w xs ys →
    ∃ us : List Value, Instr.fill place ys.toArray (l.map fun p => (p.1, g p.2)) = some us.toArray ∧ yA M ρ w zs us
  | [], xs, zs, ys, _, h, hx => by
    simp only [List.map_nil, fillA, Option.some.injEq] at h
    subst h
    exact ⟨ys, rfl, hx⟩
  | (i, x) :: r, xs, zs, ys, hl, h, hx => by
    simp only [List.map_cons, fillA] at h
    simp only [List.map_cons, Instr.fill]
    cases hp : place i with
    | none => rw [hp] at h; cases h
    | some q =>
      obtain ⟨off, size⟩ := q
      rw [hp] at h
      simp only at h ⊢
      have hc := hl (i, x) (by simp)
      simp only at hc
      split at h
      · rename_i h2
        have e1 : (g x).cells.size = (f x).xH.length := by have := hc.len; simpa using this
        rw [if_neg (by simp only [List.size_toArray]; rw [e1, hx.len]; simp; omega)]
        have e2 := foldl_set off (g x).cells.toList 0 ys.toArray (by simp only [Nat.add_zero, List.size_toArray, hx.len]; rw [hc.len]; omega)
        have e3 : ((g x).cells.zipIdx.foldl (fun cs (c, j) => cs.setIfInBounds (off + j) c) ys.toArray) = (splice ys off (g x).cells.toList).toArray := by
          rw [← Array.foldl_toList, Array.toList_zipIdx]
          exact e2
        rw [e3]
        exact fill_rep place f g r _ zs _ (fun p hp => hl p (by simp [hp])) h (hx.splice hc (by omega))
      · cases h
section
variable {P : Program} {n : Nat} {o : Oper} {S : AS} {d : Nat} {t : TypeId} {x y : Operand}
theorem zerosA {M : Nat → Nat → Prop} {ρ : Nat → Value} {w : World} {l : List Value} (h1 : ∀ u ∈ l, u.oneCell' = true) : yA M ρ w (l.map fun u => .p (.val u)) l :=
  ⟨by simp, fun i c u h2 h3 => by
    rw [List.getElem?_map, Option.map_eq_some_iff] at h2
    obtain ⟨y, hy, rfl⟩ := h2
    rw [h3] at hy
    obtain rfl := Option.some.inj hy
    exact .p (.val _), h1⟩
/-- the parts of a literal -/
theorem parts_ok {M : Nat → Nat → Prop} {ρ : Nat → Value} {w : World} {w0 : Home} {a : Act} {S S2 : AS} (hs : Sat M n w0 S2 ρ a w) {l : List (Nat × Operand)} (he : ∀ p ∈ l, S2.get p.2 = S.get p.2) (hk : l.all (fun p => (S.get p.2).vU) = true) :
    ∀ p ∈ l, yA (Mut M S2 ρ) ρ w (S.get p.2).xH (a.eval p.2).cells.toList := fun p hp => by
  have h1 := hs.rep p.2
  rw [he p hp] at h1
  exact repA_cells h1 (List.all_eq_true.1 hk p hp)
/-- A struct's literal. -/
theorem a_build {ps : Array (Nat × Operand)} {pl : List (Nat × Nat)} {z : List Value} {zs : List AV} {cs : List PV} (ho : o.op = .build t ps)
    (hb : ∀ (parts : List (Nat × Value)) w cells, Instr.fill (fun i => pl[i]?) z.toArray parts = some cells → (Instr.build t parts.toArray).run P w = .ok (.agg cells) w)
    (hz : ∀ u ∈ z, u.oneCell' = true) (hk : ps.toList.all (fun p => (S.get p.2).vU) = true)
    (hf : fillA (fun i => pl[i]?) (z.map fun u => .p (.val u)) (ps.toList.map fun p => (p.1, S.get p.2)) = some zs) (hp : zs = cs.map AV.p) (hd : o.dst = some d) (hn : d < n) : zX P n o S [] (.p (.agg cs)) none :=
  zX.pure hd hn fun S2 hg _ M w0 ρ a w hs => by
    have hargs : ∀ p ∈ ps.toList, S2.get p.2 = S.get p.2 := fun p hp => hg p.2 (by rw [ho]; simp only [Op.operands, List.mem_map]; exact ⟨p, hp, rfl⟩)
    obtain ⟨us, h1, h2⟩ := fill_rep (fun i => pl[i]?) S.get a.eval ps.toList _ zs z (parts_ok hs hargs hk) hf (zerosA hz)
    refine ⟨.agg us.toArray, w, ?_, Below.refl _ _, .p (.agg _ _ (by rw [h2.len, hp]; simp) (fun i c v h3 h4 => qO (h2.each i (.p c) v (by rw [hp, List.getElem?_map, h3]; rfl) h4)) h2.one)⟩
    unfold execOp
    rw [ho]
    have e : (ps.map fun (i, x) => (i, a.eval x)) = (ps.toList.map fun p => (p.1, a.eval p.2)).toArray := by apply Array.ext'; simp
    simp only [e, Sem.run_bind, hb _ w _ h1]
    rfl
/-- A slice's literal: a new row of the frame's own. -/
theorem a_buildSlice {ps : Array (Nat × Operand)} {len e sz : Nat} {z : List Value} {zs : List AV} (ho : o.op = .buildSlice t len ps)
    (hb : ∀ (parts : List (Nat × Value)) w cells, Instr.fill (fun i => some (i * sz, sz)) z.toArray parts = some cells → (Instr.buildSlice t len parts.toArray).run P w = .ok (.slice (some ⟨w.heap.size, 0, none⟩) len len) (w.alloc (.cells cells e)))
    (hl : len ≤ maxLen) (hz : ∀ u ∈ z, u.oneCell' = true) (hk : ps.toList.all (fun p => (S.get p.2).vU) = true)
    (hf : fillA (fun i => some (i * sz, sz)) (z.map fun u => .p (.val u)) (ps.toList.map fun p => (p.1, S.get p.2)) = some zs) (hlen : zs.length = len * sz) (hd : o.dst = some d) (hn : d < n) : zX P n o S [] (.own d) (some (.row e sz len zs)) :=
  zX.made hd hn fun S2 hg _ M w0 ρ a w hs => by
    have hargs : ∀ p ∈ ps.toList, S2.get p.2 = S.get p.2 := fun p hp => hg p.2 (by rw [ho]; simp only [Op.operands, List.mem_map]; exact ⟨p, hp, rfl⟩)
    obtain ⟨us, h1, h2⟩ := fill_rep (fun i => some (i * sz, sz)) S.get a.eval ps.toList _ zs z (parts_ok hs hargs hk) hf (zerosA hz)
    have hul : us.length = len * sz := by rw [h2.len, hlen]
    refine ⟨.slice (some ⟨w.heap.size, 0, none⟩) len len, w.alloc (.cells us.toArray e), ?_, World.grownBy_alloc w _ none, fun k hk => ?_, ⟨us, ⟨hul, .inr ⟨w.heap.size, len, us.toArray, rfl, Nat.zero_le _, by rw [heap_alloc_new], Nat.le_refl _, hl, by simpa using hul, by rw [← hul]; simp⟩⟩, ?_⟩, .inl rfl⟩
    · unfold execOp
      rw [ho]
      have e : (ps.map fun (i, x) => (i, a.eval x)) = (ps.toList.map fun p => (p.1, a.eval p.2)).toArray := by apply Array.ext'; simp
      simp only [e, Sem.run_bind, hb _ w _ h1]
      rfl
    · simp only [zU, Option.some.injEq] at hk; omega
    · refine (h2.mono fun k c hk h => ?_).keep (.of_below _ ((Below.refl _ _).alloc (Nat.le_refl _) _))
      rcases h with h | h
      · exact h
      · simp only [zU, Option.some.injEq] at h; omega
end
end Go.Proofs.YtmfbamiciieooaaGreatDoor
/- The rules of the walk over abstract frames: stores, appends, strings; and what may be said less of a frame. Generic over the program. -/
namespace Go.Proofs.YtmfbamiciieooaaGreatDoor
set_option maxRecDepth 100000
set_option maxHeartbeats 16000000
open Go Go.RowKit
section
variable {M : Nat → Nat → Prop} {n : Nat} {w0 : Home} {w w' : World} {S : AS} {ρ : Nat → Value} {a : Act}
theorem Sat.retype (h : Sat M n w0 S ρ a w) {d : Nat} {x : AV} (hx : yY (Mut M S ρ) ρ w x (a.tmps.getD d undef)) : Sat M n w0 (S.put d x) ρ a w := by
  refine ⟨h.below, h.out, h.tab, h.size, h.defers, fun i => ?_, fun id b hb => h.blks id b hb, h.mine, h.fix, h.free, h.dist⟩
  rw [AS.tmp_put]
  by_cases hi : d = i
  · subst hi; rw [if_pos rfl]; exact hx
  · rw [if_neg hi]; exact h.tmps i
/-- without block id -/
def dropL (l : List (Nat × Blk)) (id : Nat) : List (Nat × Blk) := l.filter fun p => p.1 != id
theorem look_dropL (l : List (Nat × Blk)) (id j : Nat) : look (dropL l id) j = if id = j then none else look l j := by
  induction l with
  | nil => simp [dropL, look]
  | cons p r ih =>
    obtain ⟨k, b⟩ := p
    unfold dropL at ih ⊢
    rw [List.filter_cons]
    by_cases hk : k = id
    · subst hk
      rw [if_neg (by simp), ih]
      by_cases hj : k = j
      · rw [if_pos hj, if_pos hj]
      · rw [if_neg hj, if_neg hj]; simp only [look]; rw [if_neg hj]
    · rw [if_pos (by simp [hk])]
      simp only [look, ih]
      by_cases hj : id = j
      · subst hj; rw [if_pos rfl, if_neg hk]; rw [if_pos rfl]
      · rw [if_neg hj]; rw [if_neg hj]
def AS.drop (S : AS) (id : Nat) : AS := { (S.kill id) with s := dropL (S.kill id).s id }
theorem AS.xR (S : AS) (id j : Nat) : (S.drop id).blk j = if id = j then none else (S.blk j).map (Blk.kill id) := by
  simp only [AS.blk, AS.drop, look_dropL]
  by_cases hj : id = j
  · rw [if_pos hj, if_pos hj]
  · rw [if_neg hj, if_neg hj]; exact S.blk_kill id j
theorem upd_self (ρ : Nat → Value) (id : Nat) : upd ρ id (ρ id) = ρ := by
  funext j
  simp only [upd]
  split
  · rename_i h; rw [h]
  · rfl
theorem Mut.drop {id k c : Nat} (h : Mut M (S.drop id) ρ k c) : Mut M S ρ k c := by
  rcases h with h | ⟨j, b, hb, hk, ht⟩
  · exact .inl h
  · rw [AS.xR] at hb
    split at hb
    · cases hb
    · obtain ⟨b1, h1, rfl⟩ := Option.map_eq_some_iff.1 hb
      exact .inr ⟨j, b1, h1, hk, (Blk.turns_kill b1 id c).1 ht⟩
theorem Sat.drop (h : Sat M n w0 S ρ a w) (id : Nat) : Sat M n w0 (S.drop id) ρ a w := by
  have hk : ∀ {x : AV} {v : Value}, yY (Mut M S ρ) ρ w x v → yY (Mut M (S.drop id) ρ) ρ w (x.kill id) v := fun {x v} hx => by
    have := hx.killed id (ρ id)
    rw [upd_self] at this
    exact this.mono fun k _ _ hk => Mut.drop hk
  refine ⟨h.below, h.out, h.tab, h.size, h.defers, fun i => ?_, fun j b hb => ?_, fun j b k hb hk => ?_, h.fix, h.free, fun i j bi bj k hi hj => ?_⟩
  · have e : (S.drop id).tmp i = (S.tmp i).kill id := S.tmp_kill id i
    rw [e]
    exact hk (h.tmps i)
  · rw [AS.xR] at hb
    split at hb
    · cases hb
    · obtain ⟨b1, h1, rfl⟩ := Option.map_eq_some_iff.1 hb
      have := h.blks j b1 h1
      cases b1 with
      | row t size m xs =>
        obtain ⟨ys, ho, hc⟩ := this
        have h2 := hc.killed id (ρ id)
        rw [upd_self] at h2
        exact ⟨ys, ho, h2.mono fun k _ _ hk => Mut.drop hk⟩
      | prow t size m xs =>
        obtain ⟨ys, ho, hc⟩ := this
        have h2 := vB xs id ▸ hc.killed id (ρ id)
        rw [upd_self] at h2
        exact ⟨ys, ho, h2.mono fun k _ _ hk => Mut.drop hk⟩
      | box t xs =>
        obtain ⟨g, ys, hv, hg, hh, hc⟩ := this
        have h2 := hc.killed id (ρ id)
        rw [upd_self] at h2
        exact ⟨g, ys, hv, hg, hh, h2.mono fun k _ _ hk => Mut.drop hk⟩
      | lent t size m xs =>
        obtain ⟨ys, ho, hc⟩ := this
        have h2 := vB xs id ▸ hc.killed id (ρ id)
        rw [upd_self] at h2
        exact ⟨ys, ho, h2.mono fun k _ _ hk => Mut.drop hk⟩
      | obj mp Q => exact this
  · rw [AS.xR] at hb
    split at hb
    · cases hb
    · obtain ⟨b1, h1, _⟩ := Option.map_eq_some_iff.1 hb
      exact h.mine j b1 k h1 hk
  · rw [AS.xR] at hi hj
    split at hi
    · cases hi
    · split at hj
      · cases hj
      · obtain ⟨b1, h1, _⟩ := Option.map_eq_some_iff.1 hi
        obtain ⟨b2, h2, _⟩ := Option.map_eq_some_iff.1 hj
        exact h.dist i j b1 b2 k h1 h2
theorem flat_ones {es : List PV} (h : ∀ e ∈ es, e.cells = [e]) : flat es = es := by
  induction es with
  | nil => rfl
  | cons e r ih =>
    unfold flat at ih ⊢
    rw [List.flatMap_cons, h e (by simp), ih fun e he => h e (by simp [he])]
    rfl
/-- An own row of pure cells reads as a slice that nobody turns. -/
theorem Sat.frozen (h : Sat M n w0 S ρ a w) {id ty sz m : Nat} {es : List PV} (hb : S.blk id = some (.row ty sz m ((flat es).map AV.p))) (hm : es.length = m) : Rep (Mut M (S.drop id) ρ) w (.sl es) (ρ id) := by
  obtain ⟨ys, ho, hc⟩ := h.blks id _ hb
  rcases ho.2 with ⟨hv, hm0⟩ | ⟨g, cap, cur, hv, hg, hh, hn, hcm, hs, ht⟩
  · rw [hv]
    have : es = [] := List.eq_nil_of_length_eq_zero (by omega)
    subst this
    exact .nil
  · rw [hv]
    have hgm : zU (ρ id) = some g := by rw [hv]; rfl
    refine .sl es g 0 m cap ys hm.symm (by simpa using hc.len) (fun j y hy => ?_) (fun j c y hcj hy => ?_) hc.one ?_ (Array.getElem?_eq_some_iff.1 hh).1 hn hcm
    · rw [Nat.zero_add, cell_of_row w g j cur ty (0, 0) hh]
      rw [← ht, List.getElem?_take] at hy
      split at hy
      · simpa using hy
      · cases hy
    · exact (qO (hc.each j (.p c) y (by rw [List.getElem?_map, hcj]; rfl) hy)).mono fun k _ _ hk => Mut.drop hk
    · rintro i _ (hk | ⟨j, b, hbj, hkj, _⟩)
      · exact h.out g _ hk (h.mine id _ g hb hgm)
      · rw [AS.xR] at hbj
        split at hbj
        · cases hbj
        · rename_i hne
          obtain ⟨b1, h1, _⟩ := Option.map_eq_some_iff.1 hbj
          exact hne (h.dist id j _ b1 g hb h1 hgm hkj)
/-- Slot d holds the row of block id: from now on it is a slice that nobody turns. -/
theorem sub_freeze {d id ty sz m : Nat} {es : List PV} (hd : S.tmp d = .own id) (hb : S.blk id = some (.row ty sz m ((flat es).map AV.p))) (hm : es.length = m) : Sub S ((S.drop id).put d (.p (.sl es))) :=
  fun M n w0 ρ a w hs => by
    refine ⟨ρ, (hs.drop id).retype (.p ?_)⟩
    have h1 := hs.tmps d
    rw [hd] at h1
    rw [vD h1]
    exact hs.frozen hb hm
/-- Slot d holds nil: from now on it is the frame's own row, empty. -/
theorem sub_adopt {d id ty sz : Nat} (hid : id < 1000) (hd : S.tmp d = .p (.val (.slice none 0 0))) : Sub S ((S.create id (.row ty sz 0 [])).put d (.own id)) :=
  fun M n w0 ρ a w hs => by
    have h1 := hs.change id (.row ty sz 0 []) (.slice none 0 0) none (w0.lo id hid) (w' := w) ⟨rfl, rfl, rfl, Nat.le_refl _, fun _ _ _ => rfl⟩ (fun k hk => by cases hk) (fun k hk => by cases hk) ⟨[], World.ownsRow_nil w _ ty sz, ⟨rfl, fun i c v hc => by simp at hc, fun v hv => by simp at hv⟩⟩
    refine ⟨upd ρ id (.slice none 0 0), h1.retype ?_⟩
    have h2 : a.tmps.getD d undef = .slice none 0 0 := hs.bool hd
    rw [h2]
    have := yY.own (M := Mut M (S.create id (.row ty sz 0 [])) (upd ρ id (.slice none 0 0))) (ρ := upd ρ id (.slice none 0 0)) (w := w) id
    simpa [upd] using this
/-- Slot d holds what reads so. -/
theorem sub_nil {d : Nat} (hd : S.tmp d = .p (.val (.slice none 0 0))) : Sub S (S.put d (.p (.sl []))) :=
  fun M n w0 ρ a w hs => by
    refine ⟨ρ, hs.retype ?_⟩
    have h2 : a.tmps.getD d undef = .slice none 0 0 := hs.bool hd
    rw [h2]
    exact .p .nil
end
/-! ### Stores -/
def Blk.setXs (xs : List AV) : Blk → Blk
  | .row t size m _ => .row t size m xs
  | .prow t size m _ => .row t size m xs
  | .box t _ => .box t xs
  | b => b
def Blk.lentB : Blk → Bool
  | .lent _ _ _ _ => true
  | .obj _ _ => true
  | _ => false
theorem Blk.turns_of {b : Blk} (h : b.lentB = false) (c : Nat) : b.turns c := by
  cases b with
  | lent t s n xs => cases h
  | _ => trivial
section
variable {P : Program} {n : Nat} {o : Oper} {S : AS} {d : Nat} {t : TypeId} {x y : Operand}
theorem s_store {id off m : Nat} {b : Blk} {av : AV} (ho : o.op = .store t x y) (hx : S.get x = .ptr id off) (hb : S.blk id = some b) (hy : S.get y = av) (hk : av.vU = true) (hm : ∀ w, (sizeOf t).run P w = .ok m w)
    (hlen : av.xH.length = m) (hle : off + m ≤ b.xs.length) (hlb : b.lentB = false) (hd : o.dst = none) : Step P n o S { S with s := putL S.s id (b.setXs (splice b.xs off av.xH)) } := by
  intro M w0 ρ a w K Q hs hK
  have hfr := Blk.turns_of hlb
  have h1 := hs.rep x
  rw [hx] at h1
  obtain ⟨g, hgv, hv⟩ := wU h1
  have h2 := hs.rep y
  rw [hy] at h2
  have hcy := repA_cells h2 hk
  have hB := hs.blks id b hb
  have key : ∃ cur ty, w.heap[g]? = some (.cells cur ty (0, 0)) ∧ off + (a.eval y).cells.toList.length ≤ cur.size ∧
      (∀ w' : World, w.grownBy w' (some g) → w'.heap[g]? = some (.cells (splice cur.toList off (a.eval y).cells.toList).toArray ty (0, 0)) → xG (Mut M S ρ) 0 ρ w' (ρ id) (b.setXs (splice b.xs off av.xH))) := by
    have keeps : ∀ {w' : World}, w.grownBy w' (some g) → Keeps (Mut M S ρ) w w' := fun {w'} hg => ⟨hg.size, fun k c hk hnm => World.cell?_of_block (w := w) (hg.block k hk (fun e => hnm (.inr ⟨id, b, hb, by rw [hgv]; exact e.symm, hfr c⟩)))⟩
    cases b with
    | lent ty size k xs => cases hlb
    | obj mp Q => cases hlb
    | box ty xs =>
      obtain ⟨g', ys, e, hg, hh, hc⟩ := hB
      have eg : g' = g := by rw [e] at hgv; simpa [zU] using hgv
      subst eg
      refine ⟨ys.toArray, ty, hh, ?_, fun w' hgr hh' => ⟨g', splice ys off (a.eval y).cells.toList, e, hg, by simpa using hh', (hc.splice hcy (by rw [hlen]; exact hle)).keep (keeps hgr)⟩⟩
      have e1 := hcy.len
      have e2 := hc.len
      have e3 : off + m ≤ xs.length := hle
      simp only [List.size_toArray]
      omega
    | row ty size k xs =>
      obtain ⟨ys, ⟨hl, ho2⟩, hc⟩ := hB
      have e1 := hcy.len
      have e2 := hc.len
      have e3 : off + m ≤ xs.length := hle
      rcases ho2 with ⟨e, _⟩ | ⟨g', cap, cur, e, hbg, hh, hkc, hcm, hcs, htk⟩
      · rw [e] at hgv; simp [zU] at hgv
      · have eg : g' = g := by rw [e] at hgv; simpa [zU] using hgv
        subst eg
        have hsz : k * size ≤ cur.size := by rw [hcs]; exact Nat.mul_le_mul_right _ hkc
        refine ⟨cur, ty, hh, by omega, fun w' hgr hh' => ⟨splice ys off (a.eval y).cells.toList, ⟨by rw [wG (by omega)]; exact hl, .inr ⟨g', cap, _, e, hbg, hh', hkc, hcm, ?_, ?_⟩⟩, (hc.splice hcy (by rw [hlen]; exact hle)).keep (keeps hgr)⟩⟩
        · simp only [List.size_toArray]
          rw [wG (by simp only [Array.length_toList] at *; omega)]
          simpa using hcs
        · apply List.ext_getElem?
          intro i
          rw [List.getElem?_take]
          rw [xV (by simp only [Array.length_toList] at *; omega), xV (by omega)]
          have hi : ∀ (i : Nat), i < k * size → cur.toList[i]? = ys[i]? := fun i hi => by rw [← htk, List.getElem?_take, if_pos hi]
          by_cases h3 : i < k * size
          · rw [if_pos h3]
            split
            · exact hi i h3
            · split
              · rfl
              · exact hi i h3
          · rw [if_neg h3]
            rw [if_neg (by omega), if_neg (by omega)]
            exact (List.getElem?_eq_none (by omega)).symm
    | prow ty size k xs =>
      obtain ⟨ys, ⟨hl, ho2⟩, hc⟩ := hB
      have e1 := hcy.len
      have e2 := hc.len
      have e3 : off + m ≤ (xs.map AV.p).length := hle
      rcases ho2 with ⟨e, _⟩ | ⟨g', cap, cur, e, hbg, hh, hkc, hcm, hcs, htk⟩
      · rw [e] at hgv; simp [zU] at hgv
      · have eg : g' = g := by rw [e] at hgv; simpa [zU] using hgv
        subst eg
        have hsz : k * size ≤ cur.size := by rw [hcs]; exact Nat.mul_le_mul_right _ hkc
        refine ⟨cur, ty, hh, by omega, fun w' hgr hh' => ⟨splice ys off (a.eval y).cells.toList, ⟨by rw [wG (by omega)]; exact hl, .inr ⟨g', cap, _, e, hbg, hh', hkc, hcm, ?_, ?_⟩⟩, (hc.splice hcy (by rw [hlen]; exact hle)).keep (keeps hgr)⟩⟩
        · simp only [List.size_toArray]
          rw [wG (by simp only [Array.length_toList] at *; omega)]
          simpa using hcs
        · apply List.ext_getElem?
          intro i
          rw [List.getElem?_take]
          rw [xV (by simp only [Array.length_toList] at *; omega), xV (by omega)]
          have hi : ∀ (i : Nat), i < k * size → cur.toList[i]? = ys[i]? := fun i hi => by rw [← htk, List.getElem?_take, if_pos hi]
          by_cases h3 : i < k * size
          · rw [if_pos h3]
            split
            · exact hi i h3
            · split
              · rfl
              · exact hi i h3
          · rw [if_neg h3]
            rw [if_neg (by omega), if_neg (by omega)]
            exact (List.getElem?_eq_none (by omega)).symm
  obtain ⟨cur, ty, hh, hfit, hfin⟩ := key
  have hst := run_storeCells_at P g off ty (a.eval y).cells.toList 0 cur w hh (by simpa using hfit) hcy.one
  have hsz : (a.eval y).cells.size = m := by have := hcy.len; rw [hlen] at this; simpa using this
  have hrun : (execOp a.eval o).run P w = .ok .skip (w.setRow g (splice cur.toList off (a.eval y).cells.toList).toArray) := by
    unfold execOp
    rw [ho]
    simp only [hv, Instr.storeAt, Instr.sureAddr, storeVar, Sem.run_bind, Sem.run_pure, Result.andThen_ok, hm, hsz, ne_eq, not_true_eq_false, if_false]
    simp only [Nat.add_zero] at hst
    rw [hst]
    rfl
  have hgr : w.grownBy (w.setRow g (splice cur.toList off (a.eval y).cells.toList).toArray) (some g) := ⟨rfl, rfl, rfl, by simp, fun k _ hk => setRow_other w g k _ (fun e => hk (by rw [e]))⟩
  unfold Oper.wp
  rw [hrun]
  show K (a.put o.dst undef) _
  rw [hd]
  exact hK ρ a _ (hs.turn hb hgv hgr hfr (hfin _ hgr (setRow_heap w g cur _ ty _ hh)))
end
end Go.Proofs.YtmfbamiciieooaaGreatDoor
/- The rules of the walk over abstract frames: appends, strings, equality of structs. Generic over the program. -/
namespace Go.Proofs.YtmfbamiciieooaaGreatDoor
set_option maxRecDepth 100000
set_option maxHeartbeats 16000000
open Go Go.RowKit
theorem own_slice {w : World} {base : Nat} {e : TypeId} {size : Nat} {v : Value} {n : Nat} {xs : List Value} (h : w.ownsRow base e size v n xs) : zU v = v.ownBlock := by
  rcases h.2 with ⟨rfl, _⟩ | ⟨g, cap, cur, rfl, _⟩ <;> rfl
section
variable {M : Nat → Nat → Prop} {n : Nat} {w0 : Home} {w w' : World} {S : AS} {ρ : Nat → Value} {a : Act}
/-- a row's slice is no variable handed over -/
theorem row_free (hs : Sat M n w0 S ρ a w) {id e sz m : Nat} {ys : List Value} (h : w.ownsRow 0 e sz (ρ id) m ys) : w0.r id = none := by
  cases hr : w0.r id with
  | none => rfl
  | some v =>
    obtain ⟨mp, g, hg⟩ := w0.ptr id v hr
    have := hs.fix id v hr
    rw [this, hg] at h
    cases mp <;> (rcases h.2 with ⟨e1, _⟩ | ⟨_, _, _, e1, _⟩ <;> cases e1)
theorem Sat.appended (hs : Sat M n w0 S ρ a w) {id e sz m m' : Nat} {xs news : List AV} {ys us : List Value} {v' : Value} (hb : S.blk id = some (.row e sz m xs)) (hown0 : w.ownsRow 0 e sz (ρ id) m ys) (hys : yA (Mut M S ρ) ρ w xs ys)
    (hus : yA (Mut M S ρ) ρ w news us) (hg : w.grownBy w' (ρ id).ownBlock) (hown : w'.ownsRow 0 e sz v' m' (ys ++ us)) (hob : v'.ownBlock = (ρ id).ownBlock ∨ v'.ownBlock = some w.heap.size) :
    Sat M n w0 (S.create id (.row e sz m' (xs ++ news))) (upd ρ id v') a w' := by
  have e1 := own_slice hown0
  have e2 := own_slice hown
  have hmut : ∀ k c, k < w.heap.size → (Mut M S ρ k c ∨ (zU v' = some k ∧ (Blk.row e sz m' (xs ++ news)).turns c)) → Mut M S ρ k c := fun k c hk h => by
    rcases h with h | h
    · exact h
    · have h := h.1
      rw [e2] at h
      rcases hob with h3 | h3
      · exact .inr ⟨id, _, hb, by rw [e1, ← h3]; exact h, trivial⟩
      · rw [h3] at h; simp at h; omega
  have hks : Keeps (fun k c => Mut M S ρ k c ∨ (zU v' = some k ∧ (Blk.row e sz m' (xs ++ news)).turns c)) w w' := ⟨hg.size, fun k c hk hnm => World.cell?_of_block (w := w) (hg.block k hk (fun h => hnm (.inl (.inr ⟨id, _, hb, by rw [e1]; exact h.symm, trivial⟩))))⟩
  refine hs.change id _ v' (ρ id).ownBlock (row_free hs hown0) hg (fun k hk => ⟨_, hb, by rw [e1]; exact hk, fun _ _ => trivial, fun _ h => (h trivial).elim⟩) (fun k hk => ?_) ⟨ys ++ us, hown, ?_⟩
  · rw [e2] at hk
    rcases hob with h3 | h3
    · exact .inr (by rw [← h3]; exact hk)
    · rw [h3] at hk; simp at hk; exact .inl (by omega)
  · have ha : yA (Mut M S ρ) ρ w (xs ++ news) (ys ++ us) := ⟨by simp [hys.len, hus.len], fun i c v h1 h2 => by
      by_cases hi : i < xs.length
      · rw [List.getElem?_append_left hi] at h1
        rw [List.getElem?_append_left (by rw [hys.len]; exact hi)] at h2
        exact hys.each i c v h1 h2
      · rw [List.getElem?_append_right (by omega)] at h1
        rw [List.getElem?_append_right (by rw [hys.len]; omega), hys.len] at h2
        exact hus.each _ c v h1 h2, fun v hv => by
      rcases List.mem_append.1 hv with hv | hv
      · exact hys.one v hv
      · exact hus.one v hv⟩
    exact (ha.mono hmut).keep hks
end
section
variable {P : Program} {n : Nat} {o : Oper} {S : AS} {d : Nat} {t : TypeId} {x y : Operand}
/-- The elements that a slice reads as, as an append takes them. -/
def NewsOf (M : Nat → Nat → Prop) (ρ : Nat → Value) (w : World) (v : Value) (k sz : Nat) (news : List AV) : Prop :=
  ∃ us, yA M ρ w news us ∧ ((v = .slice none 0 0 ∧ k = 0 ∧ us = []) ∨ ∃ a c, v = .slice (some a) k c ∧ us.length = k * sz ∧ ∀ (j : Nat) u, us[j]? = some u → w.cell? (a.add j) = some u)
theorem news_p {M : Nat → Nat → Prop} {ρ : Nat → Value} {w : World} {v : Value} {es : List PV} {sz : Nat} (h : Rep M w (.sl es) v) (hes : ∀ e ∈ es, e.cells.length = sz) : NewsOf M ρ w v es.length sz ((flat es).map AV.p) := by
  rcases rep_sl h with ⟨⟨b, rfl⟩, rfl⟩ | ⟨g, off, cap, ys, rfl, hl, hcell, _⟩
  · cases b with
    | none => exact ⟨[], ⟨rfl, fun i c v h => by simp [flat] at h, fun v h => by simp at h⟩, .inl ⟨rfl, rfl, rfl⟩⟩
    | some a => exact ⟨[], ⟨rfl, fun i c v h => by simp [flat] at h, fun v h => by simp at h⟩, .inr ⟨a, 0, rfl, by simp, fun j u hu => by simp at hu⟩⟩
  · refine ⟨ys, ⟨by simp [hl.len], fun i c v h1 h2 => ?_, hl.one⟩, .inr ⟨⟨g, off, none⟩, cap, rfl, by rw [hl.len, flat_len hes], fun j u hu => by rw [add_lit]; exact hcell j u hu⟩⟩
    rw [List.getElem?_map, Option.map_eq_some_iff] at h1
    obtain ⟨y, hy, rfl⟩ := h1
    exact .p (hl.each i y v hy h2)
theorem news_own {M : Nat → Nat → Prop} {ρ : Nat → Value} {w : World} {B : Nat} {v : Value} {ty sz k : Nat} {xs : List AV} (h : xG M B ρ w v (.row ty sz k xs)) : NewsOf M ρ w v k sz xs := by
  obtain ⟨ys, ho, hc⟩ := h
  rcases ho.2 with ⟨rfl, rfl⟩ | ⟨g, cap, cur, rfl, _⟩
  · have : ys = [] := List.eq_nil_of_length_eq_zero (by simpa using ho.1)
    subst this
    exact ⟨[], hc, .inl ⟨rfl, rfl, rfl⟩⟩
  · exact ⟨ys, hc, .inr ⟨_, cap, rfl, ho.1, fun j u hu => ho.cells (g := g) rfl j u hu⟩⟩
/-- append: what is laid behind reads as news. -/
theorem s_append {id e sz by_ m k : Nat} {z : Value} {xs news : List AV} (ho : o.op = .call { callee := .builtin .append, args := #[x, y], argTypes := #[t, t] }) (hx : S.get x = .own id) (hb : S.blk id = some (.row e sz m xs))
    (hy : ∀ (M : Nat → Nat → Prop) (w0 : Home) (ρ : Nat → Value) (a : Act) (w : World), Sat M n w0 S ρ a w → NewsOf (Mut M S ρ) ρ w (a.eval y) k sz news)
    (ht : P.underlying t = some (.slice e)) (hi : (P.info? e).map (fun i => (i.zero, i.size, i.bytes)) = some (some z, sz, by_)) (hzs : z.cells.size = sz) (hsz : 0 < sz) (h63 : m + k ≤ maxLen) (hby : (m + k) * by_ ≤ 140737488355328) (hd : o.dst = some d) (hn : d < n) :
    Step P n o S ((S.create id (.row e sz (m + k) (xs ++ news))).put d (.own id)) := by
  intro M w0 ρ a w K Q hs hK
  obtain ⟨i, hi1, hi2⟩ := Option.map_eq_some_iff.1 hi
  simp only [Prod.mk.injEq] at hi2
  obtain ⟨hz, hisz, hiby⟩ := hi2
  have h1 := hs.rep x
  rw [hx] at h1
  have hv := vD h1
  obtain ⟨ys, hown, hys⟩ := hs.blks id _ hb
  obtain ⟨us, hus, hnews⟩ := hy M w0 ρ a w hs
  have fin : ∀ v' w', (Builtin.append_ #[t, t] o.type #[ρ id, a.eval y]).run P w = .ok v' w' → Sat M n w0 (S.create id (.row e sz (m + k) (xs ++ news))) (upd ρ id v') a w' → o.wp P a w K Q := by
    intro v' w' hr hs'
    unfold Oper.wp execOp
    simp only [ho, resolve, invoke, builtin, Sem.run_bind, Sem.run_pure, Result.andThen_ok, List.map_toArray, List.map_cons, List.map_nil, hv, hr]
    show K (a.put o.dst v') w'
    rw [hd]
    refine hK _ _ w' (hs'.put hn ?_)
    have := yY.own (M := Mut M (S.create id (.row e sz (m + k) (xs ++ news))) (upd ρ id v')) (ρ := upd ρ id v') (w := w') id
    simpa [upd] using this
  rcases hnews with ⟨hyv, hk0, hu0⟩ | ⟨ad, c, hyv, hul, hcell⟩
  · subst hk0
    subst hu0
    rw [hyv] at fin
    exact fin _ w (run_append_owned_none (P := P) w 0 t o.type e i sz ht hi1 (ρ id) m ys hown) (hs.appended hb hown hys hus ⟨rfl, rfl, rfl, Nat.le_refl _, fun _ _ _ => rfl⟩ (by simpa using hown) (.inl rfl))
  · obtain ⟨v', w', hr, hown', hg, _, hob⟩ := run_append_own_at (P := P) w 0 t o.type e i z sz by_ ht hi1 hz hisz hiby hzs hsz (ρ id) m ys hown ad k c us hul hcell hus.one h63 hby (Nat.zero_le _)
    rw [hyv] at fin
    exact fin v' w' hr (hs.appended hb hown hys hus hg hown' hob)
/-- .. to an own row, what is pure -/
theorem s_appendP {id e sz by_ m : Nat} {z : Value} {xs : List AV} {es : List PV} (ho : o.op = .call { callee := .builtin .append, args := #[x, y], argTypes := #[t, t] }) (hx : S.get x = .own id) (hb : S.blk id = some (.row e sz m xs)) (hy : S.get y = .p (.sl es)) (hes : ∀ e ∈ es, e.cells.length = sz)
    (ht : P.underlying t = some (.slice e)) (hi : (P.info? e).map (fun i => (i.zero, i.size, i.bytes)) = some (some z, sz, by_)) (hzs : z.cells.size = sz) (hsz : 0 < sz) (h63 : m + es.length ≤ maxLen) (hby : (m + es.length) * by_ ≤ 140737488355328) (hd : o.dst = some d) (hn : d < n) :
    Step P n o S ((S.create id (.row e sz (m + es.length) (xs ++ (flat es).map AV.p))).put d (.own id)) :=
  s_append ho hx hb (fun _ _ _ _ _ hs => news_p (yR hs hy) hes) ht hi hzs hsz h63 hby hd hn
/-- .. another own row -/
theorem s_appendO {id id2 e ty2 sz by_ m k : Nat} {z : Value} {xs news : List AV} (ho : o.op = .call { callee := .builtin .append, args := #[x, y], argTypes := #[t, t] }) (hx : S.get x = .own id) (hb : S.blk id = some (.row e sz m xs)) (hy : S.get y = .own id2) (hb2 : S.blk id2 = some (.row ty2 sz k news))
    (ht : P.underlying t = some (.slice e)) (hi : (P.info? e).map (fun i => (i.zero, i.size, i.bytes)) = some (some z, sz, by_)) (hzs : z.cells.size = sz) (hsz : 0 < sz) (h63 : m + k ≤ maxLen) (hby : (m + k) * by_ ≤ 140737488355328) (hd : o.dst = some d) (hn : d < n) :
    Step P n o S ((S.create id (.row e sz (m + k) (xs ++ news))).put d (.own id)) :=
  s_append ho hx hb (fun _ _ _ _ _ hs => by
    have h1 := hs.rep y
    rw [hy] at h1
    rw [vD h1]
    exact news_own (hs.blks id2 _ hb2)) ht hi hzs hsz h63 hby hd hn
/-! ### Strings -/
def byts (bs : List Int) : List PV := bs.map fun b => .val (.int .u8 b)
theorem byts_flat (bs : List Int) : flat (byts bs) = byts bs := flat_ones fun e he => by
  simp only [byts, List.mem_map] at he
  obtain ⟨b, _, rfl⟩ := he
  rfl
theorem rep_val {M : Nat → Nat → Prop} {w : World} {u v : Value} (h : Rep M w (.val u) v) : v = u := by
  cases h
  rfl
theorem rep_agg {M : Nat → Nat → Prop} {w : World} {cs : List PV} {v : Value} (h : Rep M w (.agg cs) v) : ∃ vs : List Value, v = .agg vs.toArray ∧ vs.length = cs.length ∧ ∀ (i : Nat) c u, cs[i]? = some c → vs[i]? = some u → Rep M w c u := by
  cases h with
  | agg _ vs hl h _ => exact ⟨vs, rfl, hl, h⟩
theorem rep_byts {M : Nat → Nat → Prop} {w : World} {bs : List Int} {ys : List Value} (h : RepL M w (byts bs) ys) : ys = bs.map (Value.int .u8) := by
  apply List.ext_getElem?
  intro i
  rw [List.getElem?_map]
  cases hb : bs[i]? with
  | none =>
    have := h.len
    simp only [byts, List.length_map] at this
    exact List.getElem?_eq_none (by rw [this]; exact List.getElem?_eq_none_iff.1 hb)
  | some b =>
    have hi : i < ys.length := by rw [h.len, byts, List.length_map]; exact (List.getElem?_eq_some_iff.1 hb).1
    rw [List.getElem?_eq_getElem hi]
    rw [rep_val (h.each i (.val (.int .u8 b)) _ (by rw [byts, List.getElem?_map, hb]; rfl) (List.getElem?_eq_getElem hi))]
    rfl
theorem a_str {src dst e : TypeId} {bs : List Int} (ho : o.op = .convert src dst x) (hx : S.get x = .p (.sl (byts bs))) (hs : P.underlying src = some (.slice e)) (he : P.underlying e = some (.int .u8)) (ht : P.underlying dst = some .string) (hd : o.dst = some d) (hn : d < n) :
    zX P n o S [] (.p (.val (.string (strOfNums bs)))) none :=
  zX.pure hd hn fun S2 hg _ M w0 ρ a w hsat => by
    have hr := yR hsat ((hg x (by rw [ho]; simp [Op.operands])).trans hx)
    refine ⟨_, w, ?_, Below.refl _ _, .p (.val _)⟩
    unfold execOp
    rw [ho]
    rcases rep_sl hr with ⟨⟨b, hv⟩, h0⟩ | ⟨g, off, cap, ys, hv, hl, hcell, _⟩
    · have hb0 : bs = [] := by simpa [byts] using h0
      subst hb0
      cases b with
      | none =>
        simp only [hv, Sem.run_bind, run_convert_bytes_nil w src e hs he 0 0 dst ht]
        rfl
      | some b =>
        have hrun := run_convert_bytes_back (P := P) w src dst e b 0 [] hs he ht (fun j hj => by cases hj)
        have hrun : (convert src dst (.slice (some b) 0 0)).run P w = .ok (.string (strOfNums [])) w := hrun
        simp only [hv, Sem.run_bind, hrun]
        rfl
    · rw [byts_flat] at hl
      have hys := rep_byts hl
      have hrun := run_convert_bytes_arg (P := P) w src e hs he g off bs.length cap bs rfl (fun i hi => by
        refine hcell i _ ?_
        rw [hys, List.getElem?_map, List.getElem?_eq_getElem hi]
        simp [List.getD, hi]) dst ht
      have e1 : (byts bs).length = bs.length := by simp [byts]
      rw [e1] at hv
      simp only [hv, Sem.run_bind, hrun]
      rfl
theorem a_eqlS {xt yt : TypeId} {s u : ByteArray} (ho : o.op = .binOp .eql xt x y yt) (hx : S.get x = .p (.val (.string s))) (hy : S.get y = .p (.val (.string u))) (hd : o.dst = some d) (hn : d < n) : zX P n o S [] (.p (.val (.bool (s.toList == u.toList)))) none :=
  wH ho hx hy hd hn fun w => by simp [eqGuard, binOp, Op.stringOp]
/-! ### Structs that hold numbers: equality -/
def qB : List PV → Option (List (IntKind × Int))
  | [] => some []
  | .val (.int k i) :: r => match qB r with
    | some l => some ((k, i) :: l)
    | none => none
  | _ => none
def mkInts (l : List (IntKind × Int)) : List Value := l.map fun p => .int p.1 p.2
def flatInts (P : Program) : List Field → Nat → Bool
  | [], _ => true
  | f :: fs, i => f.name != "_" && f.offset == i && (match P.underlying f.type with | some (.int _) => true | _ => false) && flatInts P fs (i + 1)
theorem intsOf_vals {M : Nat → Nat → Prop} {w : World} : ∀ {cs : List PV} {l : List (IntKind × Int)} {vs : List Value}, qB cs = some l → vs.length = cs.length → (∀ (i : Nat) c v, cs[i]? = some c → vs[i]? = some v → Rep M w c v) → vs = mkInts l
  | [], l, vs, h, hl, _ => by
    simp only [qB, Option.some.injEq] at h
    subst h
    exact List.eq_nil_of_length_eq_zero hl
  | .val v :: r, l, vs, h, hl, he => by
    cases v with
    | int k i =>
      obtain ⟨l2, h2, rfl⟩ : ∃ l2, qB r = some l2 ∧ (k, i) :: l2 = l := by
        simp only [qB] at h
        cases hr : qB r with
        | none => rw [hr] at h; cases h
        | some l2 => rw [hr] at h; exact ⟨l2, rfl, Option.some.inj h⟩
      cases vs with
      | nil => simp at hl
      | cons v vs =>
        have h0 := rep_val (he 0 _ v rfl rfl)
        have h1 := intsOf_vals h2 (vs := vs) (by simpa using hl) (fun i c v h3 h4 => he (i + 1) c v (by simpa using h3) (by simpa using h4))
        subst h0
        subst h1
        rfl
    | _ => simp [qB] at h
  | .sl _ :: r, l, vs, h, _, _ => by simp [qB] at h
  | .agg _ :: r, l, vs, h, _, _ => by simp [qB] at h
theorem isAgg_int {w : World} {t : TypeId} {k : IntKind} (h : P.underlying t = some (.int k)) : (isAgg t).run P w = .ok false w := by
  simp [isAgg, run_underlying h]
theorem eqFields_ints (w : World) (dp : Nat) : ∀ (fs : List Field) (i : Nat) (ks : List IntKind) (ps qs : List (IntKind × Int)), flatInts P fs i = true → ps.map Prod.fst = ks → qs.map Prod.fst = ks → ks.length = i + fs.length →
    (Op.eqFields (dp + 1) (mkInts ps).toArray (mkInts qs).toArray fs).run P w = .ok (decide (ps.drop i = qs.drop i)) w
  | [], i, ks, ps, qs, _, ha, hb, hl => by
    have e1 : ps.length = i := by rw [← ha] at hl; simpa using hl
    have e2 : qs.length = i := by rw [← hb] at hl; simpa using hl
    simp [Op.eqFields, List.drop_of_length_le (Nat.le_of_eq e1), List.drop_of_length_le (Nat.le_of_eq e2)]
  | f :: fs, i, ks, ps, qs, h, ha, hb, hl => by
    simp only [flatInts, Bool.and_eq_true, bne_iff_ne, ne_eq, beq_iff_eq] at h
    obtain ⟨⟨⟨h1, h2⟩, h3⟩, h4⟩ := h
    have e1 : ps.length = i + (fs.length + 1) := by rw [← ha] at hl; simpa using hl
    have e2 : qs.length = i + (fs.length + 1) := by rw [← hb] at hl; simpa using hl
    have hk : ∃ k, P.underlying f.type = some (.int k) := by
      cases hu : P.underlying f.type with
      | none => rw [hu] at h3; cases h3
      | some d => rw [hu] at h3; cases d <;> first | exact ⟨_, rfl⟩ | cases h3
    obtain ⟨k', hk'⟩ := hk
    have hia : i < ps.length := by omega
    have hib : i < qs.length := by omega
    have hkk : ps[i].1 = qs[i].1 := by
      have := congrArg (fun l => l[i]?) (ha.trans hb.symm)
      simp only [List.getElem?_map, List.getElem?_eq_getElem hia, List.getElem?_eq_getElem hib, Option.map_some, Option.some.injEq] at this
      exact this
    have part_int : ∀ (l : List (IntKind × Int)) (hi : i < l.length), (part f.type (mkInts l).toArray f.offset).run P w = .ok (.int l[i].1 l[i].2) w := fun l hi => by
      unfold part
      simp only [Sem.run_bind, isAgg_int hk', Result.andThen_ok, h2]
      simp [mkInts, hi]
    unfold Op.eqFields
    rw [if_pos h1]
    simp only [Sem.run_bind, part_int ps hia, part_int qs hib, Result.andThen_ok]
    rw [hkk, run_equalIn_int w dp f.type _ k' _ _ hk']
    simp only [Result.andThen_ok, Sem.run_ite, Sem.run_pure]
    have ih := eqFields_ints w dp fs (i + 1) ks ps qs h4 ha hb (by simp at hl; omega)
    have hx : (ps.drop i = qs.drop i) ↔ (ps[i] = qs[i] ∧ ps.drop (i + 1) = qs.drop (i + 1)) := by rw [List.drop_eq_getElem_cons hia, List.drop_eq_getElem_cons hib, List.cons.injEq]
    by_cases he : ps[i].2 = qs[i].2
    · have hee : ps[i] = qs[i] := Prod.ext hkk he
      rw [if_neg (by simp [he]), ih, decide_eq_decide.2 (hx.trans ⟨fun h => h.2, fun h => ⟨hee, h⟩⟩)]
    · rw [if_pos (by simp [he]), decide_eq_false (fun h => he (by rw [(hx.1 h).1]))]
theorem a_eqlT {xt yt : TypeId} {ps qs : List PV} {la lb : List (IntKind × Int)} (ho : o.op = .binOp .eql xt x y yt) (hx : S.get x = .p (.agg ps)) (hy : S.get y = .p (.agg qs)) (ha : qB ps = some la) (hb : qB qs = some lb) (hab : la.map Prod.fst = lb.map Prod.fst)
    (hlen : la.length = (P.fieldsOf xt).toList.length) (h1 : P.underlying xt = some (.struct (P.fieldsOf xt))) (h2 : P.stoodInHeld xt = false) (h3 : P.eqGuardType P.depth xt = false) (h4 : flatInts P (P.fieldsOf xt).toList 0 = true) (hd : o.dst = some d) (hn : d < n) :
    zX P n o S [] (.p (.val (.bool (decide (la = lb))))) none :=
  zX.pure hd hn fun S2 hg _ M w0 ρ a w hs => by
    have r1 := yR hs ((hg x (by rw [ho]; simp [Op.operands])).trans hx)
    have r2 := yR hs ((hg y (by rw [ho]; simp [Op.operands])).trans hy)
    obtain ⟨vs, hva, hl, he⟩ := rep_agg r1
    obtain ⟨us, hvb, hl2, he2⟩ := rep_agg r2
    have h5 := intsOf_vals ha hl he
    have h6 := intsOf_vals hb hl2 he2
    subst h5
    subst h6
    refine ⟨_, w, ?_, Below.refl _ _, .p (.val _)⟩
    unfold execOp
    rw [ho]
    simp only [hva, hvb, Sem.run_bind, run_eqGuard_agg w _ xt x y _ _ h3, Result.andThen_ok, run_eql_struct, run_equalIn_agg w 9999 xt _ _ h1 h2]
    rw [eqFields_ints w 9998 _ 0 _ la lb h4 rfl hab.symm (by simpa using hlen)]
    rfl
end
end Go.Proofs.YtmfbamiciieooaaGreatDoor
/- The closed facts that the walk over abstract frames asks of a program, as classes; and the rules that lean on them. Generic over the program. -/
namespace Go.Proofs.YtmfbamiciieooaaGreatDoor
set_option maxRecDepth 100000
set_option maxHeartbeats 16000000
open Go Go.RowKit
class TyA (P : Program) (t : Nat) (agg : outParam Bool) (m : outParam Nat) : Prop where
  ag : ∀ w, (isAgg t).run P w = .ok agg w
  sz : ∀ w, (sizeOf t).run P w = .ok m w
class Und (P : Program) (t : Nat) (d : outParam TypeDesc) : Prop where
  h : P.underlying t = some d
class FieldA (P : Program) (s f : Nat) (k : outParam Nat) : Prop where
  h : ∀ g off w, (Instr.fieldAt s (.pointer (some ⟨g, off, none⟩)) f).run P w = .ok (.pointer (some ⟨g, off + k, none⟩)) w
class ZeroA (P : Program) (t : Nat) (z : outParam Value) : Prop where
  h : ∀ w, (zeroValue t).run P w = .ok z w
class InfoA (P : Program) (t : Nat) (z : outParam Value) (size bytes : outParam Nat) : Prop where
  h : (P.info? t).map (fun i => (i.zero, i.size, i.bytes)) = some (some z, size, bytes)
class HasFn (P : Program) (f : Nat) : Prop where
  h : ∀ (vs : Array Value) w, (callFunc f vs).run P w = .ok (.enter f vs) w
section
variable {P : Program} {n : Nat} {o : Oper} {S : AS} {d : Nat} {t : Nat} {x : Operand}
theorem w_load1 {xs : List PV} {c : PV} {m : Nat} [h : TyA P t false m] (ho : o.op = .load t x) (hx : S.get x = .pt xs) (hc : xs[0]? = some c) (hd : o.dst = some d) (hn : d < n) : zX P n o S [] (.p c) none := a_load1 ho hx hc h.ag hd hn
theorem w_loadN {xs : List PV} {m : Nat} [h : TyA P t true m] (ho : o.op = .load t x) (hx : S.get x = .pt xs) (hle : m ≤ xs.length) (hd : o.dst = some d) (hn : d < n) : zX P n o S [] (.p (.agg (xs.take m))) none := a_loadN ho hx h.ag h.sz hle hd hn
theorem yX {id off : Nat} {b : Blk} {c : PV} {m : Nat} [h : TyA P t false m] (ho : o.op = .load t x) (hx : S.get x = .ptr id off) (hb : S.blk id = some b) (hc : b.xs[off]? = some (.p c)) (hd : o.dst = some d) (hn : d < n) : zX P n o S [id] (.p c) none := a_loadR1 ho hx hb hc h.ag hd hn
theorem w_loadO {id off : Nat} {b : Blk} {c : Nat} {m : Nat} [h : TyA P t false m] (ho : o.op = .load t x) (hx : S.get x = .ptr id off) (hb : S.blk id = some b) (hc : b.xs[off]? = some (.own c)) (hd : o.dst = some d) (hn : d < n) : zX P n o S [id] (.own c) none := a_loadR1 ho hx hb hc h.ag hd hn
theorem w_loadP {id off : Nat} {b : Blk} {c c2 : Nat} {m : Nat} [h : TyA P t false m] (ho : o.op = .load t x) (hx : S.get x = .ptr id off) (hb : S.blk id = some b) (hc : b.xs[off]? = some (.ptr c c2)) (hd : o.dst = some d) (hn : d < n) : zX P n o S [id] (.ptr c c2) none := a_loadR1 ho hx hb hc h.ag hd hn
/-- the cells of a list, all of them pure -/
def pures : List AV → Option (List PV)
  | [] => some []
  | .p x :: r => match pures r with
    | some l => some (x :: l)
    | none => none
  | _ => none
theorem qC : ∀ {l : List AV} {cs : List PV}, pures l = some cs → l = cs.map AV.p
  | [], cs, h => by simp only [pures, Option.some.injEq] at h; subst h; rfl
  | .p x :: r, cs, h => by
    simp only [pures] at h
    cases hr : pures r with
    | none => rw [hr] at h; cases h
    | some l =>
      rw [hr] at h
      obtain rfl := Option.some.inj h
      rw [qC hr]; rfl
  | .any :: r, cs, h => by simp [pures] at h
  | .own _ :: r, cs, h => by simp [pures] at h
  | .ptr _ _ :: r, cs, h => by simp [pures] at h
  | .pt _ :: r, cs, h => by simp [pures] at h
  | .tup _ :: r, cs, h => by simp [pures] at h
theorem yM {id off m : Nat} {b : Blk} {cs : List PV} [h : TyA P t true m] (ho : o.op = .load t x) (hx : S.get x = .ptr id off) (hb : S.blk id = some b) (hc : pures ((b.xs.drop off).take m) = some cs) (hl : cs.length = m) (hd : o.dst = some d) (hn : d < n) : zX P n o S [id] (.p (.agg cs)) none :=
  a_loadRN ho hx hb (qC hc) hl h.ag h.sz hd hn
theorem w_fieldPt {s f k : Nat} {xs : List PV} [h : FieldA P s f k] (ho : o.op = .fieldAddr s x f) (hx : S.get x = .pt xs) (hd : o.dst = some d) (hn : d < n) : zX P n o S [] (.pt (xs.drop k)) none := a_fieldPt ho hx h.h hd hn
theorem yN {s f k id off : Nat} [h : FieldA P s f k] (ho : o.op = .fieldAddr s x f) (hx : S.get x = .ptr id off) (hd : o.dst = some d) (hn : d < n) : zX P n o S [] (.ptr id (off + k)) none := a_fieldR ho hx h.h hd hn
theorem w_indexS {ix : Operand} {e sz i : Nat} {k : IntKind} {agg : Bool} {es : List PV} {c : PV} [ht : Und P t (.slice e)] [he : TyA P e agg sz] (ho : o.op = .indexAddr t x ix) (hx : S.get x = .p (.sl es)) (hi : S.get ix = .p (.val (.int k i)))
    (hes : ∀ e ∈ es, e.cells.length = sz) (hc : es[i]? = some c) (hd : o.dst = some d) (hn : d < n) : zX P n o S [] (.pt c.cells) none := a_indexS ho hx hi ht.h he.sz hes hc hd hn
theorem w_lenS {es : List PV} {t' : Nat} [ht : Und P t (.slice t')] (ho : o.op = .call { callee := .builtin .len, args := #[x], argTypes := #[t] }) (hx : S.get x = .p (.sl es)) (hd : o.dst = some d) (hn : d < n) : zX P n o S [] (.p (.val (.int .i64 es.length))) none := a_lenS ho hx ht.h hd hn
theorem w_lenO {id ty sz m t' : Nat} {xs : List AV} [ht : Und P t (.slice t')] (ho : o.op = .call { callee := .builtin .len, args := #[x], argTypes := #[t] }) (hx : S.get x = .own id) (hb : S.blk id = some (.row ty sz m xs)) (hd : o.dst = some d) (hn : d < n) : zX P n o S [id] (.p (.val (.int .i64 m))) none := a_lenO ho hx hb ht.h hd hn
theorem w_boxA {cs : List PV} (ho : o.op = .box t x) (hx : S.get x = .p (.agg cs)) (hd : o.dst = some d) (hn : d < n) : zX P n o S [] (.ptr d 0) (some (.box t (cs.map AV.p))) := a_box ho hx (fun u h => by cases h) hd hn
theorem w_boxV {v : Value} (ho : o.op = .box t x) (hx : S.get x = .p (.val v)) (h1 : v.oneCell' = true) (hd : o.dst = some d) (hn : d < n) : zX P n o S [] (.ptr d 0) (some (.box t [.p (.val v)])) := a_box ho hx (fun u h => by cases h; exact h1) hd hn
theorem w_boxS {es : List PV} (ho : o.op = .box t x) (hx : S.get x = .p (.sl es)) (hd : o.dst = some d) (hn : d < n) : zX P n o S [] (.ptr d 0) (some (.box t [.p (.sl es)])) := a_box ho hx (fun u h => by cases h) hd hn
theorem w_alloc {z : Value} [hz : ZeroA P t z] (ho : o.op = .alloc t) (h1 : ∀ u ∈ z.cells.toList, u.oneCell' = true) (hd : o.dst = some d) (hn : d < n) : zX P n o S [] (.ptr d 0) (some (.box t (z.cells.toList.map fun u => .p (.val u)))) := a_alloc ho hz.h h1 hd hn
theorem w_conv {src dst : Nat} {k k2 : IntKind} {a r : Int} {ds : TypeDesc} [hs : Und P src ds] [ht : Und P dst (.int k2)] (ho : o.op = .convert src dst x) (hx : S.get x = .p (.val (.int k a))) (hr : k2.wrap a = r) (hd : o.dst = some d) (hn : d < n) : zX P n o S [] (.p (.val (.int k2 r))) none :=
  a_conv ho hx (by rw [hs.h]; rfl) ht.h hr hd hn
theorem wrap_in {k : IntKind} (x : Int) (h : k.min ≤ x ∧ x ≤ k.max) : k.wrap x = x := by
  obtain ⟨h1, h2⟩ := h
  cases k <;> simp only [IntKind.min, IntKind.max, IntKind.signed, IntKind.bits, IntKind.wrap] at * <;> simp at * <;> omega
theorem wrap_i64 (x : Int) (h : -9223372036854775808 ≤ x ∧ x ≤ 9223372036854775807) : IntKind.i64.wrap x = x := wrap_in x h
theorem wrap_i32 (x : Int) (h : -2147483648 ≤ x ∧ x ≤ 2147483647) : IntKind.i32.wrap x = x := wrap_in x h
theorem wrap_u64 (x : Int) (h : 0 ≤ x ∧ x ≤ 18446744073709551615) : IntKind.u64.wrap x = x := wrap_in x h
theorem wrap_u32 (x : Int) (h : 0 ≤ x ∧ x ≤ 4294967295) : IntKind.u32.wrap x = x := wrap_in x h
theorem wrap_u16 (x : Int) (h : 0 ≤ x ∧ x ≤ 65535) : IntKind.u16.wrap x = x := wrap_in x h
theorem wrap_u8 (x : Int) (h : 0 ≤ x ∧ x ≤ 255) : IntKind.u8.wrap x = x := wrap_in x h
theorem zL {f : Nat} {args : Array Operand} {ts : Array TypeId} {xs : List PV} {r : PV} [hc : HasFn P f] (hf : Fn P f xs (.p r)) (ho : o.op = .call { callee := .value (.func f), args := args, argTypes := ts })
    (hx : args.toList.map S.get = xs.map AV.p) (hd : o.dst = some d) (hn : d < n) : zX P n o S [] (.p r) none := a_call ho hc.h hx hf hd hn
theorem yS {f : Nat} {args : Array Operand} {ts : Array TypeId} {xs : List PV} {l : List PV} [hc : HasFn P f] (hf : Fn P f xs (.tup l)) (ho : o.op = .call { callee := .value (.func f), args := args, argTypes := ts })
    (hx : args.toList.map S.get = xs.map AV.p) (hd : o.dst = some d) (hn : d < n) : zX P n o S [] (.tup (l.map AV.p)) none := a_callTup ho hc.h hx hf hd hn
variable {ops : Array Oper} {rest : List Oper} {K : Exit → AS → Prop}
theorem zY.gY {j t : Nat} {want b : Bool} {bs : List Nat} {av : AV} (hg : o.guard = some (j, want)) (ht : (ops[j]?).bind (·.dst) = some t) (htn : t < n) (hb : S.tmp t = .p (.val (.bool b))) (hbw : b = want) (hd : o.dst = some d) (hdn : d < n)
    (h : zX P n o S bs av none) (hr : zY P n ops rest (S.put d av) K) : zY P n ops (o :: rest) S K :=
  zY.gy hg ht htn (hbw ▸ hb) hd hdn h hr
theorem zY.gnT {j t : Nat} {b : Bool} (hg : o.guard = some (j, true)) (ht : (ops[j]?).bind (·.dst) = some t) (htn : t < n) (hb : S.tmp t = .p (.val (.bool b))) (hbw : b = false) (hd : o.dst = some d) (hdn : d < n)
    (hr : zY P n ops rest (S.put d wN) K) : zY P n ops (o :: rest) S K := zY.gn hg ht htn hb hbw hd hdn hr
theorem zY.gnF {j t : Nat} {b : Bool} (hg : o.guard = some (j, false)) (ht : (ops[j]?).bind (·.dst) = some t) (htn : t < n) (hb : S.tmp t = .p (.val (.bool b))) (hbw : b = true) (hd : o.dst = some d) (hdn : d < n)
    (hr : zY P n ops rest (S.put d wN) K) : zY P n ops (o :: rest) S K := zY.gn hg ht htn hb hbw hd hdn hr
theorem zY.split {j t : Nat} {want b : Bool} (_hg : o.guard = some (j, want)) (_ht : (ops[j]?).bind (·.dst) = some t) (_hb : S.tmp t = .p (.val (.bool b)))
    (h1 : b = true → zY P n ops (o :: rest) S K) (h2 : b = false → zY P n ops (o :: rest) S K) : zY P n ops (o :: rest) S K := by
  cases b
  · exact h2 rfl
  · exact h1 rfl
theorem zZ.yF {c : Operand} {x y : Code} {K : Exit → AS → Prop} {b : Bool} (hc : S.get c = .p (.val (.bool b))) (hb : b = true) (ht : zZ P n x S K) : zZ P n (.cond c x y) S K :=
  zZ.cond hc (fun _ => ht) (fun h => by rw [hb] at h; cases h)
theorem zZ.yH {c : Operand} {x y : Code} {K : Exit → AS → Prop} {b : Bool} (hc : S.get c = .p (.val (.bool b))) (hb : b = false) (ht : zZ P n y S K) : zZ P n (.cond c x y) S K :=
  zZ.cond hc (fun h => by rw [hb] at h; cases h) (fun _ => ht)
theorem w_pickY {c x y : Operand} {v : PV} {b : Bool} (ho : o.op = .pick c x y) (hc : S.get c = .p (.val (.bool b))) (hb : b = true) (hx : S.get x = .p v) (hd : o.dst = some d) (hn : d < n) : zX P n o S [] (.p v) none := a_pickY ho (hb ▸ hc) hx hd hn
theorem w_pickN {c x y : Operand} {v : PV} {b : Bool} (ho : o.op = .pick c x y) (hc : S.get c = .p (.val (.bool b))) (hb : b = false) (hx : S.get y = .p v) (hd : o.dst = some d) (hn : d < n) : zX P n o S [] (.p v) none := a_pickN ho (hb ▸ hc) hx hd hn
theorem gives1 {fn : Func} {S : AS} {t : Nat} {x y : PV} (hr : fn.results = #[.tmp t]) (ht : S.tmp t = .p x) (he : x = y) : Gives fn S (.p y) := .inl ⟨t, x, hr, ht, by rw [he]⟩
theorem givesT {fn : Func} {S : AS} {ts : List Nat} {l : List PV} (hr : fn.results = (ts.map ResultVar.tmp).toArray) (hl : 2 ≤ ts.length) (ht : ts.map S.tmp = l.map AV.p) : Gives fn S (.tup l) := .inr (.inl ⟨ts, l, hr, hl, ht, rfl⟩)
end
/-! ### Regions that draw their order, in the form that the walk takes -/
inductive AC (P : Program) (n : Nat) (l : List Oper) : AS → List Oper → List AI → AS → List Oper → Prop
  | done (S : AS) (os : List Oper) : AC P n l S os [] S os
  | step {S S' : AS} {o : Oper} {os tl : List Oper} {x : AI} {xs : List AI} (hg : GStep P n l S o x) (h : AC P n l (S.out o.dst x.av x.nb) os xs S' tl) : AC P n l S (o :: os) (x :: xs) S' tl
theorem AC.chain {P : Program} {n : Nat} {l : List Oper} {S S' : AS} {os tl : List Oper} {xs : List AI} (h : AC P n l S os xs S' tl) : AChain P n l S os xs ∧ runA S os xs = S' ∧ os.drop xs.length = tl := by
  induction h with
  | done S os => cases os <;> exact ⟨trivial, rfl, rfl⟩
  | step hg _ ih => exact ⟨⟨hg, ih.1⟩, ih.2.1, ih.2.2⟩
section
variable {P : Program} {n : Nat} {S S' : AS} {l : List Oper}
theorem zZ.draw2 {id : Nat} {K : Exit → AS → Prop} {xs : List AI} {tl : List Oper} (hm : P.follows .mixedOrders = true) (h : AC P n l S l xs S' tl) (hsch : schedB l xs.length (xs.map (·.bs)) = true) (hmade : madeB l xs S = true)
    (ht : zD P n K S' tl) : zZ P n (.region id l.toArray true) S K := by
  obtain ⟨h1, h2, h3⟩ := h.chain
  exact zZ.draw xs hm hsch hmade h1 (by rw [h2, h3]; exact ht)
variable {o : Oper} {os tl : List Oper} {xs : List AI} {d : Nat}
theorem zD.v {K : Exit → AS → Prop} {bs : List Nat} {av : AV} (hg : o.guard = none) (hd : o.dst = some d) (ha : zX P n o S bs av none) (h : zD P n K (S.put d av) os) : zD P n K S (o :: os) :=
  ⟨hg, Step.t (S1 := S.put d av) (by have := ha.step; rw [hd] at this; exact this) h⟩
theorem zD.w {K : Exit → AS → Prop} {S1 : AS} (hg : o.guard = none) (ha : Step P n o S S1) (h : zD P n K S1 os) : zD P n K S (o :: os) := ⟨hg, ha.t h⟩
theorem zD.nil {K : Exit → AS → Prop} (h : K .normal S) : zD P n K S [] := h
theorem zY.w {ops : Array Oper} {K : Exit → AS → Prop} {S1 : AS} (hg : o.guard = none) (ha : Step P n o S S1) (h : zY P n ops os S1 K) : zY P n ops (o :: os) S K := zY.cons hg ha h
end
end Go.Proofs.YtmfbamiciieooaaGreatDoor
