/- Abstract values for the walk: what a Go value reads as, and a frame of them. Generic over the program. -/
import Derived.Test.YtjokcnajopfjhaaLib
namespace Go.Proofs.Ytjokcnajopfjhaa
open Go Go.RowKit

/-- What a value reads as, in memory that nobody turns: a value as it is; a slice with its elements; a value of several cells. -/
inductive PV where
  | val (v : Value)
  | sl (es : List PV)
  | agg (cs : List PV)

def PV.cells : PV → List PV
  | .agg cs => cs
  | x => [x]
def flat (es : List PV) : List PV := es.flatMap PV.cells

/-- M: blocks that may be turned. -/
inductive Rep (M : Nat → Prop) (w : World) : PV → Value → Prop
  | val (v : Value) : Rep M w (.val v) v
  | agg (cs : List PV) (vs : List Value) (hl : vs.length = cs.length) (h : ∀ (i : Nat) c v, cs[i]? = some c → vs[i]? = some v → Rep M w c v) (h1 : ∀ v ∈ vs, v.oneCell' = true) : Rep M w (.agg cs) (.agg vs.toArray)
  | nil : Rep M w (.sl []) (.slice none 0 0)
  | sl (es : List PV) (g o n cap : Nat) (ys : List Value) (hn : n = es.length) (hl : ys.length = (flat es).length) (hc : ∀ (j : Nat) y, ys[j]? = some y → w.cell? ⟨g, o + j, none⟩ = some y)
      (h : ∀ (j : Nat) c y, (flat es)[j]? = some c → ys[j]? = some y → Rep M w c y) (h1 : ∀ v ∈ ys, v.oneCell' = true) (hM : ¬ M g) (hg : g < w.heap.size) (hcap : n ≤ cap) (hm : cap ≤ maxLen) : Rep M w (.sl es) (.slice (some ⟨g, o, none⟩) n cap)

/-- The cells of something, each read. -/
structure RepL (M : Nat → Prop) (w : World) (cs : List PV) (vs : List Value) : Prop where
  len : vs.length = cs.length
  each : ∀ (i : Nat) c v, cs[i]? = some c → vs[i]? = some v → Rep M w c v
  one : ∀ v ∈ vs, v.oneCell' = true

/-- Outside of M what was there is as it was. -/
structure Keeps (M : Nat → Prop) (w w' : World) : Prop where
  size : w.heap.size ≤ w'.heap.size
  block : ∀ k, k < w.heap.size → ¬ M k → w'.heap[k]? = w.heap[k]?

theorem Keeps.of_below {w w' : World} (M : Nat → Prop) (h : Below w.heap.size w w') : Keeps M w w' := ⟨h.size, fun k hk _ => h.block k hk⟩
theorem Keeps.refl (M : Nat → Prop) (w : World) : Keeps M w w := ⟨Nat.le_refl _, fun _ _ _ => rfl⟩

theorem Rep.keep {M : Nat → Prop} {w w' : World} {x : PV} {v : Value} (h : Rep M w x v) (hk : Keeps M w w') : Rep M w' x v := by
  induction h with
  | val v => exact .val v
  | agg cs vs hl _ h1 ih => exact .agg cs vs hl ih h1
  | nil => exact .nil
  | sl es g o n cap ys hn hl hc _ h1 hM hg hcap hm ih =>
    refine .sl es g o n cap ys hn hl (fun j y hy => ?_) ih h1 hM (Nat.lt_of_lt_of_le hg hk.size) hcap hm
    rw [World.cell?_of_block (w := w) (hk.block g hg hM)]
    exact hc j y hy

theorem Rep.mono {M M' : Nat → Prop} {w : World} {x : PV} {v : Value} (h : Rep M w x v) (hM' : ∀ k, k < w.heap.size → M' k → M k) : Rep M' w x v := by
  induction h with
  | val v => exact .val v
  | agg cs vs hl _ h1 ih => exact .agg cs vs hl ih h1
  | nil => exact .nil
  | sl es g o n cap ys hn hl hc _ h1 hM hg hcap hm ih => exact .sl es g o n cap ys hn hl hc ih h1 (fun h => hM (hM' g hg h)) hg hcap hm

theorem RepL.keep {M : Nat → Prop} {w w' : World} {cs : List PV} {vs : List Value} (h : RepL M w cs vs) (hk : Keeps M w w') : RepL M w' cs vs :=
  ⟨h.len, fun i c v hc hv => (h.each i c v hc hv).keep hk, h.one⟩

/-- A frame's value: nothing known; a pure one; the slice that owns row id; a pointer into block id; a pointer to cells that nobody turns; several results. -/
inductive AV where
  | any
  | p (x : PV)
  | own (id : Nat)
  | ptr (id off : Nat)
  | pt (xs : List PV)
  | tup (vs : List AV)

def blkOf : Value → Option Nat
  | .slice (some a) _ _ => some a.block
  | .pointer (some a) => some a.block
  | _ => none

inductive RepA (M : Nat → Prop) (ρ : Nat → Value) (w : World) : AV → Value → Prop
  | any (v : Value) : RepA M ρ w .any v
  | p {x : PV} {v : Value} (h : Rep M w x v) : RepA M ρ w (.p x) v
  | own (id : Nat) : RepA M ρ w (.own id) (ρ id)
  | ptr (id off g : Nat) (h : blkOf (ρ id) = some g) : RepA M ρ w (.ptr id off) (.pointer (some ⟨g, off, none⟩))
  | pt (xs : List PV) (g o : Nat) (ys : List Value) (h : RepL M w xs ys) (hc : ∀ (j : Nat) y, ys[j]? = some y → w.cell? ⟨g, o + j, none⟩ = some y) (hM : ¬ M g) (hg : g < w.heap.size) : RepA M ρ w (.pt xs) (.pointer (some ⟨g, o, none⟩))
  | tup (avs : List AV) (vs : List Value) (hl : vs.length = avs.length) (h : ∀ (i : Nat) c v, avs[i]? = some c → vs[i]? = some v → RepA M ρ w c v) : RepA M ρ w (.tup avs) (.tuple vs.toArray)

theorem RepA.keep {M : Nat → Prop} {ρ : Nat → Value} {w w' : World} {x : AV} {v : Value} (h : RepA M ρ w x v) (hk : Keeps M w w') : RepA M ρ w' x v := by
  induction h with
  | any v => exact .any v
  | p h => exact .p (h.keep hk)
  | own id => exact .own id
  | ptr id off g h => exact .ptr id off g h
  | pt xs g o ys h hc hM hg =>
    refine .pt xs g o ys (h.keep hk) (fun j y hy => ?_) hM (Nat.lt_of_lt_of_le hg hk.size)
    rw [World.cell?_of_block (w := w) (hk.block g hg hM)]
    exact hc j y hy
  | tup avs vs hl _ ih => exact .tup avs vs hl ih

theorem RepL.mono {M M' : Nat → Prop} {w : World} {cs : List PV} {vs : List Value} (h : RepL M w cs vs) (hM' : ∀ k, k < w.heap.size → M' k → M k) : RepL M' w cs vs :=
  ⟨h.len, fun i c v hc hv => (h.each i c v hc hv).mono hM', h.one⟩

theorem RepA.mono {M M' : Nat → Prop} {ρ : Nat → Value} {w : World} {x : AV} {v : Value} (h : RepA M ρ w x v) (hM' : ∀ k, k < w.heap.size → M' k → M k) : RepA M' ρ w x v := by
  induction h with
  | any v => exact .any v
  | p h => exact .p (h.mono hM')
  | own id => exact .own id
  | ptr id off g h => exact .ptr id off g h
  | pt xs g o ys h hc hM hg => exact .pt xs g o ys (h.mono hM') hc (fun h => hM (hM' g hg h)) hg
  | tup avs vs hl _ ih => exact .tup avs vs hl ih

/-- without what is said of id -/
def AV.kill (id : Nat) : AV → AV
  | .own j => if j = id then .any else .own j
  | .ptr j o => if j = id then .any else .ptr j o
  | .tup _ => .any
  | x => x

def upd (ρ : Nat → Value) (id : Nat) (v : Value) : Nat → Value := fun j => if j = id then v else ρ j

theorem RepA.killed {M : Nat → Prop} {ρ : Nat → Value} {w : World} {x : AV} {v : Value} (h : RepA M ρ w x v) (id : Nat) (u : Value) : RepA M (upd ρ id u) w (x.kill id) v := by
  cases h with
  | any v => exact .any v
  | p h => exact .p h
  | own j =>
    show RepA M (upd ρ id u) w (if j = id then .any else .own j) (ρ j)
    by_cases hj : j = id
    · rw [if_pos hj]; exact .any _
    · rw [if_neg hj]
      have e : ρ j = upd ρ id u j := by simp [upd, hj]
      rw [e]
      exact .own j
  | ptr j off g h =>
    show RepA M (upd ρ id u) w (if j = id then .any else .ptr j off) _
    by_cases hj : j = id
    · rw [if_pos hj]; exact .any _
    · rw [if_neg hj]
      exact .ptr j off g (by simpa [upd, hj] using h)
  | pt xs g o ys h hc hM hg => exact .pt xs g o ys h hc hM hg
  | tup avs vs hl h => exact .any _

/-- A block of the frame's own: a slice's row that it owns (type of the elements, cells of each, how many, the cells), or a variable (its type, its cells). -/
inductive Blk where
  | row (t size n : Nat) (xs : List AV)
  | prow (t size n : Nat) (xs : List PV)
  | box (t : Nat) (xs : List AV)

def Blk.xs : Blk → List AV
  | .row _ _ _ xs => xs
  | .prow _ _ _ xs => xs.map AV.p
  | .box _ xs => xs
def Blk.kill (id : Nat) : Blk → Blk
  | .row t size n xs => .row t size n (xs.map (AV.kill id))
  | .prow t size n xs => .prow t size n xs
  | .box t xs => .box t (xs.map (AV.kill id))

theorem kill_pures (xs : List PV) (id : Nat) : (xs.map AV.p).map (AV.kill id) = xs.map AV.p := by
  rw [List.map_map]
  rfl

structure CellsA (M : Nat → Prop) (ρ : Nat → Value) (w : World) (xs : List AV) (ys : List Value) : Prop where
  len : ys.length = xs.length
  each : ∀ (i : Nat) c v, xs[i]? = some c → ys[i]? = some v → RepA M ρ w c v
  one : ∀ v ∈ ys, v.oneCell' = true

theorem CellsA.keep {M : Nat → Prop} {ρ : Nat → Value} {w w' : World} {xs : List AV} {ys : List Value} (h : CellsA M ρ w xs ys) (hk : Keeps M w w') : CellsA M ρ w' xs ys :=
  ⟨h.len, fun i c v hc hv => (h.each i c v hc hv).keep hk, h.one⟩
theorem CellsA.mono {M M' : Nat → Prop} {ρ : Nat → Value} {w : World} {xs : List AV} {ys : List Value} (h : CellsA M ρ w xs ys) (hM' : ∀ k, k < w.heap.size → M' k → M k) : CellsA M' ρ w xs ys :=
  ⟨h.len, fun i c v hc hv => (h.each i c v hc hv).mono hM', h.one⟩
theorem CellsA.killed {M : Nat → Prop} {ρ : Nat → Value} {w : World} {xs : List AV} {ys : List Value} (h : CellsA M ρ w xs ys) (id : Nat) (u : Value) : CellsA M (upd ρ id u) w (xs.map (AV.kill id)) ys := by
  refine ⟨by simp [h.len], fun i c v hc hv => ?_, h.one⟩
  simp only [List.getElem?_map, Option.map_eq_some_iff] at hc
  obtain ⟨c', hc', rfl⟩ := hc
  exact (h.each i c' v hc' hv).killed id u

/-- What a block of the frame's own holds. B: blocks from B on are the frame's. -/
def BlkOK (M : Nat → Prop) (B : Nat) (ρ : Nat → Value) (w : World) (v : Value) : Blk → Prop
  | .row t size n xs => ∃ ys, w.ownsRow B t size v n ys ∧ CellsA M ρ w xs ys
  | .prow t size n xs => ∃ ys, w.ownsRow B t size v n ys ∧ CellsA M ρ w (xs.map AV.p) ys
  | .box t xs => ∃ g ys, v = .pointer (some ⟨g, 0, none⟩) ∧ B ≤ g ∧ w.heap[g]? = some (.cells ys.toArray t (0, 0)) ∧ CellsA M ρ w xs ys

def look {α : Type} : List (Nat × α) → Nat → Option α
  | [], _ => none
  | (k, x) :: r, i => if k = i then some x else look r i
def putL {α : Type} (l : List (Nat × α)) (i : Nat) (x : α) : List (Nat × α) := (i, x) :: l

theorem look_putL {α : Type} (l : List (Nat × α)) (i : Nat) (x : α) (j : Nat) : look (putL l i x) j = if i = j then some x else look l j := rfl

theorem look_map {α β : Type} (f : α → β) (l : List (Nat × α)) (j : Nat) : look (l.map fun p => (p.1, f p.2)) j = (look l j).map f := by
  induction l with
  | nil => rfl
  | cons p r ih =>
    simp only [List.map_cons, look, ih]
    split <;> simp

/-- A frame of abstract values: of its slots (others: nothing known), and its own blocks. -/
structure AS where
  t : List (Nat × AV)
  s : List (Nat × Blk)

def AS.tmp (S : AS) (i : Nat) : AV := (look S.t i).getD .any
def AS.blk (S : AS) (i : Nat) : Option Blk := look S.s i
def AS.get (S : AS) : Operand → AV
  | .tmp i => S.tmp i
  | .const v => .p (.val v)
  | .global _ => .any
  | .func f => .p (.val (.func (.func f) #[] #[]))
def AS.put (S : AS) (d : Nat) (x : AV) : AS := { S with t := putL S.t d x }
def AS.kill (S : AS) (id : Nat) : AS := { t := S.t.map fun p => (p.1, p.2.kill id), s := S.s.map fun p => (p.1, p.2.kill id) }
def AS.create (S : AS) (id : Nat) (b : Blk) : AS := { (S.kill id) with s := putL (S.kill id).s id (b.kill id) }

theorem AS.tmp_put (S : AS) (d : Nat) (x : AV) (i : Nat) : (S.put d x).tmp i = if d = i then x else S.tmp i := by
  simp only [AS.tmp, AS.put, look_putL]
  split <;> rfl
theorem AS.blk_put (S : AS) (d : Nat) (x : AV) (i : Nat) : (S.put d x).blk i = S.blk i := rfl
theorem AS.tmp_kill (S : AS) (id i : Nat) : (S.kill id).tmp i = (S.tmp i).kill id := by
  simp only [AS.tmp, AS.kill, look_map]
  cases look S.t i <;> rfl
theorem AS.blk_kill (S : AS) (id i : Nat) : (S.kill id).blk i = (S.blk i).map (Blk.kill id) := by
  simp only [AS.blk, AS.kill, look_map]
theorem AS.tmp_create (S : AS) (id : Nat) (b : Blk) (i : Nat) : (S.create id b).tmp i = (S.tmp i).kill id := S.tmp_kill id i
theorem AS.blk_create (S : AS) (id : Nat) (b : Blk) (i : Nat) : (S.create id b).blk i = if id = i then some (b.kill id) else (S.blk i).map (Blk.kill id) := by
  simp only [AS.blk, AS.create, look_putL]
  split
  · rfl
  · exact S.blk_kill id i

/-- Blocks that may be turned: by frames further out (M), and this frame's own. -/
def Mut (M : Nat → Prop) (S : AS) (ρ : Nat → Value) (k : Nat) : Prop := M k ∨ ∃ id b, S.blk id = some b ∧ blkOf (ρ id) = some k

structure Sat (M : Nat → Prop) (n : Nat) (w0 : World) (S : AS) (ρ : Nat → Value) (a : Act) (w : World) : Prop where
  below : Below w0.heap.size w0 w
  out : ∀ k, M k → k < w0.heap.size
  size : a.tmps.size = n
  defers : a.defers = []
  tmps : ∀ i, RepA (Mut M S ρ) ρ w (S.tmp i) (a.tmps.getD i undef)
  blks : ∀ id b, S.blk id = some b → BlkOK (Mut M S ρ) w0.heap.size ρ w (ρ id) b
  dist : ∀ i j bi bj k, S.blk i = some bi → S.blk j = some bj → blkOf (ρ i) = some k → blkOf (ρ j) = some k → i = j

section
variable {M : Nat → Prop} {n : Nat} {w0 w w' : World} {S : AS} {ρ : Nat → Value} {a : Act}

theorem Sat.put (h : Sat M n w0 S ρ a w) {d : Nat} {x : AV} {v : Value} (hd : d < n) (hx : RepA (Mut M S ρ) ρ w x v) : Sat M n w0 (S.put d x) ρ (a.put (some d) v) w := by
  have hm : Mut M (S.put d x) ρ = Mut M S ρ := rfl
  refine ⟨h.below, h.out, by simp [Act.put, h.size], h.defers, fun i => ?_, fun id b hb => ?_, h.dist⟩
  · rw [AS.tmp_put, hm]
    by_cases hi : d = i
    · subst hi
      rw [if_pos rfl]
      have e : (a.put (some d) v).tmps.getD d undef = v := by simp [Act.put, h.size, hd]
      rw [e]
      exact hx
    · rw [if_neg hi]
      have e : (a.put (some d) v).tmps.getD i undef = a.tmps.getD i undef := by
        simp only [Act.put, Array.getD_eq_getD_getElem?, Array.getElem?_setIfInBounds]
        rw [if_neg hi]
      rw [e]
      exact h.tmps i
  · exact h.blks id b hb

theorem Sat.put_none (h : Sat M n w0 S ρ a w) (v : Value) : Sat M n w0 S ρ (a.put none v) w := h

/-- The world has grown, and nothing that was there has turned. -/
theorem Sat.ext (h : Sat M n w0 S ρ a w) (hb : Below w.heap.size w w') : Sat M n w0 S ρ a w' := by
  have hB := h.below.size
  refine ⟨h.below.trans (hb.mono hB), h.out, h.size, h.defers, fun i => (h.tmps i).keep (.of_below _ hb), fun id b hbk => ?_, h.dist⟩
  have hk := h.blks id b hbk
  cases b with
  | row t size m xs =>
    obtain ⟨ys, ho, hc⟩ := hk
    exact ⟨ys, ownsRow_size ho hb, hc.keep (.of_below _ hb)⟩
  | prow t size m xs =>
    obtain ⟨ys, ho, hc⟩ := hk
    exact ⟨ys, ownsRow_size ho hb, hc.keep (.of_below _ hb)⟩
  | box t xs =>
    obtain ⟨g, ys, hv, hg, hh, hc⟩ := hk
    exact ⟨g, ys, hv, hg, (hb.block g (Array.getElem?_eq_some_iff.1 hh).1).trans hh, hc.keep (.of_below _ hb)⟩

theorem Mut.lt (h : Sat M n w0 S ρ a w) {k : Nat} (hk : Mut M S ρ k) : k < w.heap.size := by
  rcases hk with hk | ⟨id, b, hb, hv⟩
  · exact Nat.lt_of_lt_of_le (h.out k hk) h.below.size
  · have hB := h.blks id b hb
    cases b with
    | row t size m xs =>
      obtain ⟨ys, ho, hc⟩ := hB
      refine (ho.lt k ?_).2
      cases hr : ρ id with
      | slice o l c => rw [hr] at hv; cases o with
        | none => simp [blkOf] at hv
        | some a => simpa [blkOf, Value.ownBlock] using hv
      | pointer o =>
        rcases ho.2 with ⟨e, _⟩ | ⟨g, cap, cur, e, _⟩ <;> (rw [hr] at e; cases e)
      | _ => rw [hr] at hv; simp [blkOf] at hv
    | prow t size m xs =>
      obtain ⟨ys, ho, hc⟩ := hB
      refine (ho.lt k ?_).2
      cases hr : ρ id with
      | slice o l c => rw [hr] at hv; cases o with
        | none => simp [blkOf] at hv
        | some a => simpa [blkOf, Value.ownBlock] using hv
      | pointer o =>
        rcases ho.2 with ⟨e, _⟩ | ⟨g, cap, cur, e, _⟩ <;> (rw [hr] at e; cases e)
      | _ => rw [hr] at hv; simp [blkOf] at hv
    | box t xs =>
      obtain ⟨g, ys, e, hg, hh, hc⟩ := hB
      rw [e] at hv
      simp only [blkOf, Option.some.injEq] at hv
      subst hv
      exact (Array.getElem?_eq_some_iff.1 hh).1

theorem Mut.blk_ge (h : Sat M n w0 S ρ a w) {id : Nat} {b : Blk} (hb : S.blk id = some b) {k : Nat} (hk : blkOf (ρ id) = some k) : w0.heap.size ≤ k ∧ k < w.heap.size := by
  refine ⟨?_, Mut.lt h (.inr ⟨id, b, hb, hk⟩)⟩
  have hB := h.blks id b hb
  cases b with
  | row t size m xs =>
    obtain ⟨ys, ho, hc⟩ := hB
    refine (ho.lt k ?_).1
    cases hr : ρ id with
    | slice o l c => rw [hr] at hk; cases o with
      | none => simp [blkOf] at hk
      | some a => simpa [blkOf, Value.ownBlock] using hk
    | pointer o =>
      rcases ho.2 with ⟨e, _⟩ | ⟨g, cap, cur, e, _⟩ <;> (rw [hr] at e; cases e)
    | _ => rw [hr] at hk; simp [blkOf] at hk
  | prow t size m xs =>
    obtain ⟨ys, ho, hc⟩ := hB
    refine (ho.lt k ?_).1
    cases hr : ρ id with
    | slice o l c => rw [hr] at hk; cases o with
      | none => simp [blkOf] at hk
      | some a => simpa [blkOf, Value.ownBlock] using hk
    | pointer o =>
      rcases ho.2 with ⟨e, _⟩ | ⟨g, cap, cur, e, _⟩ <;> (rw [hr] at e; cases e)
    | _ => rw [hr] at hk; simp [blkOf] at hk
  | box t xs =>
    obtain ⟨g, ys, e, hg, hh, hc⟩ := hB
    rw [e] at hk
    simp only [blkOf, Option.some.injEq] at hk
    subst hk
    exact hg

/-- A block's fact in a world in which its own block is as it was. -/
theorem BlkOK.keep {M M' : Nat → Prop} {B : Nat} {v : Value} {b : Blk} {w w' : World} {ρ : Nat → Value} (h : BlkOK M B ρ w v b) (hk : ∀ k, blkOf v = some k → w'.heap[k]? = w.heap[k]?) (hks : Keeps M' w w') (hM : ∀ k, k < w.heap.size → M' k → M k) : BlkOK M' B ρ w' v b := by
  cases b with
  | row t size m xs =>
    obtain ⟨ys, ⟨h1, h2⟩, hc⟩ := h
    refine ⟨ys, ⟨h1, ?_⟩, (hc.mono hM).keep hks⟩
    rcases h2 with h2 | ⟨g, cap, cur, hv, hg, hh, r⟩
    · exact .inl h2
    · subst hv
      exact .inr ⟨g, cap, cur, rfl, hg, (hk g rfl).trans hh, r⟩
  | prow t size m xs =>
    obtain ⟨ys, ⟨h1, h2⟩, hc⟩ := h
    refine ⟨ys, ⟨h1, ?_⟩, (hc.mono hM).keep hks⟩
    rcases h2 with h2 | ⟨g, cap, cur, hv, hg, hh, r⟩
    · exact .inl h2
    · subst hv
      exact .inr ⟨g, cap, cur, rfl, hg, (hk g rfl).trans hh, r⟩
  | box t xs =>
    obtain ⟨g, ys, e, hg, hh, hc⟩ := h
    subst e
    exact ⟨g, ys, rfl, hg, (hk g rfl).trans hh, (hc.mono hM).keep hks⟩

theorem BlkOK.mono {M M' : Nat → Prop} {B : Nat} {v : Value} {b : Blk} {w : World} {ρ : Nat → Value} (h : BlkOK M B ρ w v b) (hM : ∀ k, M' k → M k) : BlkOK M' B ρ w v b := by
  cases b with
  | row t size m xs =>
    obtain ⟨ys, ho, hc⟩ := h
    exact ⟨ys, ho, hc.mono fun k _ hk => hM k hk⟩
  | prow t size m xs =>
    obtain ⟨ys, ho, hc⟩ := h
    exact ⟨ys, ho, hc.mono fun k _ hk => hM k hk⟩
  | box t xs =>
    obtain ⟨g, ys, e, hg, hh, hc⟩ := h
    exact ⟨g, ys, e, hg, hh, hc.mono fun k _ hk => hM k hk⟩

theorem BlkOK.killed {M : Nat → Prop} {B : Nat} {v : Value} {b : Blk} {w : World} {ρ : Nat → Value} (h : BlkOK M B ρ w v b) (id : Nat) (u : Value) : BlkOK M B (upd ρ id u) w v (b.kill id) := by
  cases b with
  | row t size m xs =>
    obtain ⟨ys, ho, hc⟩ := h
    exact ⟨ys, ho, hc.killed id u⟩
  | prow t size m xs =>
    obtain ⟨ys, ho, hc⟩ := h
    exact ⟨ys, ho, kill_pures xs id ▸ hc.killed id u⟩
  | box t xs =>
    obtain ⟨g, ys, e, hg, hh, hc⟩ := h
    exact ⟨g, ys, e, hg, hh, hc.killed id u⟩

/-- Block id is made, or made anew: the world has grown, and of what was there only id's own block may have turned. -/
theorem Sat.change (h : Sat M n w0 S ρ a w) (id : Nat) (b : Blk) (v : Value) (row : Option Nat) (hg : w.grownBy w' row)
    (hrow : ∀ k, row = some k → ∃ b0, S.blk id = some b0 ∧ blkOf (ρ id) = some k) (hv : ∀ k, blkOf v = some k → w.heap.size ≤ k ∨ row = some k)
    (hok : BlkOK (fun k => Mut M S ρ k ∨ blkOf v = some k) w0.heap.size ρ w' v b) : Sat M n w0 (S.create id b) (upd ρ id v) a w' := by
  have hB := h.below.size
  have hb' : Below w0.heap.size w w' := ⟨hg.os, hg.tape, hg.output, hg.size, fun k hk => hg.block k (by omega) (fun e => by
    obtain ⟨b0, hb0, hk0⟩ := hrow k e.symm
    have := (Mut.blk_ge h hb0 hk0).1
    omega)⟩
  have hm : ∀ k, Mut M (S.create id b) (upd ρ id v) k → Mut M S ρ k ∨ blkOf v = some k := by
    rintro k (hk | ⟨j, bj, hbj, hkj⟩)
    · exact .inl (.inl hk)
    · rw [AS.blk_create] at hbj
      by_cases hj : id = j
      · subst hj
        right
        simpa [upd] using hkj
      · rw [if_neg hj] at hbj
        obtain ⟨b1, hb1, _⟩ := Option.map_eq_some_iff.1 hbj
        exact .inl (.inr ⟨j, b1, hb1, by simpa [upd, Ne.symm hj] using hkj⟩)
  have hm2 : ∀ k, k < w.heap.size → Mut M (S.create id b) (upd ρ id v) k → Mut M S ρ k := by
    intro k hk hmk
    rcases hm k hmk with h1 | h1
    · exact h1
    · rcases hv k h1 with h2 | h2
      · omega
      · obtain ⟨b0, hb0, hk0⟩ := hrow k h2
        exact .inr ⟨id, b0, hb0, hk0⟩
  have hks : Keeps (fun k => Mut M S ρ k ∨ Mut M (S.create id b) (upd ρ id v) k) w w' := ⟨hg.size, fun k hk hnm => hg.block k hk (fun e => by
    obtain ⟨b0, hb0, hk0⟩ := hrow k e.symm
    exact hnm (.inl (.inr ⟨id, b0, hb0, hk0⟩)))⟩
  have hm4 : ∀ k, k < w.heap.size → (Mut M S ρ k ∨ Mut M (S.create id b) (upd ρ id v) k) → Mut M S ρ k := fun k hk h1 => h1.elim (fun h => h) (hm2 k hk)
  have step : ∀ x u, RepA (Mut M S ρ) ρ w x u → RepA (Mut M (S.create id b) (upd ρ id v)) (upd ρ id v) w' (x.kill id) u := fun x u hx =>
    (((hx.mono hm4).keep hks).mono (fun k _ hk => .inr hk)).killed id v
  refine ⟨h.below.trans hb', h.out, h.size, h.defers, fun i => by rw [AS.tmp_create]; exact step _ _ (h.tmps i), fun j bj hbj => ?_, fun i j bi bj k hbi hbj hi hj => ?_⟩
  · rw [AS.blk_create] at hbj
    by_cases hj : id = j
    · subst hj
      rw [if_pos rfl] at hbj
      obtain rfl := Option.some.inj hbj
      have e : upd ρ id v id = v := by simp [upd]
      rw [e]
      have h1 := hok.killed id v
      cases hbc : b.kill id with
      | row t size m xs =>
        rw [hbc] at h1
        obtain ⟨ys, ho, hc⟩ := h1
        exact ⟨ys, ho, hc.mono fun k _ hk => hm k hk⟩
      | prow t size m xs =>
        rw [hbc] at h1
        obtain ⟨ys, ho, hc⟩ := h1
        exact ⟨ys, ho, hc.mono fun k _ hk => hm k hk⟩
      | box t xs =>
        rw [hbc] at h1
        obtain ⟨g, ys, e, hg, hh, hc⟩ := h1
        exact ⟨g, ys, e, hg, hh, hc.mono fun k _ hk => hm k hk⟩
    · rw [if_neg hj] at hbj
      obtain ⟨b1, hb1, rfl⟩ := Option.map_eq_some_iff.1 hbj
      have e : upd ρ id v j = ρ j := by simp [upd, Ne.symm hj]
      rw [e]
      refine BlkOK.killed ?_ id v
      refine (BlkOK.keep (h.blks j b1 hb1) (fun k hk => ?_) hks hm4).mono fun k hk => .inr hk
      refine hg.block k (Mut.blk_ge h hb1 hk).2 (fun e => ?_)
      obtain ⟨b0, hb0, hk0⟩ := hrow k e.symm
      exact hj (h.dist id j b0 b1 k hb0 hb1 hk0 hk)
  · rw [AS.blk_create] at hbi hbj
    have fresh : ∀ j b1, id ≠ j → S.blk j = some b1 → blkOf (ρ j) = some k → blkOf v = some k → False := by
      intro j b1 hne hb1 hk1 hk2
      rcases hv k hk2 with h2 | h2
      · have := (Mut.blk_ge h hb1 hk1).2
        omega
      · obtain ⟨b0, hb0, hk0⟩ := hrow k h2
        exact hne (h.dist id j b0 b1 k hb0 hb1 hk0 hk1)
    by_cases hii : id = i
    · subst hii
      by_cases hjj : id = j
      · exact hjj
      · rw [if_neg hjj] at hbj
        obtain ⟨b1, hb1, _⟩ := Option.map_eq_some_iff.1 hbj
        exact (fresh j b1 hjj hb1 (by simpa [upd, Ne.symm hjj] using hj) (by simpa [upd] using hi)).elim
    · rw [if_neg hii] at hbi
      obtain ⟨b1, hb1, _⟩ := Option.map_eq_some_iff.1 hbi
      by_cases hjj : id = j
      · subst hjj
        exact (fresh i b1 hii hb1 (by simpa [upd, Ne.symm hii] using hi) (by simpa [upd] using hj)).elim
      · rw [if_neg hjj] at hbj
        obtain ⟨b2, hb2, _⟩ := Option.map_eq_some_iff.1 hbj
        exact h.dist i j b1 b2 k hb1 hb2 (by simpa [upd, Ne.symm hii] using hi) (by simpa [upd, Ne.symm hjj] using hj)

/-- The cells of block id are turned in place. -/
theorem Sat.turn (h : Sat M n w0 S ρ a w) {id g : Nat} {b b' : Blk} (hb : S.blk id = some b) (hgk : blkOf (ρ id) = some g) (hg : w.grownBy w' (some g))
    (hok : BlkOK (Mut M S ρ) w0.heap.size ρ w' (ρ id) b') : Sat M n w0 { S with s := putL S.s id b' } ρ a w' := by
  have hB := h.below.size
  have hbk : ∀ i, ({ S with s := putL S.s id b' } : AS).blk i = if id = i then some b' else S.blk i := fun i => by simp only [AS.blk, look_putL]
  have hb' : Below w0.heap.size w w' := ⟨hg.os, hg.tape, hg.output, hg.size, fun k hk => hg.block k (by omega) (fun e => by
    have := (Mut.blk_ge h hb hgk).1
    simp at e
    omega)⟩
  have hmm : ∀ k, Mut M ({ S with s := putL S.s id b' } : AS) ρ k → Mut M S ρ k := by
    rintro k (hk | ⟨j, bj, hbj, hkj⟩)
    · exact .inl hk
    · rw [hbk] at hbj
      by_cases hj : id = j
      · subst hj; exact .inr ⟨id, b, hb, hkj⟩
      · rw [if_neg hj] at hbj; exact .inr ⟨j, bj, hbj, hkj⟩
  have hks : Keeps (Mut M S ρ) w w' := ⟨hg.size, fun k hk hnm => hg.block k hk (fun e => hnm (.inr ⟨id, b, hb, by rw [hgk]; exact e.symm⟩))⟩
  refine ⟨h.below.trans hb', h.out, h.size, h.defers, fun i => ((h.tmps i).keep hks).mono fun k _ hk => hmm k hk, fun j bj hbj => ?_, fun i j bi bj k hbi hbj hi hj => ?_⟩
  · rw [hbk] at hbj
    by_cases hj : id = j
    · subst hj
      rw [if_pos rfl] at hbj
      obtain rfl := Option.some.inj hbj
      exact hok.mono hmm
    · rw [if_neg hj] at hbj
      refine (BlkOK.keep (h.blks j bj hbj) (fun k hk => ?_) hks (fun k _ hk => hk)).mono hmm
      refine hg.block k (Mut.blk_ge h hbj hk).2 (fun e => ?_)
      simp only [Option.some.injEq] at e
      subst e
      exact hj (h.dist id j b bj k hb hbj hgk hk)
  · have some_of : ∀ i bi, ({ S with s := putL S.s id b' } : AS).blk i = some bi → ∃ b1, S.blk i = some b1 := by
      intro i bi hbi
      rw [hbk] at hbi
      by_cases hii : id = i
      · subst hii; exact ⟨b, hb⟩
      · rw [if_neg hii] at hbi; exact ⟨bi, hbi⟩
    obtain ⟨b1, h1⟩ := some_of i bi hbi
    obtain ⟨b2, h2⟩ := some_of j bj hbj
    exact h.dist i j b1 b2 k h1 h2 hi hj

end

end Go.Proofs.Ytjokcnajopfjhaa
