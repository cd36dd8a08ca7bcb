/- Small laws on the model's operations that the kit lacks: append of n zero elements (append(s, make(S, n)...)). -/
import Derived.Test.YtjokcnajopfjhaaRows
import Derived.WalkKit
import Derived.WalkSpells
import Derived.WalkLawsBesides
import Derived.StillTailTactics
import Derived.Laws.CopyOwn
import Derived.Lib.Hide
import Derived.Deep.DeepCutAuto
import Derived.Deep.LoopGhost
import Derived.Deep.DeepFit
import Derived.Deep.QuietTactic
import Derived.BigQuiet
import Derived.Deep.RegionWith
import Derived.Deep.RegionHeld3
import Derived.Deep.RegionLaw
import Derived.Deep.AppendLies
namespace Go.Proofs.Ytjokcnajopfjhaa
open Go Go.RowKit

/-- append(s[:0], make(S, n)...) where s has less room than n: a new array, zero all over. -/
theorem run_append_zeros {P : Program} (w : World) (t ti ty e : TypeId) (i : TypeInfo) (z : Value) (ht : P.underlying t = some (.slice e)) (hti : P.underlying ti = some (.int .i64))
    (hi : P.info? e = some i) (hz : i.zero = some z) (hs : i.size = 1) (b : Addr) (sCap n : Nat)
    (hg : sCap < n) (h63 : (n : Int) ≤ 9223372036854775807) (hb : (n : Int) * i.bytes ≤ 281474976710656) (hfit : Builtin.nextslicecap n sCap * i.bytes ≤ 281474976710656) :
    (Builtin.append_ #[t, ti] ty #[.slice (some b) 0 sCap, .int .i64 n]).run P w =
      .ok (.slice (some ⟨w.heap.size, 0, none⟩) n (grownCap w n sCap e))
        (w.drew.alloc (.cells (Builtin.zeroCells z.cells n ++ Builtin.zeroCells z.cells (grownCap w n sCap e - n)) e)) := by
  have hn : ¬ (n ≤ sCap) := by omega
  have hn0 : n ≠ 0 := by omega
  have h63' : ¬ (9223372036854775807 < (n : Int)) := by omega
  have hw : IntKind.i64.wrap (n : Int) = (n : Int) := by rw [IntKind.wrap_i64]; omega
  have hneg : ¬ ((n : Int) < 0) := by omega
  have hb' : ¬ (281474976710656 < (n : Int) * i.bytes) := by omega
  have h48' : ¬ (281474976710656 < Builtin.nextslicecap n sCap * i.bytes) := by omega
  have hfo := run_firstCells_some (P := P) w.drew 1 0 b 0 sCap [] (by simp) (by simp)
  simp [Builtin.append_, run_underlying ht, run_underlying hti, sizeOf, typeInfo, zeroValue, hi, hz, hs, asInt, asIntOf, hn, hw, hn0, hneg, hb', h63', h48', Question.forced, hfo, newRow, grownCap]

theorem zeroCells_one (z : Value) (n : Nat) : Builtin.zeroCells #[z] n = (List.replicate n z).toArray := by
  apply Array.ext'
  apply List.ext_getElem?
  intro j
  by_cases hj : j < n
  · simp [Builtin.zeroCells, hj, Nat.mod_one]
  · simp [Builtin.zeroCells, hj]

/-- append(s[:0], make(S, n)...) in the walk: the new row is known whole. -/
theorem wpList_append_zeros {P : Program} {w : World} {ops : Array Oper} {rest : List Oper} {o : Oper} {a : Act} {Q : Exit → Act → World → Prop} (hgd : o.guard = none) (s x : Operand) (t ti : TypeId)
    (ho : o.op = .call { callee := .builtin .append, args := #[s, x], argTypes := #[t, ti] })
    (e : TypeId) (i : TypeInfo) (z z1 : Value) (ht : P.underlying t = some (.slice e)) (hti : P.underlying ti = some (.int .i64)) (hi : P.info? e = some i) (hz : i.zero = some z) (hz1 : z.cells = #[z1]) (hs : i.size = 1)
    (b : Addr) (sCap n : Nat) (hsv : a.eval s = .slice (some b) 0 sCap) (hxv : a.eval x = .int .i64 n)
    (hg : sCap < n) (hmax : n ≤ maxLen) (hb : (n : Int) * i.bytes ≤ 281474976710656) (hfit : Builtin.nextslicecap n sCap * i.bytes ≤ 281474976710656)
    (h : ∀ (cap : Nat) (Z : List Value) (w' : World), Hid (Z = List.replicate cap z1) → Hid (w'.heap[w.heap.size]? = some (.cells Z.toArray e (0, 0))) → Below w.heap.size w w' → n ≤ cap → cap ≤ maxLen → wpList P ops Q rest (a.put o.dst (.slice (some ⟨w.heap.size, 0, none⟩) n cap)) w') :
    wpList P ops Q (o :: rest) a w := by
  refine wpList_plain hgd fun K hK => ?_
  have hr := run_append_zeros (P := P) w t ti o.type e i z ht hti hi hz hs b sCap n hg (by simp only [maxLen] at hmax; omega) hb hfit
  unfold Oper.wp execOp
  simp only [ho, resolve, invoke, builtin, Sem.run_bind, Sem.run_pure, Result.andThen_ok, List.map_toArray, List.map_cons, List.map_nil, hsv, hxv, hr]
  refine hK _ _ (h _ _ _ rfl ?_ (((Below.refl _ _).drew).alloc (Nat.le_refl _) _) (grownCap_ge w n sCap e) (grownCap_le_maxLen w n sCap e hmax))
  have hge := grownCap_ge w n sCap e
  show (w.drew.alloc _).heap[w.drew.heap.size]? = _
  rw [heap_alloc_new, hz1, zeroCells_one, zeroCells_one]
  congr 2
  rw [List.append_toArray, List.replicate_append_replicate]
  congr 2
  omega

theorem ownsRow_base {w : World} {B B' : Nat} {e : TypeId} {size : Nat} {v : Value} {n : Nat} {xs : List Value} (h : w.ownsRow B e size v n xs) (hB : B' ≤ B) : w.ownsRow B' e size v n xs := by
  obtain ⟨h1, h2⟩ := h
  refine ⟨h1, ?_⟩
  rcases h2 with h2 | ⟨g, cap, cur, hv, hg, r⟩
  · exact .inl h2
  · exact .inr ⟨g, cap, cur, hv, by omega, r⟩

/-- What is owned in a block from B on stays owned where below B' nothing turns. -/
theorem ownsRow_below {w w' : World} {B B' : Nat} {e : TypeId} {size : Nat} {v : Value} {n : Nat} {xs : List Value} (h : w.ownsRow B e size v n xs) (hb : Below B' w w') (hB : ∀ k, v.ownBlock = some k → k < B') : w'.ownsRow B e size v n xs := by
  obtain ⟨h1, h2⟩ := h
  refine ⟨h1, ?_⟩
  rcases h2 with h2 | ⟨g, cap, cur, hv, hg, hh, r⟩
  · exact .inl h2
  · subst hv
    exact .inr ⟨g, cap, cur, rfl, hg, (hb.block g (hB g rfl)).trans hh, r⟩

theorem ownsRow_size {w w' : World} {B : Nat} {e : TypeId} {size : Nat} {v : Value} {n : Nat} {xs : List Value} (h : w.ownsRow B e size v n xs) (hb : Below w.heap.size w w') : w'.ownsRow B e size v n xs :=
  ownsRow_below h hb fun k hk => (h.lt k hk).2

theorem cells_one {w : World} {g : Nat} {p : Value} (h : w.cell? ⟨g, 0, none⟩ = some p) : ∀ (j : Nat) v, [p][j]? = some v → w.cell? ((⟨g, 0, none⟩ : Addr).add j) = some v := by
  intro j v hv
  cases j with
  | zero => simp at hv; subst hv; exact h
  | succ j => simp at hv

theorem cells_new {w : World} {p : Value} {t : TypeId} : ∀ (j : Nat) v, [p][j]? = some v → (w.alloc (.cells #[p] t)).cell? ((⟨w.heap.size, 0, none⟩ : Addr).add j) = some v :=
  cells_one (by simp)

theorem one_cell {p : Value} (h : p.oneCell' = true) : ∀ u ∈ [p], u.oneCell' = true := by simpa using h

theorem bcell {W w1 : World} (hb : Below W.heap.size W w1) : (∀ b o, b < W.heap.size → w1.cell? ⟨b, o, none⟩ = W.cell? ⟨b, o, none⟩) ∧ (∀ b o, b < W.heap.size → w1.frozen? ⟨b, o, none⟩ = W.frozen? ⟨b, o, none⟩) :=
  ⟨fun b o h => hb.cell (p := ⟨b, o, none⟩) h, fun b o h => hb.frozen (p := ⟨b, o, none⟩) h⟩

/-- a slice literal of one element, made at once -/
theorem own_one {W : World} {base : Nat} {x : Value} {t : TypeId} (hB : base ≤ W.heap.size) : (W.alloc (.cells #[x] t)).ownsRow base t 1 (.slice (some ⟨W.heap.size, 0, none⟩) 1 1) 1 [x] :=
  World.ownsRow_lit W #[x] 1 hB (by simp [maxLen]) rfl

/-- and behind a call that turned nothing -/
theorem own_one_after {W w' : World} {base : Nat} {x : Value} {t : TypeId} (hb : Below (W.alloc (.cells #[x] t)).heap.size (W.alloc (.cells #[x] t)) w') (hB : base ≤ W.heap.size) :
    w'.ownsRow base t 1 (.slice (some ⟨W.heap.size, 0, none⟩) 1 1) 1 [x] :=
  ownsRow_size (own_one hB) hb

end Go.Proofs.Ytjokcnajopfjhaa
