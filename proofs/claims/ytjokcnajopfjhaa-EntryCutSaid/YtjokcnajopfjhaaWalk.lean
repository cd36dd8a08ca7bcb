/- The closed facts that the walk over abstract frames asks of a program, as classes; and the rules that lean on them. Generic over the program. -/
import Derived.Test.YtjokcnajopfjhaaMem
namespace Go.Proofs.Ytjokcnajopfjhaa
open Go Go.RowKit

class TyA (P : Program) (t : Nat) (agg : outParam Bool) (m : outParam Nat) : Prop where
  ag : ∀ w, (isAgg t).run P w = .ok agg w
  sz : ∀ w, (sizeOf t).run P w = .ok m w
class Und (P : Program) (t : Nat) (d : outParam TypeDesc) : Prop where
  h : P.underlying t = some d
class FieldA (P : Program) (s f : Nat) (k : outParam Nat) : Prop where
  h : ∀ g off w, (Instr.fieldAt s (.pointer (some ⟨g, off, none⟩)) f).run P w = .ok (.pointer (some ⟨g, off + k, none⟩)) w
class ZeroA (P : Program) (t : Nat) (z : outParam Value) : Prop where
  h : ∀ w, (zeroValue t).run P w = .ok z w
class InfoA (P : Program) (t : Nat) (z : outParam Value) (size bytes : outParam Nat) : Prop where
  h : (P.info? t).map (fun i => (i.zero, i.size, i.bytes)) = some (some z, size, bytes)
class HasFn (P : Program) (f : Nat) : Prop where
  h : ∀ (vs : Array Value) w, (callFunc f vs).run P w = .ok (.enter f vs) w

section
variable {P : Program} {n : Nat} {o : Oper} {S : AS} {d : Nat} {t : Nat} {x : Operand}

theorem w_load1 {xs : List PV} {c : PV} {m : Nat} [h : TyA P t false m] (ho : o.op = .load t x) (hx : S.get x = .pt xs) (hc : xs[0]? = some c) (hd : o.dst = some d) (hn : d < n) : AStep P n o S [] (.p c) none := a_load1 ho hx hc h.ag hd hn
theorem w_loadN {xs : List PV} {m : Nat} [h : TyA P t true m] (ho : o.op = .load t x) (hx : S.get x = .pt xs) (hle : m ≤ xs.length) (hd : o.dst = some d) (hn : d < n) : AStep P n o S [] (.p (.agg (xs.take m))) none := a_loadN ho hx h.ag h.sz hle hd hn
theorem w_loadR1 {id off : Nat} {b : Blk} {c : PV} {m : Nat} [h : TyA P t false m] (ho : o.op = .load t x) (hx : S.get x = .ptr id off) (hb : S.blk id = some b) (hc : b.xs[off]? = some (.p c)) (hd : o.dst = some d) (hn : d < n) : AStep P n o S [id] (.p c) none := a_loadR1 ho hx hb hc h.ag hd hn
theorem w_loadO {id off : Nat} {b : Blk} {c : Nat} {m : Nat} [h : TyA P t false m] (ho : o.op = .load t x) (hx : S.get x = .ptr id off) (hb : S.blk id = some b) (hc : b.xs[off]? = some (.own c)) (hd : o.dst = some d) (hn : d < n) : AStep P n o S [id] (.own c) none := a_loadR1 ho hx hb hc h.ag hd hn
theorem w_loadP {id off : Nat} {b : Blk} {c c2 : Nat} {m : Nat} [h : TyA P t false m] (ho : o.op = .load t x) (hx : S.get x = .ptr id off) (hb : S.blk id = some b) (hc : b.xs[off]? = some (.ptr c c2)) (hd : o.dst = some d) (hn : d < n) : AStep P n o S [id] (.ptr c c2) none := a_loadR1 ho hx hb hc h.ag hd hn

/-- the cells of a list, all of them pure -/
def pures : List AV → Option (List PV)
  | [] => some []
  | .p x :: r => match pures r with
    | some l => some (x :: l)
    | none => none
  | _ => none
theorem pures_spec : ∀ {l : List AV} {cs : List PV}, pures l = some cs → l = cs.map AV.p
  | [], cs, h => by simp only [pures, Option.some.injEq] at h; subst h; rfl
  | .p x :: r, cs, h => by
    simp only [pures] at h
    cases hr : pures r with
    | none => rw [hr] at h; cases h
    | some l =>
      rw [hr] at h
      obtain rfl := Option.some.inj h
      rw [pures_spec hr]; rfl
  | .any :: r, cs, h => by simp [pures] at h
  | .own _ :: r, cs, h => by simp [pures] at h
  | .ptr _ _ :: r, cs, h => by simp [pures] at h
  | .pt _ :: r, cs, h => by simp [pures] at h
  | .tup _ :: r, cs, h => by simp [pures] at h
theorem w_loadRN {id off m : Nat} {b : Blk} {cs : List PV} [h : TyA P t true m] (ho : o.op = .load t x) (hx : S.get x = .ptr id off) (hb : S.blk id = some b) (hc : pures ((b.xs.drop off).take m) = some cs) (hl : cs.length = m) (hd : o.dst = some d) (hn : d < n) : AStep P n o S [id] (.p (.agg cs)) none :=
  a_loadRN ho hx hb (pures_spec hc) hl h.ag h.sz hd hn
theorem w_fieldPt {s f k : Nat} {xs : List PV} [h : FieldA P s f k] (ho : o.op = .fieldAddr s x f) (hx : S.get x = .pt xs) (hd : o.dst = some d) (hn : d < n) : AStep P n o S [] (.pt (xs.drop k)) none := a_fieldPt ho hx h.h hd hn
theorem w_fieldR {s f k id off : Nat} [h : FieldA P s f k] (ho : o.op = .fieldAddr s x f) (hx : S.get x = .ptr id off) (hd : o.dst = some d) (hn : d < n) : AStep P n o S [] (.ptr id (off + k)) none := a_fieldR ho hx h.h hd hn
theorem w_indexS {ix : Operand} {e sz i : Nat} {k : IntKind} {agg : Bool} {es : List PV} {c : PV} [ht : Und P t (.slice e)] [he : TyA P e agg sz] (ho : o.op = .indexAddr t x ix) (hx : S.get x = .p (.sl es)) (hi : S.get ix = .p (.val (.int k i)))
    (hes : ∀ e ∈ es, e.cells.length = sz) (hc : es[i]? = some c) (hd : o.dst = some d) (hn : d < n) : AStep P n o S [] (.pt c.cells) none := a_indexS ho hx hi ht.h he.sz hes hc hd hn
theorem w_lenS {es : List PV} {t' : Nat} [ht : Und P t (.slice t')] (ho : o.op = .call { callee := .builtin .len, args := #[x], argTypes := #[t] }) (hx : S.get x = .p (.sl es)) (hd : o.dst = some d) (hn : d < n) : AStep P n o S [] (.p (.val (.int .i64 es.length))) none := a_lenS ho hx ht.h hd hn
theorem w_lenN {t' : Nat} [ht : Und P t (.slice t')] (ho : o.op = .call { callee := .builtin .len, args := #[x], argTypes := #[t] }) (hx : S.get x = .p (.val (.slice none 0 0))) (hd : o.dst = some d) (hn : d < n) : AStep P n o S [] (.p (.val (.int .i64 0))) none := a_lenN ho hx ht.h hd hn
theorem w_lenO {id ty sz m t' : Nat} {xs : List AV} [ht : Und P t (.slice t')] (ho : o.op = .call { callee := .builtin .len, args := #[x], argTypes := #[t] }) (hx : S.get x = .own id) (hb : S.blk id = some (.row ty sz m xs)) (hd : o.dst = some d) (hn : d < n) : AStep P n o S [id] (.p (.val (.int .i64 m))) none := a_lenO ho hx hb ht.h hd hn
theorem w_boxA {cs : List PV} (ho : o.op = .box t x) (hx : S.get x = .p (.agg cs)) (hd : o.dst = some d) (hn : d < n) : AStep P n o S [] (.ptr d 0) (some (.box t (cs.map AV.p))) := a_box ho hx (fun u h => by cases h) hd hn
theorem w_boxV {v : Value} (ho : o.op = .box t x) (hx : S.get x = .p (.val v)) (h1 : v.oneCell' = true) (hd : o.dst = some d) (hn : d < n) : AStep P n o S [] (.ptr d 0) (some (.box t [.p (.val v)])) := a_box ho hx (fun u h => by cases h; exact h1) hd hn
theorem w_boxS {es : List PV} (ho : o.op = .box t x) (hx : S.get x = .p (.sl es)) (hd : o.dst = some d) (hn : d < n) : AStep P n o S [] (.ptr d 0) (some (.box t [.p (.sl es)])) := a_box ho hx (fun u h => by cases h) hd hn
theorem w_alloc {z : Value} [hz : ZeroA P t z] (ho : o.op = .alloc t) (h1 : ∀ u ∈ z.cells.toList, u.oneCell' = true) (hd : o.dst = some d) (hn : d < n) : AStep P n o S [] (.ptr d 0) (some (.box t (z.cells.toList.map fun u => .p (.val u)))) := a_alloc ho hz.h h1 hd hn
theorem w_conv {src dst : Nat} {k k2 : IntKind} {a r : Int} {ds : TypeDesc} [hs : Und P src ds] [ht : Und P dst (.int k2)] (ho : o.op = .convert src dst x) (hx : S.get x = .p (.val (.int k a))) (hr : k2.wrap a = r) (hd : o.dst = some d) (hn : d < n) : AStep P n o S [] (.p (.val (.int k2 r))) none :=
  a_conv ho hx (by rw [hs.h]; rfl) ht.h hr hd hn
theorem w_eqlB {xt yt : Nat} {y : Operand} {u v : Bool} [ht : Und P xt .bool] (ho : o.op = .binOp .eql xt x y yt) (hx : S.get x = .p (.val (.bool u))) (hy : S.get y = .p (.val (.bool v))) (hd : o.dst = some d) (hn : d < n) : AStep P n o S [] (.p (.val (.bool (u == v)))) none := a_eqlB ho hx hy ht.h hd hn
theorem w_neqB {xt yt : Nat} {y : Operand} {u v : Bool} [ht : Und P xt .bool] (ho : o.op = .binOp .neq xt x y yt) (hx : S.get x = .p (.val (.bool u))) (hy : S.get y = .p (.val (.bool v))) (hd : o.dst = some d) (hn : d < n) : AStep P n o S [] (.p (.val (.bool (!(u == v))))) none := a_neqB ho hx hy ht.h hd hn
theorem wrap_in {k : IntKind} (x : Int) (h : k.min ≤ x ∧ x ≤ k.max) : k.wrap x = x := by
  obtain ⟨h1, h2⟩ := h
  cases k <;> simp only [IntKind.min, IntKind.max, IntKind.signed, IntKind.bits, IntKind.wrap] at * <;> simp at * <;> omega
theorem wrap_i64 (x : Int) (h : -9223372036854775808 ≤ x ∧ x ≤ 9223372036854775807) : IntKind.i64.wrap x = x := wrap_in x h
theorem wrap_i32 (x : Int) (h : -2147483648 ≤ x ∧ x ≤ 2147483647) : IntKind.i32.wrap x = x := wrap_in x h
theorem wrap_u64 (x : Int) (h : 0 ≤ x ∧ x ≤ 18446744073709551615) : IntKind.u64.wrap x = x := wrap_in x h
theorem wrap_u32 (x : Int) (h : 0 ≤ x ∧ x ≤ 4294967295) : IntKind.u32.wrap x = x := wrap_in x h
theorem wrap_u16 (x : Int) (h : 0 ≤ x ∧ x ≤ 65535) : IntKind.u16.wrap x = x := wrap_in x h
theorem wrap_u8 (x : Int) (h : 0 ≤ x ∧ x ≤ 255) : IntKind.u8.wrap x = x := wrap_in x h
theorem w_call {f : Nat} {args : Array Operand} {ts : Array TypeId} {xs : List PV} {r : PV} [hc : HasFn P f] (hf : Fn P f xs (.p r)) (ho : o.op = .call { callee := .value (.func f), args := args, argTypes := ts })
    (hx : args.toList.map S.get = xs.map AV.p) (hd : o.dst = some d) (hn : d < n) : AStep P n o S [] (.p r) none := a_call ho hc.h hx hf hd hn
theorem w_callT {f : Nat} {args : Array Operand} {ts : Array TypeId} {xs : List PV} {l : List PV} [hc : HasFn P f] (hf : Fn P f xs (.tup l)) (ho : o.op = .call { callee := .value (.func f), args := args, argTypes := ts })
    (hx : args.toList.map S.get = xs.map AV.p) (hd : o.dst = some d) (hn : d < n) : AStep P n o S [] (.tup (l.map AV.p)) none := a_callTup ho hc.h hx hf hd hn

variable {ops : Array Oper} {rest : List Oper} {K : AS → Prop}
theorem AOps.gY {j t : Nat} {want b : Bool} {bs : List Nat} {av : AV} (hg : o.guard = some (j, want)) (ht : (ops[j]?).bind (·.dst) = some t) (htn : t < n) (hb : S.tmp t = .p (.val (.bool b))) (hbw : b = want) (hd : o.dst = some d) (hdn : d < n)
    (h : AStep P n o S bs av none) (hr : AOps P n ops rest (S.put d av) K) : AOps P n ops (o :: rest) S K :=
  AOps.gy hg ht htn (hbw ▸ hb) hd hdn h hr
theorem AOps.gnT {j t : Nat} {b : Bool} (hg : o.guard = some (j, true)) (ht : (ops[j]?).bind (·.dst) = some t) (htn : t < n) (hb : S.tmp t = .p (.val (.bool b))) (hbw : b = false) (hd : o.dst = some d) (hdn : d < n)
    (hr : AOps P n ops rest (S.put d undefA) K) : AOps P n ops (o :: rest) S K := AOps.gn hg ht htn hb hbw hd hdn hr
theorem AOps.gnF {j t : Nat} {b : Bool} (hg : o.guard = some (j, false)) (ht : (ops[j]?).bind (·.dst) = some t) (htn : t < n) (hb : S.tmp t = .p (.val (.bool b))) (hbw : b = true) (hd : o.dst = some d) (hdn : d < n)
    (hr : AOps P n ops rest (S.put d undefA) K) : AOps P n ops (o :: rest) S K := AOps.gn hg ht htn hb hbw hd hdn hr
theorem AOps.split {j t : Nat} {want b : Bool} (_hg : o.guard = some (j, want)) (_ht : (ops[j]?).bind (·.dst) = some t) (_hb : S.tmp t = .p (.val (.bool b)))
    (h1 : b = true → AOps P n ops (o :: rest) S K) (h2 : b = false → AOps P n ops (o :: rest) S K) : AOps P n ops (o :: rest) S K := by
  cases b
  · exact h2 rfl
  · exact h1 rfl
theorem ACode.condY {c : Operand} {x y : Code} {K : Exit → AS → Prop} {b : Bool} (hc : S.get c = .p (.val (.bool b))) (hb : b = true) (ht : ACode P n x S K) : ACode P n (.cond c x y) S K :=
  ACode.cond hc (fun _ => ht) (fun h => by rw [hb] at h; cases h)
theorem ACode.condN {c : Operand} {x y : Code} {K : Exit → AS → Prop} {b : Bool} (hc : S.get c = .p (.val (.bool b))) (hb : b = false) (ht : ACode P n y S K) : ACode P n (.cond c x y) S K :=
  ACode.cond hc (fun h => by rw [hb] at h; cases h) (fun _ => ht)
theorem w_pickY {c x y : Operand} {v : PV} {b : Bool} (ho : o.op = .pick c x y) (hc : S.get c = .p (.val (.bool b))) (hb : b = true) (hx : S.get x = .p v) (hd : o.dst = some d) (hn : d < n) : AStep P n o S [] (.p v) none := a_pickY ho (hb ▸ hc) hx hd hn
theorem w_pickN {c x y : Operand} {v : PV} {b : Bool} (ho : o.op = .pick c x y) (hc : S.get c = .p (.val (.bool b))) (hb : b = false) (hx : S.get y = .p v) (hd : o.dst = some d) (hn : d < n) : AStep P n o S [] (.p v) none := a_pickN ho (hb ▸ hc) hx hd hn

theorem gives1 {fn : Func} {S : AS} {t : Nat} {x y : PV} (hr : fn.results = #[.tmp t]) (ht : S.tmp t = .p x) (he : x = y) : Gives fn S (.p y) := .inl ⟨t, x, hr, ht, by rw [he]⟩
theorem givesT {fn : Func} {S : AS} {ts : List Nat} {l : List PV} (hr : fn.results = (ts.map ResultVar.tmp).toArray) (hl : 2 ≤ ts.length) (ht : ts.map S.tmp = l.map AV.p) : Gives fn S (.tup l) := .inr (.inl ⟨ts, l, hr, hl, ht, rfl⟩)
theorem givesO {fn : Func} {S : AS} {t id ty size n : Nat} {xs : List PV} (hr : fn.results = #[.tmp t]) (ht : S.tmp t = .own id) (hb : S.blk id = some (.row ty size n (xs.map AV.p))) : Gives fn S (.row ty size n xs) := .inr (.inr ⟨t, id, ty, size, n, xs, hr, ht, hb, rfl⟩)

end

/-! ### Regions that draw their order, in the form that the walk takes -/
inductive AC (P : Program) (n : Nat) (l : List Oper) : AS → List Oper → List AI → AS → List Oper → Prop
  | done (S : AS) (os : List Oper) : AC P n l S os [] S os
  | step {S S' : AS} {o : Oper} {os tl : List Oper} {x : AI} {xs : List AI} (hg : GStep P n l S o x) (h : AC P n l (S.out o.dst x.av x.nb) os xs S' tl) : AC P n l S (o :: os) (x :: xs) S' tl

theorem AC.chain {P : Program} {n : Nat} {l : List Oper} {S S' : AS} {os tl : List Oper} {xs : List AI} (h : AC P n l S os xs S' tl) : AChain P n l S os xs ∧ runA S os xs = S' ∧ os.drop xs.length = tl := by
  induction h with
  | done S os => cases os <;> exact ⟨trivial, rfl, rfl⟩
  | step hg _ ih => exact ⟨⟨hg, ih.1⟩, ih.2.1, ih.2.2⟩

section
variable {P : Program} {n : Nat} {S S' : AS} {l : List Oper}
theorem ACode.draw2 {id : Nat} {K : Exit → AS → Prop} {xs : List AI} {tl : List Oper} (hm : P.follows .mixedOrders = true) (h : AC P n l S l xs S' tl) (hsch : schedB l xs.length (xs.map (·.bs)) = true) (hmade : madeB l xs S = true)
    (ht : TChain P n (K .normal) S' tl) : ACode P n (.region id l.toArray true) S K := by
  obtain ⟨h1, h2, h3⟩ := h.chain
  exact ACode.draw xs hm hsch hmade h1 (by rw [h2, h3]; exact ht)

variable {o : Oper} {os tl : List Oper} {xs : List AI} {d : Nat}
theorem AC.v {bs : List Nat} {av : AV} (hg : o.guard = none) (hd : o.dst = some d) (ha : AStep P n o S bs av none) (h : AC P n l (S.put d av) os xs S' tl) : AC P n l S (o :: os) (⟨bs, av, none⟩ :: xs) S' tl :=
  .step (.inl ⟨hg, ha⟩) (by rw [hd]; exact h)
theorem AC.m {bs : List Nat} {av : AV} {b : Blk} (hg : o.guard = none) (hd : o.dst = some d) (ha : AStep P n o S bs av (some b)) (h : AC P n l ((S.create d b).put d av) os xs S' tl) : AC P n l S (o :: os) (⟨bs, av, some b⟩ :: xs) S' tl :=
  .step (.inl ⟨hg, ha⟩) (by rw [hd]; exact h)
theorem AC.gY {bs : List Nat} {av : AV} {j t : Nat} {want b : Bool} (hg : o.guard = some (j, want)) (ht : dstOf l j = some t) (htn : t < n) (hb : S.tmp t = .p (.val (.bool b))) (hbw : b = want) (hd : o.dst = some d) (ha : AStep P n o S bs av none) (h : AC P n l (S.put d av) os xs S' tl) : AC P n l S (o :: os) (⟨bs, av, none⟩ :: xs) S' tl :=
  .step (.inr ⟨j, want, t, _, hg, ht, htn, hb, .inl ⟨by simp [wantB, hbw], ha⟩⟩) (by rw [hd]; exact h)
theorem AC.gN {j t : Nat} {want b : Bool} (hg : o.guard = some (j, want)) (ht : dstOf l j = some t) (htn : t < n) (hb : S.tmp t = .p (.val (.bool b))) (hbw : b = !want) (hd : o.dst = some d) (hdn : d < n) (h : AC P n l (S.put d undefA) os xs S' tl) : AC P n l S (o :: os) (⟨[], undefA, none⟩ :: xs) S' tl :=
  .step (.inr ⟨j, want, t, _, hg, ht, htn, hb, .inr ⟨by cases want <;> simp [wantB, hbw], rfl, rfl, d, hd, hdn⟩⟩) (by rw [hd]; exact h)

theorem AC.gNT {j t : Nat} {b : Bool} (hg : o.guard = some (j, true)) (ht : dstOf l j = some t) (htn : t < n) (hb : S.tmp t = .p (.val (.bool b))) (hbw : b = false) (hd : o.dst = some d) (hdn : d < n) (h : AC P n l (S.put d undefA) os xs S' tl) : AC P n l S (o :: os) (⟨[], undefA, none⟩ :: xs) S' tl := AC.gN hg ht htn hb hbw hd hdn h
theorem AC.gNF {j t : Nat} {b : Bool} (hg : o.guard = some (j, false)) (ht : dstOf l j = some t) (htn : t < n) (hb : S.tmp t = .p (.val (.bool b))) (hbw : b = true) (hd : o.dst = some d) (hdn : d < n) (h : AC P n l (S.put d undefA) os xs S' tl) : AC P n l S (o :: os) (⟨[], undefA, none⟩ :: xs) S' tl := AC.gN hg ht htn hb hbw hd hdn h

/-- A guard whose own guard said no. -/
theorem AC.gU {j t : Nat} {want : Bool} (hg : o.guard = some (j, want)) (ht : dstOf l j = some t) (htn : t < n) (hb : S.tmp t = undefA) (hd : o.dst = some d) (hdn : d < n) (h : AC P n l (S.put d undefA) os xs S' tl) : AC P n l S (o :: os) (⟨[], undefA, none⟩ :: xs) S' tl :=
  .step (.inr ⟨j, want, t, _, hg, ht, htn, hb, .inr ⟨rfl, rfl, rfl, d, hd, hdn⟩⟩) (by rw [hd]; exact h)
theorem AOps.gU {ops : Array Oper} {K : AS → Prop} {j t : Nat} {want : Bool} (hg : o.guard = some (j, want)) (ht : (ops[j]?).bind (·.dst) = some t) (htn : t < n) (hb : S.tmp t = undefA) (hd : o.dst = some d) (hdn : d < n)
    (hr : AOps P n ops os (S.put d undefA) K) : AOps P n ops (o :: os) S K :=
  AOps.guardedV hg ht htn hb hd hdn (fun h => by cases h) (fun _ => hr)

theorem TChain.v {K : AS → Prop} {bs : List Nat} {av : AV} (hg : o.guard = none) (hd : o.dst = some d) (ha : AStep P n o S bs av none) (h : TChain P n K (S.put d av) os) : TChain P n K S (o :: os) :=
  ⟨hg, S.put d av, by have := ha.step; rw [hd] at this; exact this, h⟩
theorem TChain.w {K : AS → Prop} {S1 : AS} (hg : o.guard = none) (ha : Step P n o S S1) (h : TChain P n K S1 os) : TChain P n K S (o :: os) := ⟨hg, S1, ha, h⟩
theorem TChain.nil {K : AS → Prop} (h : K S) : TChain P n K S [] := h
theorem AOps.w {ops : Array Oper} {K : AS → Prop} {S1 : AS} (hg : o.guard = none) (ha : Step P n o S S1) (h : AOps P n ops os S1 K) : AOps P n ops (o :: os) S K := AOps.cons hg ha h
theorem AOps.m2 {ops : Array Oper} {K : AS → Prop} {bs : List Nat} {av : AV} {b : Blk} (hg : o.guard = none) (hd : o.dst = some d) (h : AStep P n o S bs av (some b)) (hr : AOps P n ops os ((S.create d b).put d av) K) : AOps P n ops (o :: os) S K := AOps.m hg hd h hr

end

end Go.Proofs.Ytjokcnajopfjhaa
