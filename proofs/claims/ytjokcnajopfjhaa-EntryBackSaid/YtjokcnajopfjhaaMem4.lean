/- The rules of the walk over abstract frames: appends, strings, equality of structs. Generic over the program. -/
import Derived.Test.YtjokcnajopfjhaaMem3
namespace Go.Proofs.Ytjokcnajopfjhaa
open Go Go.RowKit

theorem own_slice {w : World} {base : Nat} {e : TypeId} {size : Nat} {v : Value} {n : Nat} {xs : List Value} (h : w.ownsRow base e size v n xs) : blkOf v = v.ownBlock := by
  rcases h.2 with ⟨rfl, _⟩ | ⟨g, cap, cur, rfl, _⟩ <;> rfl

section
variable {M : Nat → Prop} {n : Nat} {w0 w w' : World} {S : AS} {ρ : Nat → Value} {a : Act}

theorem Sat.appended (hs : Sat M n w0 S ρ a w) {id e sz m m' : Nat} {xs news : List AV} {ys us : List Value} {v' : Value} (hb : S.blk id = some (.row e sz m xs)) (hown0 : w.ownsRow w0.heap.size e sz (ρ id) m ys) (hys : CellsA (Mut M S ρ) ρ w xs ys)
    (hus : CellsA (Mut M S ρ) ρ w news us) (hg : w.grownBy w' (ρ id).ownBlock) (hown : w'.ownsRow w0.heap.size e sz v' m' (ys ++ us)) (hob : v'.ownBlock = (ρ id).ownBlock ∨ v'.ownBlock = some w.heap.size) :
    Sat M n w0 (S.create id (.row e sz m' (xs ++ news))) (upd ρ id v') a w' := by
  have e1 := own_slice hown0
  have e2 := own_slice hown
  have hmut : ∀ k, k < w.heap.size → (Mut M S ρ k ∨ blkOf v' = some k) → Mut M S ρ k := fun k hk h => by
    rcases h with h | h
    · exact h
    · rw [e2] at h
      rcases hob with h3 | h3
      · exact .inr ⟨id, _, hb, by rw [e1, ← h3]; exact h⟩
      · rw [h3] at h; simp at h; omega
  have hks : Keeps (fun k => Mut M S ρ k ∨ blkOf v' = some k) w w' := ⟨hg.size, fun k hk hnm => hg.block k hk (fun h => hnm (.inl (.inr ⟨id, _, hb, by rw [e1]; exact h.symm⟩)))⟩
  refine hs.change id _ v' (ρ id).ownBlock hg (fun k hk => ⟨_, hb, by rw [e1]; exact hk⟩) (fun k hk => ?_) ⟨ys ++ us, hown, ?_⟩
  · rw [e2] at hk
    rcases hob with h3 | h3
    · exact .inr (by rw [← h3]; exact hk)
    · rw [h3] at hk; simp at hk; exact .inl (by omega)
  · have ha : CellsA (Mut M S ρ) ρ w (xs ++ news) (ys ++ us) := ⟨by simp [hys.len, hus.len], fun i c v h1 h2 => by
      by_cases hi : i < xs.length
      · rw [List.getElem?_append_left hi] at h1
        rw [List.getElem?_append_left (by rw [hys.len]; exact hi)] at h2
        exact hys.each i c v h1 h2
      · rw [List.getElem?_append_right (by omega)] at h1
        rw [List.getElem?_append_right (by rw [hys.len]; omega), hys.len] at h2
        exact hus.each _ c v h1 h2, fun v hv => by
      rcases List.mem_append.1 hv with hv | hv
      · exact hys.one v hv
      · exact hus.one v hv⟩
    exact (ha.mono hmut).keep hks

end

section
variable {P : Program} {n : Nat} {o : Oper} {S : AS} {d : Nat} {t : TypeId} {x y : Operand}

/-- The elements that a slice reads as, as an append takes them. -/
def NewsOf (M : Nat → Prop) (ρ : Nat → Value) (w : World) (v : Value) (k sz : Nat) (news : List AV) : Prop :=
  ∃ us, CellsA M ρ w news us ∧ ((v = .slice none 0 0 ∧ k = 0 ∧ us = []) ∨ ∃ a c, v = .slice (some a) k c ∧ us.length = k * sz ∧ ∀ (j : Nat) u, us[j]? = some u → w.cell? (a.add j) = some u)

theorem news_p {M : Nat → Prop} {ρ : Nat → Value} {w : World} {v : Value} {es : List PV} {sz : Nat} (h : Rep M w (.sl es) v) (hes : ∀ e ∈ es, e.cells.length = sz) : NewsOf M ρ w v es.length sz ((flat es).map AV.p) := by
  rcases rep_sl h with ⟨rfl, rfl⟩ | ⟨g, off, cap, ys, rfl, hl, hcell, _⟩
  · exact ⟨[], ⟨rfl, fun i c v h => by simp [flat] at h, fun v h => by simp at h⟩, .inl ⟨rfl, rfl, rfl⟩⟩
  · refine ⟨ys, ⟨by simp [hl.len], fun i c v h1 h2 => ?_, hl.one⟩, .inr ⟨⟨g, off, none⟩, cap, rfl, by rw [hl.len, flat_len hes], fun j u hu => by rw [add_lit]; exact hcell j u hu⟩⟩
    rw [List.getElem?_map, Option.map_eq_some_iff] at h1
    obtain ⟨y, hy, rfl⟩ := h1
    exact .p (hl.each i y v hy h2)

theorem news_own {M : Nat → Prop} {ρ : Nat → Value} {w : World} {B : Nat} {v : Value} {ty sz k : Nat} {xs : List AV} (h : BlkOK M B ρ w v (.row ty sz k xs)) : NewsOf M ρ w v k sz xs := by
  obtain ⟨ys, ho, hc⟩ := h
  rcases ho.2 with ⟨rfl, rfl⟩ | ⟨g, cap, cur, rfl, _⟩
  · have : ys = [] := List.eq_nil_of_length_eq_zero (by simpa using ho.1)
    subst this
    exact ⟨[], hc, .inl ⟨rfl, rfl, rfl⟩⟩
  · exact ⟨ys, hc, .inr ⟨_, cap, rfl, ho.1, fun j u hu => ho.cells (g := g) rfl j u hu⟩⟩

/-- append: what is laid behind reads as news. -/
theorem s_append {id e sz by_ m k : Nat} {z : Value} {xs news : List AV} (ho : o.op = .call { callee := .builtin .append, args := #[x, y], argTypes := #[t, t] }) (hx : S.get x = .own id) (hb : S.blk id = some (.row e sz m xs))
    (hy : ∀ (M : Nat → Prop) (w0 : World) (ρ : Nat → Value) (a : Act) (w : World), Sat M n w0 S ρ a w → NewsOf (Mut M S ρ) ρ w (a.eval y) k sz news)
    (ht : P.underlying t = some (.slice e)) (hi : (P.info? e).map (fun i => (i.zero, i.size, i.bytes)) = some (some z, sz, by_)) (hzs : z.cells.size = sz) (hsz : 0 < sz) (h63 : m + k ≤ maxLen) (hby : (m + k) * by_ ≤ 140737488355328) (hd : o.dst = some d) (hn : d < n) :
    Step P n o S ((S.create id (.row e sz (m + k) (xs ++ news))).put d (.own id)) := by
  intro M w0 ρ a w K Q hs hK
  obtain ⟨i, hi1, hi2⟩ := Option.map_eq_some_iff.1 hi
  simp only [Prod.mk.injEq] at hi2
  obtain ⟨hz, hisz, hiby⟩ := hi2
  have h1 := hs.rep x
  rw [hx] at h1
  have hv := own_eq h1
  obtain ⟨ys, hown, hys⟩ := hs.blks id _ hb
  obtain ⟨us, hus, hnews⟩ := hy M w0 ρ a w hs
  have fin : ∀ v' w', (Builtin.append_ #[t, t] o.type #[ρ id, a.eval y]).run P w = .ok v' w' → Sat M n w0 (S.create id (.row e sz (m + k) (xs ++ news))) (upd ρ id v') a w' → o.wp P a w K Q := by
    intro v' w' hr hs'
    unfold Oper.wp execOp
    simp only [ho, resolve, invoke, builtin, Sem.run_bind, Sem.run_pure, Result.andThen_ok, List.map_toArray, List.map_cons, List.map_nil, hv, hr]
    show K (a.put o.dst v') w'
    rw [hd]
    refine hK _ _ w' (hs'.put hn ?_)
    have := RepA.own (M := Mut M (S.create id (.row e sz (m + k) (xs ++ news))) (upd ρ id v')) (ρ := upd ρ id v') (w := w') id
    simpa [upd] using this
  rcases hnews with ⟨hyv, hk0, hu0⟩ | ⟨ad, c, hyv, hul, hcell⟩
  · subst hk0
    subst hu0
    rw [hyv] at fin
    exact fin _ w (run_append_owned_none (P := P) w w0.heap.size t o.type e i sz ht hi1 (ρ id) m ys hown) (hs.appended hb hown hys hus ⟨rfl, rfl, rfl, Nat.le_refl _, fun _ _ _ => rfl⟩ (by simpa using hown) (.inl rfl))
  · obtain ⟨v', w', hr, hown', hg, _, hob⟩ := run_append_own_at (P := P) w w0.heap.size t o.type e i z sz by_ ht hi1 hz hisz hiby hzs hsz (ρ id) m ys hown ad k c us hul hcell hus.one h63 hby hs.below.size
    rw [hyv] at fin
    exact fin v' w' hr (hs.appended hb hown hys hus hg hown' hob)

/-- .. to an own row, what is pure -/
theorem s_appendP {id e sz by_ m : Nat} {z : Value} {xs : List AV} {es : List PV} (ho : o.op = .call { callee := .builtin .append, args := #[x, y], argTypes := #[t, t] }) (hx : S.get x = .own id) (hb : S.blk id = some (.row e sz m xs)) (hy : S.get y = .p (.sl es)) (hes : ∀ e ∈ es, e.cells.length = sz)
    (ht : P.underlying t = some (.slice e)) (hi : (P.info? e).map (fun i => (i.zero, i.size, i.bytes)) = some (some z, sz, by_)) (hzs : z.cells.size = sz) (hsz : 0 < sz) (h63 : m + es.length ≤ maxLen) (hby : (m + es.length) * by_ ≤ 140737488355328) (hd : o.dst = some d) (hn : d < n) :
    Step P n o S ((S.create id (.row e sz (m + es.length) (xs ++ (flat es).map AV.p))).put d (.own id)) :=
  s_append ho hx hb (fun _ _ _ _ _ hs => news_p (rep_of_arg hs hy) hes) ht hi hzs hsz h63 hby hd hn
/-- .. another own row -/
theorem s_appendO {id id2 e ty2 sz by_ m k : Nat} {z : Value} {xs news : List AV} (ho : o.op = .call { callee := .builtin .append, args := #[x, y], argTypes := #[t, t] }) (hx : S.get x = .own id) (hb : S.blk id = some (.row e sz m xs)) (hy : S.get y = .own id2) (hb2 : S.blk id2 = some (.row ty2 sz k news))
    (ht : P.underlying t = some (.slice e)) (hi : (P.info? e).map (fun i => (i.zero, i.size, i.bytes)) = some (some z, sz, by_)) (hzs : z.cells.size = sz) (hsz : 0 < sz) (h63 : m + k ≤ maxLen) (hby : (m + k) * by_ ≤ 140737488355328) (hd : o.dst = some d) (hn : d < n) :
    Step P n o S ((S.create id (.row e sz (m + k) (xs ++ news))).put d (.own id)) :=
  s_append ho hx hb (fun _ _ _ _ _ hs => by
    have h1 := hs.rep y
    rw [hy] at h1
    rw [own_eq h1]
    exact news_own (hs.blks id2 _ hb2)) ht hi hzs hsz h63 hby hd hn

/-! ### Strings -/
def byts (bs : List Int) : List PV := bs.map fun b => .val (.int .u8 b)
theorem byts_flat (bs : List Int) : flat (byts bs) = byts bs := flat_ones fun e he => by
  simp only [byts, List.mem_map] at he
  obtain ⟨b, _, rfl⟩ := he
  rfl
theorem rep_val {M : Nat → Prop} {w : World} {u v : Value} (h : Rep M w (.val u) v) : v = u := by
  cases h
  rfl
theorem rep_agg {M : Nat → Prop} {w : World} {cs : List PV} {v : Value} (h : Rep M w (.agg cs) v) : ∃ vs : List Value, v = .agg vs.toArray ∧ vs.length = cs.length ∧ ∀ (i : Nat) c u, cs[i]? = some c → vs[i]? = some u → Rep M w c u := by
  cases h with
  | agg _ vs hl h _ => exact ⟨vs, rfl, hl, h⟩
theorem rep_byts {M : Nat → Prop} {w : World} {bs : List Int} {ys : List Value} (h : RepL M w (byts bs) ys) : ys = bs.map (Value.int .u8) := by
  apply List.ext_getElem?
  intro i
  rw [List.getElem?_map]
  cases hb : bs[i]? with
  | none =>
    have := h.len
    simp only [byts, List.length_map] at this
    exact List.getElem?_eq_none (by rw [this]; exact List.getElem?_eq_none_iff.1 hb)
  | some b =>
    have hi : i < ys.length := by rw [h.len, byts, List.length_map]; exact (List.getElem?_eq_some_iff.1 hb).1
    rw [List.getElem?_eq_getElem hi]
    rw [rep_val (h.each i (.val (.int .u8 b)) _ (by rw [byts, List.getElem?_map, hb]; rfl) (List.getElem?_eq_getElem hi))]
    rfl

theorem a_str {src dst e : TypeId} {bs : List Int} (ho : o.op = .convert src dst x) (hx : S.get x = .p (.sl (byts bs))) (hs : P.underlying src = some (.slice e)) (he : P.underlying e = some (.int .u8)) (ht : P.underlying dst = some .string) (hd : o.dst = some d) (hn : d < n) :
    AStep P n o S [] (.p (.val (.string (strOfNums bs)))) none :=
  AStep.pure hd hn fun S2 hg _ M w0 ρ a w hsat => by
    have hr := rep_of_arg hsat ((hg x (by rw [ho]; simp [Op.operands])).trans hx)
    refine ⟨_, w, ?_, Below.refl _ _, .p (.val _)⟩
    unfold execOp
    rw [ho]
    rcases rep_sl hr with ⟨hv, h0⟩ | ⟨g, off, cap, ys, hv, hl, hcell, _⟩
    · have hb0 : bs = [] := by simpa [byts] using h0
      subst hb0
      simp only [hv, Sem.run_bind, run_convert_bytes_nil w src e hs he 0 0 dst ht]
      rfl
    · rw [byts_flat] at hl
      have hys := rep_byts hl
      have hrun := run_convert_bytes_arg (P := P) w src e hs he g off bs.length cap bs rfl (fun i hi => by
        refine hcell i _ ?_
        rw [hys, List.getElem?_map, List.getElem?_eq_getElem hi]
        simp [List.getD, hi]) dst ht
      have e1 : (byts bs).length = bs.length := by simp [byts]
      rw [e1] at hv
      simp only [hv, Sem.run_bind, hrun]
      rfl

theorem a_eqlS {xt yt : TypeId} {s u : ByteArray} (ho : o.op = .binOp .eql xt x y yt) (hx : S.get x = .p (.val (.string s))) (hy : S.get y = .p (.val (.string u))) (hd : o.dst = some d) (hn : d < n) : AStep P n o S [] (.p (.val (.bool (s.toList == u.toList)))) none :=
  a_binOp ho hx hy hd hn fun w => by simp [eqGuard, binOp, Op.stringOp]

/-! ### Structs that hold numbers: equality -/
def intsOf : List PV → Option (List (IntKind × Int))
  | [] => some []
  | .val (.int k i) :: r => match intsOf r with
    | some l => some ((k, i) :: l)
    | none => none
  | _ => none
def mkInts (l : List (IntKind × Int)) : List Value := l.map fun p => .int p.1 p.2
def flatInts (P : Program) : List Field → Nat → Bool
  | [], _ => true
  | f :: fs, i => f.name != "_" && f.offset == i && (match P.underlying f.type with | some (.int _) => true | _ => false) && flatInts P fs (i + 1)

theorem intsOf_vals {M : Nat → Prop} {w : World} : ∀ {cs : List PV} {l : List (IntKind × Int)} {vs : List Value}, intsOf cs = some l → vs.length = cs.length → (∀ (i : Nat) c v, cs[i]? = some c → vs[i]? = some v → Rep M w c v) → vs = mkInts l
  | [], l, vs, h, hl, _ => by
    simp only [intsOf, Option.some.injEq] at h
    subst h
    exact List.eq_nil_of_length_eq_zero hl
  | .val v :: r, l, vs, h, hl, he => by
    cases v with
    | int k i =>
      obtain ⟨l2, h2, rfl⟩ : ∃ l2, intsOf r = some l2 ∧ (k, i) :: l2 = l := by
        simp only [intsOf] at h
        cases hr : intsOf r with
        | none => rw [hr] at h; cases h
        | some l2 => rw [hr] at h; exact ⟨l2, rfl, Option.some.inj h⟩
      cases vs with
      | nil => simp at hl
      | cons v vs =>
        have h0 := rep_val (he 0 _ v rfl rfl)
        have h1 := intsOf_vals h2 (vs := vs) (by simpa using hl) (fun i c v h3 h4 => he (i + 1) c v (by simpa using h3) (by simpa using h4))
        subst h0
        subst h1
        rfl
    | _ => simp [intsOf] at h
  | .sl _ :: r, l, vs, h, _, _ => by simp [intsOf] at h
  | .agg _ :: r, l, vs, h, _, _ => by simp [intsOf] at h

theorem isAgg_int {w : World} {t : TypeId} {k : IntKind} (h : P.underlying t = some (.int k)) : (isAgg t).run P w = .ok false w := by
  simp [isAgg, run_underlying h]

theorem eqFields_ints (w : World) (dp : Nat) : ∀ (fs : List Field) (i : Nat) (ks : List IntKind) (ps qs : List (IntKind × Int)), flatInts P fs i = true → ps.map Prod.fst = ks → qs.map Prod.fst = ks → ks.length = i + fs.length →
    (Op.eqFields (dp + 1) (mkInts ps).toArray (mkInts qs).toArray fs).run P w = .ok (decide (ps.drop i = qs.drop i)) w
  | [], i, ks, ps, qs, _, ha, hb, hl => by
    have e1 : ps.length = i := by rw [← ha] at hl; simpa using hl
    have e2 : qs.length = i := by rw [← hb] at hl; simpa using hl
    simp [Op.eqFields, List.drop_of_length_le (Nat.le_of_eq e1), List.drop_of_length_le (Nat.le_of_eq e2)]
  | f :: fs, i, ks, ps, qs, h, ha, hb, hl => by
    simp only [flatInts, Bool.and_eq_true, bne_iff_ne, ne_eq, beq_iff_eq] at h
    obtain ⟨⟨⟨h1, h2⟩, h3⟩, h4⟩ := h
    have e1 : ps.length = i + (fs.length + 1) := by rw [← ha] at hl; simpa using hl
    have e2 : qs.length = i + (fs.length + 1) := by rw [← hb] at hl; simpa using hl
    have hk : ∃ k, P.underlying f.type = some (.int k) := by
      cases hu : P.underlying f.type with
      | none => rw [hu] at h3; cases h3
      | some d => rw [hu] at h3; cases d <;> first | exact ⟨_, rfl⟩ | cases h3
    obtain ⟨k', hk'⟩ := hk
    have hia : i < ps.length := by omega
    have hib : i < qs.length := by omega
    have hkk : ps[i].1 = qs[i].1 := by
      have := congrArg (fun l => l[i]?) (ha.trans hb.symm)
      simp only [List.getElem?_map, List.getElem?_eq_getElem hia, List.getElem?_eq_getElem hib, Option.map_some, Option.some.injEq] at this
      exact this
    have part_int : ∀ (l : List (IntKind × Int)) (hi : i < l.length), (part f.type (mkInts l).toArray f.offset).run P w = .ok (.int l[i].1 l[i].2) w := fun l hi => by
      unfold part
      simp only [Sem.run_bind, isAgg_int hk', Result.andThen_ok, h2]
      simp [mkInts, hi]
    unfold Op.eqFields
    rw [if_pos h1]
    simp only [Sem.run_bind, part_int ps hia, part_int qs hib, Result.andThen_ok]
    rw [hkk, run_equalIn_int w dp f.type _ k' _ _ hk']
    simp only [Result.andThen_ok, Sem.run_ite, Sem.run_pure]
    have ih := eqFields_ints w dp fs (i + 1) ks ps qs h4 ha hb (by simp at hl; omega)
    have hx : (ps.drop i = qs.drop i) ↔ (ps[i] = qs[i] ∧ ps.drop (i + 1) = qs.drop (i + 1)) := by rw [List.drop_eq_getElem_cons hia, List.drop_eq_getElem_cons hib, List.cons.injEq]
    by_cases he : ps[i].2 = qs[i].2
    · have hee : ps[i] = qs[i] := Prod.ext hkk he
      rw [if_neg (by simp [he]), ih, decide_eq_decide.2 (hx.trans ⟨fun h => h.2, fun h => ⟨hee, h⟩⟩)]
    · rw [if_pos (by simp [he]), decide_eq_false (fun h => he (by rw [(hx.1 h).1]))]

theorem a_eqlT {xt yt : TypeId} {ps qs : List PV} {la lb : List (IntKind × Int)} (ho : o.op = .binOp .eql xt x y yt) (hx : S.get x = .p (.agg ps)) (hy : S.get y = .p (.agg qs)) (ha : intsOf ps = some la) (hb : intsOf qs = some lb) (hab : la.map Prod.fst = lb.map Prod.fst)
    (hlen : la.length = (P.fieldsOf xt).toList.length) (h1 : P.underlying xt = some (.struct (P.fieldsOf xt))) (h2 : P.stoodInHeld xt = false) (h3 : P.eqGuardType P.depth xt = false) (h4 : flatInts P (P.fieldsOf xt).toList 0 = true) (hd : o.dst = some d) (hn : d < n) :
    AStep P n o S [] (.p (.val (.bool (decide (la = lb))))) none :=
  AStep.pure hd hn fun S2 hg _ M w0 ρ a w hs => by
    have r1 := rep_of_arg hs ((hg x (by rw [ho]; simp [Op.operands])).trans hx)
    have r2 := rep_of_arg hs ((hg y (by rw [ho]; simp [Op.operands])).trans hy)
    obtain ⟨vs, hva, hl, he⟩ := rep_agg r1
    obtain ⟨us, hvb, hl2, he2⟩ := rep_agg r2
    have h5 := intsOf_vals ha hl he
    have h6 := intsOf_vals hb hl2 he2
    subst h5
    subst h6
    refine ⟨_, w, ?_, Below.refl _ _, .p (.val _)⟩
    unfold execOp
    rw [ho]
    simp only [hva, hvb, Sem.run_bind, run_eqGuard_agg w _ xt x y _ _ h3, Result.andThen_ok, run_eql_struct, run_equalIn_agg w 9999 xt _ _ h1 h2]
    rw [eqFields_ints w 9998 _ 0 _ la lb h4 rfl hab.symm (by simpa using hlen)]
    rfl

end

end Go.Proofs.Ytjokcnajopfjhaa
