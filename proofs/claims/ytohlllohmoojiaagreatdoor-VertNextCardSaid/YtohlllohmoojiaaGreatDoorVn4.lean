/- What an operation on vertices asks next, or answers, is as the document says, whatever it was told. (Part 4 of 10.) -/
import Derived.Test.YtohlllohmoojiaaGreatDoorVn3
import Derived.Laws.BitsAllLaws
namespace Go.Proofs.YtohlllohmoojiaaGreatDoor
open Go Go.RowKit
set_option maxRecDepth 100000
set_option maxHeartbeats 16000000
section
attribute [local irreducible] zY zZ Step zV Sub zF Fn
def encL (k s y u v x : Int) : List Int := (k % 256 :: bytesOf 8 s) ++ (if k = 1 then bytesOf 8 y ++ bytesOf 8 u ++ bytesOf 8 v ++ bytesOf 8 x else [])
theorem encRef_fn (k s y u v x : Int) (h0 : 0 ≤ s) (h1 : s < 18446744073709551616) (h2 : 0 ≤ y) (h3 : y < 18446744073709551616) (h4 : 0 ≤ u) (h5 : u < 18446744073709551616) (h6 : 0 ≤ v) (h7 : v < 18446744073709551616) (h8 : 0 ≤ x) (h9 : x < 18446744073709551616) :
    Fn Tryz.prog 215 [entV k s y u v x] (.tup (if mayB k s y u v x then [.sl (byts (encL k s y u v x)), .val (.int .i64 0)] else [.sl [], .val (.int .i64 1)])) := by
  have hl : ∀ n, (bytesOf 8 n).length = 8 := bytesOf_length 8
  have hw : IntKind.u8.wrap k = k % 256 := by simp [IntKind.wrap, IntKind.signed, IntKind.bits]
  refine yT Tryz.func215 rfl Tryz.ntmps215 (Nat.le_of_ble_eq_true rfl) ?_
  repeat' (first | (refine zY.is ?_; first | refine zY.nil ?_ | (refine zY.at_ 25 rfl ?_; refine zY.rc (.w w55_0 (.v v1_1 .e)) ?_) | (refine zY.at_ 30 rfl ?_; refine zY.rc (.w w55_0 (.v v1_1 .e)) ?_) | (refine zY.at_ 35 rfl ?_; refine zY.rc (.w w55_0 (.v v1_1 .e)) ?_) | (refine zY.at_ 4 rfl ?_; refine zY.rc (.v zW .e) ?_) | (refine zY.at_ 40 rfl ?_; refine zY.rc (.w w55_0 (.v v1_1 .e)) ?_) | (refine zY.in_ [7] rfl ?_; refine zY.v rfl rfl (zG (mayRef_fn _ _ _ _ _ _ h2 h3) rfl rfl rfl (by decide)) ?_) | (refine zY.in_ [24] rfl ?_; refine zY.v rfl rfl (zG (eight_fn _ h2 h3) rfl rfl rfl (by decide)) ?_) | (refine zY.in_ [29] rfl ?_; refine zY.v rfl rfl (zG (eight_fn _ h4 h5) rfl rfl rfl (by decide)) ?_) | (refine zY.in_ [34] rfl ?_; refine zY.v rfl rfl (zG (eight_fn _ h6 h7) rfl rfl rfl (by decide)) ?_) | (refine zY.in_ [39] rfl ?_; refine zY.v rfl rfl (zG (eight_fn _ h8 h9) rfl rfl rfl (by decide)) ?_)) | (refine zZ.is ?_; first | refine zZ.seq ?_ | (refine zZ.iR 0 ?_; refine zZ.rc [0] [1, 2, 13] (r := (.m yI (.v zW (.v zW .e)))) (h := ?_)) | (refine zZ.iR 1 ?_; refine zZ.rc [1, 2, 3] [1, 2, 13] (r := (.v xC .e)) (h := ?_)) | (refine zZ.iR 2 ?_; refine zZ.rc [1, 2, 3, 4] [1, 2, 13] (r := (.v zX (.v wU .e))) (h := ?_)) | (refine zZ.iR 3 ?_; refine zZ.rc [1, 2, 3] [1, 2, 13] (r := (.v zW (.v zW .e))) (h := ?_)) | (refine zZ.iR 4 ?_; refine zZ.rk [1, 2, 3] [1, 2, 13] ?_; refine zZ.draws ?_) | (refine zZ.iR 5 ?_; refine zZ.rc [1, 2, 3, 5] [1, 2, 13] (r := (.v zH (.v zL (.v wT .e)))) (h := ?_)) | (refine zZ.iR 6 ?_; refine zZ.rc [1, 2, 3, 5] [1, 2, 13] (r := (.v v0_1 (.v zH (.v zL .e)))) (h := ?_)) | (refine zZ.iR 7 ?_; refine zZ.rc [1, 2, 3, 5] [1, 2, 13] (r := (.v v0_1 (.v zH (.v zL .e)))) (h := ?_)) | (refine zZ.iR 8 ?_; refine zZ.rc [1, 2, 3, 5] [1, 2, 13] (r := (.v v0_1 (.v zH (.v zL .e)))) (h := ?_)) | (refine zZ.iR 9 ?_; refine zZ.rc [1, 2, 3, 5] [1, 2, 13] (r := (.v v0_1 (.v zH (.v zL .e)))) (h := ?_)) | (refine zZ.iR 10 ?_; refine zZ.rc [2, 3, 5] [1, 2, 13] (r := (.v v0_1 (.v v1_1 (.v zW .e)))) (h := ?_)) | refine zZ.cond rfl (fun h => ?_) (fun h => ?_) | refine zZ.skip ?_ | refine zZ.ret ?_) | refine zK.r ?_ | (refine Draws.is ?_; first | refine Draws.rc (.v zH (.v zL (.v qH (.m m20_2 (.v zH (.v zL .e)))))) ?_ | (refine Draws.in_ [16] rfl ?_; refine Draws.v rfl rfl (zG (eight_fn _ h0 h1) rfl rfl rfl (by decide)) ?_) | refine Draws.done (by kernel_rfl) (by kernel_rfl) (by kernel_rfl) ?_) | (refine zF.is ?_; first | refine zF.nil ?_ | (refine zF.at_ 17 rfl ?_; refine zF.rc (.w w55_0 (.v v1_1 .e)) ?_)))
  · have hm : mayB k s y u v x = false := by simpa using h
    rw [if_neg (by simp [hm])]
    exact ⟨.inl rfl, _, sub_nil (d := 2) rfl, .tup (rs := [.tmp 2, .tmp 3]) rfl (by decide) (.cons (.tmp rfl) (.cons (.tmp rfl) .nil))⟩
  · have hm : mayB k s y u v x = true := by rename_i h'; simpa using h'
    have hk : k = 1 := by simpa using h
    have e : encL k s y u v x = [IntKind.u8.wrap k] ++ bytesOf 8 s ++ bytesOf 8 y ++ bytesOf 8 u ++ bytesOf 8 v ++ bytesOf 8 x := by rw [hw]; simp [encL, hk]
    rw [if_pos hm, e]
    exact ⟨.inl rfl, _, sub_freezeB (d := 2) (id := 13) rfl rfl, .tup (rs := [.tmp 2, .tmp 3]) rfl (by decide) (.cons (.tmp rfl) (.cons (.tmp rfl) .nil))⟩
  · have hm : mayB k s y u v x = true := by rename_i h'; simpa using h'
    have hk : ¬ k = 1 := by simpa using h
    have e : encL k s y u v x = [IntKind.u8.wrap k] ++ bytesOf 8 s := by simp [encL, hk, hw]
    rw [if_pos hm, e]
    exact ⟨.inl rfl, _, sub_freezeB (d := 2) (id := 13) rfl rfl, .tup (rs := [.tmp 2, .tmp 3]) rfl (by decide) (.cons (.tmp rfl) (.cons (.tmp rfl) .nil))⟩
end
section
open Go.RowKit
theorem Tryz.infoPtr : (Tryz.prog.info? 256).map (fun i => (i.zero, i.size, i.bytes)) = some (some (.pointer none), 1, 8) := by kernel_rfl
theorem Tryz.sizePtr : (Tryz.prog.info? 256).map (·.size) = some 1 := by kernel_rfl
theorem ownsRow_of_heap {w : World} {base g n cap : Nat} {e : TypeId} {cur : List Value} {xs : List Value} (hg : w.heap[g]? = some (.cells cur.toArray e (0, 0))) (hb : base ≤ g)
    (hc : cur.length = cap) (hn : n ≤ cap) (hm : cap ≤ maxLen) (ht : cur.take n = xs) (hx : xs.length = n) : w.ownsRow base e 1 (.slice (some ⟨g, 0, none⟩) n cap) n xs :=
  ⟨by simpa using hx, .inr ⟨g, cap, cur.toArray, rfl, hb, hg, hn, hm, by simpa using hc, by simpa using ht⟩⟩
theorem cells_four {w : World} {b : Nat} {q0 q1 q2 q3 : Value} (h0 : w.cell? ⟨b, 0, none⟩ = some q0) (h1 : w.cell? ⟨b, 1, none⟩ = some q1) (h2 : w.cell? ⟨b, 2, none⟩ = some q2) (h3 : w.cell? ⟨b, 3, none⟩ = some q3) :
    ∀ (j : Nat) v, [q0, q1, q2, q3][j]? = some v → w.cell? ((⟨b, 0, none⟩ : Addr).add j) = some v := by
  intro j v hv
  match j, hv with
  | 0, hv => simp at hv; subst hv; exact h0
  | 1, hv => simp at hv; subst hv; exact h1
  | 2, hv => simp at hv; subst hv; exact h2
  | 3, hv => simp at hv; subst hv; exact h3
  | j + 4, hv => simp at hv
theorem insert_nil (g : Nat) (p : Value) (w : World) (hp : w.cell? ⟨g, 0, none⟩ = some p) (h1 : p.oneCell' = true) :
    Calls Tryz.prog 232 #[.slice none 0 0, .int .i64 0, .slice (some ⟨g, 0, none⟩) 1 1] w fun e w' =>
      ∃ v, e = .returned v ∧ w'.ownsRow w.heap.size 256 1 v 1 [p] ∧ Below w.heap.size w w' := by
  obtain ⟨i0, hi, hz0, hz1, hz2⟩ := info_parts Tryz.infoPtr
  go_enter Tryz.func232, Tryz.ntmps232
  go_wp2_with (at_builtin; refine wpList_append_own _ rfl _ _ 253 rfl w.heap.size 256 i0 (.pointer none) 1 8 Tryz.underlying253 hi hz0 hz1 hz2 rfl (by decide) _ _ _ rfl (World.ownsRow_nil _ _ _ _) ⟨g, 0, none⟩ 1 1 [p] rfl rfl ?c1 ?c2 ?c3 ?c4 ?c5 ?_)
  case c1 => exact cells_one hp
  case c2 => simpa using h1
  case c3 => simp [maxLen]
  case c4 => decide
  case c5 => exact Nat.le_refl _
  intro v' w1 hown' hgrow _
  go_wp2
  go_ret
  exact ⟨_, rfl, hown', (Below.refl _ _).grown hgrow (Nat.le_refl _) (by simp [Value.ownBlock])⟩
theorem insert_four (b g : Nat) (p q0 q1 q2 q3 : Value) (w : World) (hp : w.cell? ⟨g, 0, none⟩ = some p) (h1 : p.oneCell' = true)
   (hq0 : w.cell? ⟨b, 0, none⟩ = some q0) (hq1 : w.cell? ⟨b, 1, none⟩ = some q1) (hq2 : w.cell? ⟨b, 2, none⟩ = some q2) (hq3 : w.cell? ⟨b, 3, none⟩ = some q3)
   (hq : ∀ v ∈ [q0, q1, q2, q3], v.oneCell' = true) (hbw : b < w.heap.size) (hgw : g < w.heap.size) :
    Calls Tryz.prog 232 #[.slice (some ⟨b, 0, none⟩) 4 4, .int .i64 0, .slice (some ⟨g, 0, none⟩) 1 1] w fun e w' =>
      ∃ v, e = .returned v ∧ w'.ownsRow w.heap.size 256 1 v 5 [p, q0, q1, q2, q3] ∧ Below w.heap.size w w' := by
  obtain ⟨i0, hi, hz0, hz1, hz2⟩ := info_parts Tryz.infoPtr
  go_enter Tryz.func232, Tryz.ntmps232
  go_wp2_with (at_builtin; refine wpList_append_zeros rfl (.tmp 34) (.tmp 39) 253 3 rfl 256 i0 (.pointer none) (.pointer none) Tryz.underlying253 Tryz.underlying3 hi hz0 rfl hz1 ⟨b, 0, none⟩ 4 5 rfl rfl (by decide) (by simp [maxLen]) (by rw [hz2]; decide) (by rw [hz2]; decide) ?_)
  intro cap Z w1 HZ H1 hb1 hc1 hc2
  have hp1 : w1.cell? ⟨g, 0, none⟩ = some p := (hb1.cell (p := ⟨g, 0, none⟩) hgw).trans hp
  have hc1' : ¬ cap = 1 := by omega
  have hc1'' : ¬ cap = 0 := by omega
  have hl : Hid (Z.length = cap) := by show Z.length = cap; rw [HZ.out]; simp
  have D1 : 0 < [p].length → some (⟨w.heap.size, 0, none⟩ : Addr) = some ⟨w.heap.size, 0, none⟩ ∧ ∃ ad, some (⟨g, 0, none⟩ : Addr) = some ad ∧ ∀ (j : Nat) v, [p][j]? = some v → w1.cell? (ad.add j) = some v :=
    fun _ => ⟨rfl, _, rfl, cells_one hp1⟩
  have D2 : 0 + [p].length ≤ Z.length := by rw [hl.out]; simp; omega
  have D3 : ∀ v ∈ [p], v.oneCell' = true := by simpa using h1
  have H1' := Lib.hid D1
  have H2' := Lib.hid D2
  have H3' := Lib.hid D3
  clear D1 D2 D3
  go_wp2_with (with_reducible refine wpList_copy_splice rfl (.tmp 43) (.tmp 44) 253 253 rfl 256 Tryz.underlying253 Tryz.sizePtr (some ⟨w.heap.size, 0, none⟩) (some ⟨g, 0, none⟩) 5 cap 1 1 rfl rfl w.heap.size 0 Z 256 H1.out [p] rfl H1'.out H2'.out H3'.out w.heap.size w hb1 (Nat.le_refl _) ?_)
  intro w2 H2 hb2
  have hr0 : w2.cell? ⟨b, 0, none⟩ = some q0 := (hb2.cell (p := ⟨b, 0, none⟩) hbw).trans hq0
  have hr1 : w2.cell? ⟨b, 1, none⟩ = some q1 := (hb2.cell (p := ⟨b, 1, none⟩) hbw).trans hq1
  have hr2 : w2.cell? ⟨b, 2, none⟩ = some q2 := (hb2.cell (p := ⟨b, 2, none⟩) hbw).trans hq2
  have hr3 : w2.cell? ⟨b, 3, none⟩ = some q3 := (hb2.cell (p := ⟨b, 3, none⟩) hbw).trans hq3
  have hw1 : IntKind.i64.wrap 1 = 1 := by decide
  go_wp2
  go_still_tail 8, (by kernel_rfl)
  change wpList _ _ _ _ _ w2.drew
  refine wpList_copy_splice rfl (.tmp 50) (.tmp 53) 253 253 rfl 256 Tryz.underlying253 Tryz.sizePtr (some ⟨w.heap.size, 1, none⟩) (some ⟨b, 0, none⟩) 4 (cap - 1) 4 4 rfl rfl w.heap.size 1 (Go.splice Z 0 [p]) 256 H2.out [q0, q1, q2, q3] rfl ?e1 ?e2 hq w.heap.size w hb2.drew (Nat.le_refl _) ?_
  case e1 => exact fun _ => ⟨rfl, _, rfl, cells_four hr0 hr1 hr2 hr3⟩
  case e2 => have := hl.out; simp [Go.splice]; omega
  intro w3 H3 hb3
  go_wp2
  go_ret
  refine ⟨_, rfl, ownsRow_of_heap H3.out (Nat.le_refl _) ?_ hc1 hc2 ?_ rfl, hb3⟩
  · have := hl.out; simp [Go.splice]; omega
  · simp [Go.splice]
def fieldsOf (b : Nat) (k : Int) : List Value :=
  if k = 1 then [.pointer (some ⟨b, 1, none⟩), .pointer (some ⟨b, 2, none⟩), .pointer (some ⟨b, 3, none⟩), .pointer (some ⟨b, 4, none⟩), .pointer (some ⟨b, 5, none⟩)]
  else if k = 2 ∨ k = 3 then [.pointer (some ⟨b, 1, none⟩)] else []
theorem fields_any (b : Nat) (k : Int) (w : World) (hp : w.cell? ⟨b, 0, none⟩ = some (.int .i64 k)) :
    Calls Tryz.prog 224 #[.pointer (some ⟨b, 0, none⟩)] w fun e w' =>
      ∃ v, e = .returned v ∧ w'.ownsRow w.heap.size 256 1 v (fieldsOf b k).length (fieldsOf b k) ∧ Below w.heap.size w w' := by
  by_cases h1 : k = 1
  · subst h1
    go_enter Tryz.func224, Tryz.ntmps224
    go_wp2_with fail
    go_still_tail 12, (by kernel_rfl)
    change wpList _ _ _ _ _ w.drew
    go_wp2_with fail
    refine (insert_four w.heap.size (w.heap.size + 1) (.pointer (some ⟨b, 1, none⟩)) (.pointer (some ⟨b, 2, none⟩)) (.pointer (some ⟨b, 3, none⟩)) (.pointer (some ⟨b, 4, none⟩)) (.pointer (some ⟨b, 5, none⟩)) _ (by go_simp) rfl (by go_simp) (by go_simp) (by go_simp) (by go_simp) (by simp [Value.oneCell']) (by simp <;> omega) (by simp <;> omega)).mono ?_
    rintro e w' ⟨v, rfl, hown, hb⟩
    go_wp2
    go_ret
    exact ⟨_, rfl, ownsRow_base hown (by simp <;> omega), ((((Below.refl _ _).alloc (Nat.le_refl _) _).alloc (by simp) _).drew).trans (hb.mono (by simp <;> omega))⟩
  by_cases h2 : k = 2
  · subst h2
    go_enter Tryz.func224, Tryz.ntmps224
    go_wp2_with fail
    refine (insert_nil w.heap.size (.pointer (some ⟨b, 1, none⟩)) _ (by simp) rfl).mono ?_
    rintro e w' ⟨v, rfl, hown, hb⟩
    go_wp2
    go_ret
    exact ⟨_, rfl, ownsRow_base hown (by simp <;> omega), ((Below.refl _ _).alloc (Nat.le_refl _) _).trans (hb.mono (by simp <;> omega))⟩
  by_cases h3 : k = 3
  · subst h3
    go_enter Tryz.func224, Tryz.ntmps224
    go_wp2_with fail
    refine (insert_nil w.heap.size (.pointer (some ⟨b, 1, none⟩)) _ (by simp) rfl).mono ?_
    rintro e w' ⟨v, rfl, hown, hb⟩
    go_wp2
    go_ret
    exact ⟨_, rfl, ownsRow_base hown (by simp <;> omega), ((Below.refl _ _).alloc (Nat.le_refl _) _).trans (hb.mono (by simp <;> omega))⟩
  have e2 : (k == 1) = false := by simpa using h1
  have e3 : (k == 2) = false := by simpa using h2
  have e4 : (k == 3) = false := by simpa using h3
  have hf : Hid (fieldsOf b k = []) := by show fieldsOf b k = []; simp [fieldsOf, h1, h2, h3]
  go_enter Tryz.func224, Tryz.ntmps224
  go_wp2_with fail
  go_ret
  exact ⟨_, rfl, by rw [hf.out]; exact World.ownsRow_nil _ _ _ _, Below.refl _ _⟩
end
section
def yF (id : Nat) (k : Int) : List AV :=
  if k = 1 then [.ptr id 1, .ptr id 2, .ptr id 3, .ptr id 4, .ptr id 5] else if k = 2 ∨ k = 3 then [.ptr id 1] else []
theorem fieldsA_cells {M : Nat → Nat → Prop} {ρ : Nat → Value} {w : World} {id g : Nat} (k : Int) (hg : yX (ρ id) = some g) : yE M ρ w (yF id k) (fieldsOf g k) := by
  have one : ∀ j, yK M ρ w (.ptr id j) (.pointer (some ⟨g, j, none⟩)) := fun j => .ptr id j g hg
  unfold yF fieldsOf
  by_cases h1 : k = 1
  · rw [if_pos h1, if_pos h1]
    refine ⟨rfl, fun i c v hc hv => ?_, fun v hv => ?_⟩
    · match i with
      | 0 | 1 | 2 | 3 | 4 => simp at hc hv; subst hc; subst hv; exact one _
      | i + 5 => simp at hc
    · simp at hv
      rcases hv with rfl | rfl | rfl | rfl | rfl <;> rfl
  · rw [if_neg h1, if_neg h1]
    by_cases h2 : k = 2 ∨ k = 3
    · rw [if_pos h2, if_pos h2]
      refine ⟨rfl, fun i c v hc hv => ?_, fun v hv => ?_⟩
      · match i with
        | 0 => simp at hc hv; subst hc; subst hv; exact one _
        | i + 1 => simp at hc
      · simp at hv
        subst hv
        rfl
    · rw [if_neg h2, if_neg h2]
      exact ⟨rfl, fun i c v hc => by simp at hc, fun v hv => by simp at hv⟩
theorem fieldsA_len (id g : Nat) (k : Int) : (yF id k).length = (fieldsOf g k).length := by
  unfold yF fieldsOf
  split
  · rfl
  · split <;> rfl
theorem w_fields {n : Nat} {o : Oper} {S : AS} {d id ty : Nat} {x : Operand} {k : Int} {cs : List AV} {ts : Array TypeId} (ho : o.op = .call { callee := .value (.func 224), args := #[x], argTypes := ts }) (hx : S.get x = .ptr id 0)
    (hb : S.blk id = some (.box ty cs)) (hk : cs[0]? = some (.p (.val (.int .i64 k)))) (hd : o.dst = some d) (hn : d < n) :
    zV Tryz.prog n o S [id] (.own d) (some (.row 256 1 (yF id k).length (yF id k))) := by
  intro S2 hg hbl M w0 ρ a w K Q hs hK
  have hx2 : S2.get x = .ptr id 0 := (hg x (by rw [ho]; simp [Op.operands, Call.operands])).trans hx
  have hb2 : S2.blk id = some (.box ty cs) := (hbl id (by simp)).trans hb
  have h1 := hs.rep x
  rw [hx2] at h1
  obtain ⟨g, hgv, hv⟩ := vR h1
  obtain ⟨ys, hcs, hcell⟩ := (hs.blks id _ hb2).cells hgv
  have h0 : 0 < cs.length := (List.getElem?_eq_some_iff.1 hk).1
  have hy : ys[0]? = some (ys[0]'(by rw [hcs.len]; exact h0)) := List.getElem?_eq_getElem _
  have hkv := rep_val (kI (hcs.each 0 _ _ hk hy))
  have hc0 := (hcell 0 _ hy).1
  rw [hkv] at hc0
  have he : (execOp a.eval o).run Tryz.prog w = .ok (.enter 224 (#[x].map a.eval)) w := by
    unfold execOp
    rw [ho]
    simp [resolve, Deferred.ofValue, Act.eval, invoke, HasFn.h]
  unfold Oper.wp
  rw [he, Oper.upon_enter]
  have e : #[x].map a.eval = #[.pointer (some ⟨g, 0, none⟩)] := by simp [hv]
  rw [e]
  refine (fields_any g k w hc0).mono ?_
  rintro en w' ⟨v, rfl, hown, hbw⟩
  show K (a.put o.dst v) w'
  rw [hd] at hK ⊢
  have hbk : ∀ k', yX v = some k' → w.heap.size ≤ k' := fun k' hk' => (hown.lt k' (by rw [← own_slice hown]; exact hk')).1
  have h2 := hs.change d (.row 256 1 (yF id k).length (yF id k)) v none (hs.free d hn) ⟨hbw.os, hbw.tape, hbw.output, hbw.size, fun k' hk' _ => hbw.block k' hk'⟩ (fun k' h => by cases h) (fun k' hk' => .inl (hbk k' hk'))
    ⟨fieldsOf g k, by rw [fieldsA_len id g k]; exact ownsRow_base hown (Nat.zero_le _), fieldsA_cells k hgv⟩
  refine hK (upd ρ d v) _ w' (h2.put hn ?_)
  have := yK.own (M := Mut M (S2.create d (.row 256 1 (yF id k).length (yF id k))) (upd ρ d v)) (ρ := upd ρ d v) (w := w') d
  simpa [upd] using this
end
section
attribute [local irreducible] zY zZ Step zV Sub zF Fn
def xR (k s y u v x : Int) : List Int := if k = 1 then [s, y, u, v, x] else [s]
def encUp (k : Int) (vals : List Int) (i : Nat) : List Int := IntKind.u8.wrap k :: (vals.take i).flatMap (bytesOf 8)
def cellsOf (k s y u v x : Int) : List PV := [.val (.int .i64 k), .val (.int .u64 s), .val (.int .u64 y), .val (.int .u64 u), .val (.int .u64 v), .val (.int .u64 x)]
theorem encUp_succ (k : Int) (vals : List Int) (i : Nat) (h : i < vals.length) : encUp k vals (i + 1) = encUp k vals i ++ bytesOf 8 (vals.getD i 0) := by
  have e : vals.take (i + 1) = vals.take i ++ [vals.getD i 0] := by
    rw [List.take_add_one, List.getElem?_eq_getElem h]
    simp [List.getD, h]
  unfold encUp
  rw [e, List.flatMap_append, List.cons_append]
  simp
def encO (k s y u v x : Int) (i : Nat) : AS :=
  ⟨[(2, .p (.val (.slice none 0 0))), (3, .p (.val (.int .i64 0))), (4, .own 14), (15, .own 15), (16, .p (.val (.int .i64 (yF 1 k).length))), (17, .p (.val (.int .i64 i)))],
   [(1, .box 158 ((cellsOf k s y u v x).map AV.p)), (14, qE 5 (encUp k (xR k s y u v x) i)), (15, .row 256 1 (yF 1 k).length (yF 1 k))], .any⟩
def encI (k s y u v x : Int) (i j : Nat) : AS :=
  ⟨[(2, .p (.val (.slice none 0 0))), (3, .p (.val (.int .i64 0))), (4, .own 14), (6, .ptr 1 (i + 1)), (15, .own 15), (16, .p (.val (.int .i64 (yF 1 k).length))), (17, .p (.val (.int .i64 i))), (21, .p (.val (.int .i64 j)))],
   [(1, .box 158 ((cellsOf k s y u v x).map AV.p)), (14, qE 5 (encUp k (xR k s y u v x) i ++ bytesOf j ((xR k s y u v x).getD i 0))), (15, .row 256 1 (yF 1 k).length (yF 1 k))], .any⟩
theorem fieldsA_kill (k : Int) (id : Nat) (h : id ≠ 1) : (yF 1 k).map (AV.kill id) = yF 1 k := by
  have e : ∀ j, AV.kill id (.ptr 1 j) = .ptr 1 j := fun j => by
    show (if 1 = id then AV.any else AV.ptr 1 j) = _
    rw [if_neg (fun h' => h h'.symm)]
  unfold yF
  split
  · simp only [List.map_cons, List.map_nil, e]
  · split
    · simp only [List.map_cons, List.map_nil, e]
    · rfl
theorem rowF_kill (k : Int) (id : Nat) (h : id ≠ 1) : (some (Blk.row 256 1 (yF 1 k).length ((yF 1 k).map (AV.kill id))) : Option Blk) = some (.row 256 1 (yF 1 k).length (yF 1 k)) := by
  rw [fieldsA_kill k id h]
theorem rowF_kill2 (k : Int) (id id2 : Nat) (h : id ≠ 1) (h2 : id2 ≠ 1) : (some (Blk.row 256 1 (yF 1 k).length (((yF 1 k).map (AV.kill id)).map (AV.kill id2))) : Option Blk) = some (.row 256 1 (yF 1 k).length (yF 1 k)) := by
  rw [fieldsA_kill k id h, fieldsA_kill k id2 h2]
theorem fieldsA_get (k : Int) (i : Nat) (hi : i < (yF 1 k).length) : (yF 1 k)[((i : Int)).toNat * 1]? = some (.ptr 1 (i + 1)) := by
  rw [Nat.mul_one, Int.toNat_natCast]
  unfold yF at hi ⊢
  by_cases h1 : k = 1
  · rw [if_pos h1] at hi ⊢
    match i with
    | 0 | 1 | 2 | 3 | 4 => rfl
    | i + 5 => exact absurd hi (by simp)
  · rw [if_neg h1] at hi ⊢
    by_cases h2 : k = 2 ∨ k = 3
    · rw [if_pos h2] at hi ⊢
      match i with
      | 0 => rfl
      | i + 1 => simp at hi
    · rw [if_neg h2] at hi; simp at hi
theorem fields_len (k s y u v x : Int) (i : Nat) (hi : i < (yF 1 k).length) : i < (xR k s y u v x).length := by
  unfold yF at hi
  unfold xR
  by_cases h1 : k = 1
  · rw [if_pos h1] at hi ⊢; exact hi
  · rw [if_neg h1] at hi ⊢
    by_cases h2 : k = 2 ∨ k = 3
    · rw [if_pos h2] at hi; exact hi
    · rw [if_neg h2] at hi; simp at hi
theorem cells_get (k s y u v x : Int) (i : Nat) (hi : i < (yF 1 k).length) : ((cellsOf k s y u v x).map AV.p)[i + 1]? = some (.p (.val (.int .u64 ((xR k s y u v x).getD i 0)))) := by
  unfold yF at hi
  unfold xR
  by_cases h1 : k = 1
  · rw [if_pos h1] at hi ⊢
    match i with
    | 0 | 1 | 2 | 3 | 4 => rfl
    | i + 5 => exact absurd hi (by simp)
  · rw [if_neg h1] at hi ⊢
    by_cases h2 : k = 2 ∨ k = 3
    · rw [if_pos h2] at hi
      match i with
      | 0 => rfl
      | i + 1 => simp at hi
    · rw [if_neg h2] at hi; simp at hi
theorem valsOf_range (k s y u v x : Int) (h0 : 0 ≤ s) (h1 : s < 18446744073709551616) (h2 : 0 ≤ y) (h3 : y < 18446744073709551616) (h4 : 0 ≤ u) (h5 : u < 18446744073709551616) (h6 : 0 ≤ v) (h7 : v < 18446744073709551616) (h8 : 0 ≤ x) (h9 : x < 18446744073709551616) (i : Nat) :
    0 ≤ (xR k s y u v x).getD i 0 ∧ (xR k s y u v x).getD i 0 < 18446744073709551616 := by
  unfold xR
  by_cases hk : k = 1
  · rw [if_pos hk]
    match i with
    | 0 => exact ⟨h0, h1⟩
    | 1 => exact ⟨h2, h3⟩
    | 2 => exact ⟨h4, h5⟩
    | 3 => exact ⟨h6, h7⟩
    | 4 => exact ⟨h8, h9⟩
    | i + 5 => exact ⟨Int.le_refl 0, (by decide : (0 : Int) < 18446744073709551616)⟩
  · rw [if_neg hk]
    match i with
    | 0 => exact ⟨h0, h1⟩
    | i + 1 => exact ⟨Int.le_refl 0, (by decide : (0 : Int) < 18446744073709551616)⟩
theorem encUp_len (k : Int) (vals : List Int) (i : Nat) : (encUp k vals i).length = 1 + 8 * min i vals.length := by
  unfold encUp
  rw [List.length_cons]
  have : ∀ l : List Int, (l.flatMap (bytesOf 8)).length = 8 * l.length := by
    intro l
    induction l with
    | nil => rfl
    | cons a r ih => simp only [List.flatMap_cons, List.length_append, List.length_cons, bytesOf_length, ih]; omega
  rw [this, List.length_take]
  omega
theorem fieldsA_le (k : Int) : (yF 1 k).length ≤ 5 := by
  unfold yF
  split
  · decide
  · split <;> decide
theorem pow8 (j : Nat) : (2 : Int) ^ (8 * (j : Int)).toNat = 256 ^ j := by
  have : (8 * (j : Int)).toNat = 8 * j := by omega
  rw [this, Int.pow_mul]
  rfl
theorem encUp_all (k s y u v x : Int) (hm : mayB k s y u v x = true) : encUp k (xR k s y u v x) (yF 1 k).length = encL k s y u v x := by
  have hw : IntKind.u8.wrap k = k % 256 := by simp [IntKind.wrap, IntKind.signed, IntKind.bits]
  have hk : k = 1 ∨ k = 2 ∨ k = 3 := by
    unfold mayB at hm
    by_cases h1 : k = 1
    · exact .inl h1
    · by_cases h2 : k = 2
      · exact .inr (.inl h2)
      · by_cases h3 : k = 3
        · exact .inr (.inr h3)
        · simp [h1, h2, h3] at hm
  unfold encUp encL xR yF
  rw [hw]
  rcases hk with rfl | rfl | rfl <;> simp
theorem enc_fn (k s y u v x : Int) (h0 : 0 ≤ s) (h1 : s < 18446744073709551616) (h2 : 0 ≤ y) (h3 : y < 18446744073709551616) (h4 : 0 ≤ u) (h5 : u < 18446744073709551616) (h6 : 0 ≤ v) (h7 : v < 18446744073709551616) (h8 : 0 ≤ x) (h9 : x < 18446744073709551616) :
    Fn Tryz.prog 218 [entV k s y u v x] (.tup (if mayB k s y u v x then [.sl (byts (encL k s y u v x)), .val (.int .i64 0)] else [.sl [], .val (.int .i64 1)])) := by
  refine yT Tryz.func218 rfl Tryz.ntmps218 (Nat.le_of_ble_eq_true rfl) ?_
  repeat' (first | (refine zZ.is ?_; first | refine zZ.seq ?_ | (refine zZ.iR 0 ?_; refine zZ.wM [0] [1, 2, 9, 14, 15, 16, 32, 33] (by repeat' first | exact zR.nil | apply zR.p rfl) (by repeat' first | exact zU.nil | apply zU.skip) ?_; refine zY.m rfl rfl (w_boxA rfl rfl rfl (by decide)) ?_; refine zY.va rfl rfl rfl rfl (by decide) ?_; refine zY.va rfl rfl rfl rfl (by decide) ?_; refine zY.nil ?_) | (refine zZ.iq 1 ?_; refine zZ.rqb _ K_a K_3 ?_; refine zY.v rfl rfl (xX rfl rfl rfl (by rfl) (by rfl) rfl (by decide)) ?_; refine zY.v rfl rfl (by exact zG (may_fn _ _ _ _ _ _ h2 h3) rfl rfl rfl (by decide)) ?_; refine zY.v rfl rfl (r_notB rfl rfl (by rfl) rfl (by decide)) ?_; refine zY.nil ?_) | (refine zZ.iq 2 ?_; refine zZ.rqb _ K_a K_3 ?_; refine zY.va rfl rfl rfl rfl (by decide) ?_; refine zY.va rfl rfl rfl rfl (by decide) ?_; refine zY.nil ?_) | (refine zZ.iq 3 ?_; refine zZ.rqb _ K_a K_3 ?_; refine zY.v rfl rfl (wY rfl rfl rfl (by decide)) ?_; refine zY.v rfl rfl (yG rfl rfl rfl rfl rfl (by decide)) ?_; refine zY.v rfl rfl (w_conv rfl rfl (by rfl) rfl (by decide)) ?_; refine zY.m rfl rfl (w_buildB rfl (by decide) (by decide) (by decide) (by decide) (by rfl) (by rfl) (by rfl) (by rfl) rfl (by decide)) ?_; refine zY.v rfl rfl (a_assignO rfl rfl rfl (by decide)) ?_; refine zY.nil ?_) | (refine zZ.iR 4 ?_; refine zZ.wM [1, 2, 3, 4] [1, 2, 9, 14, 15, 16, 32, 33] (by repeat' first | exact zR.nil | apply zR.p rfl | apply zR.ptr rfl | apply zR.own rfl) (by repeat' first | exact zU.nil | apply zU.boxP rfl rfl | apply zU.qE rfl | apply zU.skip) ?_; refine zY.m rfl rfl (w_fields rfl rfl rfl rfl rfl (by decide)) ?_; refine zY.v rfl rfl (w_lenO rfl rfl rfl rfl (by decide)) ?_; refine zY.vm rfl rfl rfl rfl (by decide) ?_; refine zY.nil ?_) | refine zZ.cond rfl (fun h => ?_) (fun h => ?_) | refine zZ.skip ?_ | refine zZ.block ?_ | refine zZ.ret ?_) | refine zK.r ?_)
  · have hm : mayB k s y u v x = false := by simpa using h
    rw [if_neg (by simp [hm])]
    exact ⟨.inl rfl, _, sub_nil (d := 2) rfl, .tup (rs := [.tmp 2, .tmp 3]) rfl (by decide) (.cons (.tmp rfl) (.cons (.tmp rfl) .nil))⟩
  · have hm : mayB k s y u v x = true := by simpa using h
    have h5l := fieldsA_le k
    refine zZ.loop (encO k s y u v x) (fun i => i ≤ (yF 1 k).length) (fun i => (yF 1 k).length - i) 0 ?h0 (Nat.zero_le _) ?rd
    case h0 =>
      refine sub_keep (is := [2, 3, 4, 15, 16, 17]) (js := [1, 14, 15]) ?_ (.boxP rfl rfl (.qE rfl (.some (rowF_kill k 15 (by decide)) .nil)))
      repeat' first | exact zR.nil | apply zR.p rfl | apply zR.ptr rfl | apply zR.own rfl | apply zR.clo rfl | apply zR.pt rfl | apply zR.tup rfl | apply zR.skip
    case rd =>
      intro i hi
      have hV := valsOf_range k s y u v x h0 h1 h2 h3 h4 h5 h6 h7 h8 h9 i
      by_cases hc : i < (yF 1 k).length
      · have hb : decide ((i : Int) < ((yF 1 k).length : Int)) = true := by simpa using hc
        have f1 := fieldsA_get k i hc
        have f2 := cells_get k s y u v x i hc
        have f3 : (0 : Int) ≤ (i : Int) ∧ ((i : Int)).toNat < (yF 1 k).length := by omega
        repeat' ((refine zZ.is ?_; first | refine zZ.seq ?_ | (refine zZ.iR 5 ?_; refine zZ.wM [2, 3, 4, 6, 7, 15, 16, 17, 18, 21, 22] [1, 2, 9, 14, 15, 16, 32, 33] (by repeat' first | exact zR.nil | apply zR.p rfl | apply zR.own rfl | apply zR.skip) (by repeat' first | exact zU.nil | apply zU.boxP rfl rfl | apply zU.qE rfl | apply zU.some rfl | apply zU.skip) ?_; refine zY.v rfl rfl (r_lss rfl rfl rfl (by rfl) rfl (by decide)) ?_; refine zY.nil ?_) | (refine zZ.iR 6 ?_; refine zZ.wM [2, 3, 4, 6, 7, 15, 16, 17, 18, 21, 22] [1, 2, 9, 14, 15, 16, 32, 33] (by repeat' first | exact zR.nil | apply zR.p rfl | apply zR.own rfl | apply zR.skip) (by repeat' first | exact zU.nil | apply zU.boxP rfl rfl | apply zU.qE rfl | apply zU.some rfl | apply zU.skip) ?_; refine zY.v rfl rfl (by exact w_indexO rfl rfl rfl rfl (by omega) rfl (by decide)) ?_; refine zY.v rfl rfl (w_loadP rfl rfl rfl f1 rfl (by decide)) ?_; refine zY.v rfl rfl (a_assignR rfl rfl rfl (by decide)) ?_; refine zY.nil ?_) | (refine zZ.iq 7 ?_; refine zZ.rqc _ K_5 K_3 ?_; refine zY.vm rfl rfl rfl rfl (by decide) ?_; refine zY.nil ?_) | refine zZ.yB rfl (by assumption) ?_ | refine zZ.skip ?_ | refine zZ.block ?_))
        refine zZ.loop (encI k s y u v x i) (fun j => j ≤ 8) (fun j => 8 - j) 0 ?h0 (Nat.zero_le _) ?rd
        case h0 =>
          have e : encUp k (xR k s y u v x) i = encUp k (xR k s y u v x) i ++ bytesOf 0 ((xR k s y u v x).getD i 0) := by simp [bytesOf]
          unfold encI
          rw [← e]
          exact yM K_1h K_s
        case rd =>
          intro j hj
          by_cases hj8 : j < 8
          · have hb8 : decide ((j : Int) < 8) = true := by simp; omega
            have hj8' : (j : Int) < 8 := by omega
            have g1 : (xR k s y u v x).getD i 0 / 2 ^ (8 * (j : Int)).toNat = (xR k s y u v x).getD i 0 / 256 ^ j := by rw [pow8]
            have g2 : IntKind.u8.wrap ((xR k s y u v x).getD i 0 / 256 ^ j) = (xR k s y u v x).getD i 0 / 256 ^ j % 256 := by simp [IntKind.wrap, IntKind.signed, IntKind.bits]
            have g3 : (encUp k (xR k s y u v x) i ++ bytesOf j ((xR k s y u v x).getD i 0)).length + [(xR k s y u v x).getD i 0 / 256 ^ j % 256].length ≤ 140737488355328 := by
              rw [List.length_append, encUp_len, bytesOf_length, List.length_singleton]
              have : min i (xR k s y u v x).length ≤ i := Nat.min_le_left _ _
              omega
            repeat' (first | (refine zZ.is ?_; first | refine zZ.seq ?_ | (refine zZ.iq 8 ?_; refine zZ.rqc _ K_5 K_3 ?_; refine zY.v rfl rfl (r_lss rfl rfl rfl (by rfl) rfl (by decide)) ?_; refine zY.nil ?_) | (refine zZ.iq 9 ?_; refine zZ.rqc _ K_5 K_3 ?_; refine zY.vm rfl rfl rfl rfl (by decide) ?_; refine zY.va rfl rfl rfl rfl (by decide) ?_; refine zY.nil ?_) | (refine zZ.iq 10 ?_; refine zZ.rqc _ K_5 K_3 ?_; refine zY.v rfl rfl (a_moveO rfl rfl rfl (by decide)) ?_; refine zY.v rfl rfl (a_moveR rfl rfl rfl (by decide)) ?_; refine zY.v rfl rfl (a_nilR rfl rfl rfl (by decide)) ?_; refine zY.v rfl rfl (yG rfl rfl rfl f2 rfl (by decide)) ?_; refine zY.vm rfl rfl rfl rfl (by decide) ?_; refine zY.v rfl rfl (by exact a_mul rfl rfl rfl (by exact wrap_i64 _ (by omega)) rfl (by decide)) ?_; (refine zY.v rfl rfl (by exact a_shr rfl rfl rfl (by omega) (by (simp only [IntKind.bits]; omega)) g1 rfl (by decide)) ?_); refine zY.v rfl rfl (w_conv rfl rfl g2 rfl (by decide)) ?_; refine zY.m rfl rfl (w_buildB rfl (by decide) (by decide) (by decide) (by decide) (by rfl) (by rfl) (by rfl) (by rfl) rfl (by decide)) ?_; refine zY.w rfl (w_appOB rfl rfl rfl rfl rfl g3 rfl rfl (by decide)) ?_; refine zY.v rfl rfl (a_assignO rfl rfl rfl (by decide)) ?_; refine zY.nil ?_) | (refine zZ.iq 11 ?_; refine zZ.rqc _ K_5 K_3 ?_; refine zY.v rfl rfl (by exact a_add rfl rfl rfl (by exact wrap_i64 _ (by omega)) rfl (by decide)) ?_; refine zY.vm rfl rfl rfl rfl (by decide) ?_; refine zY.nil ?_) | refine zZ.yB rfl (by assumption) ?_ | refine zZ.skip ?_ | refine zZ.block ?_) | refine zK.n ?_)
            refine ⟨j + 1, ?_, by omega, by omega⟩
            have e : encUp k (xR k s y u v x) i ++ bytesOf (j + 1) ((xR k s y u v x).getD i 0) = encUp k (xR k s y u v x) i ++ bytesOf j ((xR k s y u v x).getD i 0) ++ [(xR k s y u v x).getD i 0 / 256 ^ j % 256] := by rw [bytesOf_snoc, List.append_assoc]
            unfold encI
            rw [e]
            refine sub_keep (is := [2, 3, 4, 6, 15, 16, 17, 21]) (js := [1, 14, 15]) ?_ (.boxP rfl rfl (.qE rfl (.some (rowF_kill2 k 32 14 (by decide) (by decide)) .nil)))
            repeat' first | exact zR.nil | apply zR.p rfl | apply zR.ptr rfl | apply zR.own rfl | apply zR.clo rfl | apply zR.pt rfl | apply zR.tup rfl | apply zR.skip
          · have hb8 : decide ((j : Int) < 8) = false := by simp; omega
            obtain rfl : j = 8 := by omega
            repeat' (first | (refine zZ.is ?_; first | refine zZ.seq ?_ | (refine zZ.iq 8 ?_; refine zZ.rqc _ K_5 K_3 ?_; refine zY.v rfl rfl (by exact r_lss rfl rfl rfl (by exact bF (by decide)) rfl (by decide)) ?_; refine zY.nil ?_) | (refine zZ.iq 12 ?_; refine zZ.rqc _ K_5 K_3 ?_; refine zY.v rfl rfl (by exact a_add rfl rfl rfl (by exact wrap_i64 _ (by omega)) rfl (by decide)) ?_; refine zY.vm rfl rfl rfl rfl (by decide) ?_; refine zY.nil ?_) | refine zZ.yA rfl (by assumption) ?_ | refine zZ.exit ?_) | refine zK.n ?_)
            refine ⟨i + 1, ?_, by omega, by omega⟩
            unfold encO
            rw [encUp_succ k _ i (fields_len k s y u v x i hc)]
            exact yM K_1i K_s
      · have hb : decide ((i : Int) < ((yF 1 k).length : Int)) = false := by simpa using hc
        obtain rfl : i = (yF 1 k).length := by omega
        repeat' ((refine zZ.is ?_; first | refine zZ.seq ?_ | (refine zZ.iR 5 ?_; refine zZ.wM [2, 3, 4, 6, 7, 15, 16, 17, 18, 21, 22] [1, 2, 9, 14, 15, 16, 32, 33] (by repeat' first | exact zR.nil | apply zR.p rfl | apply zR.own rfl | apply zR.skip) (by repeat' first | exact zU.nil | apply zU.boxP rfl rfl | apply zU.qE rfl | apply zU.some rfl | apply zU.skip) ?_; refine zY.v rfl rfl (r_lss rfl rfl rfl (by rfl) rfl (by decide)) ?_; refine zY.nil ?_) | (refine zZ.iR 13 ?_; refine zZ.wM [2, 3, 4] [1, 2, 9, 14, 15, 16, 32, 33] (by repeat' first | exact zR.nil | apply zR.p rfl | apply zR.own rfl) (by repeat' first | exact zU.nil | apply zU.boxP rfl rfl | apply zU.qE rfl | apply zU.some rfl | apply zU.skip) ?_; refine zY.v rfl rfl (a_moveO rfl rfl rfl (by decide)) ?_; refine zY.v rfl rfl (a_assignO rfl rfl rfl (by decide)) ?_; refine zY.va rfl rfl rfl rfl (by decide) ?_; refine zY.nil ?_) | refine zZ.yA rfl (by assumption) ?_ | refine zZ.exit ?_ | refine zZ.ret ?_))
        rw [if_pos hm, ← encUp_all k s y u v x hm]
        exact ⟨.inl rfl, _, sub_freezeB (d := 2) (id := 14) rfl rfl, .tup (rs := [.tmp 2, .tmp 3]) rfl (by decide) (.cons (.tmp rfl) (.cons (.tmp rfl) .nil))⟩
end
section
attribute [local irreducible] zY zZ Step zV Sub zF Fn
theorem byts_vals (bs : List Int) : ∀ c ∈ byts bs, ∃ v, c = .val v := fun c hc => by
  simp only [byts, List.mem_map] at hc
  obtain ⟨b, _, rfl⟩ := hc
  exact ⟨_, rfl⟩
def laidS (cs : List Int) (n : Int) (many i : Nat) : AS :=
  { t := [(0, .own 1000), (1, .p (.val (.int .u64 n))), (6, .p (.val (.slice none 0 0))), (8, .p (.val (.int .i64 many))), (9, .p (.val (.int .i64 i)))], s := [(1000, qE 5 (cs ++ bytesOf i n))] }
theorem laid_fn (cs : List Int) (n : Int) (many : Nat) (hm : many ≤ 8) (hc : cs.length ≤ 1000000) :
    FnR Tryz.prog 225 [.val (.int .u64 n), .val (.int .i64 many)] (qE 5 cs) (qE 5 (cs ++ bytesOf many n)) := by
  refine fn_ofR (t := 6) Tryz.func225 rfl Tryz.ntmps225 (Nat.le_of_ble_eq_true rfl) rfl ?_
  repeat' (first | (refine zY.nil ?_) | (refine zZ.is ?_; first | refine zZ.seq ?_ | (refine zZ.iR 0 ?_; refine zZ.rc [0, 1, 2] [6, 18, 1000] (r := (.v zW .e)) (h := ?_)) | (refine zZ.iR 1 ?_; refine zZ.rc [0, 1, 2, 6] [6, 18, 1000] (r := (.v zX (.v zX .e))) (h := ?_)) | refine zZ.block ?_))
  refine zZ.loop (laidS cs n many) (fun i => i ≤ many) (fun i => many - i) 0 ?h0 (Nat.zero_le _) ?rd
  case h0 =>
    have e : cs = cs ++ bytesOf 0 n := by simp [bytesOf]
    unfold laidS
    rw [← e]
    exact yM K_t K_0
  case rd =>
    intro i hi
    by_cases hlt : i < many
    · have hd : decide ((i : Int) < (many : Int)) = true := by simp; omega
      have g1 : n / 2 ^ (8 * (i : Int)).toNat = n / 256 ^ i := by rw [pow8]
      have g2 : IntKind.u8.wrap (n / 256 ^ i) = n / 256 ^ i % 256 := by simp [IntKind.wrap, IntKind.signed, IntKind.bits]
      have g3 : (cs ++ bytesOf i n).length + [n / 256 ^ i % 256].length ≤ 140737488355328 := by
        rw [List.length_append, bytesOf_length, List.length_singleton]
        omega
      repeat' (first | (refine zY.nil ?_) | (refine zZ.is ?_; first | refine zZ.seq ?_ | (refine zZ.iR 2 ?_; refine zZ.rc [0, 1, 6, 7, 8, 9, 10] [6, 18, 1000] (r := (.v yU .e)) (h := ?_)) | (refine zZ.iR 3 ?_; refine zZ.rc [0, 1, 6, 7, 8, 9, 10] [6, 18, 1000] (r := (.v zX (.v zW .e))) (h := ?_)) | (refine zZ.iR 4 ?_; refine zZ.rc [0, 1, 6, 7, 8, 9, 10] [6, 18, 1000] (r := (.v v0_1 (.v zX (.v zX (.v v32_5 (.v v39_0 (.v qH (.m m20_2 (.w w55_1 (.v v1_1 .e)))))))))) (h := ?_)) | (refine zZ.iR 5 ?_; refine zZ.rc [0, 1, 6, 7, 8, 9, 10] [6, 18, 1000] (r := (.v v30_5 (.v zX .e))) (h := ?_)) | refine zZ.yB rfl bA ?_ | refine zZ.skip ?_ | refine zZ.block ?_) | refine zK.n ?_)
      refine ⟨i + 1, ?_, by omega, by omega⟩
      have e : cs ++ bytesOf (i + 1) n = cs ++ bytesOf i n ++ [n / 256 ^ i % 256] := by rw [bytesOf_snoc, List.append_assoc]
      unfold laidS
      rw [e]
      exact yM K_t K_0
    · have hd : decide ((i : Int) < (many : Int)) = false := by simp; omega
      obtain rfl : i = many := by omega
      repeat' (first | (refine zY.nil ?_) | (refine zZ.is ?_; first | refine zZ.seq ?_ | (refine zZ.iR 2 ?_; refine zZ.rc [0, 1, 6, 7, 8, 9, 10] [6, 18, 1000] (r := (.v yU .e)) (h := ?_)) | (refine zZ.iR 6 ?_; refine zZ.rc [0, 6] [6, 18, 1000] (r := (.v v0_1 (.v v1_1 .e))) (h := ?_)) | refine zZ.yA rfl bA ?_ | refine zZ.exit ?_ | refine zZ.ret ?_))
      exact ⟨.inl rfl, _, Sub.refl _, rfl, rfl⟩
def putF (b : List Int) : List Int := bytesOf 2 b.length ++ bytesOf 4 (q9 0 b : Nat) ++ b
def putOk (b : List Int) : Prop := 1 ≤ b.length ∧ b.length ≤ 65535
theorem moreF_lt (sum : Nat) (b : List Int) : q9 sum b < 4294967296 := by unfold q9; omega
theorem put_fn (b : List Int) (hb : ∀ x ∈ b, 0 ≤ x ∧ x < 256) (hl : putOk b) : Fn Tryz.prog 219 [.sl (byts b)] (.tup [.sl (byts (putF b)), .val (.int .i64 0)]) := by
  obtain ⟨hl0, hl1⟩ := hl
  have hm := moreF_lt 0 b
  have c1 := sum_fn b (by omega) hb
  have c2 := laid_fn [] (b.length : Int) 2 (by decide) (by decide)
  have c3 := laid_fn ([] ++ bytesOf 2 (b.length : Int)) ((q9 0 b : Nat) : Int) 4 (by decide) (by rw [List.nil_append, bytesOf_length]; decide)
  have g1 : decide ((b.length : Int) < 1) = false := decide_eq_false (by omega)
  have g2 : decide ((65535 : Int) < (b.length : Int)) = false := decide_eq_false (by omega)
  have g3 : IntKind.u64.wrap (b.length : Int) = (b.length : Int) := wrap_u64 _ (by omega)
  have g4 : IntKind.u64.wrap ((q9 0 b : Nat) : Int) = ((q9 0 b : Nat) : Int) := wrap_u64 _ (by omega)
  have g5 : ([] ++ bytesOf 2 (b.length : Int) ++ bytesOf 4 ((q9 0 b : Nat) : Int)).length + b.length ≤ 140737488355328 := by
    rw [List.nil_append, List.length_append, bytesOf_length, bytesOf_length]
    omega
  refine yT Tryz.func219 rfl Tryz.ntmps219 (Nat.le_of_ble_eq_true rfl) ?_
  repeat' (first | (refine zY.is ?_; first | refine zY.nil ?_ | (refine zY.at_ 20 rfl ?_; refine zY.rc (.v qH .e) ?_) | (refine zY.at_ 4 rfl ?_; refine zY.rc (.v v1_1 .e) ?_) | (refine zY.in_ [19] rfl ?_; refine zY.v rfl rfl (zG (c1) rfl rfl rfl (by decide)) ?_) | (refine zY.in_ [16] rfl ?_; refine zY.w rfl (s_callRnil (c2) (byts_vals _) rfl ⟨_, rfl, rfl⟩ rfl rfl (by decide)) ?_) | (refine zY.in_ [21] rfl ?_; refine zY.w rfl (s_callR (c3) (byts_vals _) rfl ⟨_, rfl, rfl⟩ rfl rfl rfl (by decide)) ?_)) | (refine zZ.is ?_; first | refine zZ.seq ?_ | (refine zZ.iR 0 ?_; refine zZ.rc [0] [2, 6, 10, 14, 16, 19, 21, 24] (r := (.v zW (.v zW .e))) (h := ?_)) | (refine zZ.iR 1 ?_; refine zZ.rc [0, 2, 3] [2, 6, 10, 14, 16, 19, 21, 24] (r := (.v zX (.v v57_0 (.v yU (.v zX (.gY zX (.gY v57_0 (.gY v45_0 (.v yP .e))))))))) (h := ?_)) | (refine zZ.iR 3 ?_; refine zZ.rc [0, 2, 3] [2, 6, 10, 14, 16, 19, 21, 24] (r := (.v zX (.v v57_0 (.v qH .e)))) (h := ?_)) | (refine zZ.iR 4 ?_; refine zZ.rc [0, 2, 3, 4] [2, 6, 10, 14, 16, 19, 21, 24] (r := (.v v0_1 (.v zX .e))) (h := ?_)) | (refine zZ.iR 5 ?_; refine zZ.rc [0, 2, 3, 4] [2, 6, 10, 14, 16, 19, 21, 24] (r := (.v v0_1 (.v zX (.w w55_0 (.v v1_1 (.v zW .e)))))) (h := ?_)) | refine zZ.yA rfl bA ?_ | refine zZ.skip ?_ | refine zZ.ret ?_))
  all_goals exact ⟨.inl rfl, _, sub_freezeB (d := 2) (id := 16) rfl rfl, .tup (rs := [.tmp 2, .tmp 3]) rfl (by decide) (.cons (.tmp rfl) (.cons (.tmp rfl) .nil))⟩
theorem put_nil : Fn Tryz.prog 219 [.sl (byts [])] (.tup [.sl (byts []), .val (.int .i64 1)]) := by
  refine yT Tryz.func219 rfl Tryz.ntmps219 (Nat.le_of_ble_eq_true rfl) ?_
  repeat' (first | (refine zY.nil ?_) | (refine zZ.is ?_; first | refine zZ.seq ?_ | (refine zZ.iR 0 ?_; refine zZ.rc [0] [2, 6, 10, 14, 16, 19, 21, 24] (r := (.v zW (.v zW .e))) (h := ?_)) | (refine zZ.iR 1 ?_; refine zZ.rc [0, 2, 3] [2, 6, 10, 14, 16, 19, 21, 24] (r := (.v zX (.v v57_0 (.v v43_4 (.v zX (.gF (.gF (.gF (.v yH .e))))))))) (h := ?_)) | (refine zZ.iR 2 ?_; refine zZ.rc [0, 2, 3] [2, 6, 10, 14, 16, 19, 21, 24] (r := (.v zW (.v zW .e))) (h := ?_)) | refine zZ.yB rfl bA ?_ | refine zZ.ret ?_) | refine zK.r ?_)
  all_goals exact ⟨.inl rfl, _, sub_nil (d := 2) rfl, .tup (rs := [.tmp 2, .tmp 3]) rfl (by decide) (.cons (.tmp rfl) (.cons (.tmp rfl) .nil))⟩
theorem putF_ref (b : List Int) (hl : putOk b) : putF b = [((b.length : Int) % 256), ((b.length : Int) / 256), ((q9 0 b : Nat) : Int) % 256, ((q9 0 b : Nat) : Int) / 256 % 256, ((q9 0 b : Nat) : Int) / 65536 % 256, ((q9 0 b : Nat) : Int) / 16777216] ++ b := by
  obtain ⟨hl0, hl1⟩ := hl
  have hm := moreF_lt 0 b
  unfold putF
  generalize q9 0 b = m at *
  simp only [bytesOf, List.cons_append, List.nil_append, List.cons.injEq, true_and, and_true]
  refine ⟨by omega, by omega, by omega⟩
theorem putRef_fn (b : List Int) (hb : ∀ x ∈ b, 0 ≤ x ∧ x < 256) (hl : putOk b) : Fn Tryz.prog 216 [.sl (byts b)] (.tup [.sl (byts (putF b)), .val (.int .i64 0)]) := by
  rw [putF_ref b hl]
  obtain ⟨hl0, hl1⟩ := hl
  have hm := moreF_lt 0 b
  have c1 := sumRef_fn b (by omega) hb
  generalize q9 0 b = m at *
  have td : ∀ (x : Int) (k : Int), 0 ≤ x → x.tdiv k = x / k := fun x k h => Int.tdiv_eq_ediv_of_nonneg h
  have tm : ∀ (x : Int) (k : Int), 0 ≤ x → x.tmod k = x % k := fun x k h => Int.tmod_eq_emod_of_nonneg h
  have wb : ∀ x : Int, 0 ≤ x → x < 256 → IntKind.u8.wrap x = x := fun x h h' => wrap_u8 _ (by omega)
  have g1 : decide ((b.length : Int) < 1) = false := decide_eq_false (by omega)
  have g2 : decide ((65535 : Int) < (b.length : Int)) = false := decide_eq_false (by omega)
  have n1 : (b.length : Int).tmod 256 = (b.length : Int) % 256 := tm _ _ (by omega)
  have n2 : IntKind.u8.wrap ((b.length : Int) % 256) = (b.length : Int) % 256 := wb _ (by omega) (by omega)
  have n3 : IntKind.i64.wrap ((b.length : Int).tdiv 256) = (b.length : Int) / 256 := by rw [td _ _ (by omega)]; exact wrap_i64 _ (by omega)
  have n4 : IntKind.u8.wrap ((b.length : Int) / 256) = (b.length : Int) / 256 := wb _ (by omega) (by omega)
  have m1 : ((m : Nat) : Int).tmod 256 = (m : Int) % 256 := tm _ _ (by omega)
  have m2 : IntKind.u8.wrap ((m : Int) % 256) = (m : Int) % 256 := wb _ (by omega) (by omega)
  have m3 : IntKind.u32.wrap (((m : Nat) : Int).tdiv 256) = (m : Int) / 256 := by rw [td _ _ (by omega)]; exact wrapU32 _ (by omega) (by omega)
  have m4 : ((m : Int) / 256).tmod 256 = (m : Int) / 256 % 256 := tm _ _ (by omega)
  have m5 : IntKind.u8.wrap ((m : Int) / 256 % 256) = (m : Int) / 256 % 256 := wb _ (by omega) (by omega)
  have m6 : IntKind.u32.wrap (((m : Nat) : Int).tdiv 65536) = (m : Int) / 65536 := by rw [td _ _ (by omega)]; exact wrapU32 _ (by omega) (by omega)
  have m7 : ((m : Int) / 65536).tmod 256 = (m : Int) / 65536 % 256 := tm _ _ (by omega)
  have m8 : IntKind.u8.wrap ((m : Int) / 65536 % 256) = (m : Int) / 65536 % 256 := wb _ (by omega) (by omega)
  have m9 : IntKind.u32.wrap (((m : Nat) : Int).tdiv 16777216) = (m : Int) / 16777216 := by rw [td _ _ (by omega)]; exact wrapU32 _ (by omega) (by omega)
  have m10 : IntKind.u8.wrap ((m : Int) / 16777216) = (m : Int) / 16777216 := wb _ (by omega) (by omega)
  have g5 : [((b.length : Int) % 256), ((b.length : Int) / 256), (m : Int) % 256, (m : Int) / 256 % 256, (m : Int) / 65536 % 256, (m : Int) / 16777216].length + b.length ≤ 140737488355328 := by
    simp only [List.length_cons, List.length_nil]
    omega
  clear td tm wb
  refine yT Tryz.func216 rfl Tryz.ntmps216 (Nat.le_of_ble_eq_true rfl) ?_
  repeat' (first | (refine zY.is ?_; first | refine zY.nil ?_ | (refine zY.at_ 5 rfl ?_; refine zY.rc (.v zW .e) ?_) | (refine zY.in_ [16] rfl ?_; refine zY.v rfl rfl (zG (c1) rfl rfl rfl (by decide)) ?_)) | (refine zZ.is ?_; first | refine zZ.seq ?_ | (refine zZ.iR 0 ?_; refine zZ.rc [0] [2, 37] (r := (.v zW (.v zW .e))) (h := ?_)) | (refine zZ.iR 1 ?_; refine zZ.rc [0, 2, 3] [2, 37] (r := (.v zX (.v v57_0 (.v zW .e)))) (h := ?_)) | (refine zZ.iR 2 ?_; refine zZ.rc [0, 2, 3, 4] [2, 37] (r := (.v zX (.v yU (.v zX (.gY zX (.gY v45_0 (.v yP .e))))))) (h := ?_)) | (refine zZ.iR 4 ?_; refine zZ.rc [0, 2, 3, 4] [2, 37] (r := (.v zX .e)) (h := ?_)) | (refine zZ.iR 5 ?_; refine zZ.rc [0, 2, 3, 4, 5] [2, 37] (r := (.v zX (.v kF (.v qH (.v zX (.v v33_0 (.v qH (.v zX (.v kF (.v qH (.v zX (.v v33_0 (.v kF (.v qH (.v zX (.v v33_0 (.v kF (.v qH (.v zX (.v v33_0 (.v qH (.m m20_2 (.v v1_1 .e))))))))))))))))))))))) (h := ?_)) | (refine zZ.iR 6 ?_; refine zZ.rc [0, 2, 3, 6] [2, 37] (r := (.v v0_1 (.v zX (.w w55_0 (.v v1_1 (.v zW .e)))))) (h := ?_)) | refine zZ.yA rfl bA ?_ | refine zZ.skip ?_ | refine zZ.ret ?_))
  all_goals exact ⟨.inl rfl, _, sub_freezeB (d := 2) (id := 37) rfl rfl, .tup (rs := [.tmp 2, .tmp 3]) rfl (by decide) (.cons (.tmp rfl) (.cons (.tmp rfl) .nil))⟩
def bytesE (k s y u v x : Int) : List Int := if mayB k s y u v x then putF (encL k s y u v x) else []
theorem encL_le2 (k s y u v x : Int) : putOk (encL k s y u v x) := by
  have : (encL k s y u v x).length = if k = 1 then 41 else 9 := by
    unfold encL
    by_cases hk : k = 1
    · rw [if_pos hk, if_pos hk]; simp [bytesOf_length]
    · rw [if_neg hk, if_neg hk]; simp [bytesOf_length]
  unfold putOk
  rw [this]
  split <;> decide
theorem bytesOf_range' : ∀ (k : Nat) (n : Int), ∀ x ∈ bytesOf k n, 0 ≤ x ∧ x < 256
  | 0, n, x, hx => by simp [bytesOf] at hx
  | k + 1, n, x, hx => by
    rw [bytesOf, List.mem_cons] at hx
    rcases hx with rfl | hx
    · omega
    · exact bytesOf_range' k (n / 256) x hx
theorem encL_range' (k s y u v x : Int) : ∀ c ∈ encL k s y u v x, 0 ≤ c ∧ c < 256 := by
  intro c hc
  unfold encL at hc
  simp only [List.cons_append, List.mem_cons, List.mem_append] at hc
  have r := bytesOf_range' 8
  rcases hc with rfl | hc | hc
  · omega
  · exact r s c hc
  · by_cases hk : k = 1
    · rw [if_pos hk] at hc
      simp only [List.mem_append] at hc
      rcases hc with ((hc | hc) | hc) | hc
      · exact r _ c hc
      · exact r _ c hc
      · exact r _ c hc
      · exact r _ c hc
    · rw [if_neg hk] at hc; simp at hc
def U (x : Int) : Prop := 0 ≤ x ∧ x < 18446744073709551616
theorem bytes_fn (k s y u v x : Int) (h0 : U s) (h2 : U y) (h4 : U u) (h6 : U v) (h8 : U x) : Fn Tryz.prog 212 [entV k s y u v x] (.p (.sl (byts (bytesE k s y u v x)))) := by
  have c1 := enc_fn k s y u v x h0.1 h0.2 h2.1 h2.2 h4.1 h4.2 h6.1 h6.2 h8.1 h8.2
  refine xV Tryz.func212 rfl Tryz.ntmps212 (Nat.le_of_ble_eq_true rfl) ?_
  unfold bytesE
  by_cases hm : mayB k s y u v x = true
  · rw [if_pos hm] at c1 ⊢
    have c2 := put_fn (encL k s y u v x) (encL_range' k s y u v x) (encL_le2 k s y u v x)
    repeat' (first | (refine zY.is ?_; first | refine zY.nil ?_ | (refine zY.at_ 12 rfl ?_; refine zY.rc (.v wW (.v yZ (.v yZ (.v zW (.v zW .e))))) ?_) | (refine zY.at_ 7 rfl ?_; refine zY.rc (.v wW (.v yZ (.v yZ (.v zW (.v zW .e))))) ?_) | (refine zY.in_ [9] rfl ?_; refine zY.v rfl rfl (yR (c1) rfl rfl rfl (by decide)) ?_) | (refine zY.in_ [14] rfl ?_; refine zY.v rfl rfl (yR (c2) rfl rfl rfl (by decide)) ?_)) | (refine zZ.is ?_; first | refine zZ.seq ?_ | (refine zZ.iR 0 ?_; refine zZ.rc [0] [1, 2] (r := (.m yI (.v zW .e))) (h := ?_)) | (refine zZ.iR 1 ?_; refine zZ.rc [1, 2] [1, 2] (r := (.v xC .e)) (h := ?_)) | (refine zZ.iR 2 ?_; refine zZ.rc [2, 3] [1, 2] (r := (.v zX .e)) (h := ?_)) | (refine zZ.iR 3 ?_; refine zZ.rc [2, 5] [1, 2] (r := (.v zX (.v zW .e))) (h := ?_)) | refine zZ.ret ?_))
    all_goals exact ⟨.inl rfl, gives1 rfl rfl rfl⟩
  · rw [if_neg hm] at c1 ⊢
    have c1' : Fn Tryz.prog 218 [entV k s y u v x] (.tup [.sl (byts []), .val (.int .i64 1)]) := c1
    have c2 := put_nil
    repeat' (first | (refine zY.is ?_; first | refine zY.nil ?_ | (refine zY.at_ 12 rfl ?_; refine zY.rc (.v wW (.v yZ (.v yZ (.v zW (.v zW .e))))) ?_) | (refine zY.at_ 7 rfl ?_; refine zY.rc (.v wW (.v yZ (.v yZ (.v zW (.v zW .e))))) ?_) | (refine zY.in_ [9] rfl ?_; refine zY.v rfl rfl (yR (c1') rfl rfl rfl (by decide)) ?_) | (refine zY.in_ [14] rfl ?_; refine zY.v rfl rfl (yR (c2) rfl rfl rfl (by decide)) ?_)) | (refine zZ.is ?_; first | refine zZ.seq ?_ | (refine zZ.iR 0 ?_; refine zZ.rc [0] [1, 2] (r := (.m yI (.v zW .e))) (h := ?_)) | (refine zZ.iR 1 ?_; refine zZ.rc [1, 2] [1, 2] (r := (.v xC .e)) (h := ?_)) | (refine zZ.iR 2 ?_; refine zZ.rc [2, 3] [1, 2] (r := (.v zX .e)) (h := ?_)) | (refine zZ.iR 3 ?_; refine zZ.rc [2, 5] [1, 2] (r := (.v zX (.v zW .e))) (h := ?_)) | refine zZ.ret ?_))
    all_goals exact ⟨.inl rfl, gives1 rfl rfl rfl⟩
theorem bytesRef_fn (k s y u v x : Int) (h0 : U s) (h2 : U y) (h4 : U u) (h6 : U v) (h8 : U x) : Fn Tryz.prog 196 [entV k s y u v x] (.p (.sl (byts (bytesE k s y u v x)))) := by
  have c1 := encRef_fn k s y u v x h0.1 h0.2 h2.1 h2.2 h4.1 h4.2 h6.1 h6.2 h8.1 h8.2
  refine yT Tryz.func196 rfl Tryz.ntmps196 (Nat.le_of_ble_eq_true rfl) ?_
  unfold bytesE
  by_cases hm : mayB k s y u v x = true
  · rw [if_pos hm] at c1 ⊢
    have c2 := putRef_fn (encL k s y u v x) (encL_range' k s y u v x) (encL_le2 k s y u v x)
    repeat' (first | (refine zY.is ?_; first | refine zY.nil ?_ | (refine zY.at_ 14 rfl ?_; refine zY.rc (.v wW (.v yZ (.v yZ (.v zW (.v zW .e))))) ?_) | (refine zY.at_ 7 rfl ?_; refine zY.rc (.v wW (.v yZ (.v yZ (.v zW (.v zW .e))))) ?_) | (refine zY.in_ [9] rfl ?_; refine zY.v rfl rfl (yR (c1) rfl rfl rfl (by decide)) ?_) | (refine zY.in_ [16] rfl ?_; refine zY.v rfl rfl (yR (c2) rfl rfl rfl (by decide)) ?_)) | (refine zZ.is ?_; first | refine zZ.seq ?_ | (refine zZ.iR 0 ?_; refine zZ.rc [0] [1, 2] (r := (.m yI (.v zW .e))) (h := ?_)) | (refine zZ.iR 1 ?_; refine zZ.rc [1, 2] [1, 2] (r := (.v xC .e)) (h := ?_)) | (refine zZ.iR 2 ?_; refine zZ.rc [2, 3, 4] [1, 2] (r := (.v zX (.v v42_5 .e))) (h := ?_)) | (refine zZ.iR 4 ?_; refine zZ.rc [2, 3] [1, 2] (r := (.v zX .e)) (h := ?_)) | (refine zZ.iR 5 ?_; refine zZ.rc [2, 5] [1, 2] (r := (.v zX (.v zW .e))) (h := ?_)) | refine zZ.yA rfl bA ?_ | refine zZ.skip ?_ | refine zZ.ret ?_))
    all_goals exact ⟨.inl rfl, _, Sub.refl _, .p rfl (.tmp rfl)⟩
  · rw [if_neg hm] at c1 ⊢
    repeat' (first | (refine zY.is ?_; first | refine zY.nil ?_ | (refine zY.at_ 7 rfl ?_; refine zY.rc (.v wW (.v yZ (.v yZ (.v zW (.v zW .e))))) ?_) | (refine zY.in_ [9] rfl ?_; refine zY.v rfl rfl (yR (c1) rfl rfl rfl (by decide)) ?_)) | (refine zZ.is ?_; first | refine zZ.seq ?_ | (refine zZ.iR 0 ?_; refine zZ.rc [0] [1, 2] (r := (.m yI (.v zW .e))) (h := ?_)) | (refine zZ.iR 1 ?_; refine zZ.rc [1, 2] [1, 2] (r := (.v xC .e)) (h := ?_)) | (refine zZ.iR 2 ?_; refine zZ.rc [2, 3, 4] [1, 2] (r := (.v zX (.v v42_4 .e))) (h := ?_)) | (refine zZ.iR 3 ?_; refine zZ.rc [2, 3] [1, 2] (r := (.v zW .e)) (h := ?_)) | refine zZ.yB rfl bA ?_ | refine zZ.ret ?_) | refine zK.r ?_)
    all_goals exact ⟨.inl rfl, _, sub_nil (d := 2) rfl, .p rfl (.tmp rfl)⟩
end
section
inductive Pr (α : Type) where
  | ret (x : α) : Pr α
  | stuck : Pr α
  | ask (q : Ned) (k : yQ → Pr α) : Pr α
def Pr.bind {α β : Type} : Pr α → (α → Pr β) → Pr β
  | .ret x, f => f x
  | .stuck, _ => .stuck
  | .ask q k, f => .ask q fun r => (k r).bind f
theorem Pr.bind_assoc {α β γ : Type} (f : α → Pr β) (g : β → Pr γ) : ∀ p : Pr α, (p.bind f).bind g = p.bind fun x => (f x).bind g
  | .ret _ => rfl
  | .stuck => rfl
  | .ask q k => by
    show Pr.ask q _ = Pr.ask q _
    congr 1
    funext r
    exact Pr.bind_assoc f g (k r)
def Pr.loop {ι α : Type} (body : ι → Pr (ι ⊕ α)) : Nat → ι → Pr α
  | 0, _ => .stuck
  | n + 1, s => (body s).bind fun x => match x with
    | .inl s' => Pr.loop body n s'
    | .inr x => .ret x
theorem Pr.loop_succ {ι α : Type} (body : ι → Pr (ι ⊕ α)) (n : Nat) (s : ι) : Pr.loop body (n + 1) s = (body s).bind fun x => match x with
    | .inl s' => Pr.loop body n s'
    | .inr x => .ret x := rfl
def many : Nat := 1000001
def askP (q : Ned) : Pr Int := .ask q fun r => .ret r.n
def xW (c : Int) : Pr Int := askP (vF 0 c 0 0 xZ)
def kY (c v : Int) : Pr Unit := .ask (vF 1 c v 0 xZ) fun _ => .ret ()
def casP (c a b : Int) : Pr Bool := .ask (vF 2 c a b xZ) fun r => .ret (decide (r.n = 1))
def addP (c v : Int) : Pr Int := askP (vF 3 c v 0 xZ)
def swapP (c v : Int) : Pr Int := askP (vF 4 c v 0 xZ)
theorem U.lo {x : Int} (h : U x) : 0 ≤ x := h.1
theorem U.hi {x : Int} (h : U x) : x < 18446744073709551616 := h.2
theorem U.zero : U 0 := by unfold U; decide
structure kQ (q : Ned) : Prop where
  w : q.w = xZ
  a : U q.a
  b : U q.b
  d : ((0 ≤ q.kind ∧ q.kind ≤ 4 ∨ q.kind = 6) ∧ q.d = xZ) ∨ (q.kind = 5 ∧ ∃ bs : List Int, (∀ x ∈ bs, 0 ≤ x ∧ x < 256) ∧ bs.length ≤ 1000 ∧ q.d = .sl (byts bs))
theorem asked_word {k c a b : Int} (hk : 0 ≤ k ∧ k ≤ 4) (ha : U a) (hb : U b) : kQ (vF k c a b xZ) := ⟨rfl, ha, hb, .inl ⟨.inl hk, rfl⟩⟩
def Pr.wH {α : Type} (good : α → Prop) : Nat → Pr α → Prop
  | _, .ret x => good x
  | m, .stuck => m = 0
  | m, .ask q k => kQ q ∧ ∀ r : yQ, U r.n → (k r).wH good (m - 1)
def Pr.yV {α : Type} (good : α → Prop) (p : Pr α) : Prop := p.wH good many
def yes {α : Type} (_ : α) : Prop := True
theorem Pr.wH.le {α : Type} {good : α → Prop} : ∀ {p : Pr α} {m n : Nat}, n ≤ m → p.wH good m → p.wH good n
  | .ret _, _, _, _, h => h
  | .stuck, m, n, hm, h => by have : m = 0 := h; show n = 0; omega
  | .ask _ _, _, _, hm, h => ⟨h.1, fun r hr => Pr.wH.le (by omega) (h.2 r hr)⟩
theorem Pr.wH.bind {α β : Type} {g1 : α → Prop} {g2 : β → Prop} {f : α → Pr β} : ∀ {p : Pr α} {m : Nat}, p.wH g1 m → (∀ x, g1 x → (f x).wH g2 m) → (p.bind f).wH g2 m
  | .ret _, _, h, hf => hf _ h
  | .stuck, _, h, _ => h
  | .ask _ _, m, h, hf => ⟨h.1, fun r hr => Pr.wH.bind (h.2 r hr) fun x hx => Pr.wH.le (by omega) (hf x hx)⟩
theorem Pr.yV.ret {α : Type} {good : α → Prop} {x : α} (h : good x) : (Pr.ret x).yV good := h
theorem Pr.yV.bind {α β : Type} {g1 : α → Prop} {g2 : β → Prop} {f : α → Pr β} {p : Pr α} (h : p.yV g1) (hf : ∀ x, g1 x → (f x).yV g2) : (p.bind f).yV g2 := Pr.wH.bind h hf
theorem Pr.yV.cond {α : Type} {good : α → Prop} {c : Bool} {p1 p2 : Pr α} (h1 : p1.yV good) (h2 : p2.yV good) : (bif c then p1 else p2).yV good := by cases c <;> assumption
theorem Pr.yV.condB {α : Type} {good : α → Prop} {c : Bool} {p1 p2 : Pr α} (h1 : c = true → p1.yV good) (h2 : c = false → p2.yV good) : (bif c then p1 else p2).yV good := by
  cases c
  · exact h2 rfl
  · exact h1 rfl
def Next {ι α : Type} (inv : ι → Prop) (good : α → Prop) : ι ⊕ α → Prop
  | .inl s => inv s
  | .inr x => good x
theorem Pr.wH.loop {ι α : Type} {good : α → Prop} {inv : ι → Prop} {body : ι → Pr (ι ⊕ α)} (ha : ∀ s, ∃ q k, body s = .ask q k) : ∀ (n : Nat), (∀ s, inv s → (body s).wH (Next inv good) n) → ∀ (s : ι), inv s → (Pr.loop body n s).wH good n
  | 0, _, _, _ => rfl
  | n + 1, h, s, hs => by
    have h1 := h s hs
    obtain ⟨q, k, e⟩ := ha s
    rw [e] at h1
    rw [Pr.loop_succ, e]
    refine ⟨h1.1, fun r hr => Pr.wH.bind (h1.2 r hr) fun x hx => ?_⟩
    cases x with
    | inl s' => exact Pr.wH.loop ha n (fun s hs => Pr.wH.le (by omega) (h s hs)) s' hx
    | inr x => exact hx
theorem Pr.yV.loop {ι α : Type} {good : α → Prop} {body : ι → Pr (ι ⊕ α)} (inv : ι → Prop) (ha : ∀ s, ∃ q k, body s = .ask q k) (h : ∀ s, inv s → (body s).yV (Next inv good)) (s : ι) (hs : inv s) : (Pr.loop body many s).yV good := Pr.wH.loop ha many h s hs
theorem fine_ask {α : Type} {good : α → Prop} {q : Ned} {k : yQ → Pr α} (hq : kQ q) (h : ∀ r : yQ, U r.n → (k r).yV good) : (Pr.ask q k).yV good := ⟨hq, fun r hr => Pr.wH.le (by unfold many; omega) (h r hr)⟩
theorem yC (c : Int) : (xW c).yV U := ⟨asked_word (by decide) U.zero U.zero, fun _ h => h⟩
theorem vD (c : Int) {v : Int} (h : U v) : (kY c v).yV yes := ⟨asked_word (by decide) h U.zero, fun _ _ => trivial⟩
theorem vI (c : Int) {a b : Int} (ha : U a) (hb : U b) : (casP c a b).yV yes := ⟨asked_word (by decide) ha hb, fun _ _ => trivial⟩
theorem fine_add (c : Int) {v : Int} (h : U v) : (addP c v).yV U := ⟨asked_word (by decide) h U.zero, fun _ h => h⟩
theorem fine_swap (c : Int) {v : Int} (h : U v) : (swapP c v).yV U := ⟨asked_word (by decide) h U.zero, fun _ h => h⟩
inductive Ans (σ : Type) where
  | ret (r : yQ) (s : σ)
  | need (q : Ned) (s : σ)
  | out
inductive Held (σ α : Type) where
  | done (x : α) (s : σ)
  | need (q : Ned) (s : σ)
  | stuck
def Held.bind {σ α β : Type} (m : Held σ α) (f : α → σ → Held σ β) : Held σ β := match m with
  | .done x s => f x s
  | .need q s => .need q s
  | .stuck => .stuck
theorem Held.zQ {σ α β : Type} (x : α) (s : σ) (f : α → σ → Held σ β) : (Held.done x s).bind f = f x s := rfl
theorem Held.zC {σ α β : Type} (q : Ned) (s : σ) (f : α → σ → Held σ β) : (Held.need q s : Held σ α).bind f = .need q s := rfl
theorem Held.zJ {σ α β : Type} (f : α → σ → Held σ β) : (Held.stuck : Held σ α).bind f = .stuck := rfl
def Pr.run {σ α : Type} (st : σ → Ned → Ans σ) : Pr α → σ → Held σ α
  | .ret x, s => .done x s
  | .stuck, _ => .stuck
  | .ask q k, s => match st s q with
    | .ret r s' => (k r).run st s'
    | .need q s' => .need q s'
    | .out => .stuck
theorem zD {σ α : Type} (st : σ → Ned → Ans σ) (x : α) (s : σ) : (Pr.ret x).run st s = .done x s := rfl
theorem vH {σ α : Type} (st : σ → Ned → Ans σ) (q : Ned) (k : yQ → Pr α) (s : σ) : (Pr.ask q k).run st s = match st s q with
    | .ret r s' => (k r).run st s'
    | .need q s' => .need q s'
    | .out => .stuck := by rw [Pr.run]
theorem run_bind {σ α β : Type} (st : σ → Ned → Ans σ) (f : α → Pr β) : ∀ (p : Pr α) (s : σ), (p.bind f).run st s = (p.run st s).bind fun x s' => (f x).run st s'
  | .ret _, _ => rfl
  | .stuck, _ => rfl
  | .ask q k, s => by
    show Pr.run st (.ask q fun r => (k r).bind f) s = _
    rw [vH, vH]
    cases st s q with
    | ret r s' => exact run_bind st f (k r) s'
    | need q s' => rfl
    | out => rfl
theorem zB {σ α : Type} (st : σ → Ned → Ans σ) (c : Bool) (p1 p2 : Pr α) (s : σ) : (bif c then p1 else p2).run st s = bif c then p1.run st s else p2.run st s := by cases c <;> rfl
def y9 (L : List yQ) (i : Nat) (q : Ned) : Ans Nat := match L[i]? with
  | some r => .ret r (i + 1)
  | none => .need q L.length
def xB (L : List yQ) : Prop := L.length ≤ 1000000 ∧ ∀ r ∈ L, U r.n
theorem xB.at {L : List yQ} (h : xB L) {i : Nat} {r : yQ} (hr : L[i]? = some r) : U r.n := h.2 r (List.mem_of_getElem? hr)
theorem Pr.wH.log {α : Type} {good : α → Prop} {L : List yQ} (hL : ∀ r ∈ L, U r.n) : ∀ {p : Pr α} {m i : Nat}, p.wH good m → i ≤ L.length → L.length - i < m → match p.run (y9 L) i with
    | .done x j => good x ∧ i ≤ j ∧ j ≤ L.length
    | .need q j => kQ q ∧ j = L.length
    | .stuck => False
  | .ret _, _, _, h, hi, _ => ⟨h, Nat.le_refl _, hi⟩
  | .stuck, m, i, h, hi, hm => by have : m = 0 := h; omega
  | .ask q k, m, i, h, hi, hm => by
    rw [vH]
    cases e : L[i]? with
    | none =>
      have e0 : y9 L i q = .need q L.length := by unfold y9; rw [e]
      rw [e0]
      exact ⟨h.1, rfl⟩
    | some r =>
      have e0 : y9 L i q = .ret r (i + 1) := by unfold y9; rw [e]
      rw [e0]
      have hlt := (List.getElem?_eq_some_iff.1 e).1
      have h1 := Pr.wH.log hL (h.2 r (hL r (List.mem_of_getElem? e))) (i := i + 1) hlt (by omega)
      show match (k r).run (y9 L) (i + 1) with | .done x j => good x ∧ i ≤ j ∧ j ≤ L.length | .need q j => kQ q ∧ j = L.length | .stuck => False
      cases e2 : (k r).run (y9 L) (i + 1) with
      | done x j => rw [e2] at h1; exact ⟨h1.1, by omega, h1.2.2⟩
      | need q j => rw [e2] at h1; exact h1
      | stuck => rw [e2] at h1; exact h1
theorem Pr.yV.log {α : Type} {good : α → Prop} {L : List yQ} (hL : xB L) {p : Pr α} {i : Nat} (h : p.yV good) (hi : i ≤ L.length) : match p.run (y9 L) i with
    | .done x j => good x ∧ i ≤ j ∧ j ≤ L.length
    | .need q j => kQ q ∧ j = L.length
    | .stuck => False := Pr.wH.log hL.2 h hi (by have := hL.1; unfold many; omega)
structure StOK {σ : Type} (st : σ → Ned → Ans σ) (ok : σ → Prop) : Prop where
  ret : ∀ s q r s', ok s → kQ q → st s q = .ret r s' → U r.n ∧ ok s'
  need : ∀ s q q' s', ok s → kQ q → st s q = .need q' s' → ok s'
theorem Pr.wH.run {σ α : Type} {good : α → Prop} {st : σ → Ned → Ans σ} {ok : σ → Prop} (H : StOK st ok) : ∀ {p : Pr α} {m : Nat} {s : σ}, p.wH good m → ok s → match p.run st s with
    | .done x s' => good x ∧ ok s'
    | .need _ s' => ok s'
    | .stuck => True
  | .ret _, _, _, h, hs => ⟨h, hs⟩
  | .stuck, _, _, _, _ => trivial
  | .ask q k, m, s, h, hs => by
    rw [vH]
    cases e : st s q with
    | need q' s' => exact H.need s q q' s' hs h.1 e
    | out => trivial
    | ret r s' =>
      obtain ⟨h1, h2⟩ := H.ret s q r s' hs h.1 e
      exact Pr.wH.run H (h.2 r h1) h2
theorem Pr.yV.run {σ α : Type} {good : α → Prop} {st : σ → Ned → Ans σ} {ok : σ → Prop} (H : StOK st ok) {p : Pr α} {s : σ} (h : p.yV good) (hs : ok s) : match p.run st s with
    | .done x s' => good x ∧ ok s'
    | .need _ s' => ok s'
    | .stuck => True := Pr.wH.run H h hs
theorem stOK_log {L : List yQ} (hL : xB L) : StOK (y9 L) (fun i => i ≤ L.length) where
  ret := fun i q r j _ _ h => by
    unfold y9 at h
    cases e : L[i]? with
    | none => rw [e] at h; cases h
    | some r' => rw [e] at h; cases h; exact ⟨hL.at e, (List.getElem?_eq_some_iff.1 e).1⟩
  need := fun i q q' j _ _ h => by
    unfold y9 at h
    cases e : L[i]? with
    | none => rw [e] at h; cases h; exact Nat.le_refl _
    | some r' => rw [e] at h; cases h
end
section
section
variable {P : Program} {n : Nat} {o : Oper} {S : AS} {d : Nat}
theorem call_effP {C : (Ending → World → Prop) → Prop} (hmono : ∀ R R' : Ending → World → Prop, (∀ e w', R e w' → R' e w') → C R → C R') {xs : List AV} {ids : List Nat} {B : List Blk} {Post : EV → List Blk → Prop} (hh : Hands S ids B) (hP : ∀ ev B', Post ev B' → B'.length = B.length ∧ B'.all (Blk.okE B.length) = true) (hxs : xs.all (AV.okE B.length) = true)
    {M : Nat → Nat → Prop} {w0 : Home} {ρ : Nat → Value} {a : Act} {w : World} (hs : Sat M n w0 S ρ a w) {vs : List Value}
    (hvs : ∀ (i : Nat) x v, xs[i]? = some x → vs[i]? = some v → yK (Mut M S ρ) ρ w (x.ren (sig ids)) v)
    (hf : ∀ (M' : Nat → Nat → Prop) (h : Home) (ρ' : Nat → Value), h.w = w → h.d = [] → Handed h B ρ' → Sat M' 0 h (asB B) ρ' wC w → (∀ (i : Nat) x v, xs[i]? = some x → vs[i]? = some v → yK (Mut M' (asB B) ρ') ρ' w x v) → (∀ k, 1000 ≤ k → k < 1000 + B.length → ρ' k = ρ (sig ids k)) →
      C fun e w' => ∃ ev B', Post ev B' ∧ ∃ ρ2, Sat M' 0 h (asB B') ρ2 wC w' ∧ EvOK (Mut M' (asB B') ρ2) ρ2 w' ev e) :
    C fun e w' => ∃ ev B', Post ev B' ∧ Sat M n w0 (S.after ids B') ρ a w' ∧ EvOut B.length (sig ids) (Mut M (S.after ids B') ρ) ρ w' ev e := by
  have hlen := hh.len
  have at_i : ∀ i, i < B.length → ∃ id b, ids[i]? = some id ∧ B[i]? = some b ∧ S.blk id = some (b.ren (sig ids)) ∧ sig ids (1000 + i) = id := fun i hi => by
    have h1 : ids[i]? = some (ids[i]'(by omega)) := List.getElem?_eq_getElem _
    have h2 : B[i]? = some B[i] := List.getElem?_eq_getElem _
    exact ⟨_, _, h1, h2, hh.at_ i _ _ h1 h2, sig_at h1⟩
  have box_i : ∀ i, i < B.length → ∃ mp g, ρ (sig ids (1000 + i)) = objV mp g := fun i hi => by
    obtain ⟨id, b, h1, h2, h3, h4⟩ := at_i i hi
    have hb := hs.blks id _ h3
    have hbo := List.all_eq_true.1 hh.ok b (List.mem_of_getElem? h2)
    rw [h4]
    cases b with
    | box t cs =>
      obtain ⟨g, ys, hv, _⟩ := hb
      exact ⟨false, g, hv⟩
    | row t s m cs => cases hbo
    | prow t s m cs => cases hbo
    | lent t s m cs => cases hbo
    | obj mp Q =>
      obtain ⟨g, o, hv, _⟩ := hb
      exact ⟨mp, g, hv⟩
  let T : Nat → Prop := fun k => ∃ i, i < B.length ∧ yX (ρ (sig ids (1000 + i))) = some k
  have T_mut : ∀ k c, T k → Mut M S ρ k c := fun k c ⟨i, hi, hk⟩ => by
    obtain ⟨id, b, h1, h2, h3, h4⟩ := at_i i hi
    rw [h4] at hk
    exact .inr ⟨id, _, h3, hk, (Blk.qU c).2 (Blk.vX (List.all_eq_true.1 hh.ok b (List.mem_of_getElem? h2)) c)⟩
  have T_has : ∀ k, T k → w0.has k := fun k ⟨i, hi, hk⟩ => by
    obtain ⟨id, b, h1, h2, h3, h4⟩ := at_i i hi
    rw [h4] at hk
    exact hs.mine id _ k h3 hk
  let M' : Nat → Nat → Prop := fun k c => Mut M S ρ k c ∧ ¬ T k
  let h : Home := ⟨w, T, hs.lays, (fun g hg ht => hs.tabs g 0 hg (T_mut g 0 ht)), fun k => if 1000 ≤ k ∧ k < 1000 + B.length then some (ρ (sig ids k)) else none, (fun k v hk => by
      by_cases hc : 1000 ≤ k ∧ k < 1000 + B.length
      · simp only [hc, and_self, if_true, Option.some.injEq] at hk
        obtain ⟨mp, g, hg⟩ := box_i (k - 1000) (by omega)
        have e : 1000 + (k - 1000) = k := by omega
        rw [e] at hg
        exact ⟨mp, g, by rw [← hk, hg]⟩
      · rw [if_neg hc] at hk; cases hk), (fun k hk => if_neg (by omega)), []⟩
  have hr_i : ∀ k, 1000 ≤ k → k < 1000 + B.length → h.r k = some (ρ (sig ids k)) := fun k h1 h2 => if_pos ⟨h1, h2⟩
  have mutc : ∀ k c, Mut M' (asB B) (fun k => ρ (sig ids k)) k c → Mut M S ρ k c := by
    rintro k c (hk | ⟨id, b, hb, hk, _⟩)
    · exact hk.1
    · obtain ⟨i, rfl, hbi⟩ := yN hb
      exact T_mut k c ⟨i, (List.getElem?_eq_some_iff.1 hbi).1, hk⟩
  have hsat : Sat M' 0 h (asB B) (fun k => ρ (sig ids k)) wC h.w := by
    refine ⟨wQ.refl h, fun k c hk hh2 => ?_, fun g c hg hk => ?_, rfl, rfl, fun i => .any _, fun id b hb => ?_, fun id b k hb hk => ?_, fun k v hk => ?_, fun k hk => by omega, fun i j bi bj k hi hj h1 h2 => ?_⟩
    · rcases hh2 with hh2 | hh2
      · exact absurd (Mut.lt hs hk.1) (Nat.not_lt.2 hh2)
      · exact hk.2 hh2
    · exact hs.tabs g c hg hk.1
    · obtain ⟨i, rfl, hbi⟩ := yN hb
      have hi : i < B.length := (List.getElem?_eq_some_iff.1 hbi).1
      obtain ⟨id, b2, h1, h2, h3, h4⟩ := at_i i hi
      rw [hbi] at h2
      obtain rfl := Option.some.inj h2
      have hbo := List.all_eq_true.1 hh.ok b (List.mem_of_getElem? hbi)
      have hb2 := hs.blks id _ h3
      cases b with
      | box t cs =>
        obtain ⟨g, ys, hv, hg, hhp, hc⟩ := hb2
        exact ⟨g, ys, by show ρ (sig ids (1000 + i)) = _; rw [h4]; exact hv, hg, hhp, yE.inn hc hbo fun k c _ hk => mutc k c hk⟩
      | row t s m cs => cases hbo
      | prow t s m cs => cases hbo
      | lent t s m cs => cases hbo
      | obj mp Q =>
        obtain ⟨g, o, hv, hg, hhp, hq⟩ := hb2
        exact ⟨g, o, by show ρ (sig ids (1000 + i)) = _; rw [h4]; exact hv, hg, hhp, hq⟩
    · obtain ⟨i, rfl, hbi⟩ := yN hb
      exact .inr ⟨i, (List.getElem?_eq_some_iff.1 hbi).1, hk⟩
    · by_cases hc : 1000 ≤ k ∧ k < 1000 + B.length
      · rw [hr_i k hc.1 hc.2] at hk
        exact Option.some.inj hk
      · have : h.r k = none := if_neg hc
        rw [this] at hk; cases hk
    · obtain ⟨i', rfl, hbi⟩ := yN hi
      obtain ⟨j', rfl, hbj⟩ := yN hj
      obtain ⟨id, b1, p1, p2, p3, p4⟩ := at_i i' (List.getElem?_eq_some_iff.1 hbi).1
      obtain ⟨jd, b2, q1, q2, q3, q4⟩ := at_i j' (List.getElem?_eq_some_iff.1 hbj).1
      rw [p4] at h1
      rw [q4] at h2
      have e := hs.dist id jd _ _ k p3 q3 h1 h2
      subst e
      rw [nodup_inj hh.nodup p1 q1]
  refine hmono _ _ ?_ (hf M' h _ rfl rfl ⟨fun i hi => hr_i _ (by omega) (by omega), fun k hk => hk⟩ hsat (fun i x v h1 h2 => yK.inn (hvs i x v h1 h2) (List.all_eq_true.1 hxs x (List.mem_of_getElem? h1)) fun k c _ hk => mutc k c hk) (fun _ _ _ => rfl))
  rintro e w' ⟨ev, B', hpost, ρ2, hs2, hev⟩
  obtain ⟨hB', hok'⟩ := hP ev B' hpost
  have hρ : ∀ k, 1000 ≤ k → k < 1000 + B.length → ρ2 k = ρ (sig ids k) := fun k h1 h2 => hs2.fix k _ (hr_i k h1 h2)
  have hblk : ∀ j, (S.after ids B').blk j = if j ∈ ids then (B'.map (Blk.ren (sig ids)))[ids.idxOf j]? else S.blk j := fun j => look_putBs ids _ S.s j (by simp [hlen, hB']) hh.nodup
  have mem_at : ∀ j, j ∈ ids → ∃ i b b', ids.idxOf j = i ∧ i < B.length ∧ ids[i]? = some j ∧ B[i]? = some b ∧ B'[i]? = some b' ∧ S.blk j = some (b.ren (sig ids)) ∧ sig ids (1000 + i) = j := fun j hj => by
    have h1 : ids.idxOf j < ids.length := List.idxOf_lt_length_of_mem hj
    have h2 : ids[ids.idxOf j]? = some j := by rw [List.getElem?_eq_getElem h1, List.getElem_idxOf h1]
    obtain ⟨id, b, h3, h4, h5, h6⟩ := at_i (ids.idxOf j) (by omega)
    rw [h2] at h3
    obtain rfl := Option.some.inj h3
    exact ⟨_, b, B'[ids.idxOf j]'(by omega), rfl, by omega, h2, h4, List.getElem?_eq_getElem _, h5, h6⟩
  have keys : ∀ j b, (S.after ids B').blk j = some b → ∃ b0, S.blk j = some b0 ∧ ∀ c, b.turns c → b0.turns c := fun j b hb => by
    rw [hblk] at hb
    by_cases hj : j ∈ ids
    · obtain ⟨i, b0, b', _, _, _, h3, _, h5, _⟩ := mem_at j hj
      exact ⟨_, h5, fun c _ => (Blk.qU c).2 (Blk.vX (List.all_eq_true.1 hh.ok b0 (List.mem_of_getElem? h3)) c)⟩
    · rw [if_neg hj] at hb
      exact ⟨b, hb, fun _ h => h⟩
  have keys' : ∀ j b, S.blk j = some b → ∃ b0, (S.after ids B').blk j = some b0 := fun j b hb => by
    rw [hblk]
    by_cases hj : j ∈ ids
    · obtain ⟨i, b0, b', h1, _, _, _, h4, _, _⟩ := mem_at j hj
      rw [if_pos hj, h1]
      exact ⟨_, by rw [List.getElem?_map, h4]; rfl⟩
    · rw [if_neg hj]
      exact ⟨b, hb⟩
  have mut1 : ∀ k c, Mut M (S.after ids B') ρ k c → Mut M S ρ k c := by
    rintro k c (hk | ⟨j, b, hb, hk, ht⟩)
    · exact .inl hk
    · obtain ⟨b0, h0, h0t⟩ := keys j b hb
      exact .inr ⟨j, b0, h0, hk, h0t c ht⟩
  have mut2 : ∀ k c, Mut M S ρ k c → Mut M' (asB B') ρ2 k c := fun k c hk => by
    by_cases ht : T k
    · obtain ⟨i, hi, hk2⟩ := ht
      refine .inr ⟨1000 + i, B'[i]'(by omega), by rw [kL]; exact List.getElem?_eq_getElem _, ?_, Blk.vX (List.all_eq_true.1 hok' _ (List.getElem_mem _)) c⟩
      rw [hρ (1000 + i) (by omega) (by omega)]
      exact hk2
    · exact .inl ⟨hk, ht⟩
  have grow : Keeps (Mut M S ρ) w w' := ⟨hs2.below.size, fun k c hk hnm => World.cell?_of_block (w := w) (hs2.below.block k hk (fun ht => hnm (T_mut k c ht)))⟩
  have sat' : Sat M n w0 (S.after ids B') ρ a w' := by
    refine ⟨⟨hs2.below.os.trans hs.below.os, hs2.below.tape.trans hs.below.tape, hs2.below.output.trans hs.below.output, Nat.le_trans hs.below.size hs2.below.size, fun k hk ht => ?_⟩, hs.out, hs.tab, hs.size, hs.defers, fun i => ((hs.tmps i).keep grow).mono fun k c _ hk => mut1 k c hk, fun j b hb => ?_, fun j b k hb hk => ?_, hs.fix, hs.free, fun i j bi bj k hi hj h1 h2 => ?_⟩
    · refine (hs2.below.block k (Nat.lt_of_lt_of_le hk hs.below.size) (fun hT => ?_)).trans (hs.below.block k hk ht)
      rcases T_has k hT with h1 | h1
      · omega
      · exact ht h1
    · rw [hblk] at hb
      by_cases hj : j ∈ ids
      · obtain ⟨i, b0, b', h1, hi, h2, h3, h4, h5, h6⟩ := mem_at j hj
        rw [if_pos hj, h1, List.getElem?_map, h4] at hb
        obtain rfl := Option.some.inj hb
        have hb2 := hs2.blks (1000 + i) b' (by rw [kL]; exact h4)
        have hbo := List.all_eq_true.1 hok' b' (List.mem_of_getElem? h4)
        cases b' with
        | box t cs =>
          obtain ⟨g, ys, hv, hg, hhp, hc⟩ := hb2
          rw [hρ (1000 + i) (by omega) (by omega), h6] at hv
          exact ⟨g, ys, hv, hg, hhp, yE.outw hc hbo (fun k c _ hk => mut2 k c (mut1 k c hk)) hρ⟩
        | row t s m cs => cases hbo
        | prow t s m cs => cases hbo
        | lent t s m cs => cases hbo
        | obj mp Q =>
          obtain ⟨g, o, hv, hg, hhp, hq⟩ := hb2
          rw [hρ (1000 + i) (by omega) (by omega), h6] at hv
          exact ⟨g, o, hv, hg, hhp, hq⟩
      · rw [if_neg hj] at hb
        refine (wZ.keep (hs.blks j b hb) (fun k hk => ?_) grow (fun k c _ hk => hk)).mono mut1
        refine hs2.below.block k (Mut.blk_lt hs hb hk) (fun ⟨i, hi, hk2⟩ => ?_)
        obtain ⟨id, b2, p1, p2, p3, p4⟩ := at_i i hi
        rw [p4] at hk2
        have := hs.dist j id _ _ k hb p3 hk hk2
        subst this
        exact hj (List.mem_of_getElem? p1)
    · obtain ⟨b0, h0, _⟩ := keys j b hb
      exact hs.mine j b0 k h0 hk
    · obtain ⟨b1, h3, _⟩ := keys i bi hi
      obtain ⟨b2, h4, _⟩ := keys j bj hj
      exact hs.dist i j b1 b2 k h3 h4 h1 h2
  refine ⟨ev, B', hpost, sat', ?_⟩
  cases ev with
  | ret x =>
    intro hx
    obtain ⟨v, he, hv⟩ := hev
    exact ⟨v, he, yK.outw hv hx (fun k c _ hk => mut2 k c (mut1 k c hk)) hρ⟩
  | pan x =>
    intro hx
    obtain ⟨v, he, hv⟩ := hev
    exact ⟨v, he, yK.outw hv hx (fun k c _ hk => mut2 k c (mut1 k c hk)) hρ⟩
def FnQ (P : Program) (f : FuncId) (args : List AV) (B : List Blk) (Post : EV → List Blk → Prop) : Prop :=
  ∀ (M : Nat → Nat → Prop) (h : Home) (ρ : Nat → Value) (vs : List Value), Handed h B ρ → Sat M 0 h (asB B) ρ wC h.w → vs.length = args.length →
    (∀ (i : Nat) x v, args[i]? = some x → vs[i]? = some v → yK (Mut M (asB B) ρ) ρ h.w x v) →
    Calls P f vs.toArray h.w fun e w' => ∃ ev B', Post ev B' ∧ ∃ ρ', Sat M 0 h (asB B') ρ' wC w' ∧ EvOK (Mut M (asB B') ρ') ρ' w' ev e
theorem FnE.q {f : FuncId} {args : List AV} {B B' : List Blk} {ev : EV} {Post : EV → List Blk → Prop} (h : FnE P f args B ev B') (hp : Post ev B') : FnQ P f args B Post :=
  fun M hh ρ vs h1 h2 h3 h4 => (h M hh ρ vs h1 h2 h3 h4).mono fun e w' ⟨ρ', h5, h6⟩ => ⟨ev, B', hp, ρ', h5, h6⟩
theorem FnQ.e {f : FuncId} {args : List AV} {B B' : List Blk} {ev : EV} (h : FnQ P f args B fun ev' B2 => ev' = ev ∧ B2 = B') : FnE P f args B ev B' :=
  fun M hh ρ vs h1 h2 h3 h4 => (h M hh ρ vs h1 h2 h3 h4).mono fun _ _ ⟨_, _, ⟨e1, e2⟩, ρ', h6⟩ => by subst e1 e2; exact ⟨ρ', h6⟩
theorem zA.eQ {f : FuncId} {avs xs : List AV} {B : List Blk} {Post : EV → List Blk → Prop} {N : AS → Prop} {K : Exit → AS → Prop} (ids : List Nat) (hf : FnQ P f xs B Post) (hd : o.dst = some d) (hn : d < n) (he : Enters P o S f avs) (hx : avs = xs.map (AV.ren (sig ids))) (hh : Hands S ids B) (hxs : xs.all (AV.okE B.length) = true)
    (hP : ∀ ev B', Post ev B' → B'.length = B.length ∧ B'.all (Blk.okE B.length) = true)
    (hr : ∀ rx B', Post (.ret rx) B' → rx.okE B.length = true ∧ N ((S.after ids B').put d (rx.ren (sig ids))))
    (hp : ∀ rx B', Post (.pan rx) B' → rx.okE B.length = true ∧ K (.panic []) { S.after ids B' with x := rx.ren (sig ids) }) : zA P n o S K N := by
  intro M w0 ρ a w KK Q hs hK hK2
  obtain ⟨vs, he1, he2, he3⟩ := he M n w0 ρ a w hs
  unfold Oper.wp
  rw [he1, Oper.upon_enter]
  have hvl : vs.length = xs.length := by rw [he2, hx, List.length_map]
  refine (call_effP (C := Calls P f vs.toArray w) (fun _ _ h c => c.mono h) hh hP hxs hs (reps_ren hx he3) fun M' h ρ' hw _ hand hsat hr _ => by
    subst hw
    exact hf M' h ρ' vs hand hsat hvl hr).mono ?_
  rintro e w' ⟨ev, B', hpost, hs', hev⟩
  cases ev with
  | ret rx =>
    obtain ⟨hok, hN⟩ := hr rx B' hpost
    obtain ⟨v, rfl, hv⟩ := hev hok
    show KK (a.put o.dst v) w'
    rw [hd]
    exact hK _ ρ _ w' hN (hs'.put hn hv)
  | pan rx =>
    obtain ⟨hok, hN⟩ := hp rx B' hpost
    obtain ⟨v, rfl, hv⟩ := hev hok
    exact hK2 (.panic _) _ ρ a w' hN ⟨hs'.below, hs'.out, hs'.tab, hs'.size, hs'.defers, hs'.tmps, hs'.blks, hs'.mine, hs'.fix, hs'.free, hs'.dist⟩ ⟨v, rfl, hv⟩
inductive EndQ (P : Program) (fn : Func) (Post : EV → List Blk → Prop) : Exit → AS → Prop
  | ret {e : Exit} {S S' : AS} {x : AV} {B' : List Blk} (he : e = .ret ∨ e = .normal) (hs : Sub S S') (hg : GivesA P fn S' x) (hB : HasB S' B') (hp : Post (.ret x) B') : EndQ P fn Post e S
  | pan {S S' : AS} {x : AV} {B' : List Blk} (hs : ∀ (M : Nat → Nat → Prop) (n : Nat) (w0 : Home) (ρ : Nat → Value) (a : Act) (w : World), Sat M n w0 S ρ a w → Sat M n w0 S' ρ a w) (hm : ∀ (M : Nat → Nat → Prop) (ρ : Nat → Value) k c, Mut M S' ρ k c → Mut M S ρ k c) (hx : S.x = x) (hB : HasB S' B') (hp : Post (.pan x) B') : EndQ P fn Post (.panic []) S
theorem fn_ofQ {f : FuncId} {fn : Func} {c : Code} {args : List AV} {B : List Blk} {Post : EV → List Blk → Prop} (hf : P.funcs[f]? = some fn) (hb : fn.body = some c) (hn : fn.ntmps = n) (hle : args.length ≤ n) (h1000 : n ≤ 1000)
    (h : zZ P n c { t := zipA 0 args, s := numB 1000 B } (EndQ P fn Post)) : FnQ P f args B Post := by
  intro M hh ρ vs hand hs0 hvl hvs
  refine calls_of_wp hf hb ?_
  have hsat : Sat M n hh { t := zipA 0 args, s := numB 1000 B } ρ { tmps := vs.toArray ++ Array.replicate (fn.ntmps - vs.toArray.size) undef, defers := [] } hh.w := by
    refine ⟨hs0.below, hs0.out, hs0.tab, by simp; omega, hs0.defers, fun i => ?_, hs0.blks, hs0.mine, hs0.fix, fun k hk => hh.lo k (by omega), hs0.dist⟩
    show yK _ _ _ ((look (zipA 0 args) i).getD .any) _
    rw [look_zipA]
    simp only [Nat.zero_le, if_true, Nat.sub_zero]
    cases hx : args[i]? with
    | none => exact .any _
    | some x =>
      have hi : i < vs.length := by rw [hvl]; exact (List.getElem?_eq_some_iff.1 hx).1
      have e : ({ tmps := vs.toArray ++ Array.replicate (fn.ntmps - vs.toArray.size) undef, defers := [] } : Act).tmps.getD i undef = vs[i] := by
        simp [Array.getD_eq_getD_getElem?, Array.getElem?_append, hi]
      rw [e]
      exact hvs i x vs[i] hx (List.getElem?_eq_getElem hi)
  refine h M hh ρ _ hh.w _ hsat ?_
  intro e S0 ρ0 a' w' hend hs1 hx
  generalize he0 : bare e = e0 at hend
  cases hend with
  | @pan _ S' x B' hsub hm hxx hB hp =>
    subst hxx
    cases e with
    | panic c =>
      obtain ⟨v, rfl, hv⟩ := hx
      have hs2 := hsub M n hh ρ0 a' w' hs1
      obtain ⟨h1, h2⟩ := hs2.asB hs0.defers.symm hB
      exact ⟨hs1.defers.trans hs0.defers.symm, _, B', hp, ρ0, h1, v, rfl, hv.mono fun k c _ hk => hm M ρ0 k c (h2 k c hk)⟩
    | _ => cases he0
  | @ret _ _ S' x B' he hsub hg hB hp =>
    obtain ⟨ρ', hs'⟩ := hsub M n hh ρ0 a' w' hs1
    obtain ⟨h1, h2⟩ := hs'.asB hs0.defers.symm hB
    have fin : a'.defers = [] ∧ ∃ v, (results fn a'.tmps).run P w' = .ok v w' ∧ (∃ ev B', Post ev B' ∧ ∃ ρ', Sat M 0 hh (asB B') ρ' wC w' ∧ EvOK (Mut M (asB B') ρ') ρ' w' ev (.returned v)) := by
      refine ⟨hs'.defers.trans hs0.defers.symm, ?_⟩
      cases hg with
      | none hr => exact ⟨_, results_none hr _ _ _, _, B', hp, ρ', h1, _, rfl, .any _⟩
      | one hr ht =>
        subst ht
        exact ⟨_, results_tmp hr _ _ _, _, B', hp, ρ', h1, _, rfl, (hs'.tmps _).mono fun k c _ hk => h2 k c hk⟩
      | p hr hx =>
        obtain ⟨v, g1, g2⟩ := res_oneM hs' hx
        have g3 := xE (P := P) (w := w') fn a'.tmps (rs := [_]) (vs := [v]) hr (by simp only [List.mapM_cons, List.mapM_nil, Sem.run_bind, Sem.run_pure, g1, Result.andThen_ok])
        exact ⟨v, g3, _, B', hp, ρ', h1, _, rfl, .p (g2.mono fun k c _ hk => h2 k c hk)⟩
      | tup hr hl hx =>
        obtain ⟨us, g1, g2, g4, g3⟩ := res_allM hs' hx
        have g5 := xE (P := P) (w := w') fn a'.tmps hr g1
        rw [dif_neg (by simp only [List.size_toArray]; omega)] at g5
        refine ⟨_, g5, _, B', hp, ρ', h1, _, rfl, .tup _ us (by simpa using g2) fun i c v hc hv => ?_⟩
        rw [List.getElem?_map, Option.map_eq_some_iff] at hc
        obtain ⟨y, hy, rfl⟩ := hc
        exact .p ((g3 i y v hy hv).mono fun k c _ hk => h2 k c hk)
    cases e with
    | ret => exact fin
    | normal => exact fin
    | exit id => subst he0; rcases he with h | h <;> cases h
    | goto l => subst he0; rcases he with h | h <;> cases h
    | panic c => subst he0; rcases he with h | h <;> cases h
    | outgrown => subst he0; rcases he with h | h <;> cases h
def Blk.forget : Blk → Blk
  | .box t xs => .box t (xs.map fun _ => .any)
  | .obj mp _ => .obj mp fun _ _ => True
  | b => b
theorem wZ.forget {M : Nat → Nat → Prop} {B : Nat} {v : Value} {b : Blk} {w : World} {ρ : Nat → Value} (h : wZ M B ρ w v b) : wZ M B ρ w v b.forget := by
  cases b with
  | box t xs =>
    obtain ⟨g, ys, e, hg, hh, hc⟩ := h
    refine ⟨g, ys, e, hg, hh, by simp [hc.len], fun i c u hu hv => ?_, hc.one⟩
    rw [List.getElem?_map, Option.map_eq_some_iff] at hu
    obtain ⟨_, _, rfl⟩ := hu
    exact .any _
  | row t s m xs => exact h
  | prow t s m xs => exact h
  | lent t s m xs => exact h
  | obj mp Q =>
    obtain ⟨g, o, e, hg, hh, _⟩ := h
    exact ⟨g, o, e, hg, hh, trivial⟩
theorem Blk.forget_turns (b : Blk) (c : Nat) : b.forget.turns c ↔ b.turns c := by cases b <;> exact Iff.rfl
def AS.forget (S : AS) : AS := { S with s := S.s.map fun p => (p.1, if p.1 < 1003 then p.2 else p.2.forget) }
theorem AS.wV (S : AS) (id : Nat) : S.forget.blk id = (S.blk id).map fun b => if id < 1003 then b else b.forget := by
  show look (S.s.map _) id = (look S.s id).map _
  induction S.s with
  | nil => rfl
  | cons p r ih =>
    simp only [List.map_cons, look, ih]
    by_cases h : p.1 = id
    · subst h; simp
    · rw [if_neg h, if_neg h]
theorem AS.forget_mut (S : AS) (M : Nat → Nat → Prop) (ρ : Nat → Value) (k c : Nat) : Mut M S.forget ρ k c ↔ Mut M S ρ k c := by
  have tb : ∀ id (b : Blk) c, (if id < 1003 then b else b.forget).turns c ↔ b.turns c := fun id b c => by
    by_cases h : id < 1003
    · rw [if_pos h]
    · rw [if_neg h]; exact b.forget_turns c
  constructor
  · rintro (h | ⟨id, b, hb, hk, ht⟩)
    · exact .inl h
    · rw [AS.wV, Option.map_eq_some_iff] at hb
      obtain ⟨b0, h0, rfl⟩ := hb
      exact .inr ⟨id, b0, h0, hk, (tb id b0 c).1 ht⟩
  · rintro (h | ⟨id, b, hb, hk, ht⟩)
    · exact .inl h
    · exact .inr ⟨id, _, by rw [AS.wV, hb]; rfl, hk, (tb id b c).2 ht⟩
theorem Sat.forget {M : Nat → Nat → Prop} {n : Nat} {w0 : Home} {ρ : Nat → Value} {a : Act} {w : World} (h : Sat M n w0 S ρ a w) : Sat M n w0 S.forget ρ a w := by
  have key : ∀ id b, S.forget.blk id = some b → ∃ b0, S.blk id = some b0 ∧ b = if id < 1003 then b0 else b0.forget := fun id b hb => by
    rw [AS.wV, Option.map_eq_some_iff] at hb
    obtain ⟨b0, h0, rfl⟩ := hb
    exact ⟨b0, h0, rfl⟩
  have hm : ∀ k c, Mut M S.forget ρ k c → Mut M S ρ k c := fun k c => (AS.forget_mut S M ρ k c).1
  refine ⟨h.below, h.out, h.tab, h.size, h.defers, fun i => (h.tmps i).mono fun k c _ hk => hm k c hk, fun id b hb => ?_, fun id b k hb hk => ?_, h.fix, h.free, fun i j bi bj k hi hj h1 h2 => ?_⟩
  · obtain ⟨b0, h0, rfl⟩ := key id b hb
    have h1 := (h.blks id b0 h0).mono hm
    by_cases hlt : id < 1003
    · rw [if_pos hlt]; exact h1
    · rw [if_neg hlt]; exact h1.forget
  · obtain ⟨b0, h0, _⟩ := key id b hb
    exact h.mine id b0 k h0 hk
  · obtain ⟨b1, h3, _⟩ := key i bi hi
    obtain ⟨b2, h4, _⟩ := key j bj hj
    exact h.dist i j b1 b2 k h3 h4 h1 h2
end
end
section
attribute [local irreducible] zY zZ Step zV Sub zF zA Fn
def accQ (q : Ned) : PV := accV q.kind q.cell q.a q.b q.d
inductive KB (b : Blk) : Blk → Prop
  | refl : KB b b
  | kill {c : Blk} (i : Nat) (hi : i < 1000) (h : KB b c) : KB b (c.kill i)
theorem KB.eq {b c : Blk} (hb : ∀ i, i < 1000 → b.kill i = b) (h : KB b c) : c = b := by
  induction h with
  | refl => rfl
  | kill i hi _ ih => rw [ih, hb i hi]
theorem xO {S : AS} {id : Nat} {b c : Blk} (h : S.blk id = some c) (hb : ∀ i, i < 1000 → b.kill i = b) (hk : KB b c) : S.blk id = some b := by rw [h, hk.eq hb]
structure Hnd where
  σ : Type
  fn : FuncId
  b0 : σ → Blk
  b1 : σ → Blk
  b2 : σ → Blk
  ok : σ → Prop
  st : σ → Ned → Ans σ
  stOK : StOK st ok
  has : HasFn Tryz.prog fn
  okE : ∀ s m, 3 ≤ m → (b0 s).okE m = true ∧ (b1 s).okE m = true ∧ (b2 s).okE m = true
  ren : ∀ s ks, (b0 s).ren (sig (1000 :: 1001 :: 1002 :: ks)) = b0 s ∧ (b1 s).ren (sig (1000 :: 1001 :: 1002 :: ks)) = b1 s ∧ (b2 s).ren (sig (1000 :: 1001 :: 1002 :: ks)) = b2 s
  nk : ∀ s, (∀ i, i < 1000 → (b0 s).kill i = b0 s) ∧ (∀ i, i < 1000 → (b1 s).kill i = b1 s) ∧ ∀ i, i < 1000 → (b2 s).kill i = b2 s
  doOK : ∀ s q, ok s → kQ q → match st s q with
    | .ret r s' => FnE Tryz.prog fn [.p (accQ q), .ptr 1000 0, .ptr 1001 0] [b0 s, b1 s, b2 s] (.ret (.p (kM r))) [b0 s', b1 s', b2 s']
    | .need q' s' => FnE Tryz.prog fn [.p (accQ q), .ptr 1000 0, .ptr 1001 0] [b0 s, b1 s, b2 s] (.pan (needA (accQ q'))) [b0 s', b1 s', b2 s']
    | .out => True
instance (H : Hnd) : HasFn Tryz.prog H.fn := H.has
def Hnd.doA (H : Hnd) : AV := .clo H.fn [1000, 1001]
def Hnd.B (H : Hnd) (s : H.σ) (bk : List Blk) : List Blk := H.b0 s :: H.b1 s :: H.b2 s :: bk
def FnH {α : Type} (H : Hnd) (f : FuncId) (args : List AV) (bk : List Blk) (res : α → AV) (bk' : α → List Blk) (good : α → Prop) (s : H.σ) (p : Pr α) : Prop :=
  H.ok s → match p.run H.st s with
  | .done x s' => good x ∧ H.ok s' ∧ FnE Tryz.prog f args (H.b0 s :: H.b1 s :: H.b2 s :: bk) (.ret (res x)) (H.b0 s' :: H.b1 s' :: H.b2 s' :: bk' x)
  | .need q s' => H.ok s' ∧ FnE Tryz.prog f args (H.b0 s :: H.b1 s :: H.b2 s :: bk) (.pan (needA (accQ q))) (H.b0 s' :: H.b1 s' :: H.b2 s' :: bk.map Blk.forget)
  | .stuck => True
theorem FnH.done {α : Type} {H : Hnd} {f : FuncId} {args : List AV} {bk : List Blk} {res : α → AV} {bk' : α → List Blk} {good : α → Prop} {s : H.σ} {p : Pr α} (h : FnH H f args bk res bk' good s p) (hok : H.ok s) {x : α} {s' : H.σ} (hm : p.run H.st s = .done x s') :
    good x ∧ H.ok s' ∧ FnE Tryz.prog f args (H.b0 s :: H.b1 s :: H.b2 s :: bk) (.ret (res x)) (H.b0 s' :: H.b1 s' :: H.b2 s' :: bk' x) := by
  have := h hok
  rw [hm] at this
  exact this
theorem FnH.need {α : Type} {H : Hnd} {f : FuncId} {args : List AV} {bk : List Blk} {res : α → AV} {bk' : α → List Blk} {good : α → Prop} {s : H.σ} {p : Pr α} (h : FnH H f args bk res bk' good s p) (hok : H.ok s) {q : Ned} {s' : H.σ} (hm : p.run H.st s = .need q s') :
    H.ok s' ∧ FnE Tryz.prog f args (H.b0 s :: H.b1 s :: H.b2 s :: bk) (.pan (needA (accQ q))) (H.b0 s' :: H.b1 s' :: H.b2 s' :: bk.map Blk.forget) := by
  have := h hok
  rw [hm] at this
  exact this
theorem Blk.okE_forget {b : Blk} {m : Nat} (h : b.okE m = true) : b.forget.okE m = true := by
  cases b with
  | box t xs =>
    show (xs.map fun _ => AV.any).all (AV.okE m) = true
    simp [AV.okE]
  | row t s n xs => cases h
  | prow t s n xs => cases h
  | lent t s n xs => cases h
  | obj mp Q => rfl
theorem forget_okE {bk : List Blk} {m : Nat} (h : bk.all (Blk.okE m) = true) : (bk.map Blk.forget).all (Blk.okE m) = true := by
  rw [List.all_map, List.all_eq_true]
  intro b hb
  exact Blk.okE_forget (List.all_eq_true.1 h b hb)
theorem zA.held {α : Type} {o : Oper} {S : AS} {K : Exit → AS → Prop} {n d : Nat} {f : FuncId} {avs xs : List AV} {bk : List Blk} {res : α → AV} {bk' : α → List Blk} {good : α → Prop} (H : Hnd) {s : H.σ} {p : Pr α} {N : AS → Prop} (ks : List Nat) (hd : o.dst = some d) (hn : d < n) (he : Enters Tryz.prog o S f avs)
    (hx : avs = xs.map (AV.ren (sig (1000 :: 1001 :: 1002 :: ks)))) (hnd : (1000 :: 1001 :: 1002 :: ks).Nodup) (h0 : S.blk 1000 = some (H.b0 s)) (h1 : S.blk 1001 = some (H.b1 s)) (h2 : S.blk 1002 = some (H.b2 s)) (hat : AtB S (1000 :: 1001 :: 1002 :: ks) ks bk)
    (hbk : bk.all (Blk.okE (bk.length + 3)) = true) (hxs : xs.all (AV.okE (bk.length + 3)) = true) (hrx : ∀ x, (res x).okE (bk.length + 3) = true) (hbk' : ∀ x, (bk' x).length = bk.length ∧ (bk' x).all (Blk.okE (bk.length + 3)) = true) (hok : H.ok s) (hf : FnH H f xs bk res bk' good s p)
    (hr : ∀ x s', p.run H.st s = .done x s' → good x → H.ok s' → N (({ S with s := qV (1000 :: 1001 :: 1002 :: ks) (H.b0 s' :: H.b1 s' :: H.b2 s' :: (bk' x).map (Blk.ren (sig (1000 :: 1001 :: 1002 :: ks)))) S.s } : AS).put d ((res x).ren (sig (1000 :: 1001 :: 1002 :: ks)))))
    (hp : ∀ q s', p.run H.st s = .need q s' → K (.panic []) { S with s := qV (1000 :: 1001 :: 1002 :: ks) (H.b0 s' :: H.b1 s' :: H.b2 s' :: (bk.map Blk.forget).map (Blk.ren (sig (1000 :: 1001 :: 1002 :: ks)))) S.s, x := needA (accQ q) })
    (hst : p.run H.st s ≠ .stuck) : zA Tryz.prog n o S K N := by
  have e3 : ∀ l : List Blk, (H.b0 s :: H.b1 s :: H.b2 s :: l).length = l.length + 3 := fun l => rfl
  have hall : ∀ (t : H.σ) (l : List Blk), l.all (Blk.okE (bk.length + 3)) = true → (H.b0 t :: H.b1 t :: H.b2 t :: l).all (Blk.okE (bk.length + 3)) = true := fun t l hl => by
    obtain ⟨a, b, c⟩ := H.okE t (bk.length + 3) (by omega)
    simp [a, b, c, hl]
  have hh : Hands S (1000 :: 1001 :: 1002 :: ks) (H.b0 s :: H.b1 s :: H.b2 s :: bk) := qG hnd (hall s bk hbk) (by
    obtain ⟨a, b, c⟩ := H.ren s ks
    exact ⟨by rw [a]; exact h0, by rw [b]; exact h1, by rw [c]; exact h2, hat⟩)
  have hmap : ∀ (t : H.σ) (l : List Blk), (H.b0 t :: H.b1 t :: H.b2 t :: l).map (Blk.ren (sig (1000 :: 1001 :: 1002 :: ks))) = H.b0 t :: H.b1 t :: H.b2 t :: l.map (Blk.ren (sig (1000 :: 1001 :: 1002 :: ks))) := fun t l => by
    obtain ⟨a, b, c⟩ := H.ren t ks
    simp only [List.map_cons, a, b, c]
  have hf' := hf hok
  cases m : p.run H.st s with
  | done x s' =>
    rw [m] at hf'
    obtain ⟨g1, g2, g3⟩ := hf'
    have hr' := hr x s' m g1 g2
    rw [← hmap s' (bk' x)] at hr'
    refine zA.eRet (1000 :: 1001 :: 1002 :: ks) g3 hd hn he hx hh ?_ (hall s' _ (hbk' x).2) hxs (hrx x) hr'
    show (bk' x).length + 3 = bk.length + 3
    rw [(hbk' x).1]
  | need q s' =>
    rw [m] at hf'
    have hp' := hp q s' m
    rw [← hmap s' (bk.map Blk.forget)] at hp'
    refine zA.ePan (1000 :: 1001 :: 1002 :: ks) hf'.2 he hx hh ?_ (hall s' _ (forget_okE hbk)) hxs rfl hp'
    show (bk.map Blk.forget).length + 3 = bk.length + 3
    rw [List.length_map]
  | stuck => exact absurd m hst
def fgL (S : AS) : Nat → List Blk → Prop
  | _, [] => True
  | i, b :: r => (∃ b', S.blk i = some b' ∧ b'.forget = b.forget) ∧ fgL S (i + 1) r
inductive EndH {α : Type} (H : Hnd) (fn : Func) (res : α → AV) (bk : List Blk) (bk' : α → List Blk) (m : Held H.σ α) : Exit → AS → Prop
  | pan {S : AS} {q : Ned} {s' : H.σ} (hx : S.x = needA (accQ q)) (hB : hasL S 1000 [H.b0 s', H.b1 s', H.b2 s']) (hF : fgL S 1003 bk) (h : m = .need q s') : EndH H fn res bk bk' m (.panic []) S
  | ret {e : Exit} {S : AS} {x : α} {s' : H.σ} (he : e = .ret ∨ e = .normal) (hg : GivesA Tryz.prog fn S (res x)) (hB : hasL S 1000 (H.b0 s' :: H.b1 s' :: H.b2 s' :: bk' x)) (h : m = .done x s') : EndH H fn res bk bk' m e S
theorem fg_at {S : AS} : ∀ (bk : List Blk) (i : Nat), 1003 ≤ i → fgL S i bk → ∀ (j : Nat) b, (bk.map Blk.forget)[j]? = some b → S.forget.blk (i + j) = some b
  | [], _, _, _, j, b, h => by simp at h
  | c :: r, i, hi, h, 0, b, hb => by
    obtain ⟨⟨b', h1, h2⟩, _⟩ := h
    simp at hb
    subst hb
    show S.forget.blk i = _
    rw [AS.wV, h1]
    simp only [Option.map_some]
    rw [if_neg (by omega), h2]
  | c :: r, i, hi, h, j + 1, b, hb => by
    have := fg_at r (i + 1) (by omega) h.2 j b (by simpa using hb)
    rw [show i + (j + 1) = i + 1 + j by omega]
    exact this
theorem yO {α : Type} {H : Hnd} {n : Nat} {f : FuncId} {fn : Func} {c : Code} {args : List AV} {bk : List Blk} {res : α → AV} {bk' : α → List Blk} {good : α → Prop} {s : H.σ} {p : Pr α} (hf : Tryz.prog.funcs[f]? = some fn) (hb : fn.body = some c) (hn : fn.ntmps = n) (hle : args.length ≤ n) (h1000 : n ≤ 1000)
    (hfine : p.yV good) (h : H.ok s → p.run H.st s ≠ .stuck → zZ Tryz.prog n c { t := zipA 0 args, s := numB 1000 (H.b0 s :: H.b1 s :: H.b2 s :: bk) } (EndH H fn res bk bk' (p.run H.st s))) : FnH H f args bk res bk' good s p := by
  intro hok
  have hg := Pr.yV.run H.stOK hfine hok
  have hbody := h hok
  cases m : p.run H.st s with
  | stuck => trivial
  | done x s' =>
    rw [m] at hg hbody
    replace hbody := hbody (by simp)
    refine ⟨hg.1, hg.2, fn_ofE hf hb hn hle h1000 (hbody.mono fun e S he => ?_)⟩
    cases he with
    | pan _ _ _ h => cases h
    | ret he hg hB h => cases h; exact ⟨he, _, Sub.refl _, hg, x9 hB⟩
  | need q s' =>
    rw [m] at hg hbody
    replace hbody := hbody (by simp)
    refine ⟨hg, FnQ.e (fn_ofQ hf hb hn hle h1000 (hbody.mono fun e S he => ?_))⟩
    cases he with
    | ret he hg hB h => cases h
    | @pan _ q2 s2 hx hB hF h =>
      injection h with e1 e2
      subst e1 e2
      refine .pan (S' := S.forget) (fun M n w0 ρ a w hs => hs.forget) (fun M ρ k c => (AS.forget_mut S M ρ k c).1) hx (fun i b hi => ?_) ⟨rfl, rfl⟩
      match i with
      | 0 =>
        simp at hi; subst hi
        rw [AS.wV, hB.1]; rfl
      | 1 =>
        simp at hi; subst hi
        rw [AS.wV, hB.2.1]; rfl
      | 2 =>
        simp at hi; subst hi
        rw [AS.wV, hB.2.2.1]; rfl
      | i + 3 =>
        rw [show 1000 + (i + 3) = 1003 + i by omega]
        exact fg_at bk 1003 (by omega) hF i b (by simpa using hi)
theorem do_h (H : Hnd) (s : H.σ) (q : Ned) (h : kQ q) : FnH H H.fn [.p (accQ q), .ptr 1000 0, .ptr 1001 0] [] (fun r => .p (kM r)) (fun _ => []) (fun r => U r.n) s (.ask q .ret) := fun hok => by
  have h1 := H.doOK s q hok h
  rw [vH]
  cases m : H.st s q with
  | ret r s' =>
    rw [m] at h1
    obtain ⟨g1, g2⟩ := H.stOK.ret s q r s' hok h m
    exact ⟨g1, g2, h1⟩
  | need q' s' =>
    rw [m] at h1
    exact ⟨H.stOK.need s q q' s' hok h m, h1⟩
  | out => trivial
end
section
def curB (L : List yQ) (i : Nat) (stop : Bool) (q : Ned) : Blk :=
  .box 76 [.p (logV L), .p (.val (.int .i64 i)), .p (.val (.bool stop)), .p (.val (.int .i64 q.kind)), .p (.val (.int .i64 q.cell)), .p (.val (.int .u64 q.a)), .p (.val (.int .u64 q.b)), .p q.d, .p q.w]
def zeroRes : PV := .agg [.val (.int .u64 0), .val (.slice none 0 0), .val (.bool false)]
end
section
structure CSt where
  i : Nat
  stop : Bool
  q : Ned
def qL (L : List yQ) (σ : CSt) : Blk := curB L σ.i σ.stop σ.q
structure Rel {α : Type} (L : List yQ) (p : Pr α) (σ : CSt) (x : α) (τ : CSt) : Prop where
  halt : σ.stop = true → τ = σ
  done : σ.stop = false → ∀ y j, p.run (y9 L) σ.i = .done y j → x = y ∧ τ = ⟨j, false, σ.q⟩
  need : σ.stop = false → ∀ q j, p.run (y9 L) σ.i = .need q j → τ = ⟨j, true, q⟩
theorem Rel.ret {α : Type} {L : List yQ} {σ : CSt} (x : α) : Rel L (.ret x) σ x σ :=
  ⟨fun _ => rfl, fun h y j e => by cases e; exact ⟨rfl, by obtain ⟨i, s, q⟩ := σ; cases h; rfl⟩, fun _ q j e => by cases e⟩
theorem Rel.bind {α β : Type} {L : List yQ} {p : Pr α} {f : α → Pr β} {σ τ υ : CSt} {x : α} {y : β} (h1 : Rel L p σ x τ) (h2 : Rel L (f x) τ y υ) : Rel L (p.bind f) σ y υ := by
  refine ⟨fun h => ?_, fun h z j e => ?_, fun h q j e => ?_⟩
  · have := h1.halt h
    subst this
    exact h2.halt h
  · rw [run_bind] at e
    cases e1 : p.run (y9 L) σ.i with
    | need q k => rw [e1] at e; cases e
    | stuck => rw [e1] at e; cases e
    | done x' k =>
      obtain ⟨rfl, rfl⟩ := h1.done h x' k e1
      rw [e1] at e
      exact h2.done rfl z j e
  · rw [run_bind] at e
    cases e1 : p.run (y9 L) σ.i with
    | need q' k =>
      rw [e1] at e
      cases e
      have := h1.need h q j e1
      subst this
      exact h2.halt rfl
    | stuck => rw [e1] at e; cases e
    | done x' k =>
      obtain ⟨rfl, rfl⟩ := h1.done h x' k e1
      rw [e1] at e
      exact h2.need rfl q j e
theorem Rel.stop {α : Type} {L : List yQ} {p : Pr α} {σ : CSt} {x : α} (h : σ.stop = true) : Rel L p σ x σ := ⟨fun _ => rfl, (fun h' => by rw [h] at h'; cases h'), (fun h' => by rw [h] at h'; cases h')⟩
theorem Rel.yes {α : Type} {L : List yQ} {c : Bool} {p1 p2 : Pr α} {σ τ : CSt} {x : α} (hc : c = true) (h : Rel L p1 σ x τ) : Rel L (bif c then p1 else p2) σ x τ := by subst hc; exact h
theorem Rel.no {α : Type} {L : List yQ} {c : Bool} {p1 p2 : Pr α} {σ τ : CSt} {x : α} (hc : c = false) (h : Rel L p2 σ x τ) : Rel L (bif c then p1 else p2) σ x τ := by subst hc; exact h
theorem Rel.map {α β : Type} {L : List yQ} {p : Pr α} {σ τ : CSt} {x : α} (g : α → β) (h : Rel L p σ x τ) : Rel L (p.bind fun x => .ret (g x)) σ (g x) τ := h.bind (.ret _)
theorem run_le {α : Type} {L : List yQ} : ∀ {p : Pr α} {i : Nat} {x : α} {j : Nat}, p.run (y9 L) i = .done x j → i ≤ j
  | .ret _, _, _, _, h => by cases h; exact Nat.le_refl _
  | .stuck, _, _, _, h => by cases h
  | .ask q k, i, x, j, h => by
    rw [vH] at h
    cases e : y9 L i q with
    | need q' j' => rw [e] at h; cases h
    | out => rw [e] at h; cases h
    | ret r i' =>
      rw [e] at h
      have h1 : i ≤ i' := by
        unfold y9 at e
        cases e2 : L[i]? with
        | none => rw [e2] at e; cases e
        | some r' => rw [e2] at e; cases e; omega
      exact Nat.le_trans h1 (run_le h)
def xL (L : List yQ) (σ : CSt) : Nat := bif σ.stop then 0 else L.length - σ.i + 1
end
section
attribute [local irreducible] zY zZ Step zV Sub zF zA Fn
def FnC {α : Type} (f : FuncId) (args : List AV) (bk : List Blk) (res : α → AV) (bk' : α → List Blk) (good : α → Prop) (L : List yQ) (p : Pr α) : Prop :=
  ∀ σ : CSt, σ.i ≤ L.length → FnQ Tryz.prog f (.ptr 1000 0 :: args) (qL L σ :: bk) fun ev B' => ∃ x τ, ev = .ret (res x) ∧ B' = qL L τ :: bk' x ∧ good x ∧ τ.i ≤ L.length ∧ Rel L p σ x τ
theorem zA.cur {α : Type} {o : Oper} {S : AS} {K : Exit → AS → Prop} {n d : Nat} {f : FuncId} {avs xs : List AV} {bk : List Blk} {res : α → AV} {bk' : α → List Blk} {good : α → Prop} {L : List yQ} {σ : CSt} {p : Pr α} {N : AS → Prop} (ids : List Nat) (hd : o.dst = some d) (hn : d < n) (he : Enters Tryz.prog o S f avs)
    (hx : avs = (AV.ptr 1000 0 :: xs).map (AV.ren (sig ids))) (hh : Hands S ids (qL L σ :: bk)) (hxs : (AV.ptr 1000 0 :: xs).all (AV.okE (bk.length + 1)) = true) (hrx : ∀ x, (res x).okE (bk.length + 1) = true) (hbk' : ∀ x, (bk' x).length = bk.length ∧ (bk' x).all (Blk.okE (bk.length + 1)) = true) (hi : σ.i ≤ L.length)
    (hf : FnC f xs bk res bk' good L p) (hr : ∀ x τ, Rel L p σ x τ → good x → τ.i ≤ L.length → N ((S.after ids (qL L τ :: bk' x)).put d ((res x).ren (sig ids)))) : zA Tryz.prog n o S K N := by
  refine zA.eQ ids (hf σ hi) hd hn he hx hh hxs (fun ev B' hp => ?_) (fun rx B' hp => ?_) (fun rx B' hp => ?_)
  · obtain ⟨x, τ, _, rfl, _⟩ := hp
    refine ⟨?_, ?_⟩
    · show (bk' x).length + 1 = bk.length + 1
      rw [(hbk' x).1]
    · show ((qL L τ).okE (bk.length + 1) && (bk' x).all (Blk.okE (bk.length + 1))) = true
      rw [(hbk' x).2]; rfl
  · obtain ⟨x, τ, e, rfl, h1, h2, h3⟩ := hp
    cases e
    exact ⟨hrx x, hr x τ h3 h1 h2⟩
  · obtain ⟨x, τ, e, _⟩ := hp
    cases e
inductive EndC {α : Type} (fn : Func) (res : α → AV) (bk' : α → List Blk) (good : α → Prop) (L : List yQ) (p : Pr α) (σ : CSt) : Exit → AS → Prop
  | ret {e : Exit} {S : AS} {x : α} {τ : CSt} (he : e = .ret ∨ e = .normal) (hg : GivesA Tryz.prog fn S (res x)) (hB : hasL S 1000 (qL L τ :: bk' x)) (hx : good x) (hj : τ.i ≤ L.length) (h : Rel L p σ x τ) : EndC fn res bk' good L p σ e S
theorem xS {α : Type} {n : Nat} {f : FuncId} {fn : Func} {c : Code} {args : List AV} {bk : List Blk} {res : α → AV} {bk' : α → List Blk} {good : α → Prop} {L : List yQ} {p : Pr α} (hf : Tryz.prog.funcs[f]? = some fn) (hb : fn.body = some c) (hn : fn.ntmps = n) (hle : args.length + 1 ≤ n) (h1000 : n ≤ 1000)
    (h : ∀ σ : CSt, σ.i ≤ L.length → zZ Tryz.prog n c { t := zipA 0 (.ptr 1000 0 :: args), s := numB 1000 (qL L σ :: bk) } (EndC fn res bk' good L p σ)) : FnC f args bk res bk' good L p := by
  intro σ hi
  refine fn_ofQ hf hb hn hle h1000 ((h σ hi).mono fun e S he => ?_)
  cases he with
  | ret he hg hB hx hj h => exact .ret he (Sub.refl _) hg (x9 hB) ⟨_, _, rfl, rfl, hx, hj, h⟩
end
section
section
variable {P : Program} {n : Nat} {o : Oper} {S : AS} {d : Nat} {K : Exit → AS → Prop}
theorem enA {f : FuncId} {avs : List AV} (h : Enters P o S f avs := by first | exact enters_fn rfl | exact enters_clo rfl rfl | exact enters_val rfl rfl | exact enters_mp rfl rfl | exact enters_mv rfl rfl rfl rfl) : Enters P o S f avs := h
theorem haA {ids : List Nat} {B : List Blk} (h : Hands S ids B := by exact qG (by decide) rfl aQ_) : Hands S ids B := h
theorem zA.eR {f : FuncId} {avs xs : List AV} {B B' : List Blk} {rx : AV} {N : AS → Prop} (ids : List Nat) (hf : FnE P f xs B (.ret rx) B') (k : N ((S.after ids B').put d (rx.ren (sig ids)))) (hd : o.dst = some d := by rfl) (hn : d < n := by decide) (he : Enters P o S f avs := by exact enA) (hx : avs = xs.map (AV.ren (sig ids)) := by rfl) (hh : Hands S ids B := by exact haA)
    (hl : B'.length = B.length := by rfl) (hok : B'.all (Blk.okE B.length) = true := by rfl) (hxs : xs.all (AV.okE B.length) = true := by rfl) (hrx : rx.okE B.length = true := by rfl) : zA P n o S K N := zA.eRet ids hf hd hn he hx hh hl hok hxs hrx k
theorem zA.eP {f : FuncId} {avs xs : List AV} {B B' : List Blk} {rx : AV} {N : AS → Prop} (ids : List Nat) (hf : FnE P f xs B (.pan rx) B') (k : K (.panic []) { S.after ids B' with x := rx.ren (sig ids) }) (he : Enters P o S f avs := by exact enA) (hx : avs = xs.map (AV.ren (sig ids)) := by rfl) (hh : Hands S ids B := by exact haA)
    (hl : B'.length = B.length := by rfl) (hok : B'.all (Blk.okE B.length) = true := by rfl) (hxs : xs.all (AV.okE B.length) = true := by rfl) (hrx : rx.okE B.length = true := by rfl) : zA P n o S K N := zA.ePan ids hf he hx hh hl hok hxs hrx k
end
section
variable {n : Nat} {o : Oper} {S : AS} {d : Nat} {K : Exit → AS → Prop}
theorem zA.hd {α : Type} {f0 : FuncId} {avs xs : List AV} {bk : List Blk} {res : α → AV} {bk' : α → List Blk} {good : α → Prop} {H : Hnd} {s : H.σ} {p0 : Pr α} {N : AS → Prop} (i : List Nat) (hd : o.dst = some d := by rfl) (hn : d < n := by decide) (he : Enters Tryz.prog o S f0 avs := by exact enA)
    (hx : avs = xs.map (AV.ren (sig (1000 :: 1001 :: 1002 :: i))) := by rfl) (hnd : (1000 :: 1001 :: 1002 :: i).Nodup := by decide)
    (h0 : S.blk 1000 = some (H.b0 s) := by first | rfl | exact xO rfl (H.nk _).1 (by repeat' first | exact KB.refl | apply KB.kill | decide)) (h1 : S.blk 1001 = some (H.b1 s) := by first | rfl | exact xO rfl (H.nk _).2.1 (by repeat' first | exact KB.refl | apply KB.kill | decide)) (h2 : S.blk 1002 = some (H.b2 s) := by first | rfl | exact xO rfl (H.nk _).2.2 (by repeat' first | exact KB.refl | apply KB.kill | decide))
    (hat : AtB S (1000 :: 1001 :: 1002 :: i) i bk := by repeat' first | exact trivial | rfl | constructor) (hbk : bk.all (Blk.okE (bk.length + 3)) = true := by rfl) (hxs : xs.all (AV.okE (bk.length + 3)) = true := by rfl) (hrx : ∀ x, (res x).okE (bk.length + 3) = true := by exact fun _ => rfl)
    (hbk' : ∀ x, (bk' x).length = bk.length ∧ (bk' x).all (Blk.okE (bk.length + 3)) = true := by exact fun _ => ⟨rfl, rfl⟩) (hok : H.ok s := by assumption) (f : FnH H f0 xs bk res bk' good s p0)
    (r : ∀ x s', p0.run H.st s = .done x s' → good x → H.ok s' → N (({ S with s := qV (1000 :: 1001 :: 1002 :: i) (H.b0 s' :: H.b1 s' :: H.b2 s' :: (bk' x).map (Blk.ren (sig (1000 :: 1001 :: 1002 :: i)))) S.s } : AS).put d ((res x).ren (sig (1000 :: 1001 :: 1002 :: i)))))
    (p : ∀ q s', p0.run H.st s = .need q s' → K (.panic []) { S with s := qV (1000 :: 1001 :: 1002 :: i) (H.b0 s' :: H.b1 s' :: H.b2 s' :: (bk.map Blk.forget).map (Blk.ren (sig (1000 :: 1001 :: 1002 :: i)))) S.s, x := needA (accQ q) })
    (t : p0.run H.st s ≠ .stuck) : zA Tryz.prog n o S K N := zA.held H i hd hn he hx hnd h0 h1 h2 hat hbk hxs hrx hbk' hok f r p t
theorem zA.cu {α : Type} {f0 : FuncId} {avs xs : List AV} {bk : List Blk} {res : α → AV} {bk' : α → List Blk} {good : α → Prop} {L : List yQ} {σ : CSt} {p0 : Pr α} {N : AS → Prop} (i : List Nat) (hd : o.dst = some d := by rfl) (hn : d < n := by decide) (he : Enters Tryz.prog o S f0 avs := by exact enA)
    (hx : avs = (AV.ptr 1000 0 :: xs).map (AV.ren (sig i)) := by rfl) (hh : Hands S i (qL L σ :: bk) := by exact haA) (hxs : (AV.ptr 1000 0 :: xs).all (AV.okE (bk.length + 1)) = true := by rfl) (hrx : ∀ x, (res x).okE (bk.length + 1) = true := by exact fun _ => rfl)
    (hbk' : ∀ x, (bk' x).length = bk.length ∧ (bk' x).all (Blk.okE (bk.length + 1)) = true := by exact fun _ => ⟨rfl, rfl⟩) (hi : σ.i ≤ L.length := by assumption) (f : FnC f0 xs bk res bk' good L p0) (r : ∀ x τ, Rel L p0 σ x τ → good x → τ.i ≤ L.length → N ((S.after i (qL L τ :: bk' x)).put d ((res x).ren (sig i)))) : zA Tryz.prog n o S K N :=
  zA.cur i hd hn he hx hh hxs hrx hbk' hi f r
end
end
section
attribute [local irreducible] zY zZ Step zV Sub zF zA Fn
theorem do_ret3 (L : List yQ) (i : Nat) (r : yQ) (hr : L[i]? = some r) (hL : L.length ≤ 1000000) (kind cell a b : Int) (data : PV) :
    FnE Tryz.prog 74 [.p (accV kind cell a b data), .ptr 1000 0, .ptr 1001 0] [atB i, logB L, isB false] (.ret (.p (kM r))) [atB (i + 1), logB L, isB false] := by
  have hi : i < L.length := (List.getElem?_eq_some_iff.1 hr).1
  have g1 : decide ((i : Int) = ((L.map kM).length : Int)) = false := decide_eq_false (by simp; omega)
  have g2 : IntKind.i64.wrap ((i : Int) + 1) = ((i + 1 : Nat) : Int) := by rw [wrap_i64 _ (by omega)]; omega
  have g3 : IntKind.i64.wrap (((i + 1 : Nat) : Int) - 1) = (i : Int) := by rw [wrap_i64 _ (by omega)]; omega
  have g4 := resV_cells L
  have g5 : (L.map kM)[i]? = some (kM r) := by rw [List.getElem?_map, hr]; rfl
  refine fn_ofE Tryz.func74 rfl Tryz.ntmps74 (Nat.le_of_ble_eq_true rfl) (by decide) ?_
  repeat' (first | (refine zY.nil ?_) | (refine zZ.is ?_; first | refine zZ.seq ?_ | (refine zZ.iR 0 ?_; refine zZ.rc [0, 1, 2] [3, 4, 1000, 1001, 1002] (r := (.m yI (.m zT .e))) (h := ?_)) | (refine zZ.iR 1 ?_; refine zZ.rc [1, 2, 3, 4] [3, 4, 1000, 1001, 1002] (r := (.v zL (.v zL (.v v57_1 (.v v41_0 .e))))) (h := ?_)) | (refine zZ.iR 3 ?_; refine zZ.rc [1, 2, 4] [3, 4, 1000, 1001, 1002] (r := (.v zL (.v qQ (.w zO .e)))) (h := ?_)) | (refine zZ.iR 4 ?_; refine zZ.rc [1, 2, 4] [3, 4, 1000, 1001, 1002] (r := (.v zL (.v zL (.v v31_0 (.v v7_18 (.v v2_7 (.w zO .e))))))) (h := ?_)) | refine zZ.yA rfl bA ?_ | refine zZ.skip ?_ | refine zZ.ret ?_))
  all_goals exact ⟨.inl rfl, _, Sub.refl _, .p (r := .cell 4 125) rfl (.cellN rfl rfl (by rfl) (by rfl)), x9 aQ_⟩
theorem do_pan3 (L : List yQ) (_ : L.length ≤ 1000000) (kind cell a b : Int) (data : PV) :
    FnE Tryz.prog 74 [.p (accV kind cell a b data), .ptr 1000 0, .ptr 1001 0] [atB L.length, logB L, isB false] (.pan (needA (accV kind cell a b data))) [atB L.length, logB L, isB false] := by
  have g1 : decide ((L.length : Int) = ((L.map kM).length : Int)) = true := decide_eq_true (by simp)
  refine fn_ofE Tryz.func74 rfl Tryz.ntmps74 (Nat.le_of_ble_eq_true rfl) (by decide) ?_
  repeat' (first | (refine zY.is ?_; first | refine zY.nil ?_ | refine zY.ofT rfl (zA.panic rfl rfl ?_)) | (refine zZ.is ?_; first | refine zZ.seq ?_ | (refine zZ.iR 0 ?_; refine zZ.rc [0, 1, 2] [3, 4, 1000, 1001, 1002] (r := (.m yI (.m zT .e))) (h := ?_)) | (refine zZ.iR 1 ?_; refine zZ.rc [1, 2, 3, 4] [3, 4, 1000, 1001, 1002] (r := (.v zL (.v zL (.v v57_1 (.v v41_0 .e))))) (h := ?_)) | (refine zZ.iR 2 ?_; refine zZ.rc [1, 2, 3, 4] [3, 4, 1000, 1001, 1002] (r := (.v xC (.v yD (.v v13_0 .e)))) (h := ?_)) | refine zZ.yB rfl bA ?_))
  all_goals exact ⟨rfl, rfl, x9 aQ_⟩
def hLog (L : List yQ) (hL : xB L) : Hnd where
  σ := Nat
  fn := 74
  b0 := atB
  b1 := fun _ => logB L
  b2 := fun _ => isB false
  ok := fun i => i ≤ L.length
  st := y9 L
  stOK := stOK_log hL
  has := inferInstance
  okE := fun _ _ _ => ⟨rfl, rfl, rfl⟩
  ren := fun _ _ => ⟨rfl, rfl, rfl⟩
  nk := fun _ => ⟨fun _ _ => rfl, fun _ _ => rfl, fun _ _ => rfl⟩
  doOK := fun i q hi _ => by
    cases e : L[i]? with
    | some r =>
      have m : y9 L i q = .ret r (i + 1) := by unfold y9; rw [e]
      rw [m]
      exact do_ret3 L i r e hL.1 q.kind q.cell q.a q.b q.d
    | none =>
      have m : y9 L i q = .need q L.length := by unfold y9; rw [e]
      have hl : i = L.length := by have := List.getElem?_eq_none_iff.1 e; have : i ≤ L.length := hi; omega
      rw [m]
      subst hl
      exact do_pan3 L hL.1 q.kind q.cell q.a q.b q.d
theorem qM (H : Hnd) (s0 : H.σ) (c : Int) : FnH H 79 [H.doA, .p (.val (.int .i64 c))] [] (fun x => .p (.val (.int .u64 x))) (fun _ => []) U s0 (xW c) := by
  unfold Hnd.doA
  refine yO Tryz.func79 rfl Tryz.ntmps79 (Nat.le_of_ble_eq_true rfl) (by decide) (yC c) fun hok hns => ?_
  repeat' (first | (refine zY.is ?_; first | refine zY.nil ?_ | (refine zY.at_ 9 rfl ?_; refine zY.rc (.v v11_0 (.v zW .e)) ?_) | (refine zY.in_ [8] rfl ?_; refine zY.ofT rfl (zA.hd (i := []) (f := do_h H s0 (vF 0 c 0 0 xZ) (yC c).1) (r := fun x s e g hk => ?_) (p := fun q s e => ?_) (t := ?_)))) | (refine zZ.is ?_; first | refine zZ.seq ?_ | (refine zZ.iR 0 ?_; refine zZ.rc [0, 1] [1000, 1001, 1002] (r := (.v zW .e)) (h := ?_)) | (refine zZ.iR 1 ?_; refine zZ.rc [0, 1, 4] [1000, 1001, 1002] (r := (.v xI (.v zX (.v yD .e)))) (h := ?_)) | refine zZ.ret ?_))
  all_goals first
    | exact fun e => absurd (by show (Pr.bind (.ask (vF 0 c 0 0 xZ) .ret) fun r : yQ => .ret r.n).run H.st s0 = _; rw [run_bind, e]; rfl) hns
    | exact .pan (q := q) rfl aQ_ (by repeat' exact trivial) (by show (Pr.bind (.ask (vF 0 c 0 0 xZ) .ret) fun r : yQ => .ret r.n).run H.st s0 = _; rw [run_bind, e]; rfl)
    | exact .ret (by exact .inl rfl) (.one rfl rfl) aQ_ (by show (Pr.bind (.ask (vF 0 c 0 0 xZ) .ret) fun r : yQ => .ret r.n).run H.st s0 = _; rw [run_bind, e]; rfl)
theorem kJ (H : Hnd) (s0 : H.σ) (c v : Int) (hv : U v) : FnH H 83 [H.doA, .p (.val (.int .i64 c)), .p (.val (.int .u64 v))] [] (fun _ => .any) (fun _ => []) yes s0 (kY c v) := by
  unfold Hnd.doA
  refine yO Tryz.func83 rfl Tryz.ntmps83 (Nat.le_of_ble_eq_true rfl) (by decide) (vD c hv) fun hok hns => ?_
  repeat' (first | (refine zY.is ?_; first | refine zY.nil ?_ | (refine zY.in_ [10] rfl ?_; refine zY.ofT rfl (zA.hd (i := []) (f := do_h H s0 (vF 1 c v 0 xZ) (vD c hv).1) (r := fun x s e g hk => ?_) (p := fun q s e => ?_) (t := ?_)))) | (refine zZ.is ?_; (refine zZ.iR 0 ?_; refine zZ.rc [0, 1, 2] [1000, 1001, 1002] (r := (.v xI (.v zX (.v zX (.v yD .e))))) (h := ?_))))
  all_goals first
    | exact fun e => absurd (by show (Pr.bind (.ask (vF 1 c v 0 xZ) .ret) fun r : yQ => .ret ()).run H.st s0 = _; rw [run_bind, e]; rfl) hns
    | exact .pan (q := q) rfl aQ_ (by repeat' exact trivial) (by show (Pr.bind (.ask (vF 1 c v 0 xZ) .ret) fun r : yQ => .ret ()).run H.st s0 = _; rw [run_bind, e]; rfl)
    | exact .ret (by exact .inr rfl) (.none rfl) aQ_ (by show (Pr.bind (.ask (vF 1 c v 0 xZ) .ret) fun r : yQ => .ret ()).run H.st s0 = _; rw [run_bind, e]; rfl)
theorem cas_h (H : Hnd) (s0 : H.σ) (c a b : Int) (ha : U a) (hb : U b) : FnH H 84 [H.doA, .p (.val (.int .i64 c)), .p (.val (.int .u64 a)), .p (.val (.int .u64 b))] [] (fun x => .p (.val (.bool x))) (fun _ => []) yes s0 (casP c a b) := by
  unfold Hnd.doA
  refine yO Tryz.func84 rfl Tryz.ntmps84 (Nat.le_of_ble_eq_true rfl) (by decide) (vI c ha hb) fun hok hns => ?_
  repeat' (first | (refine zY.is ?_; first | refine zY.nil ?_ | (refine zY.at_ 15 rfl ?_; refine zY.rc (.v v11_0 (.v wT (.v zW .e))) ?_) | (refine zY.in_ [14] rfl ?_; refine zY.ofT rfl (zA.hd (i := []) (f := do_h H s0 (vF 2 c a b xZ) (vI c ha hb).1) (r := fun x s e g hk => ?_) (p := fun q s e => ?_) (t := ?_)))) | (refine zZ.is ?_; first | refine zZ.seq ?_ | (refine zZ.iR 0 ?_; refine zZ.rc [0, 1, 2, 3] [1000, 1001, 1002] (r := (.v zW .e)) (h := ?_)) | (refine zZ.iR 1 ?_; refine zZ.rc [0, 1, 2, 3, 8] [1000, 1001, 1002] (r := (.v xI (.v zX (.v zX (.v zX (.v yD .e)))))) (h := ?_)) | refine zZ.ret ?_))
  all_goals first
    | exact fun e => absurd (by show (Pr.bind (.ask (vF 2 c a b xZ) .ret) fun r : yQ => .ret (decide (r.n = 1))).run H.st s0 = _; rw [run_bind, e]; rfl) hns
    | exact .pan (q := q) rfl aQ_ (by repeat' exact trivial) (by show (Pr.bind (.ask (vF 2 c a b xZ) .ret) fun r : yQ => .ret (decide (r.n = 1))).run H.st s0 = _; rw [run_bind, e]; rfl)
    | exact .ret (by exact .inl rfl) (.one rfl rfl) aQ_ (by show (Pr.bind (.ask (vF 2 c a b xZ) .ret) fun r : yQ => .ret (decide (r.n = 1))).run H.st s0 = _; rw [run_bind, e]; rfl)
theorem add_h (H : Hnd) (s0 : H.σ) (c v : Int) (hv : U v) : FnH H 156 [H.doA, .p (.val (.int .i64 c)), .p (.val (.int .u64 v))] [] (fun x => .p (.val (.int .u64 x))) (fun _ => []) U s0 (addP c v) := by
  unfold Hnd.doA
  refine yO Tryz.func156 rfl Tryz.ntmps156 (Nat.le_of_ble_eq_true rfl) (by decide) (fine_add c hv) fun hok hns => ?_
  repeat' (first | (refine zY.is ?_; first | refine zY.nil ?_ | (refine zY.at_ 12 rfl ?_; refine zY.rc (.v v11_0 (.v zW .e)) ?_) | (refine zY.in_ [11] rfl ?_; refine zY.ofT rfl (zA.hd (i := []) (f := do_h H s0 (vF 3 c v 0 xZ) (fine_add c hv).1) (r := fun x s e g hk => ?_) (p := fun q s e => ?_) (t := ?_)))) | (refine zZ.is ?_; first | refine zZ.seq ?_ | (refine zZ.iR 0 ?_; refine zZ.rc [0, 1, 2] [1000, 1001, 1002] (r := (.v zW .e)) (h := ?_)) | (refine zZ.iR 1 ?_; refine zZ.rc [0, 1, 2, 6] [1000, 1001, 1002] (r := (.v xI (.v zX (.v zX (.v yD .e))))) (h := ?_)) | refine zZ.ret ?_))
  all_goals first
    | exact fun e => absurd (by show (Pr.bind (.ask (vF 3 c v 0 xZ) .ret) fun r : yQ => .ret r.n).run H.st s0 = _; rw [run_bind, e]; rfl) hns
    | exact .pan (q := q) rfl aQ_ (by repeat' exact trivial) (by show (Pr.bind (.ask (vF 3 c v 0 xZ) .ret) fun r : yQ => .ret r.n).run H.st s0 = _; rw [run_bind, e]; rfl)
    | exact .ret (by exact .inl rfl) (.one rfl rfl) aQ_ (by show (Pr.bind (.ask (vF 3 c v 0 xZ) .ret) fun r : yQ => .ret r.n).run H.st s0 = _; rw [run_bind, e]; rfl)
end
section
attribute [local irreducible] zY zZ Step zV Sub zF Fn
theorem eqB' {a b : Bool} (h : a = b) : PV.val (.bool a) = PV.val (.bool b) := by rw [h]
def flagF (s b : Int) : Int := s % 4611686018427387904 * 4 + b % 4
def hasF (w b : Int) : Bool := (decide (b % 2 = 0) || decide (w % 2 = 1)) && (decide (b % 4 < 2) || decide (w / 2 % 2 = 1))
theorem wrapU (x : Int) : IntKind.u64.wrap x = x % 18446744073709551616 := by simp [IntKind.wrap, IntKind.signed, IntKind.bits]
theorem and3 (x : Int) (h0 : 0 ≤ x) (h1 : x < 18446744073709551616) : bits .and .u64 x 3 = x % 4 := by
  obtain ⟨n, rfl⟩ := Int.eq_ofNat_of_zero_le h0
  rw [show (3 : Int) = ((3 : Nat) : Int) from rfl, u64_and_nat n 3 (by omega) (by decide)]
  have : n &&& 3 = n % 4 := Nat.and_two_pow_sub_one_eq_mod n 2
  rw [this]
  omega
theorem orLow (a b : Int) (h0 : 0 ≤ a) (h1 : a < 4611686018427387904) (b0 : 0 ≤ b) (b1 : b < 4) : bits .or .u64 (a * 4) b = a * 4 + b := by
  obtain ⟨n, rfl⟩ := Int.eq_ofNat_of_zero_le h0
  obtain ⟨m, rfl⟩ := Int.eq_ofNat_of_zero_le b0
  rw [show (n : Int) * 4 = ((n * 4 : Nat) : Int) from by omega, u64_or_nat (n * 4) m (by omega) (by omega)]
  have : n * 4 ||| m = n * 4 + m := by
    have := Nat.shiftLeft_add_eq_or_of_lt (show m < 2 ^ 2 by omega) n
    rw [Nat.shiftLeft_eq] at this
    exact this.symm
  rw [this]
  omega
theorem andHas (w q : Int) (h0 : 0 ≤ w) (h1 : w < 18446744073709551616) (q0 : 0 ≤ q) (q1 : q < 4) : decide (bits .and .u64 w q = q) = ((decide (q % 2 = 0) || decide (w % 2 = 1)) && (decide (q < 2) || decide (w / 2 % 2 = 1))) := by
  obtain ⟨n, rfl⟩ := Int.eq_ofNat_of_zero_le h0
  have e : ∀ m : Nat, m < 4 → bits .and .u64 (n : Int) (m : Int) = ((n &&& m : Nat) : Int) := fun m hm => u64_and_nat n m (by omega) (by omega)
  have h : q = ((0 : Nat) : Int) ∨ q = ((1 : Nat) : Int) ∨ q = ((2 : Nat) : Int) ∨ q = ((3 : Nat) : Int) := by omega
  have b1 : n &&& 1 = n % 2 := Nat.and_two_pow_sub_one_eq_mod n 1
  have b3 : n &&& 3 = n % 4 := Nat.and_two_pow_sub_one_eq_mod n 2
  have b2 : n &&& 2 = n / 2 % 2 * 2 := by
    apply Nat.eq_of_testBit_eq
    intro i
    rw [Nat.testBit_and]
    match i with
    | 0 => simp [Nat.testBit_zero]
    | 1 => simp [Nat.testBit_succ, Nat.testBit_zero]
    | i + 2 => simp [Nat.testBit_succ]
  rcases h with rfl | rfl | rfl | rfl
  · rw [e 0 (by decide)]; simp
  · rw [e 1 (by decide), b1]; simp only [← Bool.decide_or, ← Bool.decide_and, decide_eq_decide]; omega
  · rw [e 2 (by decide), b2]; simp only [← Bool.decide_or, ← Bool.decide_and, decide_eq_decide]; omega
  · rw [e 3 (by decide), b3]; simp only [← Bool.decide_or, ← Bool.decide_and, decide_eq_decide]; omega
theorem flag_fn (s b : Int) : Fn Tryz.prog 157 [.val (.int .u64 s), .val (.int .i64 b)] (.p (.val (.int .u64 (flagF s b)))) := by
  have g1 : IntKind.u64.wrap (s * 2 ^ (2 : Int).toNat) = s % 4611686018427387904 * 4 := by rw [wrapU]; show s * 4 % _ = _; omega
  have g2 := wrapU b
  have g3 : bits .and .u64 (b % 18446744073709551616) 3 = b % 4 := by rw [and3 _ (by omega) (by omega)]; omega
  have g4 : bits .or .u64 (s % 4611686018427387904 * 4) (b % 4) = flagF s b := orLow _ _ (by omega) (by omega) (by omega) (by omega)
  refine xV Tryz.func157 rfl Tryz.ntmps157 (Nat.le_of_ble_eq_true rfl) ?_
  repeat' (first | (refine zY.nil ?_) | (refine zZ.is ?_; first | refine zZ.seq ?_ | (refine zZ.iR 0 ?_; refine zZ.rc [0, 1] [] (r := (.v zW .e)) (h := ?_)) | (refine zZ.iR 1 ?_; refine zZ.rc [0, 1, 4] [] (r := (.v zX (.v v38_0 (.v zX (.v qH (.v v35_0 (.v v36_0 (.v zW .e)))))))) (h := ?_)) | refine zZ.ret ?_))
  all_goals exact ⟨.inl rfl, gives1 rfl rfl rfl⟩
theorem flagRef_fn (s b : Int) (h0 : 0 ≤ s) : Fn Tryz.prog 168 [.val (.int .u64 s), .val (.int .i64 b)] (.p (.val (.int .u64 (flagF s b)))) := by
  have g1 : s.tmod 4611686018427387904 = s % 4611686018427387904 := Int.tmod_eq_emod_of_nonneg h0
  have g2 := wrapU b
  have g3 : (b % 18446744073709551616).tmod 4 = b % 4 := by rw [Int.tmod_eq_emod_of_nonneg (by omega)]; omega
  refine xV Tryz.func168 rfl Tryz.ntmps168 (Nat.le_of_ble_eq_true rfl) ?_
  repeat' (first | (refine zY.nil ?_) | (refine zZ.is ?_; first | refine zZ.seq ?_ | (refine zZ.iR 0 ?_; refine zZ.rc [0, 1] [] (r := (.v zW .e)) (h := ?_)) | (refine zZ.iR 1 ?_; refine zZ.rc [0, 1, 4] [] (r := (.v zX (.v kF (.v v32_5 (.v zX (.v qH (.v kF (.v v30_5 (.v zW .e))))))))) (h := ?_)) | refine zZ.ret ?_))
  all_goals exact ⟨.inl rfl, gives1 rfl rfl rfl⟩
theorem wstamp_fn (w : Int) : Fn Tryz.prog 103 [.val (.int .u64 w)] (.p (.val (.int .u64 (w / 4)))) := by
  refine xV Tryz.func103 rfl Tryz.ntmps103 (Nat.le_of_ble_eq_true rfl) ?_
  repeat' (first | (refine zY.nil ?_) | (refine zZ.is ?_; first | refine zZ.seq ?_ | (refine zZ.iR 0 ?_; refine zZ.rc [0] [] (r := (.v zW .e)) (h := ?_)) | (refine zZ.iR 1 ?_; refine zZ.rc [0, 2] [] (r := (.v zX (.v v39_1 (.v zW .e)))) (h := ?_)) | refine zZ.ret ?_))
  all_goals exact ⟨.inl rfl, gives1 rfl rfl rfl⟩
theorem kN (w : Int) (h0 : 0 ≤ w) (h1 : w < 18446744073709551616) : Fn Tryz.prog 113 [.val (.int .u64 w)] (.p (.val (.int .u64 (w / 4)))) := by
  have g1 : IntKind.u64.wrap (w.tdiv 4) = w / 4 := by rw [Int.tdiv_eq_ediv_of_nonneg h0, wrapU]; omega
  refine xV Tryz.func113 rfl Tryz.ntmps113 (Nat.le_of_ble_eq_true rfl) ?_
  repeat' (first | (refine zY.nil ?_) | (refine zZ.is ?_; first | refine zZ.seq ?_ | (refine zZ.iR 0 ?_; refine zZ.rc [0] [] (r := (.v zW .e)) (h := ?_)) | (refine zZ.iR 1 ?_; refine zZ.rc [0, 2] [] (r := (.v zX (.v v33_0 (.v zW .e)))) (h := ?_)) | refine zZ.ret ?_))
  all_goals exact ⟨.inl rfl, gives1 rfl rfl rfl⟩
theorem mark_fn (w : Int) (h0 : 0 ≤ w) (h1 : w < 18446744073709551616) : Fn Tryz.prog 85 [.val (.int .u64 w)] (.p (.val (.bool (decide (w % 2 = 1))))) := by
  have g1 : bits .and .u64 w 1 = w % 2 := by
    obtain ⟨n, rfl⟩ := Int.eq_ofNat_of_zero_le h0
    rw [show (1 : Int) = ((1 : Nat) : Int) from rfl, u64_and_nat n 1 (by omega) (by decide)]
    have : n &&& 1 = n % 2 := Nat.and_two_pow_sub_one_eq_mod n 1
    rw [this]
    omega
  refine xV Tryz.func85 rfl Tryz.ntmps85 (Nat.le_of_ble_eq_true rfl) ?_
  repeat' (first | (refine zY.nil ?_) | (refine zZ.is ?_; first | refine zZ.seq ?_ | (refine zZ.iR 0 ?_; refine zZ.rc [0] [] (r := (.v zW .e)) (h := ?_)) | (refine zZ.iR 1 ?_; refine zZ.rc [0, 2] [] (r := (.v zX (.v v35_0 (.v wT (.v zW .e))))) (h := ?_)) | refine zZ.ret ?_))
  all_goals exact ⟨.inl rfl, gives1 rfl rfl rfl⟩
theorem markRef_fn (w : Int) (h0 : 0 ≤ w) : Fn Tryz.prog 92 [.val (.int .u64 w)] (.p (.val (.bool (decide (w % 2 = 1))))) := by
  have g1 : w.tmod 2 = w % 2 := Int.tmod_eq_emod_of_nonneg h0
  refine xV Tryz.func92 rfl Tryz.ntmps92 (Nat.le_of_ble_eq_true rfl) ?_
  repeat' (first | (refine zY.nil ?_) | (refine zZ.is ?_; first | refine zZ.seq ?_ | (refine zZ.iR 0 ?_; refine zZ.rc [0] [] (r := (.v zW .e)) (h := ?_)) | (refine zZ.iR 1 ?_; refine zZ.rc [0, 2] [] (r := (.v zX (.v kF (.v wT (.v zW .e))))) (h := ?_)) | refine zZ.ret ?_))
  all_goals exact ⟨.inl rfl, gives1 rfl rfl rfl⟩
theorem has_fn (w b : Int) (h0 : 0 ≤ w) (h1 : w < 18446744073709551616) : Fn Tryz.prog 148 [.val (.int .u64 w), .val (.int .i64 b)] (.p (.val (.bool (hasF w b)))) := by
  have g2 := wrapU b
  have g3 : bits .and .u64 (b % 18446744073709551616) 3 = b % 4 := by rw [and3 _ (by omega) (by omega)]; omega
  have g4 : decide (bits .and .u64 w (b % 4) = b % 4) = hasF w b := by
    rw [andHas w (b % 4) h0 h1 (by omega) (by omega)]
    unfold hasF
    have : b % 4 % 2 = b % 2 := by omega
    rw [this]
  refine xV Tryz.func148 rfl Tryz.ntmps148 (Nat.le_of_ble_eq_true rfl) ?_
  repeat' (first | (refine zY.nil ?_) | (refine zZ.is ?_; first | refine zZ.seq ?_ | (refine zZ.iR 0 ?_; refine zZ.rc [0, 1] [] (r := (.v zW .e)) (h := ?_)) | (refine zZ.iR 1 ?_; refine zZ.rc [0, 1, 4] [] (r := (.v zX (.v qH (.v v35_0 (.v zW .e))))) (h := ?_)) | (refine zZ.iR 2 ?_; refine zZ.rc [0, 4, 5] [] (r := (.v zX (.v zX (.v v35_3 (.v zX (.v v41_0 (.v zW .e))))))) (h := ?_)) | refine zZ.ret ?_))
  all_goals exact ⟨.inl rfl, gives1 rfl rfl rfl⟩
theorem hasRef_fn (w b : Int) (h0 : 0 ≤ w) (h1 : w < 18446744073709551616) : Fn Tryz.prog 151 [.val (.int .u64 w), .val (.int .i64 b)] (.p (.val (.bool (hasF w b)))) := by
  have g2 := wrapU b
  have g3 : (b % 18446744073709551616).tmod 4 = b % 4 := by rw [Int.tmod_eq_emod_of_nonneg (by omega)]; omega
  have g4 : (b % 4).tmod 2 = b % 2 := by rw [Int.tmod_eq_emod_of_nonneg (by omega)]; omega
  have g5 : w.tmod 2 = w % 2 := Int.tmod_eq_emod_of_nonneg h0
  have g6 : IntKind.u64.wrap (w.tdiv 2) = w / 2 := by rw [Int.tdiv_eq_ediv_of_nonneg h0, wrapU]; omega
  have g7 : (w / 2).tmod 2 = w / 2 % 2 := Int.tmod_eq_emod_of_nonneg (by omega)
  refine xV Tryz.func151 rfl Tryz.ntmps151 (Nat.le_of_ble_eq_true rfl) ?_
  repeat' (first | (refine zY.is ?_; first | refine zY.nil ?_ | (refine zY.at_ 13 rfl ?_; refine zY.rc (.gY zX (.gY kF (.gY wT (.v yP (.v zX .e))))) ?_) | (refine zY.at_ 13 rfl ?_; refine zY.rc (.gF (.gF (.gF (.v yH (.v zX (.gY zX (.gY v43_8 (.gY zX .e)))))))) ?_) | (refine zY.at_ 18 rfl ?_; refine zY.rc (.gY zX (.gY v43_8 (.gY zX .e))) ?_) | (refine zY.at_ 18 rfl ?_; refine zY.rc (.gT (.gT (.gT (.gU (.gU (.gU (.gU (.gT (.v yP (.v zW .e)))))))))) ?_) | (refine zY.at_ 21 rfl ?_; refine zY.rc (.gY zX (.gY v33_0 (.gY kF (.gY wT (.gY yP (.v yH (.v zW .e))))))) ?_) | (refine zY.at_ 21 rfl ?_; refine zY.rc (.gF (.gF (.gF (.gF (.gY yH (.v yH (.v zW .e))))))) ?_) | (fail_if_success refine zY.known rfl rfl rfl (by fail) ?_); refine zY.split rfl rfl rfl (fun h => ?_) (fun h => ?_)) | (refine zZ.is ?_; first | refine zZ.seq ?_ | (refine zZ.iR 0 ?_; refine zZ.rc [0, 1] [] (r := (.v zW .e)) (h := ?_)) | (refine zZ.iR 1 ?_; refine zZ.rc [0, 1, 4] [] (r := (.v zX (.v qH (.v kF (.v zW .e))))) (h := ?_)) | (refine zZ.iR 2 ?_; refine zZ.rc [0, 4, 5] [] (r := (.v zX (.v kF (.v wT (.v zX .e))))) (h := ?_)) | refine zZ.ret ?_))
  all_goals refine ⟨.inl rfl, gives1 rfl rfl (eqB' ?_)⟩
  all_goals (unfold hasF; simp [*])
def yJ (t r f : Int) : Int := 8 + t + 8 * (r - 1) + f
def Small (x : Int) : Prop := -1073741824 ≤ x ∧ x ≤ 1073741824
theorem size_fn (t c : Int) (h0 : Small t) (h1 : Small c) : Fn Tryz.prog 161 [.val (.int .i64 t), .val (.int .i64 c)] (.p (.val (.int .i64 (8 + t + 8 * c)))) := by
  unfold Small at h0 h1
  refine xV Tryz.func161 rfl Tryz.ntmps161 (Nat.le_of_ble_eq_true rfl) ?_
  repeat' (first | (refine zY.nil ?_) | (refine zZ.is ?_; first | refine zZ.seq ?_ | (refine zZ.iR 0 ?_; refine zZ.rc [0, 1] [] (r := (.v zW .e)) (h := ?_)) | (refine zZ.iR 1 ?_; refine zZ.rc [0, 1, 4] [] (r := (.v zX (.v v30_5 (.v zX (.v v32_5 (.v v30_5 (.v zW .e))))))) (h := ?_)) | refine zZ.ret ?_))
  all_goals exact ⟨.inl rfl, gives1 rfl rfl rfl⟩
theorem field_fn (t r f : Int) (h0 : Small t) (h1 : 0 ≤ r ∧ r ≤ 1048576) (h2 : Small f) : Fn Tryz.prog 104 [.val (.int .i64 t), .val (.int .i64 r), .val (.int .i64 f)] (.p (.val (.int .i64 (yJ t r f)))) := by
  have c1 := size_fn t (r - 1) h0 (by unfold Small; omega)
  unfold Small at h0 h2
  refine xV Tryz.func104 rfl Tryz.ntmps104 (Nat.le_of_ble_eq_true rfl) ?_
  repeat' (first | (refine zY.is ?_; first | refine zY.nil ?_ | (refine zY.at_ 11 rfl ?_; refine zY.rc (.v zX (.v v30_5 (.v zW .e))) ?_) | (refine zY.in_ [10] rfl ?_; refine zY.v rfl rfl (zG (c1) rfl rfl rfl (by decide)) ?_)) | (refine zZ.is ?_; first | refine zZ.seq ?_ | (refine zZ.iR 0 ?_; refine zZ.rc [0, 1, 2] [] (r := (.v zW .e)) (h := ?_)) | (refine zZ.iR 1 ?_; refine zZ.rc [0, 1, 2, 6] [] (r := (.v zX (.v zX (.v v31_5 .e)))) (h := ?_)) | refine zZ.ret ?_))
  all_goals exact ⟨.inl rfl, gives1 rfl rfl rfl⟩
theorem fieldRef_fn (t r f : Int) (h0 : Small t) (h1 : 0 ≤ r ∧ r ≤ 1048576) (h2 : Small f) : Fn Tryz.prog 24 [.val (.int .i64 t), .val (.int .i64 r), .val (.int .i64 f)] (.p (.val (.int .i64 (yJ t r f)))) := by
  unfold Small at h0 h2
  refine xV Tryz.func24 rfl Tryz.ntmps24 (Nat.le_of_ble_eq_true rfl) ?_
  repeat' (first | (refine zY.nil ?_) | (refine zZ.is ?_; first | refine zZ.seq ?_ | (refine zZ.iR 0 ?_; refine zZ.rc [0, 1, 2] [] (r := (.v zW .e)) (h := ?_)) | (refine zZ.iR 1 ?_; refine zZ.rc [0, 1, 2, 6] [] (r := (.v zX (.v v30_5 (.v zX (.v v31_5 (.v v32_5 (.v v30_5 (.v zX (.v v30_5 (.v zW .e)))))))))) (h := ?_)) | refine zZ.ret ?_))
  all_goals exact ⟨.inl rfl, gives1 rfl rfl rfl⟩
theorem with_fn (f b : Int) (h0 : 0 ≤ f) (h1 : f < 18446744073709551616) (hb : b = 1 ∨ b = 2) (hn : hasF f b = false) : Fn Tryz.prog 152 [.val (.int .u64 f), .val (.int .i64 b)] (.p (.val (.int .u64 (f + b)))) := by
  have c1 : Fn Tryz.prog 151 [.val (.int .u64 f), .val (.int .i64 b)] (.p (.val (.bool false))) := hn ▸ hasRef_fn f b h0 h1
  have hlt : f + b < 18446744073709551616 := by
    unfold hasF at hn
    rcases hb with rfl | rfl
    · simp at hn; omega
    · simp at hn; omega
  refine xV Tryz.func152 rfl Tryz.ntmps152 (Nat.le_of_ble_eq_true rfl) ?_
  repeat' (first | (refine zY.is ?_; first | refine zY.nil ?_ | (refine zY.at_ 5 rfl ?_; refine zY.rc (.v zW .e) ?_) | (refine zY.in_ [8] rfl ?_; refine zY.v rfl rfl (zG (c1) rfl rfl rfl (by decide)) ?_)) | (refine zZ.is ?_; first | refine zZ.seq ?_ | (refine zZ.iR 0 ?_; refine zZ.rc [0, 1] [] (r := (.v zW .e)) (h := ?_)) | (refine zZ.iR 1 ?_; refine zZ.rc [0, 1, 4] [] (r := (.v zX (.v zX .e))) (h := ?_)) | (refine zZ.iR 2 ?_; refine zZ.rc [0, 1, 4, 5] [] (r := (.v zX .e)) (h := ?_)) | (refine zZ.iR 4 ?_; refine zZ.rc [0, 1, 4] [] (r := (.v zX (.v zX (.v v6_5 (.v v30_5 (.v zW .e)))))) (h := ?_)) | refine zZ.yA rfl bA ?_ | refine zZ.skip ?_ | refine zZ.ret ?_))
  all_goals exact ⟨.inl rfl, gives1 rfl rfl rfl⟩
end
section
def Rec (t r : Int) : Prop := Small t ∧ 1 ≤ r ∧ r ≤ 1048576
def Rc (t r : Int) : Prop := Small t ∧ 0 ≤ r ∧ r ≤ 1048576
def qZ (e : Int) (is : Bool) (n w : Int) : PV := .agg [.val (.int .i64 e), .val (.bool is), .val (.int .i64 n), .val (.int .u64 w), xZ]
def opV (k u v w : Int) : PV := .agg [.val (.int .i64 k), .val (.int .i64 u), .val (.int .i64 v), .val (.int .u64 w)]
structure OutI where
  e : Int
  is : Bool
  w : Int
structure OpOK (t k u v w : Int) : Prop where
  rec_ : k = 20 ∨ k = 21 ∨ k = 22 ∨ k = 23 ∨ k = 7 → Rec t u
  bit : k = 7 ∨ k = 23 → v = 1 ∨ v = 2
  w : U w
def opB (k u v w : Int) : Blk := .box 24 [.p (.val (.int .i64 k)), .p (.val (.int .i64 u)), .p (.val (.int .i64 v)), .p (.val (.int .u64 w))]
end
section
theorem wrapU_U (n : Int) : U (IntKind.u64.wrap n) := by rw [wrapU]; unfold U; omega
theorem U.quo {f : Int} (h : U f) : U (f / 4) := ⟨by have := h.1; omega, by have := h.2; omega⟩
def ov1 (b f : Int) : Bool := hasF f b
def over2 (s b g : Int) : Bool := !decide (g / 4 = s) || hasF g b
theorem orBit (f b : Int) (h0 : 0 ≤ f) (h1 : f < 18446744073709551616) (hb : b = 1 ∨ b = 2) (hn : hasF f b = false) : bits .or .u64 f b = f + b ∧ f + b < 18446744073709551616 := by
  obtain ⟨n, rfl⟩ := Int.eq_ofNat_of_zero_le h0
  unfold hasF at hn
  rcases hb with rfl | rfl
  · simp at hn
    have e : n ||| 1 = n + 1 := by
      have h2 := Nat.shiftLeft_add_eq_or_of_lt (show 1 < 2 ^ 1 by decide) (n / 2)
      rw [Nat.shiftLeft_eq] at h2
      have h3 : n / 2 * 2 ^ 1 = n := by omega
      rw [h3] at h2
      exact h2.symm
    rw [show (1 : Int) = ((1 : Nat) : Int) from rfl, u64_or_nat n 1 (by omega) (by decide), e]
    constructor <;> omega
  · simp at hn
    have e : n ||| 2 = n + 2 := by
      have h2 := Nat.shiftLeft_add_eq_or_of_lt (show n % 4 < 2 ^ 2 by omega) (n / 4)
      have h3 := Nat.shiftLeft_add_eq_or_of_lt (show n % 4 + 2 < 2 ^ 2 by omega) (n / 4)
      rw [Nat.shiftLeft_eq] at h2 h3
      have h4 : n / 4 * 2 ^ 2 + n % 4 = n := by omega
      have h5 : n % 4 ||| 2 = n % 4 + 2 := by
        have : n % 4 = 0 ∨ n % 4 = 1 := by omega
        rcases this with h | h <;> rw [h] <;> rfl
      rw [h4] at h2
      have h6 : n ||| 2 = (n / 4 * 2 ^ 2 ||| n % 4) ||| 2 := congrArg (· ||| 2) h2
      rw [h6, Nat.or_assoc, h5, ← h3]
      omega
    rw [show (2 : Int) = ((2 : Nat) : Int) from rfl, u64_or_nat n 2 (by omega) (by decide), e]
    constructor <;> omega
theorem over2_has {s b g : Int} (h : over2 s b g = false) : hasF g b = false := by
  unfold over2 at h
  simp only [Bool.or_eq_false_iff] at h
  exact h.2
theorem orU {f b : Int} (hf : U f) (hb : b = 1 ∨ b = 2) (hn : hasF f b = false) : U (f + b) := ⟨by have := hf.1; rcases hb with rfl | rfl <;> omega, (orBit f b hf.1 hf.2 hb hn).2⟩
def flagP (t r : Int) : Pr Int := xW (yJ t r 2)
def y5 (over : Int → Bool) (c b : Int) (_ : Unit) : Pr (Unit ⊕ Unit) := (xW c).bind fun f => bif over f then .ret (.inr ()) else (casP c f (f + b)).bind fun d => .ret (bif d then .inr () else .inl ())
def setP (over : Int → Bool) (c b : Int) : Pr Unit := .loop (y5 over c b) many ()
def diskP : List Ned → Pr Bool
  | [] => .ret true
  | q :: qs => .ask q fun r => bif r.fail then .ret false else diskP qs
def wrAcc (k s y u v x : Int) : List Ned := [vF 5 0 0 0 (.sl (byts (bytesE k s y u v x))), vF 6 0 0 0 xZ]
def wrP (t r b k s y u v x : Int) : Pr Bool := (diskP (wrAcc k s y u v x)).bind fun ok => bif ok then (setP (over2 s b) (yJ t r 2) b).bind fun _ => .ret true else .ret false
def qN (t r b f : Int) : Pr Bool :=
  bif hasF f b then .ret true else bif decide (b = 1) then
    (xW (yJ t r 1)).bind fun n1 => (xW (yJ t r 4)).bind fun n2 => (xW (yJ t r 5)).bind fun n3 => (xW (yJ t r 6)).bind fun n4 => wrP t r b 1 (f / 4) n1 n2 n3 n4
  else wrP t r b 2 (f / 4) 0 0 0 0
def saveP (t r b : Int) : Pr Bool := (flagP t r).bind fun f => qN t r b f
def wN (s y e u v x : Int) : List (Int × Int) := [(2, flagF s 0), (1, y), (3, e), (4, u), (5, v), (6, x)]
def wO (t r : Int) : List (Int × Int) → Pr Unit
  | [] => .ret ()
  | p :: l => (kY (yJ t r p.1) p.2).bind fun _ => wO t r l
def makeP (t r y e u v x : Int) : Pr Int := (addP 2 1).bind fun n => (wO t r (wN (IntKind.u64.wrap (n + 1)) y e u v x)).bind fun _ => .ret (IntKind.u64.wrap (n + 1))
theorem putF_range (b : List Int) (hb : ∀ x ∈ b, 0 ≤ x ∧ x < 256) (hl : putOk b) : ∀ x ∈ putF b, 0 ≤ x ∧ x < 256 := by
  intro x hx
  have h2 : b.length ≤ 65535 := hl.2
  rw [putF_ref b hl] at hx
  simp only [List.mem_cons, List.cons_append, List.nil_append] at hx
  have hm : q9 0 b < 4294967296 := moreF_lt 0 b
  rcases hx with rfl | rfl | rfl | rfl | rfl | rfl | hx
  all_goals first
    | exact hb x hx
    | omega
theorem putF_lenP (b : List Int) (hl : putOk b) : (putF b).length = 6 + b.length := by rw [putF_ref b hl]; simp; omega
theorem bytesE_ok (k s y u v x : Int) : (∀ c ∈ bytesE k s y u v x, 0 ≤ c ∧ c < 256) ∧ (bytesE k s y u v x).length ≤ 1000 := by
  unfold bytesE
  by_cases h : mayB k s y u v x = true
  · rw [if_pos h]
    refine ⟨putF_range _ (encL_range' k s y u v x) (encL_le2 k s y u v x), ?_⟩
    rw [putF_lenP _ (encL_le2 k s y u v x)]
    unfold encL
    by_cases hk : k = 1 <;> simp [hk, bytesOf]
  · rw [if_neg h]
    exact ⟨fun c hc => by simp at hc, by simp⟩
theorem asked_wr (k s y u v x : Int) : ∀ q ∈ wrAcc k s y u v x, kQ q := by
  intro q hq
  simp only [wrAcc, List.mem_cons, List.not_mem_nil, or_false] at hq
  rcases hq with rfl | rfl
  · exact ⟨rfl, U.zero, U.zero, .inr ⟨rfl, _, (bytesE_ok k s y u v x).1, (bytesE_ok k s y u v x).2, rfl⟩⟩
  · exact ⟨rfl, U.zero, U.zero, .inl ⟨.inr rfl, rfl⟩⟩
theorem fine_round {over : Int → Bool} {c b : Int} (hb : b = 1 ∨ b = 2) (ho : ∀ f, over f = false → hasF f b = false) (u : Unit) : (y5 over c b u).yV (Next yes yes) :=
  .bind (yC _) fun f hf => .condB (fun _ => Pr.yV.ret trivial) fun h => .bind (vI _ hf ⟨by have := hf.1; rcases hb with rfl | rfl <;> omega, (orBit f b hf.1 hf.2 hb (ho f h)).2⟩) fun d _ => Pr.yV.ret (by cases d <;> trivial)
theorem fine_set {over : Int → Bool} {c b : Int} (hb : b = 1 ∨ b = 2) (ho : ∀ f, over f = false → hasF f b = false) : (setP over c b).yV yes :=
  Pr.yV.loop yes (fun _ => ⟨_, _, rfl⟩) (fun u _ => fine_round hb ho u) () trivial
theorem fine_disk : ∀ {qs : List Ned}, (∀ q ∈ qs, kQ q) → (diskP qs).yV yes
  | [], _ => Pr.yV.ret trivial
  | q :: qs, h => fine_ask (h q (by simp)) fun r _ => .cond (Pr.yV.ret trivial) (fine_disk fun q' hq => h q' (by simp [hq]))
theorem fine_wr (t r b k s y u v x : Int) (hb : b = 1 ∨ b = 2) : (wrP t r b k s y u v x).yV yes := .bind (fine_disk (asked_wr k s y u v x)) fun _ _ => .cond (.bind (fine_set hb fun _ h => over2_has h) fun _ _ => trivial) trivial
theorem fine_rest (t r b f : Int) (hb : b = 1 ∨ b = 2) : (qN t r b f).yV yes :=
  .cond trivial (.cond (.bind (yC _) fun _ _ => .bind (yC _) fun _ _ => .bind (yC _) fun _ _ => .bind (yC _) fun _ _ => fine_wr _ _ _ _ _ _ _ _ _ hb) (fine_wr _ _ _ _ _ _ _ _ _ hb))
theorem fine_save (t r b : Int) (hb : b = 1 ∨ b = 2) : (saveP t r b).yV yes := .bind (yC _) fun _ _ => fine_rest _ _ _ _ hb
theorem flagF_U (s b : Int) : U (flagF s b) := by unfold flagF U; omega
theorem fine_stores (t r : Int) : ∀ (l : List (Int × Int)), (∀ p ∈ l, U p.2) → (wO t r l).yV yes
  | [], _ => trivial
  | p :: l, h => .bind (vD _ (h p (by simp))) fun _ _ => fine_stores t r l fun p' hp => h p' (by simp [hp])
theorem items_U {s y e u v x : Int} (hy : U y) (he : U e) (hu : U u) (hv : U v) (hx : U x) : ∀ p ∈ wN s y e u v x, U p.2 := by
  intro p hp
  simp only [wN, List.mem_cons, List.not_mem_nil, or_false] at hp
  rcases hp with rfl | rfl | rfl | rfl | rfl | rfl
  · exact flagF_U _ _
  · exact hy
  · exact he
  · exact hu
  · exact hv
  · exact hx
theorem fine_make (t r : Int) {y e u v x : Int} (hy : U y) (he : U e) (hu : U u) (hv : U v) (hx : U x) : (makeP t r y e u v x).yV U :=
  .bind (fine_add _ (by unfold U; decide)) fun _ _ => .bind (fine_stores t r _ (items_U hy he hu hv hx)) fun _ _ => wrapU_U _
end
section
attribute [local irreducible] zY zZ Step zV Sub zF zA Fn
def xY (w : Int) : Int := w / 2 % 1048576
theorem refW_lo (w : Int) : 0 ≤ xY w := by unfold xY; omega
theorem refW_hi (w : Int) : xY w < 1048576 := by unfold xY; omega
def nextF (t r : Int) : Int := bif decide (r = 0) then 0 else yJ t r 0
theorem andLow (x : Int) (k : Nat) (hk : 2 ^ k ≤ 18446744073709551616) (h0 : 0 ≤ x) (h1 : x < 18446744073709551616) : bits .and .u64 x ((2 ^ k - 1 : Nat) : Int) = x % ((2 ^ k : Nat) : Int) := by
  obtain ⟨n, rfl⟩ := Int.eq_ofNat_of_zero_le h0
  rw [u64_and_nat n _ (by omega) (by omega), Nat.and_two_pow_sub_one_eq_mod]
  omega
theorem ref_fn (w : Int) (h0 : 0 ≤ w) (h1 : w < 18446744073709551616) : Fn Tryz.prog 78 [.val (.int .u64 w)] (.p (.val (.int .i64 (xY w)))) := by
  have g1 : bits .and .u64 (w / 2) 1048575 = xY w := andLow (w / 2) 20 (by decide) (by omega) (by omega)
  have g2 : IntKind.i64.wrap (xY w) = xY w := wrap_i64 _ (by have := refW_lo w; have := refW_hi w; omega)
  refine xV Tryz.func78 rfl Tryz.ntmps78 (Nat.le_of_ble_eq_true rfl) ?_
  repeat' (first | (refine zY.nil ?_) | (refine zZ.is ?_; first | refine zZ.seq ?_ | (refine zZ.iR 0 ?_; refine zZ.rc [0] [] (r := (.v zW .e)) (h := ?_)) | (refine zZ.iR 1 ?_; refine zZ.rc [0, 2] [] (r := (.v zX (.v v39_1 (.v v35_0 (.v qH (.v zW .e)))))) (h := ?_)) | refine zZ.ret ?_))
  all_goals exact ⟨.inl rfl, gives1 rfl rfl rfl⟩
theorem refRef_fn (w : Int) (h0 : 0 ≤ w) (h1 : w < 18446744073709551616) : Fn Tryz.prog 90 [.val (.int .u64 w)] (.p (.val (.int .i64 (xY w)))) := by
  have g1 : IntKind.u64.wrap (w.tdiv 2) = w / 2 := by rw [Int.tdiv_eq_ediv_of_nonneg h0, wrapU]; omega
  have g2 : (w / 2).tmod 1048576 = xY w := Int.tmod_eq_emod_of_nonneg (by omega)
  have g3 : IntKind.i64.wrap (xY w) = xY w := wrap_i64 _ (by have := refW_lo w; have := refW_hi w; omega)
  refine xV Tryz.func90 rfl Tryz.ntmps90 (Nat.le_of_ble_eq_true rfl) ?_
  repeat' (first | (refine zY.nil ?_) | (refine zZ.is ?_; first | refine zZ.seq ?_ | (refine zZ.iR 0 ?_; refine zZ.rc [0] [] (r := (.v zW .e)) (h := ?_)) | (refine zZ.iR 1 ?_; refine zZ.rc [0, 2] [] (r := (.v zX (.v v33_0 (.v kF (.v qH (.v zW .e)))))) (h := ?_)) | refine zZ.ret ?_))
  all_goals exact ⟨.inl rfl, gives1 rfl rfl rfl⟩
theorem link_fn (r : Int) (h : 0 ≤ r ∧ r ≤ 1048576) : Fn Tryz.prog 82 [.val (.int .i64 r), .val (.bool false)] (.p (.val (.int .u64 (2 * r)))) := by
  have g1 : IntKind.u64.wrap r = r := wrap_u64 _ (by omega)
  have g2 : IntKind.u64.wrap (r * 2 ^ (1 : Int).toNat) = 2 * r := by rw [wrapU]; show r * 2 % _ = _; omega
  refine xV Tryz.func82 rfl Tryz.ntmps82 (Nat.le_of_ble_eq_true rfl) ?_
  repeat' (first | (refine zY.nil ?_) | (refine zZ.is ?_; first | refine zZ.seq ?_ | (refine zZ.iR 0 ?_; refine zZ.rc [0, 1] [] (r := (.v zW .e)) (h := ?_)) | (refine zZ.iR 1 ?_; refine zZ.rc [0, 1, 4] [] (r := (.v zX (.v qH (.v v38_0 (.v zW .e))))) (h := ?_)) | (refine zZ.iR 2 ?_; refine zZ.rc [1, 4, 5] [] (r := (.v zX .e)) (h := ?_)) | (refine zZ.iR 4 ?_; refine zZ.rc [4, 5] [] (r := (.v zX (.v zW .e))) (h := ?_)) | refine zZ.yA rfl bA ?_ | refine zZ.skip ?_ | refine zZ.ret ?_))
  all_goals exact ⟨.inl rfl, gives1 rfl rfl rfl⟩
theorem linkRef_fn (r : Int) (h : 0 ≤ r ∧ r ≤ 1048576) : Fn Tryz.prog 96 [.val (.int .i64 r), .val (.bool false)] (.p (.val (.int .u64 (2 * r)))) := by
  have g1 : IntKind.i64.wrap (2 * r) = 2 * r := wrap_i64 _ (by omega)
  have g2 : IntKind.u64.wrap (2 * r) = 2 * r := wrap_u64 _ (by omega)
  refine xV Tryz.func96 rfl Tryz.ntmps96 (Nat.le_of_ble_eq_true rfl) ?_
  repeat' (first | (refine zY.nil ?_) | (refine zZ.is ?_; first | refine zZ.seq ?_ | (refine zZ.iR 0 ?_; refine zZ.rc [0, 1] [] (r := (.v zW .e)) (h := ?_)) | (refine zZ.iR 1 ?_; refine zZ.rc [0, 1, 4] [] (r := (.v zX .e)) (h := ?_)) | (refine zZ.iR 3 ?_; refine zZ.rc [0, 4] [] (r := (.v zX (.v v32_0 (.v qH (.v zW .e))))) (h := ?_)) | refine zZ.yA rfl bA ?_ | refine zZ.skip ?_ | refine zZ.ret ?_))
  all_goals exact ⟨.inl rfl, gives1 rfl rfl rfl⟩
theorem cnext_fn (t r : Int) (h0 : Small t) (h1 : 0 ≤ r ∧ r ≤ 1048576) : Fn Tryz.prog 80 [.val (.int .i64 t), .val (.int .i64 r)] (.p (.val (.int .i64 (nextF t r)))) := by
  have c1 := field_fn t r 0 h0 h1 (by unfold Small; omega)
  unfold nextF
  refine xV Tryz.func80 rfl Tryz.ntmps80 (Nat.le_of_ble_eq_true rfl) ?_
  cases hb : decide (r = 0)
  all_goals
    repeat' (first | (refine zY.is ?_; first | refine zY.nil ?_ | (refine zY.at_ 4 rfl ?_; refine zY.rc (.v zW .e) ?_) | (refine zY.in_ [9] rfl ?_; refine zY.v rfl rfl (zG (c1) rfl rfl rfl (by decide)) ?_)) | (refine zZ.is ?_; first | refine zZ.seq ?_ | (refine zZ.iR 0 ?_; refine zZ.rc [0, 1] [] (r := (.v zW .e)) (h := ?_)) | (refine zZ.iR 1 ?_; refine zZ.rc [0, 1, 4] [] (r := (.v zX (.v v41_0 .e))) (h := ?_)) | (refine zZ.iR 2 ?_; refine zZ.rc [0, 1, 4] [] (r := (.v zW .e)) (h := ?_)) | (refine zZ.iR 3 ?_; refine zZ.rc [0, 1, 4] [] (r := (.v zX (.v zX .e))) (h := ?_)) | refine zZ.yB rfl bA ?_ | refine zZ.yA rfl bA ?_ | refine zZ.skip ?_ | refine zZ.ret ?_) | refine zK.r ?_)
    all_goals exact ⟨.inl rfl, gives1 rfl rfl rfl⟩
theorem cnextRef_fn (t r : Int) (h0 : Small t) (h1 : 0 ≤ r ∧ r ≤ 1048576) : Fn Tryz.prog 94 [.val (.int .i64 t), .val (.int .i64 r)] (.p (.val (.int .i64 (nextF t r)))) := by
  have c1 := fieldRef_fn t r 0 h0 h1 (by unfold Small; omega)
  unfold nextF
  refine xV Tryz.func94 rfl Tryz.ntmps94 (Nat.le_of_ble_eq_true rfl) ?_
  cases hb : decide (r = 0)
  all_goals
    repeat' (first | (refine zY.is ?_; first | refine zY.nil ?_ | (refine zY.at_ 4 rfl ?_; refine zY.rc (.v zW .e) ?_) | (refine zY.in_ [9] rfl ?_; refine zY.v rfl rfl (zG (c1) rfl rfl rfl (by decide)) ?_)) | (refine zZ.is ?_; first | refine zZ.seq ?_ | (refine zZ.iR 0 ?_; refine zZ.rc [0, 1] [] (r := (.v zW .e)) (h := ?_)) | (refine zZ.iR 1 ?_; refine zZ.rc [0, 1, 4] [] (r := (.v zX (.v v41_0 .e))) (h := ?_)) | (refine zZ.iR 2 ?_; refine zZ.rc [0, 1, 4] [] (r := (.v zW .e)) (h := ?_)) | (refine zZ.iR 3 ?_; refine zZ.rc [0, 1, 4] [] (r := (.v zX (.v zX .e))) (h := ?_)) | refine zZ.yB rfl bA ?_ | refine zZ.yA rfl bA ?_ | refine zZ.skip ?_ | refine zZ.ret ?_) | refine zK.r ?_)
    all_goals exact ⟨.inl rfl, gives1 rfl rfl rfl⟩
end
section
theorem vW {ι α : Type} (body : ι → Pr (ι ⊕ α)) (n : Nat) (s : ι) : Pr.loop body (n + 1) s = (body s).bind (Sum.elim (Pr.loop body n) .ret) := by
  rw [Pr.loop_succ]
  congr 1
  funext x
  cases x <;> rfl
theorem leftS_no {L : List yQ} {σ : CSt} (h : σ.stop = false) : xL L σ = L.length - σ.i + 1 := by unfold xL; rw [h]; rfl
theorem leftS_yes {L : List yQ} {σ : CSt} (h : σ.stop = true) : xL L σ = 0 := by unfold xL; rw [h]; rfl
theorem Rel.less {α : Type} {good : α → Prop} {L : List yQ} {p : Pr α} {σ τ : CSt} {x : α} (hL : xB L) (hf : p.yV good) (ha : ∃ q k, p = .ask q k) (hi : σ.i ≤ L.length) (hs : σ.stop = false) (h : Rel L p σ x τ) : xL L τ < xL L σ := by
  have h1 := hf.log hL hi
  rw [leftS_no hs]
  cases m : p.run (y9 L) σ.i with
  | stuck => rw [m] at h1; exact h1.elim
  | need q j =>
    have := h.need hs q j m
    subst this
    rw [leftS_yes rfl]
    omega
  | done y j =>
    rw [m] at h1
    obtain ⟨rfl, rfl⟩ := h.done hs y j m
    rw [leftS_no rfl]
    obtain ⟨q, k, rfl⟩ := ha
    rw [vH] at m
    cases e : L[σ.i]? with
    | none =>
      have e0 : y9 L σ.i q = .need q L.length := by unfold y9; rw [e]
      rw [e0] at m
      cases m
    | some r =>
      have e0 : y9 L σ.i q = .ret r (σ.i + 1) := by unfold y9; rw [e]
      rw [e0] at m
      have h2 := run_le m
      have h3 := (List.getElem?_eq_some_iff.1 e).1
      dsimp only
      omega
structure At {α : Type} (L : List yQ) (P : Pr α) (σ : CSt) (q : Pr α) (τ : CSt) : Prop where
  i : τ.i ≤ L.length
  go : ∀ y υ, Rel L q τ y υ → Rel L P σ y υ
section
variable {α β ι : Type} {L : List yQ} {P q : Pr α} {σ τ υ : CSt} {good : β → Prop} {m : Nat}
theorem At.refl (h : σ.i ≤ L.length) : At L P σ P σ := ⟨h, fun _ _ h => h⟩
theorem At.step {p : Pr β} {f : β → Pr α} {x : β} (h : At L P σ (p.bind f) τ) (hr : Rel L p τ x υ) (hi : υ.i ≤ L.length) : At L P σ (f x) υ := ⟨hi, fun y w hy => h.go y w (hr.bind hy)⟩
theorem At.ret {x : α} (h : At L P σ (.ret x) τ) : Rel L P σ x τ := h.go x τ (.ret x)
theorem At.halt (h : At L P σ q τ) (hs : τ.stop = true) (y : α) : Rel L P σ y τ := h.go y τ (.stop hs)
theorem At.round {body : ι → Pr (ι ⊕ α)} {m : Nat} {s : ι} {r : ι ⊕ α} (h : At L P σ (.loop body (m + 1) s) τ) (hr : Rel L (body s) τ r υ) (hi : υ.i ≤ L.length) : At L P σ (Sum.elim (Pr.loop body m) .ret r) υ := by
  rw [vW] at h
  exact h.step hr hi
theorem At.qY {γ : Type} {body : ι → Pr (ι ⊕ γ)} {f : γ → Pr α} {s : ι} {r : ι ⊕ γ} (h : At L P σ ((Pr.loop body (m + 1) s).bind f) τ) (hr : Rel L (body s) τ r υ) (hi : υ.i ≤ L.length) : At L P σ ((Sum.elim (Pr.loop body m) .ret r).bind f) υ := by
  rw [vW, Pr.bind_assoc] at h
  exact h.step hr hi
theorem vJ (h : xL L τ ≤ m) (hs : τ.stop = false) : ∃ n, m = n + 1 := by
  rw [leftS_no hs] at h
  exact ⟨m - 1, by omega⟩
theorem wD (hL : xB L) : xL L σ ≤ many := by
  unfold xL many
  have := hL.1
  cases σ.stop
  · show L.length - σ.i + 1 ≤ _
    omega
  · exact Nat.zero_le _
end
end
section
structure Rf (x : Int) : Prop where
  lo : 0 ≤ x
  hi : x ≤ 1048575
theorem wK (w : Int) : Rf (xY w) := ⟨refW_lo w, by have := refW_hi w; omega⟩
theorem rf_0 : Rf 0 := ⟨by decide, by decide⟩
theorem Rf.u {x : Int} (h : Rf x) : U x := ⟨h.lo, by have := h.hi; omega⟩
theorem Rf.u2 {x : Int} (h : Rf x) : U (2 * x) := ⟨by have := h.lo; omega, by have := h.hi; omega⟩
theorem Rf.rc {t x : Int} (h : Rf x) (ht : Small t) : Rc t x := ⟨ht, h.lo, by have := h.hi; omega⟩
theorem Rf.le {x : Int} (h : Rf x) : 0 ≤ x ∧ x ≤ 1048576 := ⟨h.lo, by have := h.hi; omega⟩
theorem hw_succ {w : Int} (h : U w) (he : decide (w % 2 = 1) = false) : 0 ≤ w + 1 ∧ w + 1 ≤ 18446744073709551615 := by
  have := of_decide_eq_false he
  have h1 := h.1
  have h2 := h.2
  omega
theorem U.succ {w : Int} (h : U w) (he : decide (w % 2 = 1) = false) : U (w + 1) := by
  have := of_decide_eq_false he
  have h1 := h.1
  have h2 := h.2
  constructor <;> omega
def qO (t r at_ : Int) (_ : Unit) : Pr (Unit ⊕ Unit) := (xW at_).bind fun h => (kY (yJ t r 7) h).bind fun _ => (casP at_ h r).bind fun d => .ret (bif d then .inr () else .inl ())
def retLoop (t r at_ : Int) : Pr Unit := .loop (qO t r at_) many ()
def wP (e : Int) : Int := 4 + e % 3
def retireP (t r : Int) : Pr Unit := (xW 3).bind fun e => retLoop t r (wP e)
theorem fine_retL (t r at_ : Int) (hr : U r) : (retLoop t r at_).yV yes :=
  Pr.yV.loop yes (fun _ => ⟨_, _, rfl⟩) (fun u _ => .bind (yC _) fun _ hh => .bind (vD _ hh) fun _ _ => .bind (vI _ hh hr) fun d _ => Pr.yV.ret (by cases d <;> trivial)) () trivial
theorem fine_retire (t : Int) {r : Int} (hr : U r) : (retireP t r).yV yes := .bind (yC _) fun _ _ => fine_retL _ _ _ hr
structure w9 where
  p : Int
  x : Int
  is : Bool
  ok : Bool
abbrev WSt := Option (Int × Int)
structure WOK (a b : Int) : Prop where
  p : Rf a
  x : Rf b
  n : decide (b = 0) = false
theorem WOK.one {p x : Int} (h : WOK p x) : 1 ≤ x := by have := of_decide_eq_false h.n; have := h.x.lo; omega
def wok : WSt → Prop
  | none => True
  | some (p, x) => WOK p x
structure FOK (r : w9) : Prop where
  p : Rf r.p
  x : Rf r.x
  n : r.is = true → 1 ≤ r.x
def endW (p x : Int) : WSt ⊕ w9 := bif decide (x = 0) then .inr ⟨p, 0, false, true⟩ else .inl (some (p, x))
theorem endW_ok {p : Int} (w : Int) (hp : Rf p) : Next wok FOK (endW p (xY w)) := by
  unfold endW
  cases h : decide (xY w = 0)
  · exact ⟨hp, wK w, h⟩
  · exact ⟨hp, rf_0, fun h => by cases h⟩
inductive Took where
  | fail
  | miss
  | done
def Took.d : Took → Bool
  | .done => true
  | _ => false
def Took.ok : Took → Bool
  | .fail => false
  | _ => true
def takeP (t p x w : Int) : Pr Took := (saveP t x 2).bind fun ok => bif ok then (casP (nextF t p) (2 * x) (2 * xY w)).bind fun d => bif d then (retireP t x).bind fun _ => .ret .done else .ret .miss else .ret .fail
theorem fine_take (t p w : Int) {x : Int} (hx : Rf x) : (takeP t p x w).yV yes :=
  .bind (fine_save _ _ _ (.inr rfl)) fun _ _ => .cond (.bind (vI _ hx.u2 (wK w).u2) fun _ _ => .cond (.bind (fine_retire _ hx.u) fun _ _ => trivial) trivial) trivial
def tookR (p x w : Int) : Took → WSt ⊕ w9
  | .done => endW p (xY w)
  | .miss => .inl none
  | .fail => .inr ⟨p, x, false, false⟩
def tookP (t p x w : Int) : Pr (WSt ⊕ w9) := (takeP t p x w).bind fun r => .ret (tookR p x w r)
theorem fine_took (t w : Int) {p x : Int} (h : WOK p x) : (tookP t p x w).yV (Next wok FOK) :=
  .bind (fine_take t p w h.x) fun r _ => Pr.yV.ret (by
    cases r with
    | done => exact endW_ok w h.p
    | miss => trivial
    | fail => exact ⟨h.p, h.x, fun h => by cases h⟩)
def z8 (t : Int) (at_ : Int → Int → Int → Pr (WSt ⊕ w9)) : WSt → Pr (WSt ⊕ w9)
  | none => (xW 0).bind fun h => .ret (endW 0 (xY h))
  | some (p, x) => (xW (yJ t x 0)).bind fun w => bif decide (w % 2 = 1) then tookP t p x w else at_ p x w
def walkP (t : Int) (at_ : Int → Int → Int → Pr (WSt ⊕ w9)) : Pr w9 := .loop (z8 t at_) many none
theorem vZ {t : Int} {at_ : Int → Int → Int → Pr (WSt ⊕ w9)} (h : ∀ p x w, WOK p x → U w → decide (w % 2 = 1) = false → (at_ p x w).yV (Next wok FOK)) : ∀ s, wok s → (z8 t at_ s).yV (Next wok FOK)
  | none, _ => .bind (yC _) fun w _ => Pr.yV.ret (endW_ok w rf_0)
  | some (p, x), hw => .bind (yC _) fun w hu => .condB (fun _ => fine_took t w hw) fun hm => h p x w hw hu hm
theorem fine_walk {t : Int} {at_ : Int → Int → Int → Pr (WSt ⊕ w9)} (h : ∀ p x w, WOK p x → U w → decide (w % 2 = 1) = false → (at_ p x w).yV (Next wok FOK)) : (walkP t at_).yV FOK :=
  Pr.yV.loop wok (fun s => by match s with | none => exact ⟨_, _, rfl⟩ | some (p, x) => exact ⟨_, _, rfl⟩) (vZ h) none trivial
def xQ (t k p x w : Int) : Pr (WSt ⊕ w9) := (xW (yJ t x 1)).bind fun n => bif decide (k ≤ n) then .ret (.inr ⟨p, x, decide (n = k), true⟩) else .ret (endW x (xY w))
theorem kK (t k p x w : Int) (h : WOK p x) : (xQ t k p x w).yV (Next wok FOK) :=
  .bind (yC _) fun _ _ => .cond (Pr.yV.ret ⟨h.p, h.x, fun _ => h.one⟩) (Pr.yV.ret (endW_ok w h.x))
def alongP (t k : Int) : Pr w9 := walkP t (xQ t k)
theorem fine_along (t k : Int) : (alongP t k).yV FOK := fine_walk fun p x w h _ _ => kK t k p x w h
def wR (t k : Int) : Pr w9 := (alongP t k).bind fun r => bif r.ok then .ret r else .ret ⟨0, 0, false, false⟩
theorem fine_search (t k : Int) : (wR t k).yV FOK := .bind (fine_along t k) fun _ h => .cond (Pr.yV.ret h) (Pr.yV.ret ⟨rf_0, rf_0, fun h => by cases h⟩)
theorem nextF_pos (t : Int) {x : Int} (h : decide (x = 0) = false) : nextF t x = yJ t x 0 := by unfold nextF; rw [h]; rfl
def setMark (t x w : Int) : Pr Bool := casP (nextF t x) w (w + 1)
def markP (t x : Int) : Pr Bool := (xW (nextF t x)).bind fun w => bif decide (w % 2 = 1) then .ret false else setMark t x w
theorem fine_mark (t x : Int) : (markP t x).yV yes := .bind (yC _) fun _ hw => .condB (fun _ => trivial) fun h => vI _ hw (hw.succ h)
def sweepIn (t s x w : Int) : Pr Bool := (xW (yJ t x 1)).bind fun k => bif decide (k % 2147483648 = 0) then .ret false else (xW (yJ t x 4)).bind fun su => (xW (yJ t x 5)).bind fun sv =>
  bif !decide (su = s) && !decide (sv = s) then .ret false else (setMark t x w).bind fun d => bif d then (setP (ov1 2) (yJ t x 2) 2).bind fun _ => .ret true else .ret true
theorem fine_sweepIn (t s x w : Int) (hw : U w) (h : decide (w % 2 = 1) = false) : (sweepIn t s x w).yV yes :=
  .bind (yC _) fun _ _ => .cond trivial (.bind (yC _) fun _ _ => .bind (yC _) fun _ _ => .cond trivial (.bind (vI _ hw (hw.succ h)) fun _ _ => .cond (.bind (fine_set (.inr rfl) fun _ h => h) fun _ _ => trivial) trivial))
def xJ (t s p x w : Int) : Pr (WSt ⊕ w9) := (sweepIn t s x w).bind fun b => bif b then .ret (.inl (some (p, x))) else .ret (endW x (xY w))
theorem q8 (t s p x w : Int) (h : WOK p x) (hw : U w) (hm : decide (w % 2 = 1) = false) : (xJ t s p x w).yV (Next wok FOK) := .bind (fine_sweepIn t s x w hw hm) fun _ _ => .cond (Pr.yV.ret h) (Pr.yV.ret (endW_ok w h.x))
def sweepL (t s : Int) : Pr w9 := walkP t (xJ t s)
theorem fine_sweepL (t s : Int) : (sweepL t s).yV FOK := fine_walk fun p x w h hw hm => .bind (fine_sweepIn t s x w hw hm) fun _ _ => .cond (Pr.yV.ret h) (Pr.yV.ret (endW_ok w h.x))
def qX (t s : Int) : Pr Bool := (sweepL t s).bind fun r => .ret r.ok
theorem fine_sweep (t s : Int) : (qX t s).yV yes := .bind (fine_sweepL t s) fun _ _ => trivial
def endS (x : Int) : Int ⊕ (Int × Bool) := bif decide (x = 0) then .inr (0, false) else .inl x
def vL (t k x : Int) : Pr (Int ⊕ (Int × Bool)) := (xW (yJ t x 1)).bind fun n => bif decide (k ≤ n) then .ret (.inr (x, decide (n = k))) else (xW (yJ t x 0)).bind fun w => .ret (endS (xY w))
def seekP (t from_ k : Int) : Pr (Int × Bool) := (xW (nextF t from_)).bind fun w => bif decide (xY w = 0) then .ret (0, false) else .loop (vL t k) many (xY w)
structure SOK (a : Int) : Prop where
  x : Rf a
  n : decide (a = 0) = false
theorem SOK.one {x : Int} (h : SOK x) : 1 ≤ x := by have := of_decide_eq_false h.n; have := h.x.lo; omega
structure SFound (r : Int × Bool) : Prop where
  x : Rf r.1
  n : r.2 = true → 1 ≤ r.1
theorem endS_ok (w : Int) : Next SOK SFound (endS (xY w)) := by
  unfold endS
  cases h : decide (xY w = 0)
  · exact ⟨wK w, h⟩
  · exact ⟨rf_0, fun h => by cases h⟩
theorem fine_seekR (t k x : Int) (hx : SOK x) : (vL t k x).yV (Next SOK SFound) :=
  .bind (yC _) fun _ _ => .cond (Pr.yV.ret ⟨hx.x, fun _ => hx.one⟩) (.bind (yC _) fun w _ => Pr.yV.ret (endS_ok w))
theorem fine_seek (t from_ k : Int) : (seekP t from_ k).yV SFound :=
  .bind (yC _) fun w _ => .condB (fun _ => Pr.yV.ret ⟨rf_0, fun h => by cases h⟩) fun h0 => Pr.yV.loop SOK (fun _ => ⟨_, _, rfl⟩) (fine_seekR t k) _ ⟨wK w, h0⟩
def linkP (t p x r : Int) : Pr Bool := (kY (nextF t r) (2 * x)).bind fun _ => casP (nextF t p) (2 * x) (2 * r)
theorem fine_link (t p : Int) {x r : Int} (hx : Rf x) (hr : Rf r) : (linkP t p x r).yV yes := .bind (vD _ hx.u2) fun _ _ => vI _ hx.u2 hr.u2
def contS (t k : Int) (n : Nat) (x : Int) : Pr (Int × Bool) := bif decide (x = 0) then .ret (0, false) else .loop (vL t k) n x
theorem contS_eq (t k : Int) (n : Nat) (x : Int) : Sum.elim (Pr.loop (vL t k) n) .ret (endS x) = contS t k n x := by
  unfold endS contS
  cases decide (x = 0) <;> rfl
def contL (t : Int) (at_ : Int → Int → Int → Pr (WSt ⊕ w9)) (n : Nat) (p x : Int) : Pr w9 := bif decide (x = 0) then .ret ⟨p, 0, false, true⟩ else .loop (z8 t at_) n (some (p, x))
theorem vM (t : Int) (at_ : Int → Int → Int → Pr (WSt ⊕ w9)) (n : Nat) (p x : Int) : Sum.elim (Pr.loop (z8 t at_) n) .ret (endW p x) = contL t at_ n p x := by
  unfold endW contL
  cases decide (x = 0) <;> rfl
structure OutN where
  e : Int
  is : Bool
  n : Int
  w : Int
structure OpL (k u v w : Int) : Prop where
  u : k = 9 ∨ k = 24 ∨ k = 25 → Rf u
  v : k = 24 → Rf v ∧ Rf w
  w : U w
end
section
attribute [local irreducible] zY zZ Step zV Sub zF zA Fn
def xA (w : Int) : Int := w % 1048576
def tagF (w : Int) : Int := w / 1048576
def topF (r g : Int) : Int := g % 17592186044416 * 1048576 + r
theorem firstF_lo (w : Int) : 0 ≤ xA w := by unfold xA; omega
theorem firstF_hi (w : Int) : xA w < 1048576 := by unfold xA; omega
theorem first_fn (w : Int) (h0 : 0 ≤ w) (h1 : w < 18446744073709551616) : Fn Tryz.prog 158 [.val (.int .u64 w)] (.p (.val (.int .i64 (xA w)))) := by
  have g1 : bits .and .u64 w 1048575 = xA w := andLow w 20 (by decide) h0 h1
  have g2 : IntKind.i64.wrap (xA w) = xA w := wrap_i64 _ (by have := firstF_lo w; have := firstF_hi w; omega)
  refine xV Tryz.func158 rfl Tryz.ntmps158 (Nat.le_of_ble_eq_true rfl) ?_
  repeat' (first | (refine zY.nil ?_) | (refine zZ.is ?_; first | refine zZ.seq ?_ | (refine zZ.iR 0 ?_; refine zZ.rc [0] [] (r := (.v zW .e)) (h := ?_)) | (refine zZ.iR 1 ?_; refine zZ.rc [0, 2] [] (r := (.v zX (.v v35_0 (.v qH (.v zW .e))))) (h := ?_)) | refine zZ.ret ?_))
  all_goals exact ⟨.inl rfl, gives1 rfl rfl rfl⟩
theorem firstRef_fn (w : Int) (h0 : 0 ≤ w) (h1 : w < 18446744073709551616) : Fn Tryz.prog 169 [.val (.int .u64 w)] (.p (.val (.int .i64 (xA w)))) := by
  have g1 : w.tmod 1048576 = xA w := Int.tmod_eq_emod_of_nonneg h0
  have g2 : IntKind.i64.wrap (xA w) = xA w := wrap_i64 _ (by have := firstF_lo w; have := firstF_hi w; omega)
  refine xV Tryz.func169 rfl Tryz.ntmps169 (Nat.le_of_ble_eq_true rfl) ?_
  repeat' (first | (refine zY.nil ?_) | (refine zZ.is ?_; first | refine zZ.seq ?_ | (refine zZ.iR 0 ?_; refine zZ.rc [0] [] (r := (.v zW .e)) (h := ?_)) | (refine zZ.iR 1 ?_; refine zZ.rc [0, 2] [] (r := (.v zX (.v kF (.v qH (.v zW .e))))) (h := ?_)) | refine zZ.ret ?_))
  all_goals exact ⟨.inl rfl, gives1 rfl rfl rfl⟩
theorem tag_fn (w : Int) : Fn Tryz.prog 160 [.val (.int .u64 w)] (.p (.val (.int .u64 (tagF w)))) := by
  refine xV Tryz.func160 rfl Tryz.ntmps160 (Nat.le_of_ble_eq_true rfl) ?_
  repeat' (first | (refine zY.nil ?_) | (refine zZ.is ?_; first | refine zZ.seq ?_ | (refine zZ.iR 0 ?_; refine zZ.rc [0] [] (r := (.v zW .e)) (h := ?_)) | (refine zZ.iR 1 ?_; refine zZ.rc [0, 2] [] (r := (.v zX (.v v39_1 (.v zW .e)))) (h := ?_)) | refine zZ.ret ?_))
  all_goals exact ⟨.inl rfl, gives1 rfl rfl rfl⟩
theorem tagRef_fn (w : Int) (h0 : 0 ≤ w) (h1 : w < 18446744073709551616) : Fn Tryz.prog 171 [.val (.int .u64 w)] (.p (.val (.int .u64 (tagF w)))) := by
  have g1 : IntKind.u64.wrap (w.tdiv 1048576) = tagF w := by rw [Int.tdiv_eq_ediv_of_nonneg h0, wrapU]; unfold tagF; omega
  refine xV Tryz.func171 rfl Tryz.ntmps171 (Nat.le_of_ble_eq_true rfl) ?_
  repeat' (first | (refine zY.nil ?_) | (refine zZ.is ?_; first | refine zZ.seq ?_ | (refine zZ.iR 0 ?_; refine zZ.rc [0] [] (r := (.v zW .e)) (h := ?_)) | (refine zZ.iR 1 ?_; refine zZ.rc [0, 2] [] (r := (.v zX (.v v33_0 (.v zW .e)))) (h := ?_)) | refine zZ.ret ?_))
  all_goals exact ⟨.inl rfl, gives1 rfl rfl rfl⟩
theorem orTop (r q : Int) (h0 : 0 ≤ r) (h1 : r < 1048576) (q0 : 0 ≤ q) (q1 : q < 17592186044416) : bits .or .u64 r (q * 1048576) = q * 1048576 + r := by
  obtain ⟨n, rfl⟩ := Int.eq_ofNat_of_zero_le h0
  obtain ⟨m, rfl⟩ := Int.eq_ofNat_of_zero_le q0
  have e1 : (m : Int) * 1048576 = ((m * 1048576 : Nat) : Int) := by omega
  rw [e1, u64_or_nat n (m * 1048576) (by omega) (by omega), Nat.or_comm]
  have h2 := Nat.shiftLeft_add_eq_or_of_lt (show n < 2 ^ 20 by omega) m
  rw [Nat.shiftLeft_eq] at h2
  rw [show m * 1048576 = m * 2 ^ 20 from rfl, ← h2]
  omega
theorem top_fn (r g : Int) (h0 : 0 ≤ r) (h1 : r < 1048576) (g0 : 0 ≤ g) : Fn Tryz.prog 159 [.val (.int .i64 r), .val (.int .u64 g)] (.p (.val (.int .u64 (topF r g)))) := by
  have g1 : IntKind.u64.wrap r = r := wrap_u64 _ (by omega)
  have g2 : IntKind.u64.wrap (g * 2 ^ (20 : Int).toNat) = g % 17592186044416 * 1048576 := by rw [wrapU]; show g * 1048576 % _ = _; omega
  have g3 : bits .or .u64 r (g % 17592186044416 * 1048576) = topF r g := orTop r _ h0 h1 (by omega) (by omega)
  refine xV Tryz.func159 rfl Tryz.ntmps159 (Nat.le_of_ble_eq_true rfl) ?_
  repeat' (first | (refine zY.nil ?_) | (refine zZ.is ?_; first | refine zZ.seq ?_ | (refine zZ.iR 0 ?_; refine zZ.rc [0, 1] [] (r := (.v zW .e)) (h := ?_)) | (refine zZ.iR 1 ?_; refine zZ.rc [0, 1, 4] [] (r := (.v zX (.v qH (.v zX (.v v38_0 (.v v36_0 (.v zW .e))))))) (h := ?_)) | refine zZ.ret ?_))
  all_goals exact ⟨.inl rfl, gives1 rfl rfl rfl⟩
theorem topRef_fn (r g : Int) (h0 : 0 ≤ r) (h1 : r < 1048576) (g0 : 0 ≤ g) : Fn Tryz.prog 170 [.val (.int .i64 r), .val (.int .u64 g)] (.p (.val (.int .u64 (topF r g)))) := by
  have g1 : IntKind.u64.wrap r = r := wrap_u64 _ (by omega)
  have g2 : g.tmod 17592186044416 = g % 17592186044416 := Int.tmod_eq_emod_of_nonneg g0
  have g4 : IntKind.u64.wrap (g % 17592186044416 * 1048576) = g % 17592186044416 * 1048576 := wrap_u64 _ (by omega)
  have g3 : IntKind.u64.wrap (r + g % 17592186044416 * 1048576) = topF r g := by rw [wrap_u64 _ (by omega)]; unfold topF; omega
  refine xV Tryz.func170 rfl Tryz.ntmps170 (Nat.le_of_ble_eq_true rfl) ?_
  repeat' (first | (refine zY.nil ?_) | (refine zZ.is ?_; first | refine zZ.seq ?_ | (refine zZ.iR 0 ?_; refine zZ.rc [0, 1] [] (r := (.v zW .e)) (h := ?_)) | (refine zZ.iR 1 ?_; refine zZ.rc [0, 1, 4] [] (r := (.v zX (.v qH (.v zX (.v kF (.v v32_0 (.v qQ (.v zW .e)))))))) (h := ?_)) | refine zZ.ret ?_))
  all_goals exact ⟨.inl rfl, gives1 rfl rfl rfl⟩
theorem pin_fn (i : Int) (h : Small i) : Fn Tryz.prog 162 [.val (.int .i64 i)] (.p (.val (.int .i64 (8 + i)))) := by
  unfold Small at h
  have g1 : IntKind.i64.wrap (8 + i) = 8 + i := wrap_i64 _ (by omega)
  refine xV Tryz.func162 rfl Tryz.ntmps162 (Nat.le_of_ble_eq_true rfl) ?_
  repeat' (first | (refine zY.nil ?_) | (refine zZ.is ?_; first | refine zZ.seq ?_ | (refine zZ.iR 0 ?_; refine zZ.rc [0] [] (r := (.v zW .e)) (h := ?_)) | (refine zZ.iR 1 ?_; refine zZ.rc [0, 2] [] (r := (.v zX (.v qQ (.v zW .e)))) (h := ?_)) | refine zZ.ret ?_))
  all_goals exact ⟨.inl rfl, gives1 rfl rfl rfl⟩
theorem pinRef_fn (i : Int) (h : Small i) : Fn Tryz.prog 163 [.val (.int .i64 i)] (.p (.val (.int .i64 (8 + i)))) := by
  unfold Small at h
  have g1 : IntKind.i64.wrap (8 + i) = 8 + i := wrap_i64 _ (by omega)
  refine xV Tryz.func163 rfl Tryz.ntmps163 (Nat.le_of_ble_eq_true rfl) ?_
  repeat' (first | (refine zY.nil ?_) | (refine zZ.is ?_; first | refine zZ.seq ?_ | (refine zZ.iR 0 ?_; refine zZ.rc [0] [] (r := (.v zW .e)) (h := ?_)) | (refine zZ.iR 1 ?_; refine zZ.rc [0, 2] [] (r := (.v zX (.v qQ (.v zW .e)))) (h := ?_)) | refine zZ.ret ?_))
  all_goals exact ⟨.inl rfl, gives1 rfl rfl rfl⟩
def vOK (u : Int) : Bool := decide (0 ≤ u ∧ u < 1073741824)
def vkF (u : Int) : Int := bif vOK u then u * 2147483648 else 0
def vkE (u : Int) : Int := bif vOK u then 0 else 4
theorem kvertex_fn (u : Int) : Fn Tryz.prog 105 [.val (.int .i64 u)] (.p (.val (.bool (vOK u)))) := by
  refine xV Tryz.func105 rfl Tryz.ntmps105 (Nat.le_of_ble_eq_true rfl) ?_
  by_cases h0 : 0 ≤ u
  · by_cases h1 : u < 1073741824
    · have g1 : decide (u ≥ 0) = true := decide_eq_true h0
      have g2 : decide (u < 1073741824) = true := decide_eq_true h1
      have e : vOK u = true := decide_eq_true ⟨h0, h1⟩
      rw [e]
      repeat' (first | (refine zY.nil ?_) | (refine zZ.is ?_; first | refine zZ.seq ?_ | (refine zZ.iR 0 ?_; refine zZ.rc [0] [] (r := (.v zW .e)) (h := ?_)) | (refine zZ.iR 1 ?_; refine zZ.rc [0, 2] [] (r := (.v zX (.v v46_0 (.v zX (.gY zX (.gY yU (.v yH (.v zW .e)))))))) (h := ?_)) | refine zZ.ret ?_))
      all_goals exact ⟨.inl rfl, gives1 rfl rfl rfl⟩
    · have g1 : decide (u ≥ 0) = true := decide_eq_true h0
      have g2 : decide (u < 1073741824) = false := decide_eq_false h1
      have e : vOK u = false := decide_eq_false fun h => h1 h.2
      rw [e]
      repeat' (first | (refine zY.nil ?_) | (refine zZ.is ?_; first | refine zZ.seq ?_ | (refine zZ.iR 0 ?_; refine zZ.rc [0] [] (r := (.v zW .e)) (h := ?_)) | (refine zZ.iR 1 ?_; refine zZ.rc [0, 2] [] (r := (.v zX (.v v46_0 (.v zX (.gY zX (.gY yU (.v yH (.v zW .e)))))))) (h := ?_)) | refine zZ.ret ?_))
      all_goals exact ⟨.inl rfl, gives1 rfl rfl rfl⟩
  · have g1 : decide (u ≥ 0) = false := decide_eq_false h0
    have e : vOK u = false := decide_eq_false fun h => h0 h.1
    rw [e]
    repeat' (first | (refine zY.nil ?_) | (refine zZ.is ?_; first | refine zZ.seq ?_ | (refine zZ.iR 0 ?_; refine zZ.rc [0] [] (r := (.v zW .e)) (h := ?_)) | (refine zZ.iR 1 ?_; refine zZ.rc [0, 2] [] (r := (.v zX (.v v46_0 (.v zX (.gT (.gT (.v yP (.v zW .e)))))))) (h := ?_)) | refine zZ.ret ?_))
    all_goals exact ⟨.inl rfl, gives1 rfl rfl rfl⟩
theorem vertex_fn (u : Int) : Fn Tryz.prog 44 [.val (.int .i64 u)] (.tup [.val (.int .u64 (vkF u)), .val (.int .i64 (vkE u))]) := by
  have c := kvertex_fn u
  refine xV Tryz.func44 rfl Tryz.ntmps44 (Nat.le_of_ble_eq_true rfl) ?_
  cases e : vOK u <;> rw [e] at c <;> unfold vkF vkE <;> rw [e]
  case true =>
    have h := of_decide_eq_true e
    have g1 : IntKind.u64.wrap u = u := wrap_u64 _ (by omega)
    have g2 : IntKind.u64.wrap (u * 2 ^ (31 : Int).toNat) = u * 2147483648 := by rw [wrapU]; show u * 2147483648 % _ = _; omega
    repeat' (first | (refine zY.is ?_; first | refine zY.nil ?_ | (refine zY.at_ 6 rfl ?_; refine zY.rc (.v vS .e) ?_) | (refine zY.in_ [5] rfl ?_; refine zY.v rfl rfl (zG (c) rfl rfl rfl (by decide)) ?_)) | (refine zZ.is ?_; first | refine zZ.seq ?_ | (refine zZ.iR 0 ?_; refine zZ.rc [0] [] (r := (.v zW (.v zW .e))) (h := ?_)) | (refine zZ.iR 1 ?_; refine zZ.rc [0, 2, 3] [] (r := (.v zX .e)) (h := ?_)) | (refine zZ.iR 3 ?_; refine zZ.rc [0, 2, 3] [] (r := (.v zX (.v qH (.v v38_0 (.v zW (.v zW .e)))))) (h := ?_)) | refine zZ.yA rfl bA ?_ | refine zZ.skip ?_ | refine zZ.ret ?_))
    all_goals exact ⟨.inl rfl, givesT (ts := [2, 3]) rfl (by decide) rfl⟩
  case false =>
    repeat' (first | (refine zY.is ?_; first | refine zY.nil ?_ | (refine zY.at_ 6 rfl ?_; refine zY.rc (.v qI .e) ?_) | (refine zY.in_ [5] rfl ?_; refine zY.v rfl rfl (zG (c) rfl rfl rfl (by decide)) ?_)) | (refine zZ.is ?_; first | refine zZ.seq ?_ | (refine zZ.iR 0 ?_; refine zZ.rc [0] [] (r := (.v zW (.v zW .e))) (h := ?_)) | (refine zZ.iR 1 ?_; refine zZ.rc [0, 2, 3] [] (r := (.v zX .e)) (h := ?_)) | (refine zZ.iR 2 ?_; refine zZ.rc [0, 2, 3] [] (r := (.v zW (.v zW .e))) (h := ?_)) | refine zZ.yB rfl bA ?_ | refine zZ.ret ?_) | refine zK.r ?_)
    all_goals exact ⟨.inl rfl, givesT (ts := [2, 3]) rfl (by decide) rfl⟩
theorem vertexRef_fn (u : Int) : Fn Tryz.prog 47 [.val (.int .i64 u)] (.tup [.val (.int .u64 (vkF u)), .val (.int .i64 (vkE u))]) := by
  refine xV Tryz.func47 rfl Tryz.ntmps47 (Nat.le_of_ble_eq_true rfl) ?_
  by_cases h0 : u < 0
  · have e : vOK u = false := decide_eq_false fun h => by omega
    have g1 : decide (u < 0) = true := decide_eq_true h0
    unfold vkF vkE
    rw [e]
    repeat' (first | (refine zY.nil ?_) | (refine zZ.is ?_; first | refine zZ.seq ?_ | (refine zZ.iR 0 ?_; refine zZ.rc [0] [] (r := (.v zW (.v zW .e))) (h := ?_)) | (refine zZ.iR 1 ?_; refine zZ.rc [0, 2, 3] [] (r := (.v zX (.v yU (.v zX (.gF (.gF (.v yH .e))))))) (h := ?_)) | (refine zZ.iR 2 ?_; refine zZ.rc [0, 2, 3] [] (r := (.v zW (.v zW .e))) (h := ?_)) | refine zZ.yB rfl bA ?_ | refine zZ.ret ?_) | refine zK.r ?_)
    all_goals exact ⟨.inl rfl, givesT (ts := [2, 3]) rfl (by decide) rfl⟩
  · have g1 : decide (u < 0) = false := decide_eq_false h0
    by_cases h1 : u > 1073741823
    · have e : vOK u = false := decide_eq_false fun h => by omega
      have g2 : decide ((1073741823 : Int) < u) = true := decide_eq_true h1
      unfold vkF vkE
      rw [e]
      repeat' (first | (refine zY.nil ?_) | (refine zZ.is ?_; first | refine zZ.seq ?_ | (refine zZ.iR 0 ?_; refine zZ.rc [0] [] (r := (.v zW (.v zW .e))) (h := ?_)) | (refine zZ.iR 1 ?_; refine zZ.rc [0, 2, 3] [] (r := (.v zX (.v yU (.v zX (.gY zX (.gY v45_0 (.v yP .e))))))) (h := ?_)) | (refine zZ.iR 2 ?_; refine zZ.rc [0, 2, 3] [] (r := (.v zW (.v zW .e))) (h := ?_)) | refine zZ.yB rfl bA ?_ | refine zZ.ret ?_) | refine zK.r ?_)
      all_goals exact ⟨.inl rfl, givesT (ts := [2, 3]) rfl (by decide) rfl⟩
    · have e : vOK u = true := decide_eq_true (by omega)
      have g2 : decide ((1073741823 : Int) < u) = false := decide_eq_false h1
      have g3 : IntKind.u64.wrap u = u := wrap_u64 _ (by omega)
      have g4 : IntKind.u64.wrap (u * 2147483648) = u * 2147483648 := wrap_u64 _ (by omega)
      unfold vkF vkE
      rw [e]
      repeat' (first | (refine zY.nil ?_) | (refine zZ.is ?_; first | refine zZ.seq ?_ | (refine zZ.iR 0 ?_; refine zZ.rc [0] [] (r := (.v zW (.v zW .e))) (h := ?_)) | (refine zZ.iR 1 ?_; refine zZ.rc [0, 2, 3] [] (r := (.v zX (.v yU (.v zX (.gY zX (.gY v45_0 (.v yP .e))))))) (h := ?_)) | (refine zZ.iR 3 ?_; refine zZ.rc [0, 2, 3] [] (r := (.v zX (.v qH (.v v32_0 (.v zW (.v zW .e)))))) (h := ?_)) | refine zZ.yA rfl bA ?_ | refine zZ.skip ?_ | refine zZ.ret ?_))
      all_goals exact ⟨.inl rfl, givesT (ts := [2, 3]) rfl (by decide) rfl⟩
end
section
theorem vB (w : Int) : Rf (xA w) := ⟨firstF_lo w, by have := firstF_hi w; omega⟩
theorem topF_U {r g : Int} (hr : Rf r) : U (topF r g) := by
  have h1 := hr.lo
  have h2 := hr.hi
  unfold topF U
  constructor <;> omega
def vN (t : Int) (_ : Unit) : Pr (Unit ⊕ Int) := (xW 1).bind fun w => bif decide (xA w = 0) then .ret (.inr 0) else (xW (yJ t (xA w) 7)).bind fun n => (casP 1 w (topF (xA n) (tagF w + 1))).bind fun d => .ret (bif d then .inr (xA w) else .inl ())
def popP (t : Int) : Pr Int := .loop (vN t) many ()
theorem fine_popR (t : Int) (u : Unit) : (vN t u).yV (Next yes Rf) :=
  .bind (yC _) fun w hw => .cond (Pr.yV.ret rf_0) (.bind (yC _) fun n _ => .bind (vI _ hw (topF_U (vB n))) fun d _ => Pr.yV.ret (by cases d; exact trivial; exact vB w))
theorem fine_pop (t : Int) : (popP t).yV Rf := Pr.yV.loop yes (fun _ => ⟨_, _, rfl⟩) (fun u _ => fine_popR t u) () trivial
def vV (t r : Int) (_ : Unit) : Pr (Unit ⊕ Unit) := (xW 1).bind fun w => (kY (yJ t r 7) (xA w)).bind fun _ => (casP 1 w (topF r (tagF w + 1))).bind fun d => .ret (bif d then .inr () else .inl ())
def pushP (t r : Int) : Pr Unit := .loop (vV t r) many ()
theorem fine_pushR (t : Int) {r : Int} (hr : Rf r) (u : Unit) : (vV t r u).yV (Next yes yes) :=
  .bind (yC _) fun w hw => .bind (vD _ (vB w).u) fun _ _ => .bind (vI _ hw (topF_U hr)) fun d _ => Pr.yV.ret (by cases d <;> trivial)
theorem fine_push (t : Int) {r : Int} (hr : Rf r) : (pushP t r).yV yes := Pr.yV.loop yes (fun _ => ⟨_, _, rfl⟩) (fun u _ => fine_pushR t hr u) () trivial
abbrev wr1 (e : Int) : Int := IntKind.u64.wrap (e + 1)
abbrev wr2 (e : Int) : Int := IntKind.u64.wrap (e + 2)
theorem wr1_U (e : Int) : U (wr1 e) := wrapU_U _
theorem wr2_U (e : Int) : U (wr2 e) := wrapU_U _
def pinP (me : Int) : Pr Unit := (xW 3).bind fun e => kY (8 + me) (wr1 e)
def unpinP (me : Int) : Pr Unit := kY (8 + me) 0
theorem fine_pin (me : Int) : (pinP me).yV yes := .bind (yC _) fun _ _ => vD _ (wr1_U _)
theorem fine_unpin (me : Int) : (unpinP me).yV yes := vD _ U.zero
def scanP (e : Int) : Nat → Nat → Pr Bool
  | 0, _ => .ret true
  | k + 1, i => (xW (8 + i)).bind fun p => bif !decide (p = 0) && !decide (p = wr1 e) then .ret false else scanP e k (i + 1)
theorem fine_scan (e : Int) : ∀ k i, (scanP e k i).yV yes
  | 0, _ => Pr.yV.ret trivial
  | k + 1, i => .bind (yC _) fun _ _ => .cond (Pr.yV.ret trivial) (fine_scan e k (i + 1))
def endC (x : Int) : Int ⊕ Unit := bif decide (x = 0) then .inr () else .inl x
def vE (t : Int) (yb : Int → Pr Unit) (r : Int) : Pr (Int ⊕ Unit) := (xW (yJ t r 7)).bind fun n => (yb r).bind fun _ => .ret (endC (xA n))
def chainL (t : Int) (yb : Int → Pr Unit) (n : Nat) (r : Int) : Pr Unit := bif decide (r = 0) then .ret () else .loop (vE t yb) n r
def chainP (t : Int) (yb : Int → Pr Unit) (h : Int) : Pr Unit := chainL t yb many (xA h)
theorem endC_ok (w : Int) : Next Rf yes (endC (xA w)) := by
  unfold endC
  cases decide (xA w = 0)
  · exact vB w
  · trivial
theorem fine_chainR (t : Int) {yb : Int → Pr Unit} (hy : ∀ r, Rf r → (yb r).yV yes) (r : Int) (hr : Rf r) : (vE t yb r).yV (Next Rf yes) := .bind (yC _) fun n _ => .bind (hy r hr) fun _ _ => Pr.yV.ret (endC_ok n)
theorem fine_chainL (t : Int) {yb : Int → Pr Unit} (hy : ∀ r, Rf r → (yb r).yV yes) (r : Int) (hr : Rf r) : (chainL t yb many r).yV yes := .cond (Pr.yV.ret trivial) (Pr.yV.loop Rf (fun _ => ⟨_, _, rfl⟩) (fine_chainR t hy) r hr)
theorem chainL_eq (t : Int) (yb : Int → Pr Unit) (n : Nat) (x : Int) : Sum.elim (Pr.loop (vE t yb) n) .ret (endC x) = chainL t yb n x := by
  unfold endC chainL
  cases decide (x = 0) <;> rfl
def qK (t e : Int) (ok : Bool) : Pr Bool := bif ok then (casP 3 e (wr1 e)).bind fun d => bif d then (swapP (wP (wr2 e)) 0).bind fun h => (chainP t (pushP t) h).bind fun _ => .ret true else .ret false else .ret false
def xG (t : Int) : Pr Bool := (xW 3).bind fun e => (scanP e t.toNat 0).bind (qK t e)
theorem fine_advR (t : Int) {e : Int} (he : U e) (ok : Bool) : (qK t e ok).yV yes :=
  .cond (.bind (vI _ he (wr1_U e)) fun _ _ => .cond (.bind (fine_swap _ U.zero) fun h _ => .bind (fine_chainL t (fun r hr => fine_push t hr) _ (vB h)) fun _ _ => Pr.yV.ret trivial) (Pr.yV.ret trivial)) (Pr.yV.ret trivial)
theorem fine_advance (t : Int) : (xG t).yV yes := .bind (yC _) fun e he => .bind (fine_scan e _ _) fun ok _ => fine_advR t he ok
def allocL (t me : Int) : Nat → Int → Pr Int
  | 0, r => .ret r
  | k + 1, r => bif decide (r = 0) then (pinP me).bind fun _ => (xG t).bind fun _ => (popP t).bind fun r => allocL t me k r else .ret r
def allocP (t me : Int) : Pr Int := (popP t).bind (allocL t me 3)
theorem fine_allocL (t me : Int) : ∀ k r, Rf r → (allocL t me k r).yV Rf
  | 0, _, h => Pr.yV.ret h
  | k + 1, r, h => .cond (.bind (fine_pin me) fun _ _ => .bind (fine_advance t) fun _ _ => .bind (fine_pop t) fun r hr => fine_allocL t me k r hr) (Pr.yV.ret h)
theorem fine_alloc (t me : Int) : (allocP t me).yV Rf := .bind (fine_pop t) fun r hr => fine_allocL t me 3 r hr
structure OutB where
  e : Int
  is : Bool
  ok : Bool
  alt : Bool
def AltOK (o : OutB) : Prop := o.ok = true → o.alt = o.is
def toldP (t r b : Int) (is : Bool) : Pr OutB := (saveP t r b).bind fun ok => .ret ⟨0, is, ok, is⟩
theorem fine_told (t r : Int) {b : Int} (is : Bool) (hb : b = 1 ∨ b = 2) : (toldP t r b is).yV AltOK := .bind (fine_save t r b hb) fun _ _ => Pr.yV.ret fun _ => rfl
def wJ (t k r : Int) (_ : Unit) : Pr (Unit ⊕ OutB) := (wR t k).bind fun f => bif f.ok then bif f.is then (pushP t r).bind fun _ => (toldP t f.x 1 false).bind fun o => .ret (.inr o)
  else (linkP t f.p f.x r).bind fun d => bif d then (toldP t r 1 true).bind fun o => .ret (.inr o) else .ret (.inl ())
  else (pushP t r).bind fun _ => .ret (.inr ⟨0, false, false, false⟩)
def vaddP (t me k : Int) : Pr OutB := (wR t k).bind fun f => bif f.ok then bif f.is then toldP t f.x 1 false
  else (allocP t me).bind fun r => bif decide (r = 0) then .ret ⟨3, false, true, false⟩ else (makeP t r k 0 0 0 0).bind fun _ => .loop (wJ t k r) many ()
  else .ret ⟨0, false, false, false⟩
theorem search_ask (t k : Int) {β : Type} (f : w9 → Pr β) : ∃ q g, (wR t k).bind f = .ask q g := by
  unfold wR alongP walkP
  exact ⟨_, _, rfl⟩
theorem fine_addR (t k : Int) {r : Int} (hr : Rf r) (u : Unit) : (wJ t k r u).yV (Next yes AltOK) :=
  .bind (fine_search t k) fun f hf => .cond (.cond (.bind (fine_push t hr) fun _ _ => .bind (fine_told t _ _ (.inl rfl)) fun _ h => Pr.yV.ret h) (.bind (fine_link t _ hf.x hr) fun _ _ => .cond (.bind (fine_told t _ _ (.inl rfl)) fun _ h => Pr.yV.ret h) (Pr.yV.ret trivial)))
    (.bind (fine_push t hr) fun _ _ => Pr.yV.ret fun _ => rfl)
theorem fine_addL (t k : Int) {r : Int} (hr : Rf r) : (Pr.loop (wJ t k r) many ()).yV AltOK := Pr.yV.loop yes (fun _ => search_ask t k _) (fun u _ => fine_addR t k hr u) () trivial
theorem fine_vadd (t me : Int) {k : Int} (hk : U k) : (vaddP t me k).yV AltOK :=
  .bind (fine_search t k) fun f _ => .cond (.cond (fine_told t _ _ (.inl rfl)) (.bind (fine_alloc t me) fun r hr => .cond (Pr.yV.ret fun _ => rfl) (.bind (fine_make t r hk U.zero U.zero U.zero U.zero) fun _ _ => fine_addL t k hr))) (Pr.yV.ret fun _ => rfl)
def wB (t k : Int) (_ : Unit) : Pr (Unit ⊕ OutB) := (wR t k).bind fun f => bif f.ok then bif f.is then (markP t f.x).bind fun d => bif d then (xW (yJ t f.x 2)).bind fun w => (saveP t f.x 2).bind fun ok => bif ok then (qX t (w / 4)).bind fun s => .ret (.inr ⟨0, true, s, true⟩)
  else .ret (.inr ⟨0, false, false, true⟩) else .ret (.inl ()) else .ret (.inr ⟨0, false, true, false⟩) else .ret (.inr ⟨0, false, false, false⟩)
def vremP (t k : Int) : Pr OutB := .loop (wB t k) many ()
theorem fine_remR (t k : Int) (u : Unit) : (wB t k u).yV (Next yes AltOK) :=
  .bind (fine_search t k) fun f hf => .cond (.cond (.bind (fine_mark t _) fun _ _ => .cond (.bind (yC _) fun _ _ => .bind (fine_save t _ _ (.inr rfl)) fun _ _ => .cond (.bind (fine_sweep t _) fun _ _ => Pr.yV.ret fun _ => rfl) (Pr.yV.ret fun h => by cases h)) (Pr.yV.ret trivial)) (Pr.yV.ret fun _ => rfl)) (Pr.yV.ret fun _ => rfl)
theorem fine_vrem (t k : Int) : (vremP t k).yV AltOK := Pr.yV.loop yes (fun _ => search_ask t k _) (fun u _ => fine_remR t k u) () trivial
def vhasP (t k : Int) : Pr OutB := (seekP t 0 k).bind fun f => bif f.2 then (xW (yJ t f.1 0)).bind fun w => bif decide (w % 2 = 1) then toldP t f.1 2 false else toldP t f.1 1 true else .ret ⟨0, false, true, false⟩
theorem fine_vhas (t k : Int) : (vhasP t k).yV AltOK := .bind (fine_seek t 0 k) fun f hf => .cond (.bind (yC _) fun _ _ => .cond (fine_told t _ _ (.inr rfl)) (fine_told t _ _ (.inl rfl))) (Pr.yV.ret fun _ => rfl)
def leaveP (me : Int) (o : OutB) : Pr OutN := bif o.ok then (unpinP me).bind fun _ => .ret ⟨o.e, o.is, 0, 0⟩ else (kY 7 1).bind fun _ => (unpinP me).bind fun _ => .ret ⟨7, false, 0, 0⟩
def inP (me : Int) (body : Pr OutB) : Pr OutN := (xW 7).bind fun w => bif !decide (w = 0) then .ret ⟨6, false, 0, 0⟩ else (pinP me).bind fun _ => body.bind (leaveP me)
theorem fine_leave (me : Int) (o : OutB) : (leaveP me o).yV yes := .cond (.bind (fine_unpin me) fun _ _ => Pr.yV.ret trivial) (.bind (vD _ (by unfold U; decide)) fun _ _ => .bind (fine_unpin me) fun _ _ => Pr.yV.ret trivial)
theorem fine_in (me : Int) {body : Pr OutB} (h : body.yV AltOK) : (inP me body).yV yes := .bind (yC _) fun _ _ => .cond (Pr.yV.ret trivial) (.bind (fine_pin me) fun _ _ => .bind h fun o _ => fine_leave me o)
def vopB (t me k u : Int) : Pr OutB := bif decide (k = 11) then vaddP t me (vkF u) else bif decide (k = 12) then vremP t (vkF u) else vhasP t (vkF u)
def qW (t me k u : Int) : Pr OutN := bif decide (k = 11) || (decide (k = 12) || decide (k = 13)) then bif vOK u then inP me (vopB t me k u) else .ret ⟨4, false, 0, 0⟩ else .ret ⟨1, false, 0, 0⟩
theorem vkF_U (u : Int) : U (vkF u) := by
  unfold vkF U
  cases h : vOK u
  · show (0 : Int) ≤ 0 ∧ (0 : Int) < _
    decide
  · have := of_decide_eq_true h
    show 0 ≤ u * 2147483648 ∧ u * 2147483648 < 18446744073709551616
    constructor <;> omega
theorem fine_vopB (t me k u : Int) : (vopB t me k u).yV AltOK := .cond (fine_vadd t me (vkF_U u)) (.cond (fine_vrem t _) (fine_vhas t _))
theorem fine_vop (t me k u : Int) : (qW t me k u).yV yes := .cond (.cond (fine_in me (fine_vopB t me k u)) (Pr.yV.ret trivial)) (Pr.yV.ret trivial)
end
section
attribute [local irreducible] zY zZ Step zV Sub zF zA Fn
theorem kX {t r : Int} (h : Rc t r) (f : Int) (hf : 0 ≤ f ∧ f ≤ 7) : Fn Tryz.prog 104 [.val (.int .i64 t), .val (.int .i64 r), .val (.int .i64 f)] (.p (.val (.int .i64 (yJ t r f)))) := field_fn t r f h.1 ⟨by have := h.2.1; omega, h.2.2⟩ (by unfold Small; omega)
def yL (b : Int) : Blk := .box 3 [.p (.val (.int .i64 b))]
def entB (k s y u v x : Int) : Blk := .box 158 [.p (.val (.int .i64 k)), .p (.val (.int .u64 s)), .p (.val (.int .u64 y)), .p (.val (.int .u64 u)), .p (.val (.int .u64 v)), .p (.val (.int .u64 x))]
theorem flag_h (H : Hnd) (s0 : H.σ) {t r : Int} (h : Rc t r) : FnH H 190 [H.doA, .p (.val (.int .i64 t)), .p (.val (.int .i64 r))] [] (fun x => .p (.val (.int .u64 x))) (fun _ => []) U s0 (flagP t r) := by
  unfold Hnd.doA
  refine yO Tryz.func190 rfl Tryz.ntmps190 (Nat.le_of_ble_eq_true rfl) (by decide) (yC _) fun hok hns => ?_
  repeat' (first | (refine zY.is ?_; first | refine zY.nil ?_ | (refine zY.at_ 6 rfl ?_; refine zY.rc (.v zW .e) ?_) | (refine zY.in_ [10] rfl ?_; refine zY.v rfl rfl (zG (kX h 2 (by decide)) rfl rfl rfl (by decide)) ?_) | (refine zY.in_ [11] rfl ?_; refine zY.ofT rfl (zA.hd (i := []) (f := qM H _ _) (r := fun x s e g hk => ?_) (p := fun q s e => ?_) (t := ?_)))) | (refine zZ.is ?_; first | refine zZ.seq ?_ | (refine zZ.iR 0 ?_; refine zZ.rc [0, 1, 2] [1000, 1001, 1002] (r := (.v zW .e)) (h := ?_)) | (refine zZ.iR 1 ?_; refine zZ.rc [0, 1, 2, 6] [1000, 1001, 1002] (r := (.v xI (.v zX (.v zX .e)))) (h := ?_)) | refine zZ.ret ?_) | refine zK.p ?_)
  all_goals (first | exact fun e => hns (by clear hns; simp only [flagP, run_bind, zD, zB, Held.zQ, Held.zC, Held.zJ, cond_true, cond_false, *]) | exact .pan (q := q) rfl aQ_ (by repeat' exact trivial) (by simp only [flagP, run_bind, zD, zB, Held.zQ, Held.zC, Held.zJ, cond_true, cond_false, *]) | exact .ret (by exact .inl rfl) (by exact .one rfl rfl) aQ_ (by simp only [flagP, run_bind, zD, zB, Held.zQ, Held.zC, Held.zJ, cond_true, cond_false, *] <;> rfl))
theorem flagL_h (H : Hnd) (s0 : H.σ) {t r : Int} (h : Rc t r) : FnH H 190 [H.doA, .p (.val (.int .i64 t)), .p (.val (.int .i64 r))] [] (fun x => .p (.val (.int .u64 x))) (fun _ => []) U s0 (xW (yJ t r 2)) := flag_h H s0 h
theorem over1_fn (f b : Int) (h0 : 0 ≤ f) (h1 : f < 18446744073709551616) : FnE Tryz.prog 147 [.p (.val (.int .u64 f)), .ptr 1000 0] [yL b] (.ret (.p (.val (.bool (ov1 b f))))) [yL b] := by
  have c1 := has_fn f b h0 h1
  refine fn_ofE Tryz.func147 rfl Tryz.ntmps147 (Nat.le_of_ble_eq_true rfl) (by decide) ?_
  repeat' (first | (refine zY.is ?_; first | refine zY.nil ?_ | (refine zY.at_ 3 rfl ?_; refine zY.rc (.v zW .e) ?_) | (refine zY.in_ [6] rfl ?_; refine zY.v rfl rfl (zG (c1) rfl rfl rfl (by decide)) ?_)) | (refine zZ.is ?_; first | refine zZ.seq ?_ | (refine zZ.iR 0 ?_; refine zZ.rc [0, 1] [1000] (r := (.v zW .e)) (h := ?_)) | (refine zZ.iR 1 ?_; refine zZ.rc [0, 1, 3] [1000] (r := (.v zX (.v zL .e))) (h := ?_)) | refine zZ.ret ?_))
  all_goals exact ⟨(by exact .inl rfl), _, Sub.refl _, .one rfl rfl, x9 aQ_⟩
theorem over2_fn (g k s y u v x b : Int) (h0 : 0 ≤ g) (h1 : g < 18446744073709551616) : FnE Tryz.prog 213 [.p (.val (.int .u64 g)), .ptr 1000 0, .ptr 1001 0] [entB k s y u v x, yL b] (.ret (.p (.val (.bool (over2 s b g))))) [entB k s y u v x, yL b] := by
  have c1 := has_fn g b h0 h1
  have c2 := wstamp_fn g
  refine fn_ofE Tryz.func213 rfl Tryz.ntmps213 (Nat.le_of_ble_eq_true rfl) (by decide) ?_
  unfold over2
  cases hb : decide (g / 4 = s)
  case false =>
    have hb2 : (!decide (g / 4 = s)) = true := by rw [hb]; rfl
    repeat' (first | (refine zY.nil ?_) | (refine zZ.is ?_; first | refine zZ.seq ?_ | (refine zZ.iR 0 ?_; refine zZ.rc [0, 1, 2] [1000, 1001] (r := (.v zW .e)) (h := ?_)) | (refine zZ.iR 1 ?_; refine zZ.rk [0, 1, 2, 4] [1000, 1001] ?_; refine zZ.draws ?_) | refine zZ.ret ?_) | (refine Draws.is ?_; first | refine Draws.rc (.v zX .e) ?_ | refine Draws.rc (.v zH (.v zL (.v vY (.v zX (.gF (.gF (.gF (.v yH (.v zW .e))))))))) ?_ | (refine Draws.in_ [6] rfl ?_; refine Draws.v rfl rfl (zG (c2) rfl rfl rfl (by decide)) ?_) | refine Draws.done (by kernel_rfl) (by kernel_rfl) (by kernel_rfl) ?_) | (refine zF.nil ?_))
    all_goals exact ⟨(by exact .inl rfl), _, Sub.refl _, .one rfl rfl, x9 aQ_⟩
  case true =>
    have hb2 : (!decide (g / 4 = s)) = false := by rw [hb]; rfl
    repeat' (first | (refine zY.nil ?_) | (refine zZ.is ?_; first | refine zZ.seq ?_ | (refine zZ.iR 0 ?_; refine zZ.rc [0, 1, 2] [1000, 1001] (r := (.v zW .e)) (h := ?_)) | (refine zZ.iR 1 ?_; refine zZ.rk [0, 1, 2, 4] [1000, 1001] ?_; refine zZ.draws ?_) | refine zZ.ret ?_) | (refine Draws.is ?_; first | refine Draws.rc (.v zX .e) ?_ | refine Draws.rc (.v zH (.v zL (.v vY (.v zX (.gY zX (.gY zL .e)))))) ?_ | refine Draws.rc (.v yP (.v zW .e)) ?_ | (refine Draws.in_ [6] rfl ?_; refine Draws.v rfl rfl (zG (c2) rfl rfl rfl (by decide)) ?_) | (refine Draws.in_ [13] rfl ?_; refine Draws.gY rfl rfl (by decide) rfl bA rfl (zG (c1) rfl rfl rfl (by decide)) ?_) | refine Draws.done (by kernel_rfl) (by kernel_rfl) (by kernel_rfl) ?_) | (refine zF.nil ?_))
    all_goals exact ⟨(by exact .inl rfl), _, Sub.refl _, .one rfl rfl, x9 aQ_⟩
end
section
attribute [local irreducible] zY zZ Step zV Sub zF zA Fn
def setS1 (H : Hnd) (t r b : Int) (s : H.σ) : AS :=
  { t := [(0, H.doA), (1, .p (.val (.int .i64 t))), (2, .p (.val (.int .i64 r))), (3, .p (.val (.int .i64 b))), (4, .clo 147 [1003])], s := [(1000, H.b0 s), (1001, H.b1 s), (1002, H.b2 s), (1003, yL b)] }
theorem set1_h (H : Hnd) (s0 : H.σ) {t r b : Int} (h : Rc t r) (hb : b = 1 ∨ b = 2) : FnH H 146 [H.doA, .p (.val (.int .i64 t)), .p (.val (.int .i64 r)), .p (.val (.int .i64 b)), .clo 147 [1003]] [yL b] (fun _ => .any) (fun _ => [yL b]) yes s0 (setP (ov1 b) (yJ t r 2) b) := by
  unfold Hnd.doA
  have hwb : IntKind.u64.wrap b = b := wrap_u64 _ (by omega)
  have cf := kX h 2 (by decide)
  have F1 := fun f (h0 : U f) (h1 : ov1 b f = false) => (orBit f b h0.lo h0.hi hb h1).1
  refine yO Tryz.func146 rfl Tryz.ntmps146 (Nat.le_of_ble_eq_true rfl) (by decide) (fine_set hb fun _ h => h) fun hok hns => ?_
  repeat' ((refine zZ.is ?_; refine zZ.block ?_))
  refine zZ.loop (fun p : Nat × H.σ => setS1 H t r b p.2) (fun p => H.ok p.2 ∧ (Pr.loop (y5 (ov1 b) (yJ t r 2) b) p.1 ()).run H.st p.2 = (setP (ov1 b) (yJ t r 2) b).run H.st s0) (fun p => p.1) (many, s0) ?h0 ⟨hok, rfl⟩ ?rd
  case h0 =>
    exact yM K_d K_u
  case rd =>
    rintro ⟨n, s1⟩ ⟨hok1, ho⟩
    cases n with
    | zero => exact absurd ho.symm hns
    | succ n =>
      dsimp only at hok1 ho ⊢
      rw [Pr.loop_succ] at ho
      rw [← ho] at hns ⊢
      repeat' (first | (refine zY.is ?_; first | refine zY.nil ?_ | (refine zY.at_ 10 rfl ?_; refine zY.rc (.v zW .e) ?_) | (refine zY.at_ 18 rfl ?_; refine zY.rc (.v zX .e) ?_) | (refine zY.at_ 19 rfl ?_; refine zY.rc (.gY xI (.gY zX (.gY zX .e))) ?_) | (refine zY.at_ 19 rfl ?_; refine zY.rc (.gF (.gF (.gF (.gF (.gF (.gF (.gF (.gF (.gF (.gF (.v yH .e))))))))))) ?_) | (refine zY.at_ 23 rfl ?_; refine zY.rc (.gY zX (.gY zX (.gY zX (.gY qH (.gY v36_1 .e))))) ?_) | (refine zY.at_ 29 rfl ?_; refine zY.rc (.v yP .e) ?_) | (refine zY.in_ [17] rfl ?_; refine zY.ofT rfl (zA.eR [1003] (over1_fn _ b (U.lo (by assumption)) (U.hi (by assumption))) ?_)) | (refine zY.in_ [14] rfl ?_; refine zY.ofT rfl (zA.hd (i := []) (f := flagL_h H _ h) (r := fun x s e g hk => ?_) (p := fun q s e => ?_) (t := ?_))) | (refine zY.in_ [22] rfl ?_; refine zY.gY rfl rfl (by decide) rfl bA rfl (by decide) (zG (cf) rfl rfl rfl (by decide)) ?_) | (refine zY.in_ [28] rfl ?_; refine zY.ofTg rfl rfl (by decide) rfl bA (zA.hd (i := []) (f := cas_h H _ _ _ _ (by assumption) (orU (by assumption) hb (by assumption))) (r := fun x s e g hk => ?_) (p := fun q s e => ?_) (t := ?_))) | (fail_if_success refine zY.known rfl rfl rfl (by fail) ?_); refine zY.split rfl rfl rfl (fun h => ?_) (fun h => ?_)) | (refine zZ.is ?_; first | refine zZ.seq ?_ | (refine zZ.iR 0 ?_; refine zZ.rc [0, 1, 2, 3, 4, 10, 29] [1000, 1001, 1002, 1003] (r := (.v xI (.v zX (.v zX .e)))) (h := ?_)) | (refine zZ.iR 1 ?_; refine zZ.rc [0, 1, 2, 3, 4, 10, 29] [1000, 1001, 1002, 1003] (r := (.v xI (.v zX .e))) (h := ?_)) | refine zZ.yB rfl bA ?_ | refine zZ.cond rfl (fun h => ?_) (fun h => ?_) | refine zZ.skip ?_ | refine zZ.block ?_ | refine zZ.ret ?_) | refine zK.n ?_ | refine zK.r ?_ | refine zI.n ?_ | refine zI.r ?_)
      all_goals (first | exact fun e => hns (by clear hns; simp only [y5, run_bind, zD, zB, Held.zQ, Held.zC, Held.zJ, cond_true, cond_false, *]) | exact .pan (q := q) rfl aQ_ (by repeat' first | exact trivial | exact ⟨_, rfl, rfl⟩ | constructor) (by simp only [y5, run_bind, zD, zB, Held.zQ, Held.zC, Held.zJ, cond_true, cond_false, *]) | exact .ret (x := ()) (by exact .inl rfl) (by exact .none rfl) aQ_ (by simp only [y5, run_bind, zD, zB, Held.zQ, Held.zC, Held.zJ, cond_true, cond_false, *]) | skip)
      refine ⟨(n, s), ?_, ⟨by assumption, ?_⟩, Nat.lt_succ_self n⟩
      · exact yM K_d K_u
      · simp only [y5, run_bind, zD, zB, Held.zQ, cond_true, cond_false, *]
def setS2 (H : Hnd) (t r b ek es ey eu ev ex : Int) (s : H.σ) : AS :=
  { t := [(0, H.doA), (1, .p (.val (.int .i64 t))), (2, .p (.val (.int .i64 r))), (3, .p (.val (.int .i64 b))), (4, .clo 213 [1003, 1004])], s := [(1000, H.b0 s), (1001, H.b1 s), (1002, H.b2 s), (1003, entB ek es ey eu ev ex), (1004, yL b)] }
theorem set2_h (H : Hnd) (s0 : H.σ) {t r b : Int} (h : Rc t r) (hb : b = 1 ∨ b = 2) (ek es ey eu ev ex : Int) : FnH H 146 [H.doA, .p (.val (.int .i64 t)), .p (.val (.int .i64 r)), .p (.val (.int .i64 b)), .clo 213 [1003, 1004]] [entB ek es ey eu ev ex, yL b] (fun _ => .any) (fun _ => [entB ek es ey eu ev ex, yL b]) yes s0 (setP (over2 es b) (yJ t r 2) b) := by
  unfold Hnd.doA
  have hwb : IntKind.u64.wrap b = b := wrap_u64 _ (by omega)
  have cf := kX h 2 (by decide)
  have F1 := fun f (h0 : U f) (h1 : over2 es b f = false) => (orBit f b h0.lo h0.hi hb (over2_has h1)).1
  refine yO Tryz.func146 rfl Tryz.ntmps146 (Nat.le_of_ble_eq_true rfl) (by decide) (fine_set hb fun _ h => over2_has h) fun hok hns => ?_
  repeat' ((refine zZ.is ?_; refine zZ.block ?_))
  refine zZ.loop (fun p : Nat × H.σ => setS2 H t r b ek es ey eu ev ex p.2) (fun p => H.ok p.2 ∧ (Pr.loop (y5 (over2 es b) (yJ t r 2) b) p.1 ()).run H.st p.2 = (setP (over2 es b) (yJ t r 2) b).run H.st s0) (fun p => p.1) (many, s0) ?h0 ⟨hok, rfl⟩ ?rd
  case h0 =>
    exact yM K_d K_v
  case rd =>
    rintro ⟨n, s1⟩ ⟨hok1, ho⟩
    cases n with
    | zero => exact absurd ho.symm hns
    | succ n =>
      dsimp only at hok1 ho ⊢
      rw [Pr.loop_succ] at ho
      rw [← ho] at hns ⊢
      repeat' (first | (refine zY.is ?_; first | refine zY.nil ?_ | (refine zY.at_ 10 rfl ?_; refine zY.rc (.v zW .e) ?_) | (refine zY.at_ 18 rfl ?_; refine zY.rc (.v zX .e) ?_) | (refine zY.at_ 19 rfl ?_; refine zY.rc (.gY xI (.gY zX (.gY zX .e))) ?_) | (refine zY.at_ 19 rfl ?_; refine zY.rc (.gF (.gF (.gF (.gF (.gF (.gF (.gF (.gF (.gF (.gF (.v yH .e))))))))))) ?_) | (refine zY.at_ 23 rfl ?_; refine zY.rc (.gY zX (.gY zX (.gY zX (.gY qH (.gY v36_1 .e))))) ?_) | (refine zY.at_ 29 rfl ?_; refine zY.rc (.v yP .e) ?_) | (refine zY.in_ [17] rfl ?_; refine zY.ofT rfl (zA.eR [1003, 1004] (over2_fn _ ek es ey eu ev ex b (U.lo (by assumption)) (U.hi (by assumption))) ?_)) | (refine zY.in_ [14] rfl ?_; refine zY.ofT rfl (zA.hd (i := []) (f := flagL_h H _ h) (r := fun x s e g hk => ?_) (p := fun q s e => ?_) (t := ?_))) | (refine zY.in_ [22] rfl ?_; refine zY.gY rfl rfl (by decide) rfl bA rfl (by decide) (zG (cf) rfl rfl rfl (by decide)) ?_) | (refine zY.in_ [28] rfl ?_; refine zY.ofTg rfl rfl (by decide) rfl bA (zA.hd (i := []) (f := cas_h H _ _ _ _ (by assumption) (orU (by assumption) hb (over2_has (by assumption)))) (r := fun x s e g hk => ?_) (p := fun q s e => ?_) (t := ?_))) | (fail_if_success refine zY.known rfl rfl rfl (by fail) ?_); refine zY.split rfl rfl rfl (fun h => ?_) (fun h => ?_)) | (refine zZ.is ?_; first | refine zZ.seq ?_ | (refine zZ.iR 0 ?_; refine zZ.rc [0, 1, 2, 3, 4, 10, 29] [1000, 1001, 1002, 1003, 1004] (r := (.v xI (.v zX (.v zX .e)))) (h := ?_)) | (refine zZ.iR 1 ?_; refine zZ.rc [0, 1, 2, 3, 4, 10, 29] [1000, 1001, 1002, 1003, 1004] (r := (.v xI (.v zX .e))) (h := ?_)) | refine zZ.yB rfl bA ?_ | refine zZ.cond rfl (fun h => ?_) (fun h => ?_) | refine zZ.skip ?_ | refine zZ.block ?_ | refine zZ.ret ?_) | refine zK.n ?_ | refine zK.r ?_ | refine zI.n ?_ | refine zI.r ?_)
      all_goals (first | exact fun e => hns (by clear hns; simp only [y5, run_bind, zD, zB, Held.zQ, Held.zC, Held.zJ, cond_true, cond_false, *]) | exact .pan (q := q) rfl aQ_ (by repeat' first | exact trivial | exact ⟨_, rfl, rfl⟩ | constructor) (by simp only [y5, run_bind, zD, zB, Held.zQ, Held.zC, Held.zJ, cond_true, cond_false, *]) | exact .ret (x := ()) (by exact .inl rfl) (by exact .none rfl) aQ_ (by simp only [y5, run_bind, zD, zB, Held.zQ, Held.zC, Held.zJ, cond_true, cond_false, *]) | skip)
      refine ⟨(n, s), ?_, ⟨by assumption, ?_⟩, Nat.lt_succ_self n⟩
      · exact yM K_d K_v
      · simp only [y5, run_bind, zD, zB, Held.zQ, cond_true, cond_false, *]
end
section
attribute [local irreducible] zY zZ Step zV Sub zF zA Fn
theorem setOp_h (H : Hnd) (s0 : H.σ) {t r b : Int} (hR : Rc t r) (hb : b = 1 ∨ b = 2) : FnH H 89 [H.doA, .p (.val (.int .i64 t)), .p (.val (.int .i64 r)), .p (.val (.int .i64 b))] [] (fun _ => .any) (fun _ => []) yes s0 (setP (ov1 b) (yJ t r 2) b) := by
  unfold Hnd.doA
  refine yO Tryz.func89 rfl Tryz.ntmps89 (Nat.le_of_ble_eq_true rfl) (by decide) (fine_set hb fun _ h => h) fun hok hns => ?_
  repeat' (first | (refine zY.is ?_; first | refine zY.nil ?_ | (refine zY.in_ [13] rfl ?_; refine zY.ofT rfl (zA.hd (i := [7]) (f := set1_h H _ hR hb) (r := fun x s e g hk => ?_) (p := fun q s e => ?_) (t := ?_)))) | (refine zZ.is ?_; first | refine zZ.seq ?_ | (refine zZ.iR 0 ?_; refine zZ.rc [0, 1, 2, 3] [7, 1000, 1001, 1002] (r := (.m m18_1 .e)) (h := ?_)) | (refine zZ.iR 1 ?_; refine zZ.rc [0, 1, 2, 7] [7, 1000, 1001, 1002] (r := (.v xI (.v zX (.v zX (.v zL (.v v14_0 .e)))))) (h := ?_))))
  all_goals (first | exact fun e => hns (by clear hns; simp only [run_bind, zD, zB, Held.zQ, Held.zC, Held.zJ, cond_true, cond_false, *]) | exact .pan (q := q) rfl aQ_ (by repeat' exact trivial) (by simp only [run_bind, zD, zB, Held.zQ, Held.zC, Held.zJ, cond_true, cond_false, *]) | exact .ret (x := ()) (by exact .inr rfl) (by exact .none rfl) aQ_ (by simp only [run_bind, zD, zB, Held.zQ, Held.zC, Held.zJ, cond_true, cond_false, *]))
def doB (H : Hnd) : Blk := .box 66 [H.doA]
theorem ld_h (H : Hnd) (s0 : H.σ) {t r f : Int} (hR : Rc t r) (hf : 0 ≤ f ∧ f ≤ 7) :
    FnH H 210 [.p (.val (.int .i64 f)), .ptr 1003 0, .ptr 1004 0, .ptr 1005 0] [doB H, yL t, yL r] (fun x => .p (.val (.int .u64 x))) (fun _ => [doB H, yL t, yL r]) U s0 (xW (yJ t r f)) := by
  unfold doB Hnd.doA
  refine yO Tryz.func210 rfl Tryz.ntmps210 (Nat.le_of_ble_eq_true rfl) (by decide) (yC _) fun hok hns => ?_
  repeat' (first | (refine zY.nil ?_) | (refine zZ.is ?_; first | refine zZ.seq ?_ | (refine zZ.iR 0 ?_; refine zZ.rc [0, 1, 2, 3] [1000, 1001, 1002, 1003, 1004, 1005] (r := (.v zW .e)) (h := ?_)) | (refine zZ.iR 1 ?_; refine zZ.rk [0, 1, 2, 3, 5] [1000, 1001, 1002, 1003, 1004, 1005] ?_; refine zZ.draws ?_) | refine zZ.ret ?_) | (refine Draws.is ?_; first | refine Draws.rc (.v vQ (.v zL (.v zL (.v zX .e)))) ?_ | (refine Draws.in_ [10] rfl ?_; refine Draws.v rfl rfl (zG (kX hR f hf) rfl rfl rfl (by decide)) ?_) | refine Draws.done (by kernel_rfl) (by kernel_rfl) (by kernel_rfl) ?_) | (refine zF.is ?_; first | refine zF.nil ?_ | (refine zF.at_ 5 rfl ?_; refine zF.rc (.v zW .e) ?_) | (refine zF.in_ [11] rfl ?_; refine zF.ofT rfl (zA.hd (i := []) (f := qM H _ _) (r := fun x s e g hk => ?_) (p := fun q s e => ?_) (t := ?_)))))
  all_goals (first | exact fun e => hns (by clear hns; simp only [run_bind, zD, zB, Held.zQ, Held.zC, Held.zJ, cond_true, cond_false, *]) | exact .pan (q := q) rfl aQ_ (by repeat' first | exact trivial | exact ⟨_, rfl, rfl⟩ | constructor) (by simp only [run_bind, zD, zB, Held.zQ, Held.zC, Held.zJ, cond_true, cond_false, *]) | exact .ret (by exact .inl rfl) (by exact .one rfl rfl) aQ_ (by simp only [run_bind, zD, zB, Held.zQ, Held.zC, Held.zJ, cond_true, cond_false, *]))
theorem accQ_cells (qs : List Ned) : ∀ e ∈ qs.map accQ, e.cells.length = 6 := fun e he => by
  obtain ⟨r, _, rfl⟩ := List.mem_map.1 he
  rfl
def diskS (H : Hnd) (qs : List Ned) (p : Nat × H.σ) : AS :=
  { t := [(0, H.doA), (4, .p (.val (.bool false))), (7, .p (.sl (qs.map accQ))), (8, .p (.val (.int .i64 (qs.map accQ).length))), (9, .p (.val (.int .i64 p.1)))], s := [(1000, H.b0 p.2), (1001, H.b1 p.2), (1002, H.b2 p.2)] }
theorem disk_h (H : Hnd) (s0 : H.σ) (qs : List Ned) (hq : qs.length ≤ 1000) (ha : ∀ q ∈ qs, kQ q) :
    FnH H 211 [H.doA, .p (.sl (qs.map accQ))] [] (fun b => .p (.val (.bool b))) (fun _ => []) yes s0 (diskP qs) := by
  have g4 := accQ_cells qs
  unfold Hnd.doA
  refine yO Tryz.func211 rfl Tryz.ntmps211 (Nat.le_of_ble_eq_true rfl) (by decide) (fine_disk ha) fun hok hns => ?_
  repeat' (first | (refine zY.nil ?_) | (refine zZ.is ?_; first | refine zZ.seq ?_ | (refine zZ.iR 0 ?_; refine zZ.rc [0, 1] [6, 1000, 1001, 1002] (r := (.v zW .e)) (h := ?_)) | (refine zZ.iR 1 ?_; refine zZ.rc [0, 1, 4] [6, 1000, 1001, 1002] (r := (.v zX (.v v57_1 (.v zX .e)))) (h := ?_)) | refine zZ.block ?_))
  refine zZ.loop (fun p : Nat × H.σ => diskS H qs p) (fun p => p.1 ≤ qs.length ∧ H.ok p.2 ∧ (diskP (qs.drop p.1)).run H.st p.2 = (diskP qs).run H.st s0) (fun p => qs.length - p.1) (0, s0) ?h0 ⟨Nat.zero_le _, hok, rfl⟩ ?rd
  case h0 =>
    exact yM K_w K_1
  case rd =>
    rintro ⟨k, s1⟩ ⟨hk, hok1, ho⟩
    dsimp only at hk hok1 ho ⊢
    unfold diskS Hnd.doA
    dsimp only
    by_cases hlt : k < qs.length
    · have hdec : decide ((k : Int) < ((qs.map accQ).length : Int)) = true := decide_eq_true (by simp; omega)
      have g5 : (qs.map accQ)[k]? = some (accQ qs[k]) := by rw [List.getElem?_map, List.getElem?_eq_getElem hlt]; rfl
      have hqa : kQ qs[k] := ha _ (List.getElem_mem hlt)
      rw [List.drop_eq_getElem_cons hlt, diskP] at ho
      generalize qs[k] = q at *
      have g6 : IntKind.i64.wrap ((k : Int) + 1) = ((k + 1 : Nat) : Int) := by rw [wrap_i64 _ (by omega)]; omega
      rw [← ho] at hns ⊢
      rw [show (Pr.ask q fun r => bif r.fail then Pr.ret false else diskP (qs.drop (k + 1))) = (Pr.ask q .ret).bind fun r => bif r.fail then .ret false else diskP (qs.drop (k + 1)) from rfl] at ho hns ⊢
      repeat' (first | (refine zY.is ?_; first | refine zY.nil ?_ | (refine zY.at_ 16 rfl ?_; refine zY.rc (.v v11_0 .e) ?_) | (refine zY.in_ [15] rfl ?_; refine zY.ofT rfl (zA.hd (i := []) (f := do_h H _ q hqa) (r := fun x s e g hk => ?_) (p := fun q s e => ?_) (t := ?_)))) | (refine zZ.is ?_; first | refine zZ.seq ?_ | (refine zZ.iR 2 ?_; refine zZ.rc [0, 4, 6, 7, 8, 9, 10, 16] [6, 1000, 1001, 1002] (r := (.v yU .e)) (h := ?_)) | (refine zZ.iR 3 ?_; refine zZ.rc [0, 4, 6, 7, 8, 9, 10, 16] [6, 1000, 1001, 1002] (r := (.v v7_18 (.v v2_7 (.m zT (.w zO .e))))) (h := ?_)) | (refine zZ.iR 4 ?_; refine zZ.rc [0, 4, 6, 7, 8, 9, 10, 16] [6, 1000, 1001, 1002] (r := (.v xI (.v xC .e))) (h := ?_)) | (refine zZ.iR 5 ?_; refine zZ.rc [0, 4, 6, 7, 8, 9, 10, 16] [6, 1000, 1001, 1002] (r := (.v zW .e)) (h := ?_)) | (refine zZ.iR 6 ?_; refine zZ.rc [0, 4, 6, 7, 8, 9, 10, 16] [6, 1000, 1001, 1002] (r := (.v qQ (.v zX .e))) (h := ?_)) | refine zZ.yB rfl bA ?_ | refine zZ.cond rfl (fun h => ?_) (fun h => ?_) | refine zZ.skip ?_ | refine zZ.block ?_ | refine zZ.ret ?_) | refine zK.n ?_ | refine zK.r ?_ | refine zI.r ?_)
      all_goals (first | exact fun e => hns (by clear ho; clear hns; simp only [run_bind, zD, zB, Held.zQ, Held.zC, Held.zJ, cond_true, cond_false, *]) | exact .pan (q := q) rfl aQ_ (by repeat' exact trivial) (by clear ho; simp only [run_bind, zD, zB, Held.zQ, Held.zC, Held.zJ, cond_true, cond_false, *]) | exact .ret (by exact .inl rfl) (by exact .one rfl rfl) aQ_ (by clear ho; simp only [run_bind, zD, zB, Held.zQ, Held.zC, Held.zJ, cond_true, cond_false, *]) | skip)
      refine ⟨(k + 1, _), ?_, ⟨by omega, by assumption, ?_⟩, by dsimp only; omega⟩
      · exact yM K_w K_1
      · clear ho
        simp only [run_bind, zD, zB, Held.zQ, cond_true, cond_false, *]
    · have hdec : decide ((k : Int) < ((qs.map accQ).length : Int)) = false := decide_eq_false (by simp; omega)
      obtain rfl : k = qs.length := by omega
      rw [List.drop_length, diskP] at ho
      rw [← ho] at hns ⊢
      repeat' (first | (refine zY.nil ?_) | (refine zZ.is ?_; first | refine zZ.seq ?_ | (refine zZ.iR 2 ?_; refine zZ.rc [0, 4, 6, 7, 8, 9, 10, 16] [6, 1000, 1001, 1002] (r := (.v yU .e)) (h := ?_)) | (refine zZ.iR 7 ?_; refine zZ.rc [4] [6, 1000, 1001, 1002] (r := (.v zW .e)) (h := ?_)) | refine zZ.yA rfl bA ?_ | refine zZ.exit ?_ | refine zZ.ret ?_))
      all_goals (exact .ret (by exact .inl rfl) (by exact .one rfl rfl) aQ_ (by clear ho; simp only [run_bind, zD, zB, Held.zQ, Held.zC, Held.zJ, cond_true, cond_false, *]))
theorem disk2_h (H : Hnd) (s0 : H.σ) (k s y u v x : Int) :
    FnH H 211 [H.doA, .p (.sl [accV 5 0 0 0 (.sl (byts (bytesE k s y u v x))), accV 6 0 0 0 xZ])] [] (fun b => .p (.val (.bool b))) (fun _ => []) yes s0 (diskP (wrAcc k s y u v x)) :=
  disk_h H s0 (wrAcc k s y u v x) (by unfold wrAcc; simp) (asked_wr k s y u v x)
end
end Go.Proofs.YtohlllohmoojiaaGreatDoor
