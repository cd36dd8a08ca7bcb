/- For every input MergeTorn returns true, and leaves its argument as it was. Conditions: none beyond the given statement. (Part 4 of 9.) -/
import Derived.Test.YtomlhekjgagjaaaDoorMn3
import Derived.Laws.BitsAllLaws
import Derived.RangeFuncLeaves
import Derived.RangeFuncCalls
import Derived.RangeFuncRecord
namespace Go.Proofs.YtomlhekjgagjaaaDoor
set_option maxRecDepth 100000
set_option maxHeartbeats 16000000
open Go Go.RowKit
attribute [local irreducible] zZ zY Step zA Sub zL Fn
def qG (k s y u v x : Int) : List Int := (k % 256 :: bytesOf 8 s) ++ (if k = 1 then bytesOf 8 y ++ bytesOf 8 u ++ bytesOf 8 v ++ bytesOf 8 x else [])
theorem encRef_fn (k s y u v x : Int) (h0 : 0 ≤ s) (h1 : s < 18446744073709551616) (h2 : 0 ≤ y) (h3 : y < 18446744073709551616) (h4 : 0 ≤ u) (h5 : u < 18446744073709551616) (h6 : 0 ≤ v) (h7 : v < 18446744073709551616) (h8 : 0 ≤ x) (h9 : x < 18446744073709551616) :
  Fn Tryd.prog 44 [entV k s y u v x] (.tup (if qP k s y u v x then [.sl (byts (qG k s y u v x)), .val (.int .i64 0)] else [.sl [], .val (.int .i64 1)])) := by
 have hl : ∀ n, (bytesOf 8 n).length = 8 := bytesOf_length 8
 have hw : IntKind.u8.wrap k = k % 256 := by simp [IntKind.wrap, IntKind.signed, IntKind.bits]
 refine wU Tryd.func44 rfl Tryd.ntmps44 (Nat.le_of_ble_eq_true rfl) ?_
 repeat' (first | (refine zY.is ?_; first | refine zY.seq ?_ | (refine zY.iq 0 ?_; refine zY.rqa _ K_5 K_13 ?_; refine zZ.m rfl rfl (vQ rfl rfl rfl (by decide)) ?_; refine zZ.va rfl rfl rfl rfl (by decide) ?_; refine zZ.va rfl rfl rfl rfl (by decide) ?_; refine zZ.nil ?_) | (refine zY.iq 1 ?_; refine zY.rqh _ K_11 K_13 ?_; refine zZ.v rfl rfl (xY rfl rfl rfl (by rfl) (by rfl) rfl (by decide)) ?_; refine zZ.v rfl rfl (by exact yE (mayRef_fn _ _ _ _ _ _ h2 h3) rfl rfl rfl (by decide)) ?_; refine zZ.va rfl rfl rfl rfl (by decide) ?_; refine zZ.nil ?_) | (refine zY.iq 2 ?_; refine zY.rqh _ K_1k K_13 ?_; refine zZ.vm rfl rfl rfl rfl (by decide) ?_; refine zZ.v rfl rfl (xR rfl rfl (by rfl) rfl (by decide)) ?_; refine zZ.nil ?_) | (refine zY.iq 3 ?_; refine zY.rqh _ K_11 K_13 ?_; refine zZ.va rfl rfl rfl rfl (by decide) ?_; refine zZ.va rfl rfl rfl rfl (by decide) ?_; refine zZ.nil ?_) | (refine zY.isR (id := 4) ?_; refine zY.xE [1, 2, 3] [1, 2, 13] (by repeat' first | exact zX.nil | apply zX.p rfl | apply zX.ptr rfl) (by repeat' first | exact zW.nil | apply zW.boxP rfl rfl | apply zW.skip) (zY.draws ?_); all_goals (refine Draws.v rfl rfl (zJ rfl rfl rfl (by decide)) ?_); all_goals (refine Draws.v rfl rfl (zB rfl rfl rfl (by rfl) rfl (by decide)) ?_); all_goals (refine Draws.v rfl rfl (xZ rfl rfl hw rfl (by decide)) ?_); all_goals (refine Draws.m rfl rfl (w_buildB rfl (by decide) (by decide) (by decide) (by decide) (by rfl) (by rfl) (by rfl) (by rfl) rfl (by decide)) ?_); all_goals (refine Draws.v rfl rfl (zJ rfl rfl rfl (by decide)) ?_); all_goals (refine Draws.v rfl rfl (zB rfl rfl rfl (by rfl) rfl (by decide)) ?_); all_goals (refine Draws.v rfl rfl (by exact yE (eight_fn _ h0 h1) rfl rfl rfl (by decide)) ?_); all_goals ((refine Draws.done (by kernel_rfl) (by kernel_rfl) (by kernel_rfl) ?_; refine zL.w rfl (by exact kZ rfl rfl rfl rfl (by (simp only [List.length_append, List.length_cons, List.length_nil, *]; omega)) rfl rfl (by decide)) ?_)); all_goals (refine zL.v rfl rfl (zN rfl rfl rfl (by decide)) ?_); all_goals (refine zL.nil ?_)) | (refine zY.iq 5 ?_; refine zY.rqu _ K_1r K_13 ?_; refine zZ.v rfl rfl (zJ rfl rfl rfl (by decide)) ?_; refine zZ.v rfl rfl (zB rfl rfl rfl (by rfl) rfl (by decide)) ?_; refine zZ.v rfl rfl (yM rfl rfl rfl (by rfl) rfl (by decide)) ?_; refine zZ.nil ?_) | (refine zY.iq 6 ?_; refine zY.rqu _ K_1r K_13 ?_; refine zZ.v rfl rfl (yJ rfl rfl rfl (by decide)) ?_; refine zZ.v rfl rfl (zJ rfl rfl rfl (by decide)) ?_; refine zZ.v rfl rfl (zB rfl rfl rfl (by rfl) rfl (by decide)) ?_; refine zZ.v rfl rfl (by exact yE (eight_fn _ h2 h3) rfl rfl rfl (by decide)) ?_; (refine zZ.w rfl (by exact kZ rfl rfl rfl rfl (by (simp only [List.length_append, List.length_cons, List.length_nil, *]; omega)) rfl rfl (by decide)) ?_); refine zZ.v rfl rfl (zN rfl rfl rfl (by decide)) ?_; refine zZ.nil ?_) | (refine zY.iq 7 ?_; refine zY.rqu _ K_1r K_13 ?_; refine zZ.v rfl rfl (yJ rfl rfl rfl (by decide)) ?_; refine zZ.v rfl rfl (zJ rfl rfl rfl (by decide)) ?_; refine zZ.v rfl rfl (zB rfl rfl rfl (by rfl) rfl (by decide)) ?_; refine zZ.v rfl rfl (by exact yE (eight_fn _ h4 h5) rfl rfl rfl (by decide)) ?_; (refine zZ.w rfl (by exact kZ rfl rfl rfl rfl (by (simp only [List.length_append, List.length_cons, List.length_nil, *]; omega)) rfl rfl (by decide)) ?_); refine zZ.v rfl rfl (zN rfl rfl rfl (by decide)) ?_; refine zZ.nil ?_) | (refine zY.iq 8 ?_; refine zY.rqu _ K_1r K_13 ?_; refine zZ.v rfl rfl (yJ rfl rfl rfl (by decide)) ?_; refine zZ.v rfl rfl (zJ rfl rfl rfl (by decide)) ?_; refine zZ.v rfl rfl (zB rfl rfl rfl (by rfl) rfl (by decide)) ?_; refine zZ.v rfl rfl (by exact yE (eight_fn _ h6 h7) rfl rfl rfl (by decide)) ?_; (refine zZ.w rfl (by exact kZ rfl rfl rfl rfl (by (simp only [List.length_append, List.length_cons, List.length_nil, *]; omega)) rfl rfl (by decide)) ?_); refine zZ.v rfl rfl (zN rfl rfl rfl (by decide)) ?_; refine zZ.nil ?_) | (refine zY.iq 9 ?_; refine zY.rqu _ K_1r K_13 ?_; refine zZ.v rfl rfl (yJ rfl rfl rfl (by decide)) ?_; refine zZ.v rfl rfl (zJ rfl rfl rfl (by decide)) ?_; refine zZ.v rfl rfl (zB rfl rfl rfl (by rfl) rfl (by decide)) ?_; refine zZ.v rfl rfl (by exact yE (eight_fn _ h8 h9) rfl rfl rfl (by decide)) ?_; (refine zZ.w rfl (by exact kZ rfl rfl rfl rfl (by (simp only [List.length_append, List.length_cons, List.length_nil, *]; omega)) rfl rfl (by decide)) ?_); refine zZ.v rfl rfl (zN rfl rfl rfl (by decide)) ?_; refine zZ.nil ?_) | (refine zY.isR (id := 10) ?_; refine zY.zK [2, 3, 5] [1, 2, 13] (by repeat' first | exact zX.nil | apply zX.p rfl | apply zX.own rfl) (by repeat' first | exact zW.nil | apply zW.boxP rfl rfl | apply zW.wP rfl | apply zW.skip) ?_; refine zZ.v rfl rfl (yJ rfl rfl rfl (by decide)) ?_; refine zZ.v rfl rfl (zN rfl rfl rfl (by decide)) ?_; refine zZ.va rfl rfl rfl rfl (by decide) ?_; refine zZ.nil ?_) | refine zY.cond rfl (fun h => ?_) (fun h => ?_) | refine zY.skip ?_ | refine zY.ret ?_) | refine zH.r ?_)
 ·have hm : qP k s y u v x = false := by simpa using h
  rw [if_neg (by simp [hm])]
  exact ⟨.inl rfl, _, qU (d := 2) rfl, .tup (rs := [.tmp 2, .tmp 3]) rfl (by decide) (.cons (.tmp rfl) (.cons (.tmp rfl) .nil))⟩
 ·have hm : qP k s y u v x = true := by rename_i h'; simpa using h'
  have hk : k = 1 := by simpa using h
  have e : qG k s y u v x = [IntKind.u8.wrap k] ++ bytesOf 8 s ++ bytesOf 8 y ++ bytesOf 8 u ++ bytesOf 8 v ++ bytesOf 8 x := by rw [hw]; simp [qG, hk]
  rw [if_pos hm, e]
  exact ⟨.inl rfl, _, wR (d := 2) (id := 13) rfl rfl, .tup (rs := [.tmp 2, .tmp 3]) rfl (by decide) (.cons (.tmp rfl) (.cons (.tmp rfl) .nil))⟩
 ·have hm : qP k s y u v x = true := by rename_i h'; simpa using h'
  have hk : ¬ k = 1 := by simpa using h
  have e : qG k s y u v x = [IntKind.u8.wrap k] ++ bytesOf 8 s := by simp [qG, hk, hw]
  rw [if_pos hm, e]
  exact ⟨.inl rfl, _, wR (d := 2) (id := 13) rfl rfl, .tup (rs := [.tmp 2, .tmp 3]) rfl (by decide) (.cons (.tmp rfl) (.cons (.tmp rfl) .nil))⟩
end Go.Proofs.YtomlhekjgagjaaaDoor
namespace Go.Proofs.YtomlhekjgagjaaaDoor
set_option maxRecDepth 100000
set_option maxHeartbeats 16000000
open Go.RowKit
theorem Tryd.infoPtr : (Tryd.prog.info? 107).map (fun i => (i.zero, i.size, i.bytes)) = some (some (.pointer none), 1, 8) := by kernel_rfl
theorem Tryd.sizePtr : (Tryd.prog.info? 107).map (·.size) = some 1 := by kernel_rfl
theorem ownsRow_of_heap {w : World} {base g n cap : Nat} {e : TypeId} {cur : List Value} {xs : List Value} (hg : w.heap[g]? = some (.cells cur.toArray e (0, 0))) (hb : base ≤ g)
    (hc : cur.length = cap) (hn : n ≤ cap) (hm : cap ≤ maxLen) (ht : cur.take n = xs) (hx : xs.length = n) : w.ownsRow base e 1 (.slice (some ⟨g, 0, none⟩) n cap) n xs :=
  ⟨by simpa using hx, .inr ⟨g, cap, cur.toArray, rfl, hb, hg, hn, hm, by simpa using hc, by simpa using ht⟩⟩
theorem cells_four {w : World} {b : Nat} {q0 q1 q2 q3 : Value} (h0 : w.cell? ⟨b, 0, none⟩ = some q0) (h1 : w.cell? ⟨b, 1, none⟩ = some q1) (h2 : w.cell? ⟨b, 2, none⟩ = some q2) (h3 : w.cell? ⟨b, 3, none⟩ = some q3) :
    ∀ (j : Nat) v, [q0, q1, q2, q3][j]? = some v → w.cell? ((⟨b, 0, none⟩ : Addr).add j) = some v := by
  intro j v hv
  match j, hv with
  | 0, hv => simp at hv; subst hv; exact h0
  | 1, hv => simp at hv; subst hv; exact h1
  | 2, hv => simp at hv; subst hv; exact h2
  | 3, hv => simp at hv; subst hv; exact h3
  | j + 4, hv => simp at hv
theorem insert_nil (g : Nat) (p : Value) (w : World) (hp : w.cell? ⟨g, 0, none⟩ = some p) (h1 : p.oneCell' = true) :
    Calls Tryd.prog 74 #[.slice none 0 0, .int .i64 0, .slice (some ⟨g, 0, none⟩) 1 1] w fun e w' =>
      ∃ v, e = .returned v ∧ w'.ownsRow w.heap.size 107 1 v 1 [p] ∧ Below w.heap.size w w' := by
  obtain ⟨i0, hi, hz0, hz1, hz2⟩ := info_parts Tryd.infoPtr
  go_enter Tryd.func74, Tryd.ntmps74
  go_wp2_with (at_builtin; refine wpList_append_own _ rfl _ _ 104 rfl w.heap.size 107 i0 (.pointer none) 1 8 Tryd.underlying104 hi hz0 hz1 hz2 rfl (by decide) _ _ _ rfl (World.ownsRow_nil _ _ _ _) ⟨g, 0, none⟩ 1 1 [p] rfl rfl ?c1 ?c2 ?c3 ?c4 ?c5 ?_)
  case c1 => exact cells_one hp
  case c2 => simpa using h1
  case c3 => simp [maxLen]
  case c4 => decide
  case c5 => exact Nat.le_refl _
  intro v' w1 hown' hgrow _
  go_wp2
  go_ret
  exact ⟨_, rfl, hown', (Below.refl _ _).grown hgrow (Nat.le_refl _) (by simp [Value.ownBlock])⟩
theorem insert_four (b g : Nat) (p q0 q1 q2 q3 : Value) (w : World) (hp : w.cell? ⟨g, 0, none⟩ = some p) (h1 : p.oneCell' = true)
   (hq0 : w.cell? ⟨b, 0, none⟩ = some q0) (hq1 : w.cell? ⟨b, 1, none⟩ = some q1) (hq2 : w.cell? ⟨b, 2, none⟩ = some q2) (hq3 : w.cell? ⟨b, 3, none⟩ = some q3)
   (hq : ∀ v ∈ [q0, q1, q2, q3], v.oneCell' = true) (hbw : b < w.heap.size) (hgw : g < w.heap.size) :
    Calls Tryd.prog 74 #[.slice (some ⟨b, 0, none⟩) 4 4, .int .i64 0, .slice (some ⟨g, 0, none⟩) 1 1] w fun e w' =>
      ∃ v, e = .returned v ∧ w'.ownsRow w.heap.size 107 1 v 5 [p, q0, q1, q2, q3] ∧ Below w.heap.size w w' := by
  obtain ⟨i0, hi, hz0, hz1, hz2⟩ := info_parts Tryd.infoPtr
  go_enter Tryd.func74, Tryd.ntmps74
  go_wp2_with (at_builtin; refine wpList_append_zeros rfl (.tmp 34) (.tmp 39) 104 3 rfl 107 i0 (.pointer none) (.pointer none) Tryd.underlying104 Tryd.underlying3 hi hz0 rfl hz1 ⟨b, 0, none⟩ 4 5 rfl rfl (by decide) (by simp [maxLen]) (by rw [hz2]; decide) (by rw [hz2]; decide) ?_)
  intro cap Z w1 HZ H1 hb1 hc1 hc2
  have hp1 : w1.cell? ⟨g, 0, none⟩ = some p := (hb1.cell (p := ⟨g, 0, none⟩) hgw).trans hp
  have hc1' : ¬ cap = 1 := by omega
  have hc1'' : ¬ cap = 0 := by omega
  have hl : Hid (Z.length = cap) := by show Z.length = cap; rw [HZ.out]; simp
  have D1 : 0 < [p].length → some (⟨w.heap.size, 0, none⟩ : Addr) = some ⟨w.heap.size, 0, none⟩ ∧ ∃ ad, some (⟨g, 0, none⟩ : Addr) = some ad ∧ ∀ (j : Nat) v, [p][j]? = some v → w1.cell? (ad.add j) = some v :=
    fun _ => ⟨rfl, _, rfl, cells_one hp1⟩
  have D2 : 0 + [p].length ≤ Z.length := by rw [hl.out]; simp; omega
  have D3 : ∀ v ∈ [p], v.oneCell' = true := by simpa using h1
  have H1' := Lib.hid D1
  have H2' := Lib.hid D2
  have H3' := Lib.hid D3
  clear D1 D2 D3
  go_wp2_with (with_reducible refine wpList_copy_splice rfl (.tmp 43) (.tmp 44) 104 104 rfl 107 Tryd.underlying104 Tryd.sizePtr (some ⟨w.heap.size, 0, none⟩) (some ⟨g, 0, none⟩) 5 cap 1 1 rfl rfl w.heap.size 0 Z 107 H1.out [p] rfl H1'.out H2'.out H3'.out w.heap.size w hb1 (Nat.le_refl _) ?_)
  intro w2 H2 hb2
  have hr0 : w2.cell? ⟨b, 0, none⟩ = some q0 := (hb2.cell (p := ⟨b, 0, none⟩) hbw).trans hq0
  have hr1 : w2.cell? ⟨b, 1, none⟩ = some q1 := (hb2.cell (p := ⟨b, 1, none⟩) hbw).trans hq1
  have hr2 : w2.cell? ⟨b, 2, none⟩ = some q2 := (hb2.cell (p := ⟨b, 2, none⟩) hbw).trans hq2
  have hr3 : w2.cell? ⟨b, 3, none⟩ = some q3 := (hb2.cell (p := ⟨b, 3, none⟩) hbw).trans hq3
  have hw1 : IntKind.i64.wrap 1 = 1 := by decide
  go_wp2
  go_still_tail 8, (by kernel_rfl)
  change wpList _ _ _ _ _ w2.drew
  refine wpList_copy_splice rfl (.tmp 50) (.tmp 53) 104 104 rfl 107 Tryd.underlying104 Tryd.sizePtr (some ⟨w.heap.size, 1, none⟩) (some ⟨b, 0, none⟩) 4 (cap - 1) 4 4 rfl rfl w.heap.size 1 (Go.splice Z 0 [p]) 107 H2.out [q0, q1, q2, q3] rfl ?e1 ?e2 hq w.heap.size w hb2.drew (Nat.le_refl _) ?_
  case e1 => exact fun _ => ⟨rfl, _, rfl, cells_four hr0 hr1 hr2 hr3⟩
  case e2 => have := hl.out; simp [Go.splice]; omega
  intro w3 H3 hb3
  go_wp2
  go_ret
  refine ⟨_, rfl, ownsRow_of_heap H3.out (Nat.le_refl _) ?_ hc1 hc2 ?_ rfl, hb3⟩
  · have := hl.out; simp [Go.splice]; omega
  · simp [Go.splice]
def fieldsOf (b : Nat) (k : Int) : List Value :=
  if k = 1 then [.pointer (some ⟨b, 1, none⟩), .pointer (some ⟨b, 2, none⟩), .pointer (some ⟨b, 3, none⟩), .pointer (some ⟨b, 4, none⟩), .pointer (some ⟨b, 5, none⟩)]
  else if k = 2 ∨ k = 3 then [.pointer (some ⟨b, 1, none⟩)] else []
theorem fields_any (b : Nat) (k : Int) (w : World) (hp : w.cell? ⟨b, 0, none⟩ = some (.int .i64 k)) :
    Calls Tryd.prog 59 #[.pointer (some ⟨b, 0, none⟩)] w fun e w' =>
      ∃ v, e = .returned v ∧ w'.ownsRow w.heap.size 107 1 v (fieldsOf b k).length (fieldsOf b k) ∧ Below w.heap.size w w' := by
  by_cases h1 : k = 1
  · subst h1
    go_enter Tryd.func59, Tryd.ntmps59
    go_wp2_with fail
    go_still_tail 12, (by kernel_rfl)
    change wpList _ _ _ _ _ w.drew
    go_wp2_with fail
    refine (insert_four w.heap.size (w.heap.size + 1) (.pointer (some ⟨b, 1, none⟩)) (.pointer (some ⟨b, 2, none⟩)) (.pointer (some ⟨b, 3, none⟩)) (.pointer (some ⟨b, 4, none⟩)) (.pointer (some ⟨b, 5, none⟩)) _ (by go_simp) rfl (by go_simp) (by go_simp) (by go_simp) (by go_simp) (by simp [Value.oneCell']) (by simp <;> omega) (by simp <;> omega)).mono ?_
    rintro e w' ⟨v, rfl, hown, hb⟩
    go_wp2
    go_ret
    exact ⟨_, rfl, ownsRow_base hown (by simp <;> omega), ((((Below.refl _ _).alloc (Nat.le_refl _) _).alloc (by simp) _).drew).trans (hb.mono (by simp <;> omega))⟩
  by_cases h2 : k = 2
  · subst h2
    go_enter Tryd.func59, Tryd.ntmps59
    go_wp2_with fail
    refine (insert_nil w.heap.size (.pointer (some ⟨b, 1, none⟩)) _ (by simp) rfl).mono ?_
    rintro e w' ⟨v, rfl, hown, hb⟩
    go_wp2
    go_ret
    exact ⟨_, rfl, ownsRow_base hown (by simp <;> omega), ((Below.refl _ _).alloc (Nat.le_refl _) _).trans (hb.mono (by simp <;> omega))⟩
  by_cases h3 : k = 3
  · subst h3
    go_enter Tryd.func59, Tryd.ntmps59
    go_wp2_with fail
    refine (insert_nil w.heap.size (.pointer (some ⟨b, 1, none⟩)) _ (by simp) rfl).mono ?_
    rintro e w' ⟨v, rfl, hown, hb⟩
    go_wp2
    go_ret
    exact ⟨_, rfl, ownsRow_base hown (by simp <;> omega), ((Below.refl _ _).alloc (Nat.le_refl _) _).trans (hb.mono (by simp <;> omega))⟩
  have e2 : (k == 1) = false := by simpa using h1
  have e3 : (k == 2) = false := by simpa using h2
  have e4 : (k == 3) = false := by simpa using h3
  have hf : Hid (fieldsOf b k = []) := by show fieldsOf b k = []; simp [fieldsOf, h1, h2, h3]
  go_enter Tryd.func59, Tryd.ntmps59
  go_wp2_with fail
  go_ret
  exact ⟨_, rfl, by rw [hf.out]; exact World.ownsRow_nil _ _ _ _, Below.refl _ _⟩
end Go.Proofs.YtomlhekjgagjaaaDoor
namespace Go.Proofs.YtomlhekjgagjaaaDoor
set_option maxRecDepth 100000
set_option maxHeartbeats 16000000
open Go Go.RowKit
def zI (id : Nat) (k : Int) : List AV :=
  if k = 1 then [.ptr id 1, .ptr id 2, .ptr id 3, .ptr id 4, .ptr id 5] else if k = 2 ∨ k = 3 then [.ptr id 1] else []
theorem fieldsA_cells {M : Nat → Nat → Prop} {ρ : Nat → Value} {w : World} {id g : Nat} (k : Int) (hg : zT (ρ id) = some g) : yK M ρ w (zI id k) (fieldsOf g k) := by
  have one : ∀ j, yV M ρ w (.ptr id j) (.pointer (some ⟨g, j, none⟩)) := fun j => .ptr id j g hg
  unfold zI fieldsOf
  by_cases h1 : k = 1
  · rw [if_pos h1, if_pos h1]
    refine ⟨rfl, fun i c v hc hv => ?_, fun v hv => ?_⟩
    · match i with
      | 0 | 1 | 2 | 3 | 4 => simp at hc hv; subst hc; subst hv; exact one _
      | i + 5 => simp at hc
    · simp at hv
      rcases hv with rfl | rfl | rfl | rfl | rfl <;> rfl
  · rw [if_neg h1, if_neg h1]
    by_cases h2 : k = 2 ∨ k = 3
    · rw [if_pos h2, if_pos h2]
      refine ⟨rfl, fun i c v hc hv => ?_, fun v hv => ?_⟩
      · match i with
        | 0 => simp at hc hv; subst hc; subst hv; exact one _
        | i + 1 => simp at hc
      · simp at hv
        subst hv
        rfl
    · rw [if_neg h2, if_neg h2]
      exact ⟨rfl, fun i c v hc => by simp at hc, fun v hv => by simp at hv⟩
theorem fieldsA_len (id g : Nat) (k : Int) : (zI id k).length = (fieldsOf g k).length := by
  unfold zI fieldsOf
  split
  · rfl
  · split <;> rfl
theorem w_fields {n : Nat} {o : Oper} {S : AS} {d id ty : Nat} {x : Operand} {k : Int} {cs : List AV} {ts : Array TypeId} (ho : o.op = .call { callee := .value (.func 59), args := #[x], argTypes := ts }) (hx : S.get x = .ptr id 0)
    (hb : S.blk id = some (.box ty cs)) (hk : cs[0]? = some (.p (.val (.int .i64 k)))) (hd : o.dst = some d) (hn : d < n) :
    zA Tryd.prog n o S [id] (.own d) (some (.row 107 1 (zI id k).length (zI id k))) := by
  intro S2 hg hbl M w0 ρ a w K Q hs hK
  have hx2 : S2.get x = .ptr id 0 := (hg x (by rw [ho]; simp [Op.operands, Call.operands])).trans hx
  have hb2 : S2.blk id = some (.box ty cs) := (hbl id (by simp)).trans hb
  have h1 := hs.rep x
  rw [hx2] at h1
  obtain ⟨g, hgv, hv⟩ := kC h1
  obtain ⟨ys, hcs, hcell⟩ := (hs.blks id _ hb2).cells hgv
  have h0 : 0 < cs.length := (List.getElem?_eq_some_iff.1 hk).1
  have hy : ys[0]? = some (ys[0]'(by rw [hcs.len]; exact h0)) := List.getElem?_eq_getElem _
  have hkv := rep_val (rep_p (hcs.each 0 _ _ hk hy))
  have hc0 := (hcell 0 _ hy).1
  rw [hkv] at hc0
  have he : (execOp a.eval o).run Tryd.prog w = .ok (.enter 59 (#[x].map a.eval)) w := by
    unfold execOp
    rw [ho]
    simp [resolve, Deferred.ofValue, Act.eval, invoke, HasFn.h]
  unfold Oper.wp
  rw [he, Oper.upon_enter]
  have e : #[x].map a.eval = #[.pointer (some ⟨g, 0, none⟩)] := by simp [hv]
  rw [e]
  refine (fields_any g k w hc0).mono ?_
  rintro en w' ⟨v, rfl, hown, hbw⟩
  show K (a.put o.dst v) w'
  rw [hd] at hK ⊢
  have hbk : ∀ k', zT v = some k' → w.heap.size ≤ k' := fun k' hk' => (hown.lt k' (by rw [← own_slice hown]; exact hk')).1
  have h2 := hs.change d (.row 107 1 (zI id k).length (zI id k)) v none (hs.free d hn) ⟨hbw.os, hbw.tape, hbw.output, hbw.size, fun k' hk' _ => hbw.block k' hk'⟩ (fun k' h => by cases h) (fun k' hk' => .inl (hbk k' hk'))
    ⟨fieldsOf g k, by rw [fieldsA_len id g k]; exact ownsRow_base hown (Nat.zero_le _), fieldsA_cells k hgv⟩
  refine hK (upd ρ d v) _ w' (h2.put hn ?_)
  have := yV.own (M := Mut M (S2.create d (.row 107 1 (zI id k).length (zI id k))) (upd ρ d v)) (ρ := upd ρ d v) (w := w') d
  simpa [upd] using this
end Go.Proofs.YtomlhekjgagjaaaDoor
namespace Go.Proofs.YtomlhekjgagjaaaDoor
set_option maxRecDepth 100000
set_option maxHeartbeats 16000000
open Go Go.RowKit
attribute [local irreducible] zZ zY Step zA Sub zL Fn
def xO (k s y u v x : Int) : List Int := if k = 1 then [s, y, u, v, x] else [s]
def encUp (k : Int) (vals : List Int) (i : Nat) : List Int := IntKind.u8.wrap k :: (vals.take i).flatMap (bytesOf 8)
def cellsOf (k s y u v x : Int) : List PV := [.val (.int .i64 k), .val (.int .u64 s), .val (.int .u64 y), .val (.int .u64 u), .val (.int .u64 v), .val (.int .u64 x)]
theorem encUp_succ (k : Int) (vals : List Int) (i : Nat) (h : i < vals.length) : encUp k vals (i + 1) = encUp k vals i ++ bytesOf 8 (vals.getD i 0) := by
  have e : vals.take (i + 1) = vals.take i ++ [vals.getD i 0] := by
    rw [List.take_add_one, List.getElem?_eq_getElem h]
    simp [List.getD, h]
  unfold encUp
  rw [e, List.flatMap_append, List.cons_append]
  simp
def encO (k s y u v x : Int) (i : Nat) : AS :=
  ⟨[(2, .p (.val (.slice none 0 0))), (3, .p (.val (.int .i64 0))), (4, .own 14), (15, .own 15), (16, .p (.val (.int .i64 (zI 1 k).length))), (17, .p (.val (.int .i64 i)))],
   [(1, .box 46 ((cellsOf k s y u v x).map AV.p)), (14, wP 5 (encUp k (xO k s y u v x) i)), (15, .row 107 1 (zI 1 k).length (zI 1 k))], .any⟩
def encI (k s y u v x : Int) (i j : Nat) : AS :=
  ⟨[(2, .p (.val (.slice none 0 0))), (3, .p (.val (.int .i64 0))), (4, .own 14), (6, .ptr 1 (i + 1)), (15, .own 15), (16, .p (.val (.int .i64 (zI 1 k).length))), (17, .p (.val (.int .i64 i))), (21, .p (.val (.int .i64 j)))],
   [(1, .box 46 ((cellsOf k s y u v x).map AV.p)), (14, wP 5 (encUp k (xO k s y u v x) i ++ bytesOf j ((xO k s y u v x).getD i 0))), (15, .row 107 1 (zI 1 k).length (zI 1 k))], .any⟩
theorem fieldsA_kill (k : Int) (id : Nat) (h : id ≠ 1) : (zI 1 k).map (AV.kill id) = zI 1 k := by
  have e : ∀ j, AV.kill id (.ptr 1 j) = .ptr 1 j := fun j => by
    show (if 1 = id then AV.any else AV.ptr 1 j) = _
    rw [if_neg (fun h' => h h'.symm)]
  unfold zI
  split
  · simp only [List.map_cons, List.map_nil, e]
  · split
    · simp only [List.map_cons, List.map_nil, e]
    · rfl
theorem rowF_kill (k : Int) (id : Nat) (h : id ≠ 1) : (some (Blk.row 107 1 (zI 1 k).length ((zI 1 k).map (AV.kill id))) : Option Blk) = some (.row 107 1 (zI 1 k).length (zI 1 k)) := by
  rw [fieldsA_kill k id h]
theorem rowF_kill2 (k : Int) (id id2 : Nat) (h : id ≠ 1) (h2 : id2 ≠ 1) : (some (Blk.row 107 1 (zI 1 k).length (((zI 1 k).map (AV.kill id)).map (AV.kill id2))) : Option Blk) = some (.row 107 1 (zI 1 k).length (zI 1 k)) := by
  rw [fieldsA_kill k id h, fieldsA_kill k id2 h2]
theorem fieldsA_get (k : Int) (i : Nat) (hi : i < (zI 1 k).length) : (zI 1 k)[((i : Int)).toNat * 1]? = some (.ptr 1 (i + 1)) := by
  rw [Nat.mul_one, Int.toNat_natCast]
  unfold zI at hi ⊢
  by_cases h1 : k = 1
  · rw [if_pos h1] at hi ⊢
    match i with
    | 0 | 1 | 2 | 3 | 4 => rfl
    | i + 5 => exact absurd hi (by simp)
  · rw [if_neg h1] at hi ⊢
    by_cases h2 : k = 2 ∨ k = 3
    · rw [if_pos h2] at hi ⊢
      match i with
      | 0 => rfl
      | i + 1 => simp at hi
    · rw [if_neg h2] at hi; simp at hi
theorem fields_len (k s y u v x : Int) (i : Nat) (hi : i < (zI 1 k).length) : i < (xO k s y u v x).length := by
  unfold zI at hi
  unfold xO
  by_cases h1 : k = 1
  · rw [if_pos h1] at hi ⊢; exact hi
  · rw [if_neg h1] at hi ⊢
    by_cases h2 : k = 2 ∨ k = 3
    · rw [if_pos h2] at hi; exact hi
    · rw [if_neg h2] at hi; simp at hi
theorem cells_get (k s y u v x : Int) (i : Nat) (hi : i < (zI 1 k).length) : ((cellsOf k s y u v x).map AV.p)[i + 1]? = some (.p (.val (.int .u64 ((xO k s y u v x).getD i 0)))) := by
  unfold zI at hi
  unfold xO
  by_cases h1 : k = 1
  · rw [if_pos h1] at hi ⊢
    match i with
    | 0 | 1 | 2 | 3 | 4 => rfl
    | i + 5 => exact absurd hi (by simp)
  · rw [if_neg h1] at hi ⊢
    by_cases h2 : k = 2 ∨ k = 3
    · rw [if_pos h2] at hi
      match i with
      | 0 => rfl
      | i + 1 => simp at hi
    · rw [if_neg h2] at hi; simp at hi
theorem valsOf_range (k s y u v x : Int) (h0 : 0 ≤ s) (h1 : s < 18446744073709551616) (h2 : 0 ≤ y) (h3 : y < 18446744073709551616) (h4 : 0 ≤ u) (h5 : u < 18446744073709551616) (h6 : 0 ≤ v) (h7 : v < 18446744073709551616) (h8 : 0 ≤ x) (h9 : x < 18446744073709551616) (i : Nat) :
    0 ≤ (xO k s y u v x).getD i 0 ∧ (xO k s y u v x).getD i 0 < 18446744073709551616 := by
  unfold xO
  by_cases hk : k = 1
  · rw [if_pos hk]
    match i with
    | 0 => exact ⟨h0, h1⟩
    | 1 => exact ⟨h2, h3⟩
    | 2 => exact ⟨h4, h5⟩
    | 3 => exact ⟨h6, h7⟩
    | 4 => exact ⟨h8, h9⟩
    | i + 5 => exact ⟨Int.le_refl 0, (by decide : (0 : Int) < 18446744073709551616)⟩
  · rw [if_neg hk]
    match i with
    | 0 => exact ⟨h0, h1⟩
    | i + 1 => exact ⟨Int.le_refl 0, (by decide : (0 : Int) < 18446744073709551616)⟩
theorem encUp_len (k : Int) (vals : List Int) (i : Nat) : (encUp k vals i).length = 1 + 8 * min i vals.length := by
  unfold encUp
  rw [List.length_cons]
  have : ∀ l : List Int, (l.flatMap (bytesOf 8)).length = 8 * l.length := by
    intro l
    induction l with
    | nil => rfl
    | cons a r ih => simp only [List.flatMap_cons, List.length_append, List.length_cons, bytesOf_length, ih]; omega
  rw [this, List.length_take]
  omega
theorem fieldsA_le (k : Int) : (zI 1 k).length ≤ 5 := by
  unfold zI
  split
  · decide
  · split <;> decide
theorem pow8 (j : Nat) : (2 : Int) ^ (8 * (j : Int)).toNat = 256 ^ j := by
  have : (8 * (j : Int)).toNat = 8 * j := by omega
  rw [this, Int.pow_mul]
  rfl
theorem encUp_all (k s y u v x : Int) (hm : qP k s y u v x = true) : encUp k (xO k s y u v x) (zI 1 k).length = qG k s y u v x := by
  have hw : IntKind.u8.wrap k = k % 256 := by simp [IntKind.wrap, IntKind.signed, IntKind.bits]
  have hk : k = 1 ∨ k = 2 ∨ k = 3 := by
    unfold qP at hm
    by_cases h1 : k = 1
    · exact .inl h1
    · by_cases h2 : k = 2
      · exact .inr (.inl h2)
      · by_cases h3 : k = 3
        · exact .inr (.inr h3)
        · simp [h1, h2, h3] at hm
  unfold encUp qG xO zI
  rw [hw]
  rcases hk with rfl | rfl | rfl <;> simp
theorem enc_fn (k s y u v x : Int) (h0 : 0 ≤ s) (h1 : s < 18446744073709551616) (h2 : 0 ≤ y) (h3 : y < 18446744073709551616) (h4 : 0 ≤ u) (h5 : u < 18446744073709551616) (h6 : 0 ≤ v) (h7 : v < 18446744073709551616) (h8 : 0 ≤ x) (h9 : x < 18446744073709551616) :
  Fn Tryd.prog 38 [entV k s y u v x] (.tup (if qP k s y u v x then [.sl (byts (qG k s y u v x)), .val (.int .i64 0)] else [.sl [], .val (.int .i64 1)])) := by
 refine wU Tryd.func38 rfl Tryd.ntmps38 (Nat.le_of_ble_eq_true rfl) ?_
 repeat' (first | (refine zY.is ?_; first | refine zY.seq ?_ | (refine zY.iq 0 ?_; refine zY.rqa _ K_5 K_r ?_; refine zZ.m rfl rfl (vQ rfl rfl rfl (by decide)) ?_; refine zZ.va rfl rfl rfl rfl (by decide) ?_; refine zZ.va rfl rfl rfl rfl (by decide) ?_; refine zZ.nil ?_) | (refine zY.iq 1 ?_; refine zY.rqh _ K_11 K_r ?_; refine zZ.v rfl rfl (xY rfl rfl rfl (by rfl) (by rfl) rfl (by decide)) ?_; refine zZ.v rfl rfl (by exact yE (may_fn _ _ _ _ _ _ h2 h3) rfl rfl rfl (by decide)) ?_; refine zZ.v rfl rfl (xR rfl rfl (by rfl) rfl (by decide)) ?_; refine zZ.nil ?_) | (refine zY.iq 2 ?_; refine zY.rqh _ K_11 K_r ?_; refine zZ.va rfl rfl rfl rfl (by decide) ?_; refine zZ.va rfl rfl rfl rfl (by decide) ?_; refine zZ.nil ?_) | (refine zY.iq 3 ?_; refine zY.rqh _ K_11 K_r ?_; refine zZ.v rfl rfl (zJ rfl rfl rfl (by decide)) ?_; refine zZ.v rfl rfl (zB rfl rfl rfl rfl rfl (by decide)) ?_; refine zZ.v rfl rfl (xZ rfl rfl (by rfl) rfl (by decide)) ?_; refine zZ.m rfl rfl (w_buildB rfl (by decide) (by decide) (by decide) (by decide) (by rfl) (by rfl) (by rfl) (by rfl) rfl (by decide)) ?_; refine zZ.v rfl rfl (zN rfl rfl rfl (by decide)) ?_; refine zZ.nil ?_) | (refine zY.iq 4 ?_; refine zY.rqu _ K_1k K_r ?_; refine zZ.m rfl rfl (w_fields rfl rfl rfl rfl rfl (by decide)) ?_; refine zZ.v rfl rfl (w_lenO rfl rfl rfl rfl (by decide)) ?_; refine zZ.vm rfl rfl rfl rfl (by decide) ?_; refine zZ.nil ?_) | refine zY.cond rfl (fun h => ?_) (fun h => ?_) | refine zY.skip ?_ | refine zY.block ?_ | refine zY.ret ?_) | refine zH.r ?_)
 ·have hm : qP k s y u v x = false := by simpa using h
  rw [if_neg (by simp [hm])]
  exact ⟨.inl rfl, _, qU (d := 2) rfl, .tup (rs := [.tmp 2, .tmp 3]) rfl (by decide) (.cons (.tmp rfl) (.cons (.tmp rfl) .nil))⟩
 ·have hm : qP k s y u v x = true := by simpa using h
  have h5l := fieldsA_le k
  refine zY.loop (encO k s y u v x) (fun i => i ≤ (zI 1 k).length) (fun i => (zI 1 k).length - i) 0 ?h0 (Nat.zero_le _) ?rd
  case h0 =>
   refine sub_keep (is := [2, 3, 4, 15, 16, 17]) (js := [1, 14, 15]) ?_ (.boxP rfl rfl (.wP rfl (.some (rowF_kill k 15 (by decide)) .nil)))
   repeat' first | exact zX.nil | apply zX.p rfl | apply zX.ptr rfl | apply zX.own rfl | apply zX.clo rfl | apply zX.pt rfl | apply zX.tup rfl | apply zX.skip
  case rd =>
   intro i hi
   have hV := valsOf_range k s y u v x h0 h1 h2 h3 h4 h5 h6 h7 h8 h9 i
   by_cases hc : i < (zI 1 k).length
   ·have hb : decide ((i : Int) < ((zI 1 k).length : Int)) = true := by simpa using hc
    have f1 := fieldsA_get k i hc
    have f2 := cells_get k s y u v x i hc
    have f3 : (0 : Int) ≤ (i : Int) ∧ ((i : Int)).toNat < (zI 1 k).length := by omega
    repeat' ((refine zY.is ?_; first | refine zY.seq ?_ | (refine zY.isR (id := 5) ?_; refine zY.zK [2, 3, 4, 6, 7, 15, 16, 17, 18, 21, 22] [1, 2, 9, 14, 15, 16, 32, 33] (by repeat' first | exact zX.nil | apply zX.p rfl | apply zX.own rfl | apply zX.skip) (by repeat' first | exact zW.nil | apply zW.boxP rfl rfl | apply zW.wP rfl | apply zW.some rfl | apply zW.skip) ?_; refine zZ.v rfl rfl (yZ rfl rfl rfl (by rfl) rfl (by decide)) ?_; refine zZ.nil ?_) | (refine zY.isR (id := 6) ?_; refine zY.zK [2, 3, 4, 6, 7, 15, 16, 17, 18, 21, 22] [1, 2, 9, 14, 15, 16, 32, 33] (by repeat' first | exact zX.nil | apply zX.p rfl | apply zX.own rfl | apply zX.skip) (by repeat' first | exact zW.nil | apply zW.boxP rfl rfl | apply zW.wP rfl | apply zW.some rfl | apply zW.skip) ?_; refine zZ.v rfl rfl (by exact w_indexO rfl rfl rfl rfl (by omega) rfl (by decide)) ?_; refine zZ.v rfl rfl (w_loadP rfl rfl rfl f1 rfl (by decide)) ?_; refine zZ.v rfl rfl (a_assignR rfl rfl rfl (by decide)) ?_; refine zZ.nil ?_) | (refine zY.iq 7 ?_; refine zY.rqr _ K_1g K_r ?_; refine zZ.vm rfl rfl rfl rfl (by decide) ?_; refine zZ.nil ?_) | refine zY.yC rfl (by assumption) ?_ | refine zY.skip ?_ | refine zY.block ?_))
    refine zY.loop (encI k s y u v x i) (fun j => j ≤ 8) (fun j => 8 - j) 0 ?h0 (Nat.zero_le _) ?rd
    case h0 =>
     have e : encUp k (xO k s y u v x) i = encUp k (xO k s y u v x) i ++ bytesOf 0 ((xO k s y u v x).getD i 0) := by simp [bytesOf]
     unfold encI
     rw [← e]
     exact zD K_3i K_2p
    case rd =>
     intro j hj
     by_cases hj8 : j < 8
     ·have hb8 : decide ((j : Int) < 8) = true := by simp; omega
      have hj8' : (j : Int) < 8 := by omega
      have g1 : (xO k s y u v x).getD i 0 / 2 ^ (8 * (j : Int)).toNat = (xO k s y u v x).getD i 0 / 256 ^ j := by rw [pow8]
      have g2 : IntKind.u8.wrap ((xO k s y u v x).getD i 0 / 256 ^ j) = (xO k s y u v x).getD i 0 / 256 ^ j % 256 := by simp [IntKind.wrap, IntKind.signed, IntKind.bits]
      have g3 : (encUp k (xO k s y u v x) i ++ bytesOf j ((xO k s y u v x).getD i 0)).length + [(xO k s y u v x).getD i 0 / 256 ^ j % 256].length ≤ 140737488355328 := by
       rw [List.length_append, encUp_len, bytesOf_length, List.length_singleton]
       have : min i (xO k s y u v x).length ≤ i := Nat.min_le_left _ _
       omega
      repeat' (first | (refine zY.is ?_; first | refine zY.seq ?_ | (refine zY.iq 8 ?_; refine zY.rqr _ K_1g K_r ?_; refine zZ.v rfl rfl (yZ rfl rfl rfl (by rfl) rfl (by decide)) ?_; refine zZ.nil ?_) | (refine zY.iq 9 ?_; refine zY.rqr _ K_1g K_r ?_; refine zZ.vm rfl rfl rfl rfl (by decide) ?_; refine zZ.va rfl rfl rfl rfl (by decide) ?_; refine zZ.nil ?_) | (refine zY.iq 10 ?_; refine zY.rqr _ K_1g K_r ?_; refine zZ.v rfl rfl (yJ rfl rfl rfl (by decide)) ?_; refine zZ.v rfl rfl (zO rfl rfl rfl (by decide)) ?_; refine zZ.v rfl rfl (yD rfl rfl rfl (by decide)) ?_; refine zZ.v rfl rfl (zB rfl rfl rfl f2 rfl (by decide)) ?_; refine zZ.vm rfl rfl rfl rfl (by decide) ?_; refine zZ.v rfl rfl (by exact a_mul rfl rfl rfl (by exact wrap_i64 _ (by omega)) rfl (by decide)) ?_; (refine zZ.v rfl rfl (by exact a_shr rfl rfl rfl (by omega) (by (simp only [IntKind.bits]; omega)) g1 rfl (by decide)) ?_); refine zZ.v rfl rfl (xZ rfl rfl g2 rfl (by decide)) ?_; refine zZ.m rfl rfl (w_buildB rfl (by decide) (by decide) (by decide) (by decide) (by rfl) (by rfl) (by rfl) (by rfl) rfl (by decide)) ?_; refine zZ.w rfl (w_appOB rfl rfl rfl rfl rfl g3 rfl rfl (by decide)) ?_; refine zZ.v rfl rfl (zN rfl rfl rfl (by decide)) ?_; refine zZ.nil ?_) | (refine zY.iq 11 ?_; refine zY.rqr _ K_1g K_r ?_; refine zZ.v rfl rfl (by exact yX rfl rfl rfl (by exact wrap_i64 _ (by omega)) rfl (by decide)) ?_; refine zZ.vm rfl rfl rfl rfl (by decide) ?_; refine zZ.nil ?_) | refine zY.yC rfl (by assumption) ?_ | refine zY.skip ?_ | refine zY.block ?_) | refine zH.n ?_)
      refine ⟨j + 1, ?_, by omega, by omega⟩
      have e : encUp k (xO k s y u v x) i ++ bytesOf (j + 1) ((xO k s y u v x).getD i 0) = encUp k (xO k s y u v x) i ++ bytesOf j ((xO k s y u v x).getD i 0) ++ [(xO k s y u v x).getD i 0 / 256 ^ j % 256] := by rw [bytesOf_snoc, List.append_assoc]
      unfold encI
      rw [e]
      refine sub_keep (is := [2, 3, 4, 6, 15, 16, 17, 21]) (js := [1, 14, 15]) ?_ (.boxP rfl rfl (.wP rfl (.some (rowF_kill2 k 32 14 (by decide) (by decide)) .nil)))
      repeat' first | exact zX.nil | apply zX.p rfl | apply zX.ptr rfl | apply zX.own rfl | apply zX.clo rfl | apply zX.pt rfl | apply zX.tup rfl | apply zX.skip
     ·have hb8 : decide ((j : Int) < 8) = false := by simp; omega
      obtain rfl : j = 8 := by omega
      repeat' (first | (refine zY.is ?_; first | refine zY.seq ?_ | (refine zY.iq 8 ?_; refine zY.rqr _ K_1g K_r ?_; refine zZ.v rfl rfl (by exact yZ rfl rfl rfl (by exact bF (by decide)) rfl (by decide)) ?_; refine zZ.nil ?_) | (refine zY.iq 12 ?_; refine zY.rqr _ K_1g K_r ?_; refine zZ.v rfl rfl (by exact yX rfl rfl rfl (by exact wrap_i64 _ (by omega)) rfl (by decide)) ?_; refine zZ.vm rfl rfl rfl rfl (by decide) ?_; refine zZ.nil ?_) | refine zY.yF rfl (by assumption) ?_ | refine zY.exit ?_) | refine zH.n ?_)
      refine ⟨i + 1, ?_, by omega, by omega⟩
      unfold encO
      rw [encUp_succ k _ i (fields_len k s y u v x i hc)]
      exact zD K_3j K_2p
   ·have hb : decide ((i : Int) < ((zI 1 k).length : Int)) = false := by simpa using hc
    obtain rfl : i = (zI 1 k).length := by omega
    repeat' ((refine zY.is ?_; first | refine zY.seq ?_ | (refine zY.isR (id := 5) ?_; refine zY.zK [2, 3, 4, 6, 7, 15, 16, 17, 18, 21, 22] [1, 2, 9, 14, 15, 16, 32, 33] (by repeat' first | exact zX.nil | apply zX.p rfl | apply zX.own rfl | apply zX.skip) (by repeat' first | exact zW.nil | apply zW.boxP rfl rfl | apply zW.wP rfl | apply zW.some rfl | apply zW.skip) ?_; refine zZ.v rfl rfl (yZ rfl rfl rfl (by rfl) rfl (by decide)) ?_; refine zZ.nil ?_) | (refine zY.isR (id := 13) ?_; refine zY.zK [2, 3, 4] [1, 2, 9, 14, 15, 16, 32, 33] (by repeat' first | exact zX.nil | apply zX.p rfl | apply zX.own rfl) (by repeat' first | exact zW.nil | apply zW.boxP rfl rfl | apply zW.wP rfl | apply zW.some rfl | apply zW.skip) ?_; refine zZ.v rfl rfl (yJ rfl rfl rfl (by decide)) ?_; refine zZ.v rfl rfl (zN rfl rfl rfl (by decide)) ?_; refine zZ.va rfl rfl rfl rfl (by decide) ?_; refine zZ.nil ?_) | refine zY.yF rfl (by assumption) ?_ | refine zY.exit ?_ | refine zY.ret ?_))
    rw [if_pos hm, ← encUp_all k s y u v x hm]
    exact ⟨.inl rfl, _, wR (d := 2) (id := 14) rfl rfl, .tup (rs := [.tmp 2, .tmp 3]) rfl (by decide) (.cons (.tmp rfl) (.cons (.tmp rfl) .nil))⟩
end Go.Proofs.YtomlhekjgagjaaaDoor
namespace Go.Proofs.YtomlhekjgagjaaaDoor
set_option maxRecDepth 100000
set_option maxHeartbeats 16000000
open Go Go.RowKit
attribute [local irreducible] zZ zY Step zA Sub zL Fn
theorem byts_vals (bs : List Int) : ∀ c ∈ byts bs, ∃ v, c = .val v := fun c hc => by
  simp only [byts, List.mem_map] at hc
  obtain ⟨b, _, rfl⟩ := hc
  exact ⟨_, rfl⟩
def laidS (cs : List Int) (n : Int) (many i : Nat) : AS :=
  { t := [(0, .own 1000), (1, .p (.val (.int .u64 n))), (6, .p (.val (.slice none 0 0))), (8, .p (.val (.int .i64 many))), (9, .p (.val (.int .i64 i)))], s := [(1000, wP 5 (cs ++ bytesOf i n))] }
theorem laid_fn (cs : List Int) (n : Int) (many : Nat) (hm : many ≤ 8) (hc : cs.length ≤ 1000000) :
    FnR Tryd.prog 60 [.val (.int .u64 n), .val (.int .i64 many)] (wP 5 cs) (wP 5 (cs ++ bytesOf many n)) := by
  refine fn_ofR (t := 6) Tryd.func60 rfl Tryd.ntmps60 (Nat.le_of_ble_eq_true rfl) rfl ?_
  repeat' ((refine zY.is ?_; first | refine zY.seq ?_ | (refine zY.iq 0 ?_; refine zY.rqn _ K_1l K_17 ?_; refine zZ.va rfl rfl rfl rfl (by decide) ?_; refine zZ.nil ?_) | (refine zY.iq 1 ?_; refine zY.rqn _ K_1s K_17 ?_; refine zZ.vm rfl rfl rfl rfl (by decide) ?_; refine zZ.vm rfl rfl rfl rfl (by decide) ?_; refine zZ.nil ?_) | refine zY.block ?_))
  refine zY.loop (laidS cs n many) (fun i => i ≤ many) (fun i => many - i) 0 ?h0 (Nat.zero_le _) ?rd
  case h0 =>
    have e : cs = cs ++ bytesOf 0 n := by simp [bytesOf]
    unfold laidS
    rw [← e]
    exact zD K_2q K_2r
  case rd =>
    intro i hi
    by_cases hlt : i < many
    · have hd : decide ((i : Int) < (many : Int)) = true := by simp; omega
      have g1 : n / 2 ^ (8 * (i : Int)).toNat = n / 256 ^ i := by rw [pow8]
      have g2 : IntKind.u8.wrap (n / 256 ^ i) = n / 256 ^ i % 256 := by simp [IntKind.wrap, IntKind.signed, IntKind.bits]
      have g3 : (cs ++ bytesOf i n).length + [n / 256 ^ i % 256].length ≤ 140737488355328 := by
        rw [List.length_append, bytesOf_length, List.length_singleton]
        omega
      repeat' (first | (refine zY.is ?_; first | refine zY.seq ?_ | (refine zY.iq 2 ?_; refine zY.rqo _ K_1t K_17 ?_; refine zZ.v rfl rfl (yZ rfl rfl rfl (by rfl) rfl (by decide)) ?_; refine zZ.nil ?_) | (refine zY.iq 3 ?_; refine zY.rqo _ K_1t K_17 ?_; refine zZ.vm rfl rfl rfl rfl (by decide) ?_; refine zZ.va rfl rfl rfl rfl (by decide) ?_; refine zZ.nil ?_) | (refine zY.iq 4 ?_; refine zY.rqn _ K_1t K_17 ?_; refine zZ.v rfl rfl (yJ rfl rfl rfl (by decide)) ?_; refine zZ.vm rfl rfl rfl rfl (by decide) ?_; refine zZ.vm rfl rfl rfl rfl (by decide) ?_; refine zZ.v rfl rfl (by exact a_mul rfl rfl rfl (by exact wrap_i64 _ (by omega)) rfl (by decide)) ?_; (refine zZ.v rfl rfl (by exact a_shr rfl rfl rfl (by omega) (by (simp only [IntKind.bits]; omega)) g1 rfl (by decide)) ?_); refine zZ.v rfl rfl (xZ rfl rfl g2 rfl (by decide)) ?_; refine zZ.m rfl rfl (w_buildB rfl (by decide) (by decide) (by decide) (by decide) (by rfl) (by rfl) (by rfl) (by rfl) rfl (by decide)) ?_; refine zZ.w rfl (w_appOB rfl rfl rfl rfl rfl g3 rfl rfl (by decide)) ?_; refine zZ.v rfl rfl (zN rfl rfl rfl (by decide)) ?_; refine zZ.nil ?_) | (refine zY.iq 5 ?_; refine zY.rqn _ K_1t K_17 ?_; refine zZ.v rfl rfl (by exact yX rfl rfl rfl (by exact wrap_i64 _ (by omega)) rfl (by decide)) ?_; refine zZ.vm rfl rfl rfl rfl (by decide) ?_; refine zZ.nil ?_) | refine zY.yC rfl (by assumption) ?_ | refine zY.skip ?_ | refine zY.block ?_) | refine zH.n ?_)
      refine ⟨i + 1, ?_, by omega, by omega⟩
      have e : cs ++ bytesOf (i + 1) n = cs ++ bytesOf i n ++ [n / 256 ^ i % 256] := by rw [bytesOf_snoc, List.append_assoc]
      unfold laidS
      rw [e]
      exact zD K_2q K_2r
    · have hd : decide ((i : Int) < (many : Int)) = false := by simp; omega
      obtain rfl : i = many := by omega
      repeat' ((refine zY.is ?_; first | refine zY.seq ?_ | (refine zY.iq 2 ?_; refine zY.rqo _ K_1t K_17 ?_; refine zZ.v rfl rfl (yZ rfl rfl rfl (by rfl) rfl (by decide)) ?_; refine zZ.nil ?_) | (refine zY.iq 6 ?_; refine zY.rqn _ K_3k K_17 ?_; refine zZ.v rfl rfl (yJ rfl rfl rfl (by decide)) ?_; refine zZ.v rfl rfl (zN rfl rfl rfl (by decide)) ?_; refine zZ.nil ?_) | refine zY.yF rfl (by assumption) ?_ | refine zY.exit ?_ | refine zY.ret ?_))
      exact ⟨.inl rfl, _, Sub.refl _, rfl, rfl⟩
def xD (b : List Int) : List Int := bytesOf 2 b.length ++ bytesOf 4 (xC 0 b : Nat) ++ b
def kV (b : List Int) : Prop := 1 ≤ b.length ∧ b.length ≤ 65535
theorem moreF_lt (sum : Nat) (b : List Int) : xC sum b < 4294967296 := by unfold xC; omega
theorem put_fn (b : List Int) (hb : ∀ x ∈ b, 0 ≤ x ∧ x < 256) (hl : kV b) : Fn Tryd.prog 39 [.sl (byts b)] (.tup [.sl (byts (xD b)), .val (.int .i64 0)]) := by
  obtain ⟨hl0, hl1⟩ := hl
  have hm := moreF_lt 0 b
  have c1 := sum_fn b (by omega) hb
  have c2 := laid_fn [] (b.length : Int) 2 (by decide) (by decide)
  have c3 := laid_fn ([] ++ bytesOf 2 (b.length : Int)) ((xC 0 b : Nat) : Int) 4 (by decide) (by rw [List.nil_append, bytesOf_length]; decide)
  have g1 : decide ((b.length : Int) < 1) = false := decide_eq_false (by omega)
  have g2 : decide ((65535 : Int) < (b.length : Int)) = false := decide_eq_false (by omega)
  have g3 : IntKind.u64.wrap (b.length : Int) = (b.length : Int) := wrap_u64 _ (by omega)
  have g4 : IntKind.u64.wrap ((xC 0 b : Nat) : Int) = ((xC 0 b : Nat) : Int) := wrap_u64 _ (by omega)
  have g5 : ([] ++ bytesOf 2 (b.length : Int) ++ bytesOf 4 ((xC 0 b : Nat) : Int)).length + b.length ≤ 140737488355328 := by
    rw [List.nil_append, List.length_append, bytesOf_length, bytesOf_length]
    omega
  refine wU Tryd.func39 rfl Tryd.ntmps39 (Nat.le_of_ble_eq_true rfl) ?_
  repeat' ((refine zY.is ?_; first | refine zY.seq ?_ | (refine zY.iq 0 ?_; refine zY.rqa _ K_5 K_18 ?_; refine zZ.va rfl rfl rfl rfl (by decide) ?_; refine zZ.va rfl rfl rfl rfl (by decide) ?_; refine zZ.nil ?_) | (refine zY.iq 1 ?_; refine zY.rqa _ K_7 K_18 ?_; all_goals (refine zZ.vm rfl rfl rfl rfl (by decide) ?_); all_goals (refine zZ.v rfl rfl (xH rfl rfl rfl (by decide)) ?_); all_goals (refine zZ.v rfl rfl (yZ rfl rfl rfl g1 rfl (by decide)) ?_); all_goals (refine zZ.vm rfl rfl rfl rfl (by decide) ?_); all_goals (refine zZ.gY rfl rfl (by decide) rfl (by rfl) rfl (by decide) (zQ rfl rfl rfl (by decide)) ?_); all_goals (refine zZ.gY rfl rfl (by decide) rfl (by rfl) rfl (by decide) (xH rfl rfl rfl (by decide)) ?_); all_goals (refine zZ.gY rfl rfl (by decide) rfl (by rfl) rfl (by decide) (qL rfl rfl rfl g2 rfl (by decide)) ?_); all_goals (refine zZ.v rfl rfl (zM rfl rfl (by rfl) rfl rfl (by decide)) ?_); all_goals (refine zZ.nil ?_)) | (refine zY.iq 3 ?_; refine zY.rqa _ K_7 K_18 ?_; refine zZ.vm rfl rfl rfl rfl (by decide) ?_; refine zZ.v rfl rfl (xH rfl rfl rfl (by decide)) ?_; refine zZ.v rfl rfl (xZ rfl rfl g3 rfl (by decide)) ?_; refine zZ.w rfl (by exact s_callRnil (c2) (byts_vals _) rfl ⟨_, rfl, rfl⟩ rfl rfl (by decide)) ?_; refine zZ.v rfl rfl (zN rfl rfl rfl (by decide)) ?_; refine zZ.nil ?_) | (refine zY.iq 4 ?_; refine zY.rqn _ K_k K_18 ?_; refine zZ.v rfl rfl (yJ rfl rfl rfl (by decide)) ?_; refine zZ.vm rfl rfl rfl rfl (by decide) ?_; refine zZ.v rfl rfl (by exact yE (c1) rfl rfl rfl (by decide)) ?_; refine zZ.v rfl rfl (xZ rfl rfl g4 rfl (by decide)) ?_; refine zZ.w rfl (by exact s_callR (c3) (byts_vals _) rfl ⟨_, rfl, rfl⟩ rfl rfl rfl (by decide)) ?_; refine zZ.v rfl rfl (zN rfl rfl rfl (by decide)) ?_; refine zZ.nil ?_) | (refine zY.iq 5 ?_; refine zY.rqn _ K_k K_18 ?_; refine zZ.v rfl rfl (yJ rfl rfl rfl (by decide)) ?_; refine zZ.vm rfl rfl rfl rfl (by decide) ?_; refine zZ.w rfl (kZ rfl rfl rfl rfl g5 rfl rfl (by decide)) ?_; refine zZ.v rfl rfl (zN rfl rfl rfl (by decide)) ?_; refine zZ.va rfl rfl rfl rfl (by decide) ?_; refine zZ.nil ?_) | refine zY.yF rfl (by first | assumption | with_reducible rfl) ?_ | refine zY.skip ?_ | refine zY.ret ?_))
  all_goals exact ⟨.inl rfl, _, wR (d := 2) (id := 16) rfl rfl, .tup (rs := [.tmp 2, .tmp 3]) rfl (by decide) (.cons (.tmp rfl) (.cons (.tmp rfl) .nil))⟩
theorem put_nil : Fn Tryd.prog 39 [.sl (byts [])] (.tup [.sl (byts []), .val (.int .i64 1)]) := by
  refine wU Tryd.func39 rfl Tryd.ntmps39 (Nat.le_of_ble_eq_true rfl) ?_
  repeat' (first | (refine zY.is ?_; first | refine zY.seq ?_ | (refine zY.iq 0 ?_; refine zY.rqa _ K_5 K_18 ?_; refine zZ.va rfl rfl rfl rfl (by decide) ?_; refine zZ.va rfl rfl rfl rfl (by decide) ?_; refine zZ.nil ?_) | (refine zY.iq 1 ?_; refine zY.rqa _ K_7 K_18 ?_; all_goals (refine zZ.vm rfl rfl rfl rfl (by decide) ?_); all_goals (refine zZ.v rfl rfl (xH rfl rfl rfl (by decide)) ?_); all_goals (refine zZ.v rfl rfl (by exact yZ rfl rfl rfl (by exact bT (by decide)) rfl (by decide)) ?_); all_goals (refine zZ.vm rfl rfl rfl rfl (by decide) ?_); all_goals (refine zZ.gnF rfl rfl (by decide) rfl (by rfl) rfl (by decide) ?_); all_goals (refine zZ.gnF rfl rfl (by decide) rfl (by rfl) rfl (by decide) ?_); all_goals (refine zZ.gnF rfl rfl (by decide) rfl (by rfl) rfl (by decide) ?_); all_goals (refine zZ.v rfl rfl (zR rfl rfl (by rfl) rfl rfl (by decide)) ?_); all_goals (refine zZ.nil ?_)) | (refine zY.iq 2 ?_; refine zY.rqa _ K_7 K_18 ?_; refine zZ.va rfl rfl rfl rfl (by decide) ?_; refine zZ.va rfl rfl rfl rfl (by decide) ?_; refine zZ.nil ?_) | refine zY.yC rfl (by rfl) ?_ | refine zY.ret ?_) | refine zH.r ?_)
  all_goals exact ⟨.inl rfl, _, qU (d := 2) rfl, .tup (rs := [.tmp 2, .tmp 3]) rfl (by decide) (.cons (.tmp rfl) (.cons (.tmp rfl) .nil))⟩
theorem putF_ref (b : List Int) (hl : kV b) : xD b = [((b.length : Int) % 256), ((b.length : Int) / 256), ((xC 0 b : Nat) : Int) % 256, ((xC 0 b : Nat) : Int) / 256 % 256, ((xC 0 b : Nat) : Int) / 65536 % 256, ((xC 0 b : Nat) : Int) / 16777216] ++ b := by
  obtain ⟨hl0, hl1⟩ := hl
  have hm := moreF_lt 0 b
  unfold xD
  generalize xC 0 b = m at *
  simp only [bytesOf, List.cons_append, List.nil_append, List.cons.injEq, true_and, and_true]
  refine ⟨by omega, by omega, by omega⟩
theorem putRef_fn (b : List Int) (hb : ∀ x ∈ b, 0 ≤ x ∧ x < 256) (hl : kV b) : Fn Tryd.prog 45 [.sl (byts b)] (.tup [.sl (byts (xD b)), .val (.int .i64 0)]) := by
  rw [putF_ref b hl]
  obtain ⟨hl0, hl1⟩ := hl
  have hm := moreF_lt 0 b
  have c1 := sumRef_fn b (by omega) hb
  generalize xC 0 b = m at *
  have td : ∀ (x : Int) (k : Int), 0 ≤ x → x.tdiv k = x / k := fun x k h => Int.tdiv_eq_ediv_of_nonneg h
  have tm : ∀ (x : Int) (k : Int), 0 ≤ x → x.tmod k = x % k := fun x k h => Int.tmod_eq_emod_of_nonneg h
  have wb : ∀ x : Int, 0 ≤ x → x < 256 → IntKind.u8.wrap x = x := fun x h h' => wrap_u8 _ (by omega)
  have g1 : decide ((b.length : Int) < 1) = false := decide_eq_false (by omega)
  have g2 : decide ((65535 : Int) < (b.length : Int)) = false := decide_eq_false (by omega)
  have n1 : (b.length : Int).tmod 256 = (b.length : Int) % 256 := tm _ _ (by omega)
  have n2 : IntKind.u8.wrap ((b.length : Int) % 256) = (b.length : Int) % 256 := wb _ (by omega) (by omega)
  have n3 : IntKind.i64.wrap ((b.length : Int).tdiv 256) = (b.length : Int) / 256 := by rw [td _ _ (by omega)]; exact wrap_i64 _ (by omega)
  have n4 : IntKind.u8.wrap ((b.length : Int) / 256) = (b.length : Int) / 256 := wb _ (by omega) (by omega)
  have m1 : ((m : Nat) : Int).tmod 256 = (m : Int) % 256 := tm _ _ (by omega)
  have m2 : IntKind.u8.wrap ((m : Int) % 256) = (m : Int) % 256 := wb _ (by omega) (by omega)
  have m3 : IntKind.u32.wrap (((m : Nat) : Int).tdiv 256) = (m : Int) / 256 := by rw [td _ _ (by omega)]; exact wrapU32 _ (by omega) (by omega)
  have m4 : ((m : Int) / 256).tmod 256 = (m : Int) / 256 % 256 := tm _ _ (by omega)
  have m5 : IntKind.u8.wrap ((m : Int) / 256 % 256) = (m : Int) / 256 % 256 := wb _ (by omega) (by omega)
  have m6 : IntKind.u32.wrap (((m : Nat) : Int).tdiv 65536) = (m : Int) / 65536 := by rw [td _ _ (by omega)]; exact wrapU32 _ (by omega) (by omega)
  have m7 : ((m : Int) / 65536).tmod 256 = (m : Int) / 65536 % 256 := tm _ _ (by omega)
  have m8 : IntKind.u8.wrap ((m : Int) / 65536 % 256) = (m : Int) / 65536 % 256 := wb _ (by omega) (by omega)
  have m9 : IntKind.u32.wrap (((m : Nat) : Int).tdiv 16777216) = (m : Int) / 16777216 := by rw [td _ _ (by omega)]; exact wrapU32 _ (by omega) (by omega)
  have m10 : IntKind.u8.wrap ((m : Int) / 16777216) = (m : Int) / 16777216 := wb _ (by omega) (by omega)
  have g5 : [((b.length : Int) % 256), ((b.length : Int) / 256), (m : Int) % 256, (m : Int) / 256 % 256, (m : Int) / 65536 % 256, (m : Int) / 16777216].length + b.length ≤ 140737488355328 := by
    simp only [List.length_cons, List.length_nil]
    omega
  clear td tm wb
  refine wU Tryd.func45 rfl Tryd.ntmps45 (Nat.le_of_ble_eq_true rfl) ?_
  repeat' ((refine zY.is ?_; first | refine zY.seq ?_ | (refine zY.iq 0 ?_; refine zY.rqa _ K_5 K_1m ?_; refine zZ.va rfl rfl rfl rfl (by decide) ?_; refine zZ.va rfl rfl rfl rfl (by decide) ?_; refine zZ.nil ?_) | (refine zY.iq 1 ?_; refine zY.rqa _ K_7 K_1m ?_; refine zZ.vm rfl rfl rfl rfl (by decide) ?_; refine zZ.v rfl rfl (xH rfl rfl rfl (by decide)) ?_; refine zZ.va rfl rfl rfl rfl (by decide) ?_; refine zZ.nil ?_) | (refine zY.iq 2 ?_; refine zY.rqa _ K_k K_1m ?_; all_goals (refine zZ.vm rfl rfl rfl rfl (by decide) ?_); all_goals (refine zZ.v rfl rfl (yZ rfl rfl rfl g1 rfl (by decide)) ?_); all_goals (refine zZ.vm rfl rfl rfl rfl (by decide) ?_); all_goals (refine zZ.gY rfl rfl (by decide) rfl (by rfl) rfl (by decide) (zQ rfl rfl rfl (by decide)) ?_); all_goals (refine zZ.gY rfl rfl (by decide) rfl (by rfl) rfl (by decide) (qL rfl rfl rfl g2 rfl (by decide)) ?_); all_goals (refine zZ.v rfl rfl (zM rfl rfl (by rfl) rfl rfl (by decide)) ?_); all_goals (refine zZ.nil ?_)) | (refine zY.iq 4 ?_; refine zY.rqa _ K_k K_1m ?_; refine zZ.vm rfl rfl rfl rfl (by decide) ?_; refine zZ.v rfl rfl (by exact yE (c1) rfl rfl rfl (by decide)) ?_; refine zZ.va rfl rfl rfl rfl (by decide) ?_; refine zZ.nil ?_) | (refine zY.iq 5 ?_; refine zY.rqa _ K_2b K_1m ?_; refine zZ.vm rfl rfl rfl rfl (by decide) ?_; refine zZ.v rfl rfl (a_rem rfl rfl rfl (by decide) n1 rfl (by decide)) ?_; refine zZ.v rfl rfl (xZ rfl rfl n2 rfl (by decide)) ?_; refine zZ.vm rfl rfl rfl rfl (by decide) ?_; refine zZ.v rfl rfl (a_quo rfl rfl rfl (by decide) n3 rfl (by decide)) ?_; refine zZ.v rfl rfl (xZ rfl rfl n4 rfl (by decide)) ?_; refine zZ.vm rfl rfl rfl rfl (by decide) ?_; refine zZ.v rfl rfl (a_rem rfl rfl rfl (by decide) m1 rfl (by decide)) ?_; refine zZ.v rfl rfl (xZ rfl rfl m2 rfl (by decide)) ?_; refine zZ.vm rfl rfl rfl rfl (by decide) ?_; refine zZ.v rfl rfl (a_quo rfl rfl rfl (by decide) m3 rfl (by decide)) ?_; refine zZ.v rfl rfl (a_rem rfl rfl rfl (by decide) m4 rfl (by decide)) ?_; refine zZ.v rfl rfl (xZ rfl rfl m5 rfl (by decide)) ?_; refine zZ.vm rfl rfl rfl rfl (by decide) ?_; refine zZ.v rfl rfl (a_quo rfl rfl rfl (by decide) m6 rfl (by decide)) ?_; refine zZ.v rfl rfl (a_rem rfl rfl rfl (by decide) m7 rfl (by decide)) ?_; refine zZ.v rfl rfl (xZ rfl rfl m8 rfl (by decide)) ?_; refine zZ.vm rfl rfl rfl rfl (by decide) ?_; refine zZ.v rfl rfl (a_quo rfl rfl rfl (by decide) m9 rfl (by decide)) ?_; refine zZ.v rfl rfl (xZ rfl rfl m10 rfl (by decide)) ?_; refine zZ.m rfl rfl (w_buildB rfl (by decide) (by decide) (by decide) (by decide) (by rfl) (by rfl) (by rfl) (by rfl) rfl (by decide)) ?_; refine zZ.v rfl rfl (zN rfl rfl rfl (by decide)) ?_; refine zZ.nil ?_) | (refine zY.iq 6 ?_; refine zY.rqn _ K_2s K_1m ?_; refine zZ.v rfl rfl (yJ rfl rfl rfl (by decide)) ?_; refine zZ.vm rfl rfl rfl rfl (by decide) ?_; refine zZ.w rfl (kZ rfl rfl rfl rfl g5 rfl rfl (by decide)) ?_; refine zZ.v rfl rfl (zN rfl rfl rfl (by decide)) ?_; refine zZ.va rfl rfl rfl rfl (by decide) ?_; refine zZ.nil ?_) | refine zY.yF rfl (by first | assumption | with_reducible rfl) ?_ | refine zY.skip ?_ | refine zY.ret ?_))
  all_goals exact ⟨.inl rfl, _, wR (d := 2) (id := 37) rfl rfl, .tup (rs := [.tmp 2, .tmp 3]) rfl (by decide) (.cons (.tmp rfl) (.cons (.tmp rfl) .nil))⟩
def bytesE (k s y u v x : Int) : List Int := if qP k s y u v x then xD (qG k s y u v x) else []
theorem encL_le2 (k s y u v x : Int) : kV (qG k s y u v x) := by
  have : (qG k s y u v x).length = if k = 1 then 41 else 9 := by
    unfold qG
    by_cases hk : k = 1
    · rw [if_pos hk, if_pos hk]; simp [bytesOf_length]
    · rw [if_neg hk, if_neg hk]; simp [bytesOf_length]
  unfold kV
  rw [this]
  split <;> decide
theorem wZ : ∀ (k : Nat) (n : Int), ∀ x ∈ bytesOf k n, 0 ≤ x ∧ x < 256
  | 0, n, x, hx => by simp [bytesOf] at hx
  | k + 1, n, x, hx => by
    rw [bytesOf, List.mem_cons] at hx
    rcases hx with rfl | hx
    · omega
    · exact wZ k (n / 256) x hx
theorem encL_range' (k s y u v x : Int) : ∀ c ∈ qG k s y u v x, 0 ≤ c ∧ c < 256 := by
  intro c hc
  unfold qG at hc
  simp only [List.cons_append, List.mem_cons, List.mem_append] at hc
  have r := wZ 8
  rcases hc with rfl | hc | hc
  · omega
  · exact r s c hc
  · by_cases hk : k = 1
    · rw [if_pos hk] at hc
      simp only [List.mem_append] at hc
      rcases hc with ((hc | hc) | hc) | hc
      · exact r _ c hc
      · exact r _ c hc
      · exact r _ c hc
      · exact r _ c hc
    · rw [if_neg hk] at hc; simp at hc
def U (x : Int) : Prop := 0 ≤ x ∧ x < 18446744073709551616
theorem bytesRef_fn (k s y u v x : Int) (h0 : U s) (h2 : U y) (h4 : U u) (h6 : U v) (h8 : U x) : Fn Tryd.prog 24 [entV k s y u v x] (.p (.sl (byts (bytesE k s y u v x)))) := by
  have c1 := encRef_fn k s y u v x h0.1 h0.2 h2.1 h2.2 h4.1 h4.2 h6.1 h6.2 h8.1 h8.2
  refine wU Tryd.func24 rfl Tryd.ntmps24 (Nat.le_of_ble_eq_true rfl) ?_
  unfold bytesE
  by_cases hm : qP k s y u v x = true
  · rw [if_pos hm] at c1 ⊢
    have c2 := putRef_fn (qG k s y u v x) (encL_range' k s y u v x) (encL_le2 k s y u v x)
    repeat' ((refine zY.is ?_; first | refine zY.seq ?_ | (refine zY.iq 0 ?_; refine zY.rqa _ K_5 K_9 ?_; refine zZ.m rfl rfl (vQ rfl rfl rfl (by decide)) ?_; refine zZ.va rfl rfl rfl rfl (by decide) ?_; refine zZ.nil ?_) | (refine zY.iq 1 ?_; refine zY.rqh _ K_9 K_9 ?_; refine zZ.v rfl rfl (xY rfl rfl rfl (by rfl) (by rfl) rfl (by decide)) ?_; refine zZ.v rfl rfl (by exact y9 (c1) rfl rfl rfl (by decide)) ?_; refine zZ.v rfl rfl (yG rfl rfl rfl (by decide)) ?_; refine zZ.v rfl rfl (zC rfl rfl rfl rfl (by decide)) ?_; refine zZ.v rfl rfl (zC rfl rfl rfl rfl (by decide)) ?_; refine zZ.va rfl rfl rfl rfl (by decide) ?_; refine zZ.va rfl rfl rfl rfl (by decide) ?_; refine zZ.nil ?_) | (refine zY.iq 2 ?_; refine zY.rqf _ K_v K_9 ?_; refine zZ.vm rfl rfl rfl rfl (by decide) ?_; refine zZ.v rfl rfl (by exact vJ rfl rfl rfl (by exact bF (by decide)) rfl (by decide)) ?_; refine zZ.nil ?_) | (refine zY.iq 4 ?_; refine zY.rqf _ K_2c K_9 ?_; refine zZ.vm rfl rfl rfl rfl (by decide) ?_; refine zZ.v rfl rfl (by exact y9 (c2) rfl rfl rfl (by decide)) ?_; refine zZ.v rfl rfl (yG rfl rfl rfl (by decide)) ?_; refine zZ.v rfl rfl (zC rfl rfl rfl rfl (by decide)) ?_; refine zZ.v rfl rfl (zC rfl rfl rfl rfl (by decide)) ?_; refine zZ.va rfl rfl rfl rfl (by decide) ?_; refine zZ.va rfl rfl rfl rfl (by decide) ?_; refine zZ.nil ?_) | (refine zY.iq 5 ?_; refine zY.rqf _ K_w K_9 ?_; refine zZ.vm rfl rfl rfl rfl (by decide) ?_; refine zZ.va rfl rfl rfl rfl (by decide) ?_; refine zZ.nil ?_) | refine zY.yF rfl (by rfl) ?_ | refine zY.skip ?_ | refine zY.ret ?_))
    all_goals exact ⟨.inl rfl, _, Sub.refl _, .p rfl (.tmp rfl)⟩
  · rw [if_neg hm] at c1 ⊢
    repeat' (first | (refine zY.is ?_; first | refine zY.seq ?_ | (refine zY.iq 0 ?_; refine zY.rqa _ K_5 K_9 ?_; refine zZ.m rfl rfl (vQ rfl rfl rfl (by decide)) ?_; refine zZ.va rfl rfl rfl rfl (by decide) ?_; refine zZ.nil ?_) | (refine zY.iq 1 ?_; refine zY.rqh _ K_9 K_9 ?_; refine zZ.v rfl rfl (xY rfl rfl rfl (by rfl) (by rfl) rfl (by decide)) ?_; refine zZ.v rfl rfl (by exact y9 (c1) rfl rfl rfl (by decide)) ?_; refine zZ.v rfl rfl (yG rfl rfl rfl (by decide)) ?_; refine zZ.v rfl rfl (zC rfl rfl rfl rfl (by decide)) ?_; refine zZ.v rfl rfl (zC rfl rfl rfl rfl (by decide)) ?_; refine zZ.va rfl rfl rfl rfl (by decide) ?_; refine zZ.va rfl rfl rfl rfl (by decide) ?_; refine zZ.nil ?_) | (refine zY.iq 2 ?_; refine zY.rqf _ K_v K_9 ?_; refine zZ.vm rfl rfl rfl rfl (by decide) ?_; refine zZ.v rfl rfl (by exact vJ rfl rfl rfl (by exact bT (by decide)) rfl (by decide)) ?_; refine zZ.nil ?_) | (refine zY.iq 3 ?_; refine zY.rqf _ K_2c K_9 ?_; refine zZ.va rfl rfl rfl rfl (by decide) ?_; refine zZ.nil ?_) | refine zY.yC rfl (by rfl) ?_ | refine zY.ret ?_) | refine zH.r ?_)
    all_goals exact ⟨.inl rfl, _, qU (d := 2) rfl, .p rfl (.tmp rfl)⟩
end Go.Proofs.YtomlhekjgagjaaaDoor
namespace Go.Proofs.YtomlhekjgagjaaaDoor
set_option maxRecDepth 100000
set_option maxHeartbeats 16000000
open Go.RowKit
def numOf : List Int → Int
  | [] => 0
  | b :: l => b + 256 * numOf l
theorem numOf_range (l : List Int) (h : ∀ b ∈ l, 0 ≤ b ∧ b < 256) : 0 ≤ numOf l ∧ numOf l < 256 ^ l.length := by
  induction l with
  | nil => simp [numOf]
  | cons b l ih =>
    have h1 := h b (by simp)
    have h2 := ih fun c hc => h c (by simp [hc])
    simp only [numOf, List.length_cons, Int.pow_succ]
    omega
theorem numOf_small (l : List Int) (k : Nat) (h : ∀ b ∈ l, 0 ≤ b ∧ b < 256) : 0 ≤ numOf (l.take k) ∧ numOf (l.take k) < 256 ^ k := by
  have h1 := numOf_range (l.take k) fun b hb => h b (List.mem_of_mem_take hb)
  have h2 : (l.take k).length ≤ k := List.length_take_le _ _
  have h3 : (256 : Int) ^ (l.take k).length ≤ 256 ^ k := by
    obtain ⟨d, hd⟩ := Nat.exists_eq_add_of_le h2
    have h4 := pow256_pos (l.take k).length
    have h5 := pow256_pos d
    have e : (256 : Int) ^ k = 256 ^ (l.take k).length * 256 ^ d := by rw [← Int.pow_add, ← hd]
    rw [e]
    have h6 := Int.mul_le_mul_of_nonneg_left (show (1 : Int) ≤ 256 ^ d by omega) (Int.le_of_lt h4)
    omega
  omega
theorem numOf_step (b : List Int) (i k : Nat) (h : i < b.length) : numOf ((b.drop i).take (k + 1)) = b.getD i 0 + 256 * numOf ((b.drop (i + 1)).take k) := by
  rw [List.drop_eq_getElem_cons h, List.take_succ_cons, numOf]
  simp [h]
end Go.Proofs.YtomlhekjgagjaaaDoor
namespace Go.Proofs.YtomlhekjgagjaaaDoor
set_option maxRecDepth 100000
set_option maxHeartbeats 16000000
open Go Go.RowKit
attribute [local irreducible] zZ zY Step zA Sub zL z8 Fn
theorem or_byte (a c : Int) (h0 : 0 ≤ a) (h1 : a * 256 + 256 ≤ 18446744073709551616) (c0 : 0 ≤ c) (c1 : c < 256) : bits .or .u64 (a * 256) c = c + 256 * a := by
  obtain ⟨n, rfl⟩ := Int.eq_ofNat_of_zero_le h0
  obtain ⟨m, rfl⟩ := Int.eq_ofNat_of_zero_le c0
  have h2 := Nat.shiftLeft_add_eq_or_of_lt (show m < 2 ^ 8 by omega) n
  rw [Nat.shiftLeft_eq] at h2
  have e : ((n : Int) * 256) = ((n * 256 : Nat) : Int) := by omega
  rw [e, u64_or_nat (n * 256) m (by omega) (by omega), ← h2]
  omega
def numS (b : List Int) (k : Nat) : AS := { t := [(0, .p (.sl (byts b))), (3, .p (.val (.int .u64 (numOf (b.drop k))))), (4, .p (.val (.int .i64 ((k : Int) - 1))))], s := [] }
theorem fnumber_fn (b : List Int) (hb : ∀ x ∈ b, 0 ≤ x ∧ x < 256) (hl : b.length ≤ 7) : Fn Tryd.prog 83 [.sl (byts b)] (.p (.val (.int .u64 (numOf b)))) := by
 have g0 : IntKind.i64.wrap (((b.length : Nat) : Int) - 1) = ((b.length : Nat) : Int) - 1 := wrap_i64 _ (by omega)
 refine qI Tryd.func83 rfl Tryd.ntmps83 (Nat.le_of_ble_eq_true rfl) ?_
 repeat' ((refine zY.is ?_; first | refine zY.seq ?_ | (refine zY.isR (id := 0) ?_; refine zY.zK [0] [] (by repeat' first | exact zX.nil | apply zX.p rfl) (by repeat' exact zW.nil) ?_; refine zZ.va rfl rfl rfl rfl (by decide) ?_; refine zZ.nil ?_) | (refine zY.isR (id := 1) ?_; refine zY.zK [0, 2] [] (by repeat' first | exact zX.nil | apply zX.p rfl) (by repeat' exact zW.nil) ?_; refine zZ.va rfl rfl rfl rfl (by decide) ?_; refine zZ.nil ?_) | (refine zY.isR (id := 2) ?_; refine zY.zK [0, 2, 3] [] (by repeat' first | exact zX.nil | apply zX.p rfl) (by repeat' exact zW.nil) ?_; refine zZ.vm rfl rfl rfl rfl (by decide) ?_; refine zZ.v rfl rfl (xH rfl rfl rfl (by decide)) ?_; refine zZ.v rfl rfl (w9 rfl rfl rfl g0 rfl (by decide)) ?_; refine zZ.va rfl rfl rfl rfl (by decide) ?_; refine zZ.nil ?_) | refine zY.block ?_))
 refine zY.loop (fun k : Nat => numS b k) (fun k => k ≤ b.length) (fun k => k) b.length ?h0 (Nat.le_refl _) ?rd
 case h0 =>
  unfold numS
  rw [List.drop_length]
  exact zD K_x []
 case rd =>
  intro k hk
  match k, hk with
  | 0, _ =>
   have g1 : decide ((((0 : Nat) : Int) - 1) ≥ 0) = false := rfl
   unfold numS
   repeat' ((refine zY.is ?_; first | refine zY.seq ?_ | (refine zY.isR (id := 3) ?_; refine zY.zK [0, 2, 3, 4, 9] [] (by repeat' first | exact zX.nil | apply zX.p rfl | apply zX.skip) (by repeat' exact zW.nil) ?_; refine zZ.vm rfl rfl rfl rfl (by decide) ?_; refine zZ.v rfl rfl (qM rfl rfl rfl g1 rfl (by decide)) ?_; refine zZ.nil ?_) | (refine zY.isR (id := 6) ?_; refine zY.zK [2, 3] [] (by repeat' first | exact zX.nil | apply zX.p rfl | apply zX.skip) (by repeat' exact zW.nil) ?_; refine zZ.vm rfl rfl rfl rfl (by decide) ?_; refine zZ.va rfl rfl rfl rfl (by decide) ?_; refine zZ.nil ?_) | refine zY.yF rfl (by assumption) ?_ | refine zY.exit ?_ | refine zY.ret ?_))
   all_goals exact ⟨by first | exact .inl rfl | exact .inr rfl, gives1 rfl rfl rfl⟩
  | k + 1, hk =>
   have hlt : k < b.length := hk
   have g1 : decide ((((k + 1 : Nat) : Int) - 1) ≥ 0) = true := decide_eq_true (by omega)
   obtain ⟨c, hc⟩ : ∃ c, b[k]? = some c := ⟨_, List.getElem?_eq_getElem hlt⟩
   have hcr := hb c (List.mem_of_getElem? hc)
   have hnr := numOf_range (b.drop (k + 1)) fun x hx => hb x (List.mem_of_mem_drop hx)
   have hn6 : numOf (b.drop (k + 1)) < 281474976710656 := Int.lt_of_lt_of_le hnr.2 (by
    have h1 : (b.drop (k + 1)).length ≤ 6 := by rw [List.length_drop]; omega
    have : (256 : Int) ^ (b.drop (k + 1)).length ≤ 256 ^ 6 := by exact_mod_cast Nat.pow_le_pow_right (by decide) h1
    simpa using this)
   have hd : numOf (b.drop k) = c + 256 * numOf (b.drop (k + 1)) := by
    rw [List.drop_eq_getElem_cons hlt]
    have e : b[k] = c := by rw [List.getElem?_eq_getElem hlt] at hc; exact Option.some.inj hc
    rw [e]; rfl
   unfold numS
   generalize numOf (b.drop (k + 1)) = m at *
   have e0 : ((k + 1 : Nat) : Int) - 1 = (k : Nat) := by omega
   have g2 : (0 : Int) ≤ (k : Int) ∧ (k : Int) < ((b.length : Nat) : Int) := by omega
   have g3 : IntKind.u64.wrap (m * 2 ^ (8 : Int).toNat) = m * 256 := by
    have : (2 : Int) ^ (8 : Int).toNat = 256 := rfl
    rw [this]; exact wrap_u64 _ (by omega)
   have hgd : b.getD (k : Int).toNat 0 = c := by rw [Int.toNat_natCast, List.getD_eq_getElem?_getD, hc]; rfl
   have g4 : IntKind.u64.wrap (b.getD (k : Int).toNat 0) = c := by rw [hgd]; exact wrap_u64 _ (by omega)
   have g5 : bits .or .u64 (m * 256) c = c + 256 * m := or_byte m c hnr.1 (by omega) hcr.1 hcr.2
   have g6 : IntKind.i64.wrap ((k : Int) - 1) = (k : Int) - 1 := wrap_i64 _ (by omega)
   rw [e0] at g1 ⊢
   repeat' (first | (refine zY.is ?_; first | refine zY.seq ?_ | (refine zY.isR (id := 3) ?_; refine zY.zK [0, 2, 3, 4, 9] [] (by repeat' first | exact zX.nil | apply zX.p rfl | apply zX.skip) (by repeat' exact zW.nil) ?_; refine zZ.vm rfl rfl rfl rfl (by decide) ?_; refine zZ.v rfl rfl (qM rfl rfl rfl g1 rfl (by decide)) ?_; refine zZ.nil ?_) | (refine zY.isR (id := 5) ?_; refine zY.zK [0, 2, 3, 4, 9] [] (by repeat' first | exact zX.nil | apply zX.p rfl | apply zX.skip) (by repeat' exact zW.nil) ?_; refine zZ.vm rfl rfl rfl rfl (by decide) ?_; refine zZ.v rfl rfl (a_shl rfl rfl rfl (by decide) (by decide) g3 rfl (by decide)) ?_; refine zZ.vm rfl rfl rfl rfl (by decide) ?_; refine zZ.vm rfl rfl rfl rfl (by decide) ?_; refine zZ.v rfl rfl (wE rfl rfl rfl g2 rfl (by decide)) ?_; refine zZ.v rfl rfl (zP rfl rfl rfl rfl (by decide)) ?_; refine zZ.v rfl rfl (xZ rfl rfl g4 rfl (by decide)) ?_; refine zZ.v rfl rfl (a_or rfl rfl rfl g5 rfl (by decide)) ?_; refine zZ.va rfl rfl rfl rfl (by decide) ?_; refine zZ.nil ?_) | (refine zY.isR (id := 4) ?_; refine zY.zK [0, 2, 3, 4, 9] [] (by repeat' first | exact zX.nil | apply zX.p rfl | apply zX.skip) (by repeat' exact zW.nil) ?_; refine zZ.vm rfl rfl rfl rfl (by decide) ?_; refine zZ.v rfl rfl (w9 rfl rfl rfl g6 rfl (by decide)) ?_; refine zZ.va rfl rfl rfl rfl (by decide) ?_; refine zZ.nil ?_) | refine zY.yC rfl (by assumption) ?_ | refine zY.skip ?_ | refine zY.block ?_) | refine zH.n ?_)
   all_goals
    refine ⟨k, ?_, by omega, by omega⟩
    try unfold numS
    rw [hd]
    exact zD K_x []
theorem bclone_fn (b : List Int) (h0 : b ≠ []) (hl : b.length ≤ 1000000) : Fn Tryd.prog 84 [.sl (byts b)] (.p (.sl (byts b))) := by
  have hne : byts b ≠ [] := fun e => h0 (by
    have := congrArg List.length e
    rw [qW] at this
    exact List.length_eq_zero_iff.1 this)
  refine wU Tryd.func84 rfl Tryd.ntmps84 (Nat.le_of_ble_eq_true rfl) ?_
  repeat' ((refine zY.is ?_; first | refine zY.seq ?_ | (refine zY.iq 0 ?_; refine zY.rqa _ K_5 K_w ?_; refine zZ.va rfl rfl rfl rfl (by decide) ?_; refine zZ.nil ?_) | (refine zY.iq 1 ?_; refine zY.rqa _ K_s K_w ?_; refine zZ.vm rfl rfl rfl rfl (by decide) ?_; refine zZ.v rfl rfl (by exact r_eqlNil rfl rfl rfl hne (by exact bF (by decide)) rfl (by decide)) ?_; refine zZ.nil ?_) | (refine zY.iq 3 ?_; refine zY.rqa _ K_s K_w ?_; refine zZ.m rfl rfl (w_build0B rfl rfl (by decide)) ?_; refine zZ.vm rfl rfl rfl rfl (by decide) ?_; (refine zZ.w rfl (by exact kZ rfl rfl rfl rfl (by (simp only [List.length_append, List.length_cons, List.length_nil, *]; omega)) rfl rfl (by decide)) ?_); refine zZ.v rfl rfl (zN rfl rfl rfl (by decide)) ?_; refine zZ.nil ?_) | refine zY.yF rfl (by rfl) ?_ | refine zY.skip ?_ | refine zY.ret ?_))
  all_goals exact ⟨by first | exact .inl rfl | exact .inr rfl, _, wR (d := 2) rfl rfl, .p rfl (.tmp rfl)⟩
end Go.Proofs.YtomlhekjgagjaaaDoor
namespace Go.Proofs.YtomlhekjgagjaaaDoor
set_option maxRecDepth 100000
set_option maxHeartbeats 16000000
open Go Go.RowKit
section
variable {P : Program} {n : Nat} {S : AS}
def wideF (r : Option Nat) : Fence := { Fence.wide with round := r }
theorem sem_at (r : Option Nat) (ρ : Operand → Value) (o : Oper) (h : ∀ c, o.op ≠ .defer c) : o.semAt r ρ = execOp ρ o := by
  cases r with
  | none => rfl
  | some l => exact Oper.semAt_some l ρ o h
theorem wp_in {o : Oper} {a : Act} {w : World} {next next' : Act → World → Prop} {Q Q' : Exit → Act → World → Prop} (r : Option Nat) (hd : ∀ c, o.op ≠ .defer c) (hn : ∀ a w, next a w → next' a w) (hq : ∀ e a w, e ≠ .normal → Q e a w → Q' e a w) (h : o.wp P a w next Q) : o.wpIn (wideF r) 0 P a w next' Q' := by
  refine ⟨fun _ _ => trivial, ?_⟩
  show o.uponIn _ 0 P a next' Q' ((o.semAt r a.eval).run P w)
  rw [sem_at r a.eval o hd]
  unfold Oper.wp at h
  revert h
  cases (execOp a.eval o).run P w with
  | ok x w' =>
    cases x with
    | value v => exact fun h => hn _ _ h
    | skip => exact fun h => hn _ _ h
    | defer d => exact fun h => hn _ _ h
    | enter f args =>
      intro h
      have h1 : CallsIn (wideF r) 0 P f args w' _ := callsIn_wide.2 h
      refine ⟨fun h => (by cases h), h1.mono fun e w'' he => ?_⟩
      cases e with
      | returned v => exact hn _ _ he
      | panicked chain => exact hq _ _ _ (by simp) he
      | outgrown =>
        obtain ⟨a0, w0, h0⟩ := he
        exact ⟨a0, w0, hq _ _ _ (by simp) h0⟩
    | row row args =>
      intro h
      refine ⟨fun h => (by cases h), fun c cs _ => ?_⟩
      obtain ⟨v, w'', h1, h2⟩ := h c cs
      exact ⟨v, w'', hn _ _ h1, stepsIn_wide.2 h2⟩
    | _ => exact fun h => h.elim
  | halt s w' =>
    cases s with
    | panic v => exact fun h => hq _ _ _ (by simp) h
    | _ => exact fun h => h.elim
theorem wpList_app {ops : Array Oper} {Q Q' : Exit → Act → World → Prop} {l2 : List Oper} (r : Option Nat) (hq : ∀ a w, ¬ Q .outgrown a w) (hqq : ∀ e a w, e ≠ .normal → Q e a w → Q' e a w) (h2 : ∀ a w, Q .normal a w → wpListIn (wideF r) 0 P ops Q' l2 a w) :
    ∀ {l1 : List Oper} {a : Act} {w : World}, (∀ o ∈ l1, ∀ c, o.op ≠ .defer c) → wpList P ops Q l1 a w → wpListIn (wideF r) 0 P ops Q' (l1 ++ l2) a w
  | [], a, w, _, h => h2 a w h
  | o :: rest, a, w, hd, h => by
    unfold wpList at h
    show wpListIn _ _ _ _ _ (o :: (rest ++ l2)) a w
    unfold wpListIn
    by_cases hw : Region.wanted o (yielded ops a.tmps) = true
    · rw [if_pos hw] at h ⊢
      rcases h with h | ⟨_, a', w', h⟩
      · exact wp_in r (hd o (by simp)) (fun a w h => wpList_app r hq hqq h2 (fun o ho => hd o (by simp [ho])) h) hqq h
      · exact absurd h (hq a' w')
    · rw [if_neg hw] at h ⊢
      exact ⟨fun _ _ => trivial, wpList_app r hq hqq h2 (fun o ho => hd o (by simp [ho])) h⟩
theorem wpList_in {ops : Array Oper} {Q : Exit → Act → World → Prop} (r : Option Nat) (hq : ∀ a w, ¬ Q .outgrown a w) {rest : List Oper} {a : Act} {w : World} (hd : ∀ o ∈ rest, ∀ c, o.op ≠ .defer c) (h : wpList P ops Q rest a w) : wpListIn (wideF r) 0 P ops Q rest a w := by
  have := wpList_app (l2 := []) r hq (fun _ _ _ _ h => h) (fun a w h => h) hd h
  rwa [List.append_nil] at this
def xL (l : Nat) (P : Program) (n : Nat) (c : Code) (S : AS) (K : Exit → AS → Prop) : Prop :=
  (∀ S, ¬ K .outgrown S) → ∀ (M : Nat → Nat → Prop) (w0 : Home) (ρ : Nat → Value) (a : Act) (w : World) (Q : Exit → Act → World → Prop),
    Sat M n w0 S ρ a w → (∀ e S' ρ' a' w', K (bare e) S' → Sat M n w0 S' ρ' a' w' → ExOK M S' ρ' w' e → Q e a' w') → c.wpIn (Fence.wide.inRound l) 0 P Q a w
def noDefer (l : List Oper) : Bool := l.all fun o => match o.op with
  | .defer _ => false
  | _ => true
theorem noDefer_of {l : List Oper} (h : noDefer l = true) : ∀ o ∈ l, ∀ c, o.op ≠ .defer c := fun o ho c e => by
  have := List.all_eq_true.1 h o ho
  rw [e] at this
  cases this
theorem xL.region {r id : Nat} {l : List Oper} {K : Exit → AS → Prop} (hd : noDefer l = true) (h : zZ P n l.toArray l S K) : xL r P n (.region id l.toArray false) S K := by
  intro h0 M w0 ρ a w Q hs hK
  have h1 := h M w0 ρ a w (fun e a' w' => e ≠ .outgrown ∧ Q e a' w') hs fun e S' ρ' a' w' hk hs' hx => ⟨fun e1 => by subst e1; exact h0 _ hk, hK e S' ρ' a' w' hk hs' hx⟩
  have h2 : wpListIn (Fence.wide.inRound r) 0 P _ _ _ _ _ := wpList_in (some r) (fun a w h => h.1 rfl) (noDefer_of hd) h1
  exact wpIn_mono (wpIn_region_lit h2) fun e a w h => h.2
theorem xL.sub {r : Nat} {S' : AS} {c : Code} {K : Exit → AS → Prop} (hs : Sub S S') (h : xL r P n c S' K) : xL r P n c S K := fun h0 M w0 ρ a w Q h1 hK => by
  obtain ⟨ρ', h2⟩ := hs M n w0 ρ a w h1
  exact h h0 M w0 ρ' a w Q h2 hK
theorem xL.skip {r : Nat} {K : Exit → AS → Prop} (h : K .normal S) : xL r P n .skip S K := fun _ _ _ ρ a w _ hs hK => wpIn_skip (hK _ S ρ a w h hs trivial)
theorem xL.ret {r : Nat} {K : Exit → AS → Prop} (h : K .ret S) : xL r P n .ret S K := fun _ _ _ ρ a w _ hs hK => wpIn_ret (hK _ S ρ a w h hs trivial)
theorem xL.exit {r id : Nat} {K : Exit → AS → Prop} (h : K (.exit id) S) : xL r P n (.exit id) S K := fun _ _ _ ρ a w _ hs hK => wpIn_exit (hK _ S ρ a w h hs trivial)
theorem xL.seq {r : Nat} {x y : Code} {K : Exit → AS → Prop} (h : xL r P n x S (zH (fun S' => xL r P n y S' K) K)) : xL r P n (.seq x y) S K :=
  fun h0 M w0 ρ a w Q hs hK => wpIn_seq (h h0 M w0 ρ a w _ hs fun e S' ρ' a' w' hk hs' hx => by
    cases e with
    | normal => exact hk h0 M w0 ρ' a' w' Q hs' hK
    | exit id => exact hK (.exit id) S' ρ' a' w' hk hs' hx
    | goto l => exact hK (.goto l) S' ρ' a' w' hk hs' hx
    | ret => exact hK .ret S' ρ' a' w' hk hs' hx
    | panic c => exact hK (.panic c) S' ρ' a' w' hk hs' hx
    | outgrown => exact hK .outgrown S' ρ' a' w' hk hs' hx)
theorem xL.cond {r : Nat} {c : Operand} {x y : Code} {K : Exit → AS → Prop} {b : Bool} (hc : S.get c = .p (.val (.bool b))) (ht : b = true → xL r P n x S K) (hf : b = false → xL r P n y S K) : xL r P n (.cond c x y) S K :=
  fun h0 M w0 ρ a w Q hs hK => wpIn_cond_split (hs.val hc) (fun h => ht h h0 M w0 ρ a w Q hs hK) (fun h => hf h h0 M w0 ρ a w Q hs hK)
theorem xL.block {r id : Nat} {c : Code} {K : Exit → AS → Prop} (h : xL r P n c S (zS id K)) : xL r P n (.block id c) S K :=
  fun h0 M w0 ρ a w Q hs hK => wpIn_block (h h0 M w0 ρ a w _ hs fun e S' ρ' a' w' hk hs' hx => by
    cases e with
    | exit id' =>
      show if id' = id then Q .normal a' w' else Q (.exit id') a' w'
      have hk' : if id' = id then K .normal S' else K (.exit id') S' := hk
      by_cases h1 : id' = id
      · rw [if_pos h1] at hk' ⊢; exact hK _ _ ρ' a' w' hk' hs' hx
      · rw [if_neg h1] at hk' ⊢; exact hK _ _ ρ' a' w' hk' hs' hx
    | normal => exact hK .normal S' ρ' a' w' hk hs' hx
    | goto l => exact hK (.goto l) S' ρ' a' w' hk hs' hx
    | ret => exact hK .ret S' ρ' a' w' hk hs' hx
    | panic c => exact hK (.panic c) S' ρ' a' w' hk hs' hx
    | outgrown => exact hK .outgrown S' ρ' a' w' hk hs' hx)
def qR (S : AS) (ρ : Nat → Value) (k : Nat) : Prop := ∃ id b, S.blk id = some b ∧ zT (ρ id) = some k
def Home.anew (h : Home) (w : World) (T : Nat → Prop) (hl : Lays w) (ht : ∀ g, Tabs g → ¬ T g) : Home := ⟨w, T, hl, ht, h.r, h.ptr, h.lo, h.d⟩
theorem Lays.keep {w w' : World} (h : Lays w) (hs : w.heap.size ≤ w'.heap.size) (hb : ∀ g, Tabs g → w'.heap[g]? = w.heap[g]?) : Lays w' := fun g xs hg => by
  obtain ⟨h1, h2⟩ := h g xs hg
  exact ⟨Nat.lt_of_lt_of_le h1 hs, fun j p hp => by rw [World.cell?_of_block (w := w) (hb g ⟨xs, hg⟩)]; exact h2 j p hp⟩
theorem Sat.switch {M : Nat → Nat → Prop} {h : Home} {ρ : Nat → Value} {a : Act} {w w' : World} (hs : Sat M n h S ρ a w) (Z N : Nat → Prop) (hsz : w.heap.size ≤ w'.heap.size) (hZ : ∀ k c, Z k → k < w.heap.size → M k c)
    (hb : ∀ k, k < w.heap.size → ¬ Z k → w'.heap[k]? = w.heap[k]?) (hN : ∀ k, N k → w.heap.size ≤ k ∧ k < w'.heap.size) :
    ∃ hl ht, Sat (fun k c => M k c ∨ N k) n (h.anew w' (qR S ρ) hl ht) S ρ a w' := by
  have own_has : ∀ k, qR S ρ k → h.has k := fun k ⟨id, b, h1, h2⟩ => hs.mine id b k h1 h2
  have own_lt : ∀ k, qR S ρ k → k < w.heap.size := fun k ⟨id, b, h1, h2⟩ => Mut.kJ hs h1 h2
  have own_not : ∀ k, qR S ρ k → ¬ Z k := fun k ho hz => hs.out k 0 (hZ k 0 hz (own_lt k ho)) (own_has k ho)
  have htab : ∀ g, Tabs g → ¬ qR S ρ g := fun g ⟨xs, hg⟩ ho => by
    rcases own_has g ho with h1 | h1
    · have := (h.lays g xs hg).1
      omega
    · exact h.tabs g ⟨xs, hg⟩ h1
  have tab_lt : ∀ g, Tabs g → g < w.heap.size := fun g ⟨xs, hg⟩ => (hs.tbl hg).2.1
  have hl : Lays w' := hs.lays.keep hsz fun g hg => hb g (tab_lt g hg) fun hz => hs.tab g 0 hg (hZ g 0 hz (tab_lt g hg))
  have hm : ∀ k c, k < w.heap.size → Mut (fun k c => M k c ∨ N k) S ρ k c → Mut M S ρ k c := by
    rintro k c hk ((h1 | h1) | h1)
    · exact .inl h1
    · have := (hN k h1).1
      omega
    · exact .inr h1
  have hks : Keeps (Mut M S ρ) w w' := .of_block hsz fun k hk ⟨c, hc⟩ => hb k hk fun hz => hc (.inl (hZ k c hz hk))
  have hks2 : Keeps (fun k c => Mut M S ρ k c ∨ Mut (fun k c => M k c ∨ N k) S ρ k c) w w' := .of_block hsz fun k hk ⟨c, hc⟩ => hb k hk fun hz => hc (.inl (.inl (hZ k c hz hk)))
  have hm2 : ∀ k c, k < w.heap.size → (Mut M S ρ k c ∨ Mut (fun k c => M k c ∨ N k) S ρ k c) → Mut M S ρ k c := fun k c hk h1 => h1.elim (fun h => h) (hm k c hk)
  refine ⟨hl, htab, ⟨xM.refl _, fun k c hk hh => ?_, fun g c hg hk => ?_, hs.size, hs.defers, fun i => ?_, fun id b hb2 => ?_, fun id b k hb2 hk => .inr ⟨id, b, hb2, hk⟩, hs.fix, hs.free, hs.dist⟩⟩
  · rcases hh with hh | hh
    · have hlt : k < w'.heap.size := by
        rcases hk with hk | hk
        · exact Nat.lt_of_lt_of_le (Mut.lt hs (c := c) (.inl hk)) hsz
        · exact (hN k hk).2
      exact absurd hlt (Nat.not_lt.2 hh)
    · rcases hk with hk | hk
      · exact hs.out k c hk (own_has k hh)
      · have h1 := (hN k hk).1
        have h2 := own_lt k hh
        omega
  · rcases hk with hk | hk
    · exact hs.tab g c hg hk
    · have h1 := (hN g hk).1
      have h2 := tab_lt g hg
      omega
  · exact (((hs.tmps i).mono hm2).keep hks2).mono fun k c _ hk => .inr hk
  · exact (y7.keep (hs.blks id b hb2) (fun k hk => hb k (Mut.kJ hs hb2 hk) (own_not k ⟨id, b, hb2, hk⟩)) hks2 hm2).mono fun k c hk => .inr hk
end
end Go.Proofs.YtomlhekjgagjaaaDoor
namespace Go.Proofs.YtomlhekjgagjaaaDoor
set_option maxRecDepth 100000
set_option maxHeartbeats 16000000
open Go Go.RowKit
section
variable {P : Program} {n : Nat} {o : Oper} {S : AS} {d : Nat} {t : TypeId} {x : Operand}
end
theorem zY.cut {P : Program} {n : Nat} {S : AS} {c1 c2 : Code} {K : Exit → AS → Prop} {ι : Type} (mid : ι → AS) (ok : ι → Prop) (h1 : zY P n c1 S (zH (fun S' => ∃ i, ok i ∧ Sub S' (mid i)) K)) (h2 : ∀ i, ok i → zY P n c2 (mid i) K) : zY P n (.seq c1 c2) S K :=
  .seq (h1.mono fun e S' h => by
    cases e with
    | normal => obtain ⟨i, hi, hs⟩ := h; exact (h2 i hi).sub hs
    | _ => exact h)
def Hold (p : Prop) : Prop := p
theorem Hold.go {p : Prop} (h : p) : Hold p := h
theorem Hold.out {p : Prop} (h : Hold p) : p := h
theorem zY.hold {P : Program} {n id : Nat} {ops : Array Oper} {d : Bool} {S : AS} {c2 : Code} {K : Exit → AS → Prop} (h : Hold (zY P n (.seq (.region id ops d) c2) S K)) : zY P n (.seq (.region id ops d) c2) S K := h
theorem zY.cutR {P : Program} {n id : Nat} {ops : Array Oper} {d : Bool} {S M : AS} {c2 : Code} {K : Exit → AS → Prop} (h1 : zY P n (.region id ops d) S (zH (fun S' => Sub S' M) K)) (h2 : zY P n c2 M K) : zY P n (.seq (.region id ops d) c2) S K :=
  .seq (h1.mono fun e S' h => by
    cases e with
    | normal => exact h2.sub h
    | _ => exact h)
attribute [irreducible] Hold
end Go.Proofs.YtomlhekjgagjaaaDoor
namespace Go.Proofs.YtomlhekjgagjaaaDoor
set_option maxRecDepth 100000
set_option maxHeartbeats 16000000
open Go Go.RowKit
section
variable {P : Program} {n : Nat} {S S' : AS} {M : Nat → Nat → Prop} {h : Home} {Q : Exit → Act → World → Prop}
theorem Sub.go {ρ : Nat → Value} {a : Act} {w : World} (hsub : Sub S S') (hs : Sat M n h S ρ a w) : ∃ ρ', Sat M n h S' ρ' a w := hsub M n h ρ a w hs
def WE (n : Nat) (M : Nat → Nat → Prop) (h : Home) (Q : Exit → Act → World → Prop) (e : Exit) (S : AS) : Prop := e ≠ .outgrown ∧ (∀ c, e ≠ .panic c) ∧ ∀ ρ a w, Sat M n h S ρ a w → Q e a w
def WC (P : Program) (n : Nat) (c : Code) (S : AS) (M : Nat → Nat → Prop) (h : Home) (Q : Exit → Act → World → Prop) : Prop := ∀ ρ a w, Sat M n h S ρ a w → c.wp P Q a w
theorem bare_of {e e' : Exit} (h : bare e = e') (hn : ∀ c, e' ≠ .panic c) : e = e' := by
  cases e <;> first | exact h | exact absurd h.symm (hn _)
theorem WE.use {e : Exit} (hk : WE n M h Q (bare e) S) {ρ : Nat → Value} {a : Act} {w : World} (hs : Sat M n h S ρ a w) : Q e a w := by
  have e1 := bare_of (e := e) rfl hk.2.1
  have := hk.2.2 ρ a w hs
  rwa [← e1] at this
theorem WC.of {c : Code} (hc : zY P n c S (WE n M h Q)) : WC P n c S M h Q := fun ρ a w hs => hc M h ρ a w Q hs fun e S' ρ' a' w' hk hs' _ => hk.use hs'
theorem WC.seq {x y : Code} (hc : zY P n x S (zH (fun S' => WC P n y S' M h Q) (WE n M h Q))) : WC P n (.seq x y) S M h Q := fun ρ a w hs =>
  wp_seq (hc M h ρ a w _ hs fun e S' ρ' a' w' hk hs' _ => by
    cases e with
    | normal => exact hk ρ' a' w' hs'
    | exit id => exact WE.use (e := .exit id) hk hs'
    | goto l => exact WE.use (e := .goto l) hk hs'
    | ret => exact WE.use (e := .ret) hk hs'
    | panic c => exact WE.use (e := .panic c) hk hs'
    | outgrown => exact WE.use (e := .outgrown) hk hs')
theorem WC.block {id : Nat} {c : Code} (hc : WC P n c S M h (Exit.inBlock id Q)) : WC P n (.block id c) S M h Q := fun ρ a w hs => wp_block (hc ρ a w hs)
theorem WC.run {c : Code} (hc : WC P n c S M h Q) {ρ : Nat → Value} {a : Act} {w : World} (hs : Sat M n h S ρ a w) : c.wp P Q a w := hc ρ a w hs
theorem WC.mk {c : Code} (hc : ∀ ρ a w, Sat M n h S ρ a w → c.wp P Q a w) : WC P n c S M h Q := hc
theorem WE.mk {e : Exit} (h1 : e ≠ .outgrown) (h2 : ∀ c, e ≠ .panic c) (h3 : ∀ ρ a w, Sat M n h S ρ a w → Q e a w) : WE n M h Q e S := ⟨h1, h2, h3⟩
theorem WC.sub {c : Code} (hs : Sub S S') (hc : WC P n c S' M h Q) : WC P n c S M h Q := fun ρ a w h1 => by
  obtain ⟨ρ', h2⟩ := hs M n h ρ a w h1
  exact hc ρ' a w h2
theorem WC.stop {id : Nat} {ops : Array Oper} {d : Bool} {y : Code} (hc : Hold (WC P n (.seq (.region id ops d) y) S M h Q)) : WC P n (.seq (.region id ops d) y) S M h Q := hc.out
theorem WC.hold {id : Nat} {ops : Array Oper} {d : Bool} {y : Code} (hc : WC P n (.seq (.region id ops d) y) S M h Q) : WC P n (.seq (.region id ops d) y) S M h Q := hc
structure Yields (P : Program) (l : Nat) (M0 : Nat → Nat → Prop) (N : Nat) (ys : Nat → List PV) (J : Nat → (Nat → Prop) → World → Prop) : Prop where
  lt : ∀ i Z w k, J i Z w → Z k → k < w.heap.size
  ext : ∀ i Z w w', J i Z w → Below w.heap.size w w' → J i Z w'
  round : ∀ i Z w (vs : List Value), i < N → J i Z w → vs.length = (ys i).length → (∀ (j : Nat) c v, (ys i)[j]? = some c → vs[j]? = some v → Rep (fun k c => M0 k c ∨ Z k) w c v) →
    YieldAt Fence.wide 0 P l vs.toArray w fun e w' => e = .returned (.bool true) ∧ ∃ Z', J (i + 1) Z' w' ∧ w.heap.size ≤ w'.heap.size ∧ (∀ k, k < w.heap.size → ¬ Z k → w'.heap[k]? = w.heap[k]?) ∧ ∀ k, Z' k → Z k ∨ w.heap.size ≤ k
theorem below_of {h : Home} {w : World} (hb : xM h w) (ht : ∀ k, ¬ h.t k) : Below h.w.heap.size h.w w := ⟨hb.os, hb.tape, hb.output, hb.size, fun k hk => hb.block k hk (ht k)⟩
theorem run_yieldOp {o : Oper} {x : Operand} {args : Array Operand} {ts : Array TypeId} {l : Nat} {a : Act} {w : World} (ho : o.op = .call { callee := .value x, args := args, argTypes := ts }) (hx : a.eval x = .func (.yield l) #[] #[]) :
    (execOp a.eval o).run P w = (Instr.yield l (args.map a.eval)).run P w := by
  unfold execOp
  rw [ho]
  simp [resolve, Deferred.ofValue, hx, invoke]
theorem WC.yield {id d l N i : Nat} {M0 : Nat → Nat → Prop} {pre post : List Oper} {oy : Oper} {x : Operand} {args : Array Operand} {ts : Array TypeId} {y : Code} {ys : Nat → List PV} {J : Nat → (Nat → Prop) → World → Prop} {Z : Nat → Prop} (S1 : AS)
    (hpre : zZ P n (pre ++ oy :: post).toArray pre S (fun e S' => e = .normal ∧ Sub S' S1)) (hdp : noDefer pre = true) (hdq : noDefer post = true)
    (ho : oy.op = .call { callee := .value x, args := args, argTypes := ts }) (hg : oy.guard = none) (hd : oy.dst = some d) (hn : d < n) (hx : S1.get x = .p (.val (.func (.yield l) #[] #[]))) (hs1 : S1.s = [])
    (hY : Yields P l M0 N ys J) (hi : i < N) (hargs : args.toList.map S1.get = (ys i).map AV.p) (hJ : J i Z h.w) (ht : ∀ k, ¬ h.t k) (hZ : ∀ k c, M0 k c ∨ Z k → M k c)
    (hr : ∀ Z' M' h', J (i + 1) Z' h'.w → (∀ k, ¬ h'.t k) → (∀ k c, M0 k c ∨ Z' k → M' k c) → h'.d = h.d → h'.r = h.r → zZ P n (pre ++ oy :: post).toArray post (S1.put d (.p (.val (.bool true)))) (zH (fun S' => WC P n y S' M' h' Q) (WE n M' h' Q))) :
    WC P n (.seq (.region id (pre ++ oy :: post).toArray false) y) S M h Q := by
  intro ρ a w hs
  refine wp_seq ((wpIn_wide (n := 0)).1 ?_)
  show (Code.region id _ false).wpIn (wideF none) 0 P _ a w
  refine wpIn_region_lit ?_
  have h1 := hpre M h ρ a w (fun e a' w' => e = .normal ∧ ∃ ρ', Sat M n h S1 ρ' a' w') hs fun e S' ρ' a' w' hk hs' _ => by
    obtain ⟨he, hsub⟩ := hk
    obtain ⟨ρ2, h2⟩ := hsub M n h ρ' a' w' hs'
    exact ⟨bare_of he (fun c hc => by cases hc), ρ2, h2⟩
  refine wpList_app none (fun a w h => by cases h.1) (fun e a w hne h => absurd h.1 hne) (fun a1 w1 hq => ?_) (noDefer_of hdp) h1
  obtain ⟨_, ρ1, hs2⟩ := hq
  unfold wpListIn
  rw [if_pos (by simp [Region.wanted, hg])]
  refine ⟨fun _ _ => trivial, ?_⟩
  show oy.uponIn _ 0 P a1 _ _ ((oy.semAt none a1.eval).run P w1)
  rw [sem_at none a1.eval oy (fun c hc => by rw [ho] at hc; cases hc), run_yieldOp ho (hs2.val hx)]
  have hb := below_of hs2.below ht
  have hJ1 : J i Z w1 := hY.ext i Z _ _ hJ hb
  have hlen : (args.toList.map a1.eval).length = (ys i).length := by
    have := congrArg List.length hargs
    simpa using this
  obtain ⟨fn, tmps, assign, body, hy, hR⟩ := hY.round i Z w1 (args.toList.map a1.eval) hi hJ1 hlen (fun j c v hc hv => by
    rw [List.getElem?_map, Option.map_eq_some_iff] at hv
    obtain ⟨o, ho2, rfl⟩ := hv
    have h3 : (args.toList.map S1.get)[j]? = some (AV.p c) := by rw [hargs, List.getElem?_map, hc]; rfl
    rw [List.getElem?_map, ho2] at h3
    have h4 := hs2.rep o
    rw [Option.some.inj h3] at h4
    cases h4 with
    | p h5 => exact h5.mono fun k c _ hk => .inl (hZ k c hk))
  have e : (args.toList.map a1.eval).toArray = args.map a1.eval := by apply Array.ext'; simp
  rw [e] at hy
  rw [hy]
  refine ⟨fun h => (by cases h), RoundIn.mono hR fun ev w2 he => ?_⟩
  obtain ⟨rfl, Z', hJ2, hsz, hun, hZ'⟩ := he
  have hown : ∀ k, ¬ qR S1 ρ1 k := fun k ⟨id, b, h1, _⟩ => by
    have : look S1.s id = some b := h1
    rw [hs1] at this
    cases this
  obtain ⟨hl, ht2, hs3⟩ := hs2.switch Z (fun k => Z' k ∧ w1.heap.size ≤ k) hsz (fun k c hz _ => hZ k c (.inr hz)) hun (fun k hk => ⟨hk.2, hY.lt _ _ _ k hJ2 hk.1⟩)
  have hs4 := hs3.put hn (x := .p (.val (.bool true))) (.p (.val _))
  have h5 := hr Z' (fun k c => M k c ∨ (Z' k ∧ w1.heap.size ≤ k)) (h.anew w2 (qR S1 ρ1) hl ht2) hJ2 hown (fun k c hk => by
    rcases hk with hk | hk
    · exact .inl (hZ k c (.inl hk))
    rcases hZ' k hk with h6 | h6
    · exact .inl (hZ k c (.inr h6))
    · exact .inr ⟨hk, h6⟩) rfl rfl _ _ ρ1 _ w2 (fun e a' w' => e ≠ .outgrown ∧ Exit.then (y.wp P Q) Q e a' w') hs4 (fun e S' ρ' a' w' hk hs' _ => by
    cases e with
    | normal => exact ⟨by simp, hk ρ' a' w' hs'⟩
    | exit id => exact ⟨by simp, WE.use (e := .exit id) hk hs'⟩
    | goto l => exact ⟨by simp, WE.use (e := .goto l) hk hs'⟩
    | ret => exact ⟨by simp, WE.use (e := .ret) hk hs'⟩
    | panic c => exact ⟨by simp, WE.use (e := .panic c) hk hs'⟩
    | outgrown => exact absurd rfl hk.1)
  have h6 := wpList_in none (fun a w h => h.1 rfl) (noDefer_of hdq) h5
  show wpListIn (wideF none) 0 P _ _ post (a1.put oy.dst (.bool true)) w2
  rw [hd]
  have h7 := wpList_app (l2 := []) none (fun a w h => h.1 rfl) (Q' := Exit.then (y.wp P Q) Q) (fun e a w _ h => h.2) (fun a w h => h.2) (noDefer_of hdq) h5
  rwa [List.append_nil] at h7
theorem entry_sat {W : World} {hl : Lays W} {nt : Nat} {T : List (Nat × AV)} {vs : List Value} (hn : nt = n) (hle : vs.length ≤ n) (hM : ∀ k c, M k c → k < W.heap.size) (htab : ∀ g c, Tabs g → ¬ M g c) (hT : ∀ i x, look T i = some x → ∃ v, vs[i]? = some v ∧ yV M (fun _ => undef) W x v) :
    Sat M n (Home.plain W hl) { t := T, s := [] } (fun _ => undef) { tmps := vs.toArray ++ Array.replicate (nt - vs.toArray.size) undef, defers := [] } W := by
  subst hn
  refine ⟨xM.refl (Home.plain W hl), (fun k c hk hh => by rcases hh with hh | hh; exact absurd (hM k c hk) (Nat.not_lt.2 hh); exact hh), htab, by simp; omega, rfl, fun i => ?_, (fun id b hb => by cases hb), (fun id b k hb => by cases hb), (fun k v hk => by cases hk), (fun _ _ => rfl), (fun i j bi bj k hi => by cases hi)⟩
  show yV _ _ _ ((look T i).getD .any) _
  cases e : look T i with
  | none => exact .any _
  | some x =>
    obtain ⟨v, h1, h2⟩ := hT i x e
    have hi : i < vs.length := (List.getElem?_eq_some_iff.1 h1).1
    have e2 : ({ tmps := vs.toArray ++ Array.replicate (nt - vs.toArray.size) undef, defers := [] } : Act).tmps.getD i undef = v := by
      rw [List.getElem?_eq_getElem hi] at h1
      simp [Array.getD_eq_getD_getElem?, Array.getElem?_append, hi]
      exact Option.some.inj h1
    rw [e2]
    exact h2.mono fun k c _ hk => by
      rcases hk with hk | ⟨id, b, e, _⟩
      · exact hk
      · cases e
theorem wp_loop_iter {c : Code} {N i0 : Nat} {a : Act} {w : World} (I : Nat → Act → World → Prop) (h0 : I i0 a w) (hi0 : i0 ≤ N) (round : ∀ i a w, i ≤ N → I i a w → c.wp P (Exit.then (fun a' w' => ∃ j, i < j ∧ j ≤ N ∧ I j a' w') Q) a w) : (Code.loop c).wp P Q a w := by
  intro b k cs
  have key : ∀ (m i : Nat) (a : Act) (w : World), N - i = m → i ≤ N → I i a w → ∃ e a' w', Q e a' w' ∧ Arrives P (lone (b.at a (.code c :: .inLoop c :: k)) cs w) b k cs e a' w' := by
    intro m
    induction m using Nat.strongRecOn with
    | _ m ih =>
      intro i a w hm hi hI
      obtain ⟨e, a₁, w₁, hq, harr⟩ := round i a w hi hI b (.inLoop c :: k) cs
      cases e with
      | normal =>
        obtain ⟨j, hlt, hj, hI'⟩ := hq
        obtain ⟨e₂, a₂, w₂, hq₂, harr₂⟩ := ih (N - j) (by omega) j a₁ w₁ rfl hj hI'
        exact ⟨e₂, a₂, w₂, hq₂, .of_steps (Steps.trans harr (.one step_inLoop)) harr₂⟩
      | exit id => exact ⟨_, a₁, w₁, hq, .pass (x := .inLoop c) rfl (fun _ _ => .inl (by simp)) harr⟩
      | goto l => exact ⟨_, a₁, w₁, hq, .pass (x := .inLoop c) rfl (fun _ _ => .inl (by simp)) harr⟩
      | ret => exact ⟨_, a₁, w₁, hq, .pass (x := .inLoop c) rfl (fun _ _ => .inl (by simp)) harr⟩
      | panic ch => exact ⟨_, a₁, w₁, hq, .pass (x := .inLoop c) rfl (fun _ _ => .inl (by simp)) harr⟩
      | outgrown => exact ⟨_, a₁, w₁, hq, .pass (x := .inLoop c) rfl (fun _ _ => .inl (by simp)) harr⟩
  obtain ⟨e, a', w', hq, harr⟩ := key _ i0 a w rfl hi0 h0
  exact ⟨e, a', w', hq, .of_steps (.one step_loop) harr⟩
end
attribute [irreducible] WC WE
end Go.Proofs.YtomlhekjgagjaaaDoor
namespace Go.Proofs.YtomlhekjgagjaaaDoor
set_option maxRecDepth 100000
set_option maxHeartbeats 16000000
open Go Go.RowKit
theorem putObj_size (w : World) (l : Nat) (o : Obj) : (w.putObj l o).heap.size = w.heap.size := by simp [World.putObj]
theorem putObj_at {w : World} {l : Nat} {o o' : Obj} (h : w.heap[l]? = some o') : (w.putObj l o).heap[l]? = some o := World.putObj_heap_same (Array.getElem?_eq_some_iff.1 h).1
theorem putObj_ne {w : World} {l k : Nat} {o : Obj} (h : k ≠ l) : (w.putObj l o).heap[k]? = w.heap[k]? := World.putObj_heap_other h
section
variable {P : Program} {n : Nat} {S : AS} {M : Nat → Nat → Prop} {h : Home} {ρ : Nat → Value} {a : Act} {w : World}
theorem Sat.withD (hs : Sat M n h S ρ a w) (D : List Deferred) : Sat M n { h with d := D } S ρ { a with defers := D } w :=
  ⟨⟨hs.below.os, hs.below.tape, hs.below.output, hs.below.size, hs.below.block⟩, hs.out, hs.tab, hs.size, rfl, hs.tmps, hs.blks, hs.mine, hs.fix, hs.free, hs.dist⟩
def putsA (S : AS) : List Nat → List PV → AS
  | d :: ds, x :: xs => putsA (S.put d (.p x)) ds xs
  | _, _ => S
theorem Sat.puts : ∀ {ds : List Nat} {xs : List PV} {vs : List Value} {S : AS} {a : Act}, Sat M n h S ρ a w → ds.length = xs.length → vs.length = xs.length → (∀ d ∈ ds, d < n) → (∀ (j : Nat) c v, xs[j]? = some c → vs[j]? = some v → Rep (Mut M S ρ) w c v) →
    Sat M n h (putsA S ds xs) ρ { a with tmps := (ds.zip vs).foldl (fun t (p, v) => t.setIfInBounds p v) a.tmps } w
  | [], [], [], _, _, hs, _, _, _, _ => hs
  | d :: ds, x :: xs, v :: vs, S, a, hs, h1, h2, hd, hv => by
    have hs1 := hs.put (d := d) (x := .p x) (v := v) (hd d (by simp)) (.p (hv 0 x v rfl rfl))
    exact Sat.puts (S := S.put d (.p x)) (a := a.put (some d) v) hs1 (by simpa using h1) (by simpa using h2) (fun d' hd' => hd d' (by simp [hd'])) (fun j c u hc hu => hv (j + 1) c u (by simpa using hc) (by simpa using hu))
def wakes (r : Nat → Option Value) : AV → Prop
  | .any => True
  | .p _ => True
  | .pt _ => True
  | .glob _ => True
  | .ptr k _ => (r k).isSome = true
  | _ => False
theorem Sat.wake {h3 : Home} {M3 : Nat → Nat → Prop} {S3 S' : AS} {ρ3 : Nat → Value} {a3 : Act} {w3 w4 : World} {l : Nat} (hs : Sat M n h S ρ a w) (hb : Sat M3 n h3 S3 ρ3 a3 w3) (ht : S'.t = S.t) (hb' : S'.s = S3.s) (hw : ∀ p ∈ S.t, wakes h.r p.2) (hr : h3.r = h.r)
    (htu : ∀ id b, S.blk id = some b → ∀ c, b.turns c) (hMl : ∀ c, M l c) (hM3 : ∀ k c, M k c → M3 k c) (hos : w4.os = w.os ∧ w4.tape = w.tape ∧ w4.output = w.output) (hsz : w.heap.size ≤ w4.heap.size) (hun : ∀ k, k < w.heap.size → ¬ qR S ρ k → w4.heap[k]? = w.heap[k]?)
    (h34 : w3.heap.size ≤ w4.heap.size) (hl3 : ∀ k, k < w3.heap.size → k ≠ l → w4.heap[k]? = w3.heap[k]?) (hl4 : (∀ c, w3.cell? ⟨l, c, none⟩ = none) ∧ ∀ c, w4.cell? ⟨l, c, none⟩ = none) (hown : ∀ k, qR S3 ρ3 k → qR S ρ k ∨ w.heap.size ≤ k) :
    Sat M n h S' ρ3 a w4 := by
  have blk_eq : ∀ id, S'.blk id = S3.blk id := fun id => by show look S'.s id = look S3.s id; rw [hb']
  have own_has : ∀ k, qR S ρ k → h.has k := fun k ⟨id, b, h1, h2⟩ => hs.mine id b k h1 h2
  have own_mut : ∀ k c, qR S ρ k → Mut M S ρ k c := fun k c ⟨id, b, h1, h2⟩ => .inr ⟨id, b, h1, h2, htu id b h1 c⟩
  have hm : ∀ k c, k < w.heap.size → Mut M S' ρ3 k c → Mut M S ρ k c := by
    rintro k c hk (h1 | ⟨id, b, h1, h2, _⟩)
    · exact .inl h1
    · rw [blk_eq] at h1
      rcases hown k ⟨id, b, h1, h2⟩ with h3 | h3
      · exact own_mut k c h3
      · omega
  have hks : Keeps (Mut M S ρ) w w4 := .of_block hsz fun k hk ⟨c, hc⟩ => hun k hk fun ho => hc (own_mut k c ho)
  have hks2 : Keeps (fun k c => Mut M S ρ k c ∨ Mut M S' ρ3 k c) w w4 := .of_block hsz fun k hk ⟨c, hc⟩ => hun k hk fun ho => hc (.inl (own_mut k c ho))
  have hm2 : ∀ k c, k < w.heap.size → (Mut M S ρ k c ∨ Mut M S' ρ3 k c) → Mut M S ρ k c := fun k c hk h1 => h1.elim (fun h => h) (hm k c hk)
  have own_ne : ∀ k, qR S3 ρ3 k → k ≠ l := fun k ⟨id, b, h1, h2⟩ e => by
    subst e
    exact hb.out k 0 (hM3 k 0 (hMl 0)) (hb.mine id b k h1 h2)
  have tmp_eq : ∀ i, S'.tmp i = S.tmp i := fun i => by show (look S'.t i).getD .any = _; rw [ht]; rfl
  refine ⟨⟨hos.1.trans hs.below.os, hos.2.1.trans hs.below.tape, hos.2.2.trans hs.below.output, Nat.le_trans hs.below.size hsz, fun k hk ht => ?_⟩, hs.out, hs.tab, hs.size, hs.defers, fun i => ?_, fun id b h1 => ?_, fun id b k h1 h2 => ?_, fun k v hk => hb.fix k v (by rw [hr]; exact hk), hs.free, fun i j bi bj k h1 h2 h3 h4 => ?_⟩
  · refine (hun k (Nat.lt_of_lt_of_le hk hs.below.size) fun ho => ?_).trans (hs.below.block k hk ht)
    rcases own_has k ho with h1 | h1
    · omega
    · exact ht h1
  · rw [tmp_eq]
    have h0 := hs.tmps i
    have hwk : wakes h.r (S.tmp i) := by
      show wakes h.r ((look S.t i).getD .any)
      have mem : ∀ (T : List (Nat × AV)) x, look T i = some x → ∃ p ∈ T, p.2 = x := by
        intro T x
        induction T with
        | nil => intro h; cases h
        | cons p T ih =>
          intro h
          obtain ⟨k, y⟩ := p
          unfold look at h
          split at h
          · exact ⟨(k, y), by simp, Option.some.inj h⟩
          · obtain ⟨q, hq, e⟩ := ih h
            exact ⟨q, by simp [hq], e⟩
      cases e : look S.t i with
      | none => trivial
      | some x =>
        obtain ⟨p, hp, rfl⟩ := mem S.t x e
        exact hw p hp
    generalize S.tmp i = x at h0 hwk
    generalize a.tmps.getD i undef = v at h0
    cases h0 with
    | any => exact .any _
    | p h1 => exact .p (((h1.mono hm2).keep hks2).mono fun k c _ hk => .inr hk)
    | own => cases hwk
    | ptr id off g h1 =>
      obtain ⟨u, hu⟩ := Option.isSome_iff_exists.1 hwk
      refine .ptr id off g ?_
      rw [hb.fix id u (by rw [hr]; exact hu), ← hs.fix id u hu]
      exact h1
    | pt xs g o ys h1 hc hM hg =>
      have := (((yV.pt (ρ := ρ) xs g o ys h1 hc hM hg).mono hm2).keep hks2).mono (M' := Mut M S' ρ3) fun k c _ hk => .inr hk
      cases this with
      | pt _ _ _ ys' h1 hc hM hg => exact .pt xs g o ys' h1 hc hM hg
    | tup => cases hwk
    | clo => cases hwk
    | glob g => exact .glob g
    | ifp => cases hwk
  · rw [blk_eq] at h1
    have hb2 := (hb.blks id b h1).mono (M' := Mut M S' ρ3) fun k c hk => by
      rcases hk with hk | ⟨id', b', h3, h4, h5⟩
      · exact .inl (hM3 k c hk)
      · rw [blk_eq] at h3
        exact .inr ⟨id', b', h3, h4, h5⟩
    have hks3 : Keeps (Mut M S' ρ3) w3 w4 := ⟨h34, fun k c hk _ => by
      by_cases e : k = l
      · subst e
        rw [hl4.1 c, hl4.2 c]
      · exact World.cell?_of_block (w := w3) (hl3 k hk e)⟩
    exact y7.keep hb2 (fun k hk => hl3 k (Mut.kJ hb h1 hk) (own_ne k ⟨id, b, h1, hk⟩)) hks3 fun k c _ hk => hk
  · rw [blk_eq] at h1
    rcases hown k ⟨id, b, h1, h2⟩ with h3 | h3
    · exact own_has k h3
    · exact .inl (Nat.le_trans hs.below.size h3)
  · rw [blk_eq] at h1 h2
    exact hb.dist i j bi bj k h1 h2 h3 h4
end
theorem cell_obj {w : World} {l : Nat} {r : Loop} (h : w.heap[l]? = some (.loop r)) (c : Nat) : w.cell? ⟨l, c, none⟩ = none := by
  simp [World.cell?, h]
def IterOK (P : Program) (gf : FuncId) (cs : List AV) (N : Nat) (ys : Nat → List PV) : Prop :=
  ∀ (l : Nat) (M0 : Nat → Nat → Prop) (J : Nat → (Nat → Prop) → World → Prop) (W : World) (Z : Nat → Prop) (lb : List Value), Yields P l M0 N ys J → J 0 Z W → Lays W → (∀ g c, Tabs g → ¬ (M0 g c ∨ Z g)) → (∀ k c, M0 k c → k < W.heap.size) → lb.length = cs.length →
    (∀ (j : Nat) x v, cs[j]? = some x → lb[j]? = some v → yV (fun k c => M0 k c ∨ Z k) (fun _ => undef) W x v) →
    Calls P gf (Value.func (.yield l) #[] #[] :: lb).toArray W fun e W' => (∃ v, e = .returned v) ∧ ∃ Z', J N Z' W'
section
variable {P : Program} {n : Nat} {M : Nat → Nat → Prop} {h : Home} {ρ : Nat → Value} {a : Act} {w : World}
theorem wp_range {g : Operand} {ps : Array Tmp} {assign body : Code} {Q : Exit → Act → World → Prop} {gf : FuncId} {lb : List Value} {cs : List AV} {N : Nat} {ys : Nat → List PV} (Sf Sa Sb : Nat → AS) [hc : HasFn P gf]
    (hs : Sat M n h (Sf 0) ρ a w) (hg : a.eval g = .func (.func gf) #[] lb.toArray) (hlb : lb.length = cs.length) (hcs : ∀ (j : Nat) x v, cs[j]? = some x → lb[j]? = some v → yV (fun k c => M k c ∨ qR (Sf 0) ρ k) (fun _ => undef) w x v) (hit : IterOK P gf cs N ys)
    (hps : ∀ d ∈ ps.toList, d < n) (hys : ∀ i, (ys i).length = ps.size) (ht : ∀ i, (Sf (i + 1)).t = (Sf i).t) (hb : ∀ i, (Sf (i + 1)).s = (Sb i).s) (hw : ∀ i, ∀ p ∈ (Sf i).t, wakes h.r p.2) (htu : ∀ i id b, (Sf i).blk id = some b → ∀ c, b.turns c)
    (hass : ∀ l i, i < N → xL l P n assign (putsA (Sf i) ps.toList (ys i)) (fun e S' => e = .normal ∧ Sub S' (Sa i)))
    (hbody : ∀ l i, i < N → xL l P n body (Sa i) (fun e S' => e = .normal ∧ Sub S' (Sb i)))
    (hdone : ∀ D M' h' ρ' w', h.w.heap.size ≤ D → (∀ k c, M k c → M' k c) → (∀ c, M' D c) → h'.w = w' → h'.r = h.r → h'.d = { target := .collected D, args := #[] } :: a.defers → (∀ k, h'.t k → h.has k) → xM h w' → w'.heap[D]? = some (.deferred (some [])) → Sat M' n h' (Sf N) ρ' { a with defers := { target := .collected D, args := #[] } :: a.defers } w' → Q .normal { a with defers := { target := .collected D, args := #[] } :: a.defers } w') :
    (Code.rangeFunc g ps assign body).wp P Q a w := by
  refine (wpIn_wide (n := 0)).1 (wpIn_rangeFunc fun fn _ => ?_)
  obtain ⟨rec, hrec⟩ : ∃ rec : LoopState → Option Code → Loop, rec = fun st pe => { state := st, pending := pe, fn, tmps := a.tmps, params := ps, assign, body, defers := w.heap.size } := ⟨_, rfl⟩
  obtain ⟨D, hD⟩ : ∃ D, D = w.heap.size := ⟨_, rfl⟩
  obtain ⟨l, hl⟩ : ∃ l, l = w.heap.size + 1 := ⟨_, rfl⟩
  obtain ⟨W1, hW1⟩ : ∃ W1, (w.alloc (.deferred (some []))).alloc (.loop (rec .ready none)) = W1 := ⟨_, rfl⟩
  have hsz1 : W1.heap.size = w.heap.size + 2 := by rw [← hW1]; simp
  have hL1 : W1.heap[l]? = some (.loop (rec .ready none)) := by
    rw [← hW1, hl]; have := World.alloc_heap_new (w.alloc (.deferred (some []))) (.loop (rec .ready none)); rwa [World.size_alloc] at this
  have hK1 : W1.heap[D]? = some (.deferred (some [])) := by
    rw [← hW1, hD]; exact (Below.heap_alloc _ _ _ (by simp)).trans (World.alloc_heap_new w _)
  have hB1 : Below w.heap.size w W1 := by
    rw [← hW1]; exact ((Below.refl _ w).alloc (Nat.le_refl _) _).alloc (by simp) _
  obtain ⟨hl1, ht1, hs1⟩ := hs.switch (fun _ => False) (fun k => k = D ∨ k = l) hB1.size (fun _ _ h => h.elim) (fun k hk _ => hB1.block k hk) (fun k hk => by rcases hk with rfl | rfl <;> omega)
  obtain ⟨h1, hh1⟩ : ∃ h1, h1 = h.anew W1 (qR (Sf 0) ρ) hl1 ht1 := ⟨_, rfl⟩
  rw [← hh1] at hs1
  have hr1 : h1.r = h.r := by rw [hh1]; rfl
  have hw1 : h1.w = W1 := by rw [hh1]; rfl
  have ht1' : ∀ k, h1.t k → qR (Sf 0) ρ k := by rw [hh1]; exact fun k hk => hk
  obtain ⟨M1, hM1⟩ : ∃ M1 : Nat → Nat → Prop, M1 = fun k c => M k c ∨ (k = D ∨ k = l) := ⟨_, rfl⟩
  rw [← hM1] at hs1
  have hMl : ∀ c, M1 l c := fun c => by rw [hM1]; exact .inr (.inr rfl)
  have hMD : ∀ c, M1 D c := fun c => by rw [hM1]; exact .inr (.inl rfl)
  have hDl : D ≠ l := by omega
  have not_own : ∀ {S : AS} {ρ : Nat → Value} {M' : Nat → Nat → Prop} {h' : Home} {a' : Act} {w' : World} {k : Nat}, Sat M' n h' S ρ a' w' → (∀ c, M' k c) → ¬ qR S ρ k := fun hs' hk ⟨id, b, p1, p2⟩ => hs'.out _ 0 (hk 0) (hs'.mine id b _ p1 p2)
  let J : Nat → (Nat → Prop) → World → Prop := fun i Z W => ∃ ρ, Sat M1 n h1 (Sf i) ρ a W ∧ Z = qR (Sf i) ρ ∧ W.heap[l]? = some (.loop (rec .ready none)) ∧ W.heap[D]? = some (.deferred (some []))
  have hY : Yields P l M1 N ys J := by
    refine ⟨fun i Z W k ⟨ρ, hs, hz, _⟩ hk => ?_, fun i Z W W' ⟨ρ, hs, hz, p1, p2⟩ hB => ?_, fun i Z W vs hi hJ hvl hvs => ?_⟩
    · subst hz
      obtain ⟨id, b, p1, p2⟩ := hk
      exact Mut.kJ hs p1 p2
    · exact ⟨ρ, hs.ext hB, hz, (hB.block l (Array.getElem?_eq_some_iff.1 p1).1).trans p1, (hB.block D (Array.getElem?_eq_some_iff.1 p2).1).trans p2⟩
    · obtain ⟨ρ, hs, rfl, p1, p2⟩ := hJ
      have hvp : vs.toArray.size = (rec .ready none).params.size := by rw [hrec]; simp [hvl, hys]
      have hltl : l < W.heap.size := (Array.getElem?_eq_some_iff.1 p1).1
      have hltD : D < W.heap.size := (Array.getElem?_eq_some_iff.1 p2).1
      refine ⟨fn, (ps.zip vs.toArray).foldl (fun t (p, v) => t.setIfInBounds p v) a.tmps, assign, body, ?_, roundIn_of_wpIn trivial ?_⟩
      · have := run_yield (P := P) (args := vs.toArray) p1 hvp
        rw [this, hrec]
      -- the round's frame
      obtain ⟨hla, hta, hsa⟩ := hs.switch (fun _ => False) (fun _ => False) (Nat.le_refl _) (fun _ _ h => h.elim) (fun _ _ _ => rfl) (fun _ h => h.elim)
      have hsb := (hsa.puts (ds := ps.toList) (xs := ys i) (vs := vs) (by simp [hys]) hvl hps (fun j c v hc hv => (hvs j c v hc hv).mono fun k c _ hk => by
        rcases hk with (hk | hk) | ⟨id, b, q1, q2, _⟩
        · exact .inl hk
        · exact hk.elim
        · exact .inr ⟨id, b, q1, q2⟩)).withD []
      have efold : (ps.zip vs.toArray).foldl (fun t (p, v) => t.setIfInBounds p v) a.tmps = (ps.toList.zip vs).foldl (fun t (p, v) => t.setIfInBounds p v) a.tmps := by
        rw [← Array.foldl_toList]
        simp
      rw [efold]
      refine hass l i hi (fun S h => by cases h.1) _ _ ρ _ W _ hsb fun e S' ρ' a' w' hk hs' _ => ?_
      obtain ⟨he, hsub⟩ := hk
      obtain rfl := bare_of he (fun c hc => by cases hc)
      obtain ⟨ρa, hsA⟩ := hsub _ _ _ ρ' a' w' hs'
      -- the round begins
      have hA : xM (h1.anew W (qR (Sf i) ρ) hla hta) w' := ⟨hsA.below.os, hsA.below.tape, hsA.below.output, hsA.below.size, hsA.below.block⟩
      have nl := not_own hs hMl
      have nD := not_own hs hMD
      have q1 : w'.heap[l]? = some (.loop (rec .ready none)) := (hA.block l hltl nl).trans p1
      have q2 : w'.heap[D]? = some (.deferred (some [])) := (hA.block D hltD nD).trans p2
      refine ⟨_, run_beginRound q1 (by rw [hrec]), ?_⟩
      obtain ⟨w2, hw2⟩ : ∃ w2, w'.putObj l (.loop { rec .ready none with state := .busy }) = w2 := ⟨_, rfl⟩
      rw [hw2]
      have sz2 : w2.heap.size = w'.heap.size := by rw [← hw2]; exact putObj_size _ _ _
      have r1 : w2.heap[l]? = some (.loop { rec .ready none with state := .busy }) := by rw [← hw2]; exact putObj_at q1
      have ne2 : ∀ k, k ≠ l → w2.heap[k]? = w'.heap[k]? := fun k hk => by rw [← hw2]; exact putObj_ne hk
      have os2 : w2.os = w'.os ∧ w2.tape = w'.tape ∧ w2.output = w'.output := by rw [← hw2]; exact ⟨rfl, rfl, rfl⟩
      obtain ⟨hlb2, htb2, hsB⟩ := hsA.switch (fun k => k = l) (fun _ => False) (Nat.le_of_eq sz2.symm) (fun k c hk _ => by subst hk; exact .inl (hMl c)) (fun k _ hk => ne2 k hk) (fun _ h => h.elim)
      have ownA : ∀ k, qR (Sa i) ρa k → qR (Sf i) ρ k ∨ W.heap.size ≤ k := fun k ⟨id, b, e1, e2⟩ => by
        rcases hsA.mine id b k e1 e2 with h5 | h5
        · exact .inr h5
        · exact .inl h5
      have nlA : ¬ qR (Sa i) ρa l := not_own hsA fun c => .inl (hMl c)
      refine hbody l i hi (fun S h => by cases h.1) _ _ ρa _ w2 _ hsB fun e S' ρ' a3 w3 hk hs' _ => ?_
      obtain ⟨he, hsub⟩ := hk
      obtain rfl := bare_of he (fun c hc => by cases hc)
      obtain ⟨ρ3, hsC⟩ := hsub _ _ _ ρ' a3 w3 hs'
      have hC := hsC.below
      have hCblk : ∀ k, k < w2.heap.size → ¬ qR (Sa i) ρa k → w3.heap[k]? = w2.heap[k]? := hC.block
      have hCsz : w2.heap.size ≤ w3.heap.size := hC.size
      have hAsz : W.heap.size ≤ w'.heap.size := hA.size
      have s1 : w3.heap[l]? = some (.loop { rec .ready none with state := .busy }) := (hCblk l (by omega) nlA).trans r1
      have hend := run_endRound (P := P) none s1
      have erec : ({ ({ rec .ready none with state := .busy } : Loop) with state := if (none : Option Code).isNone then .ready else .done, pending := none } : Loop) = rec .ready none := by rw [hrec]; rfl
      rw [erec] at hend
      refine ⟨_, _, hend, rfl, ?_⟩
      obtain ⟨w4, hw4⟩ : ∃ w4, w3.putObj l (.loop (rec .ready none)) = w4 := ⟨_, rfl⟩
      rw [hw4]
      have sz4 : w4.heap.size = w3.heap.size := by rw [← hw4]; exact putObj_size _ _ _
      have t1 : w4.heap[l]? = some (.loop (rec .ready none)) := by rw [← hw4]; exact putObj_at s1
      have ne4 : ∀ k, k ≠ l → w4.heap[k]? = w3.heap[k]? := fun k hk => by rw [← hw4]; exact putObj_ne hk
      have os4 : w4.os = w3.os ∧ w4.tape = w3.tape ∧ w4.output = w3.output := by rw [← hw4]; exact ⟨rfl, rfl, rfl⟩
      have un4 : ∀ k, k < W.heap.size → ¬ qR (Sf i) ρ k → w4.heap[k]? = W.heap[k]? := fun k hk hno => by
        by_cases e : k = l
        · subst e; rw [t1, p1]
        · rw [ne4 k e, hCblk k (by omega) fun ho => by rcases ownA k ho with h5 | h5; exact hno h5; omega, ne2 k e]
          exact hA.block k hk hno
      have ownC : ∀ k, qR (Sb i) ρ3 k → qR (Sf i) ρ k ∨ W.heap.size ≤ k := fun k ⟨id, b, e1, e2⟩ => by
        rcases hsC.mine id b k e1 e2 with h5 | h5
        · exact .inr (by have h6 : w2.heap.size ≤ k := h5; omega)
        · exact ownA k h5
      have blkC : ∀ id, (Sf (i + 1)).blk id = (Sb i).blk id := fun id => by show look (Sf (i + 1)).s id = look (Sb i).s id; rw [hb i]
      have hwake := hs.wake (l := l) (w4 := w4) hsC (ht i) (hb i) (fun p hp => by rw [hr1]; exact hw i p hp) rfl (htu i) hMl (fun k c hk => .inl (.inl hk))
        ⟨os4.1.trans (hC.os.trans (os2.1.trans hA.os)), os4.2.1.trans (hC.tape.trans (os2.2.1.trans hA.tape)), os4.2.2.trans (hC.output.trans (os2.2.2.trans hA.output))⟩ (by omega) un4 (Nat.le_of_eq sz4.symm) (fun k _ hk => ne4 k hk) ⟨cell_obj s1, cell_obj t1⟩ ownC
      refine ⟨qR (Sf (i + 1)) ρ3, ⟨ρ3, hwake, rfl, t1, ?_⟩, by omega, un4, fun k ⟨id, b, e1, e2⟩ => ownC k ⟨id, b, by rw [← blkC]; exact e1, e2⟩⟩
      exact (un4 D hltD nD).trans p2
  refine ⟨l, [{ target := .collected D, args := #[] }], W1, { target := .fn (.func gf) lb.toArray, args := #[.func (.yield l) #[] #[]] }, W1, gf, (Value.func (.yield l) #[] #[] :: lb).toArray, W1, ?_, ?_, ?_, ?_, fun h => (by cases h), ?_⟩
  · have := run_enterLoop_outer (P := P) (w := w) fn a.tmps ps assign body
    rw [← hW1, hrec, hD, hl]
    exact this
  · simp only [resolve, hg]
    simp [go_sem]
  · intro _ _; trivial
  · simp [invoke, go_sem, hc.h]
  · refine (callsIn_wide.2 (hit l M1 J W1 (qR (Sf 0) ρ) lb hY ⟨ρ, hs1, rfl, hL1, hK1⟩ hl1 (fun g c hg hk => by
      rcases hk with hk | hk
      · exact hs1.tab g c hg hk
      · exact ht1 g hg hk) (fun k c hk => Mut.lt hs1 (c := c) (.inl hk)) hlb fun j x v hx hv => ?_)).mono fun e W2 he => ?_
    · refine ((hcs j x v hx hv).mono fun k c hk hm => ?_).keep (.of_below _ hB1)
      rcases hm with hm | hm
      · rw [hM1] at hm
        rcases hm with hm | hm | hm
        · exact .inl hm
        · omega
        · omega
      · exact .inr hm
    · obtain ⟨⟨v, rfl⟩, Z', ρ2, hs2, rfl, p1, p2⟩ := he
      obtain ⟨W3, hW3⟩ : ∃ W3, W2.putObj l (.loop { rec .ready none with state := .exhausted }) = W3 := ⟨_, rfl⟩
      have hendl := run_endLoop (P := P) p1 (by rw [hrec]; simp)
      rw [hW3] at hendl
      have epend : (rec .ready none).pending = none := by rw [hrec]
      rw [epend] at hendl
      refine ⟨none, W3, hendl, ?_⟩
      have sz3 : W3.heap.size = W2.heap.size := by rw [← hW3]; exact putObj_size _ _ _
      have ne3 : ∀ k, k ≠ l → W3.heap[k]? = W2.heap[k]? := fun k hk => by rw [← hW3]; exact putObj_ne hk
      have os3 : W3.os = W2.os ∧ W3.tape = W2.tape ∧ W3.output = W2.output := by rw [← hW3]; exact ⟨rfl, rfl, rfl⟩
      obtain ⟨hl3, ht3, hs3⟩ := hs2.switch (fun k => k = l) (fun _ => False) (Nat.le_of_eq sz3.symm) (fun k c hk _ => by subst hk; exact hMl c) (fun k _ hk => ne3 k hk) (fun _ h => h.elim)
      have hs4 := hs3.withD ({ target := .collected D, args := #[] } :: a.defers)
      have own_has : ∀ k, qR (Sf N) ρ2 k → h.has k := fun k ⟨id, b, e1, e2⟩ => by
        rcases hs2.mine id b k e1 e2 with h5 | h5
        · rw [hw1] at h5
          exact .inl (Nat.le_trans hs.below.size (Nat.le_trans hB1.size h5))
        · obtain ⟨id', b', e3, e4⟩ := ht1' k h5
          exact hs.mine id' b' k e3 e4
      have hbel : xM h W3 := by
        have b2 := hs2.below
        refine ⟨os3.1.trans (b2.os.trans ?_), os3.2.1.trans (b2.tape.trans ?_), os3.2.2.trans (b2.output.trans ?_), ?_, fun k hk hk2 => ?_⟩
        · rw [hw1]; exact hB1.os.trans hs.below.os
        · rw [hw1]; exact hB1.tape.trans hs.below.tape
        · rw [hw1]; exact hB1.output.trans hs.below.output
        · have := b2.size; rw [hw1] at this; have := hs.below.size; have := hB1.size; omega
        · have hkw : k < w.heap.size := Nat.lt_of_lt_of_le hk hs.below.size
          rw [ne3 k (by omega)]
          rw [b2.block k (by rw [hw1]; omega) fun h5 => ?_, hw1, hB1.block k hkw]
          · exact hs.below.block k hk hk2
          · obtain ⟨id', b', e3, e4⟩ := ht1' k h5
            rcases hs.mine id' b' k e3 e4 with h6 | h6
            · omega
            · exact hk2 h6
      exact hdone D (fun k c => M1 k c ∨ False) { h1.anew W3 (qR (Sf N) ρ2) hl3 ht3 with d := { target := .collected D, args := #[] } :: a.defers } ρ2 W3 (by rw [hD]; exact hs.below.size) (fun k c hk => .inl (by rw [hM1]; exact .inl hk)) (fun c => .inl (hMD c)) rfl hr1 rfl own_has hbel ((ne3 D hDl).trans p2) hs4
end
def RFn (M : Nat → Nat → Prop) (w : World) (r : RV) (e : Ending) (w' : World) : Prop := ∃ v, e = .returned v ∧ RepR M w w' r v ∧ Below w.heap.size w w'
theorem fn_ofM {P : Program} {f : FuncId} {fn : Func} {c : Code} {args : List PV} {r : RV} {n : Nat} (hf : P.funcs[f]? = some fn) (hb : fn.body = some c) (hn : fn.ntmps = n) (hle : args.length ≤ n)
    (h : ∀ (M : Nat → Nat → Prop) (w : World) (hl : Lays w), (∀ k c, M k c → k < w.heap.size) → WC P n c (AS.entry args) M (Home.plain w hl) (bodyPostM Fence.wide 0 P fn (RFn M w r))) : Fn P f args r := by
  intro M w vs hT hM hvl hvs
  refine callsIn_wide.1 (callsIn_of_wp_marks (n := 0) hf hb trivial (wpIn_wide.2 (WC.run (h M w hT.1 hM) (ρ := fun _ => undef) ?_)))
  refine ⟨xM.refl (Home.plain w hT.1), (fun k c hk hh => by rcases hh with hh | hh; exact absurd (hM k c hk) (Nat.not_lt.2 hh); exact hh), hT.2, by simp; omega, rfl, fun i => ?_, (fun id b hb => by cases hb), (fun id b k hb => by cases hb), (fun k v hk => by cases hk), (fun _ _ => rfl), (fun i j bi bj k hi => by cases hi)⟩
  show yV _ _ _ ((look (zipArgs 0 args) i).getD .any) _
  rw [look_zipArgs]
  simp only [Nat.zero_le, if_true, Nat.sub_zero]
  cases hx : args[i]? with
  | none => exact .any _
  | some x =>
    have hi : i < vs.length := by rw [hvl]; exact (List.getElem?_eq_some_iff.1 hx).1
    have e : ({ tmps := vs.toArray ++ Array.replicate (fn.ntmps - vs.toArray.size) undef, defers := [] } : Act).tmps.getD i undef = vs[i] := by
      simp [Array.getD_eq_getD_getElem?, Array.getElem?_append, hi]
    rw [e]
    refine .p ((hvs i x vs[i] hx (List.getElem?_eq_getElem hi)).mono ?_)
    rintro k c _ (hk | ⟨id, b, hb, _⟩)
    · exact hk
    · cases hb
theorem end_marks {P : Program} {fn : Func} {n D : Nat} {M M' : Nat → Nat → Prop} {w w' : World} {hl : Lays w} {h' : Home} {S : AS} {ρ : Nat → Value} {a : Act} {rs : List ResultVar} {l : List PV} (hs : Sat M' n h' S ρ a w') (hD : w.heap.size ≤ D) (hM : ∀ k c, M k c → M' k c) (hMD : ∀ c, M' D c) (hd : h'.d = [{ target := .collected D, args := #[] }])
    (ht : ∀ k, h'.t k → (Home.plain w hl).has k) (hb : xM (Home.plain w hl) h'.w) (hk : h'.w.heap[D]? = some (.deferred (some []))) (hr : fn.results = rs.toArray) (hn : rs.length ≠ 1) (hx : ResVs P S rs l) :
    bodyPostM Fence.wide 0 P fn (RFn M w (.tup l)) .ret a w' := by
  have hnt : ¬ h'.t D := fun h1 => hs.out D 0 (hMD 0) (.inr h1)
  have hlt : D < h'.w.heap.size := (Array.getElem?_eq_some_iff.1 hk).1
  have hk2 : w'.heap[D]? = some (.deferred (some [])) := (hs.below.block D hlt hnt).trans hk
  obtain ⟨w2, hw2⟩ : ∃ w2, w'.putObj D (.deferred none) = w2 := ⟨_, rfl⟩
  have sz2 : w2.heap.size = w'.heap.size := by rw [← hw2]; exact putObj_size _ _ _
  have ne2 : ∀ k, k ≠ D → w2.heap[k]? = w'.heap[k]? := fun k hk => by rw [← hw2]; exact putObj_ne hk
  have os2 : w2.os = w'.os ∧ w2.tape = w'.tape ∧ w2.output = w'.output := by rw [← hw2]; exact ⟨rfl, rfl, rfl⟩
  obtain ⟨hl3, ht3, hs3⟩ := hs.switch (fun k => k = D) (fun _ => False) (Nat.le_of_eq sz2.symm) (fun k c hk _ => by subst hk; exact hMD c) (fun k _ hk => ne2 k hk) (fun _ h => h.elim)
  have hbel : Below w.heap.size w w2 := by
    have b1 := hb.plain
    refine ⟨os2.1.trans (hs.below.os.trans b1.os), os2.2.1.trans (hs.below.tape.trans b1.tape), os2.2.2.trans (hs.below.output.trans b1.output), ?_, fun k hk => ?_⟩
    · have := b1.size; have := hs.below.size; omega
    · have h2 := b1.size
      rw [ne2 k (by omega), hs.below.block k (by omega) fun h5 => ?_]
      · exact b1.block k hk
      · rcases ht k h5 with h6 | h6
        · have h7 : w.heap.size ≤ k := h6
          omega
        · exact h6
  show LeavesInM Fence.wide 0 P fn a.tmps _ a.defers .returning w'
  rw [hs.defers, hd]
  refine ⟨by simp, .inl ⟨D, w2, rfl, ?_, ?_⟩⟩
  · rw [← hw2]; exact run_takeDeferred hk2
  · obtain ⟨us, h1, h2, h4, h3⟩ := res_all hs3 hx
    have h5 := qV (P := P) (w := w2) fn a.tmps hr h1
    rw [dif_neg (by simp only [List.size_toArray]; omega)] at h5
    exact ⟨_, h5, _, rfl, ⟨us, rfl, h2, fun i x u hx hu => (h3 i x u hx hu).mono fun k c _ hk => .inl (hM k c hk)⟩, hbel⟩
end Go.Proofs.YtomlhekjgagjaaaDoor
namespace Go.Proofs.YtomlhekjgagjaaaDoor
set_option maxRecDepth 100000
set_option maxHeartbeats 16000000
open Go Go.RowKit
attribute [local irreducible] zZ zY Step zA Sub zL z8 Fn
def yR (s : List Int) (p : Nat) : Option (Nat × List Int) :=
  bif decide (p + 6 ≤ s.length) && decide (1 ≤ (numOf ((s.drop p).take 2)).toNat) && decide (p + 6 + (numOf ((s.drop p).take 2)).toNat ≤ s.length) && decide (((xC 0 ((s.drop (p + 6)).take (numOf ((s.drop p).take 2)).toNat) : Nat) : Int) = numOf ((s.drop (p + 2)).take 4)) then
    some (p + 6 + (numOf ((s.drop p).take 2)).toNat, (s.drop (p + 6)).take (numOf ((s.drop p).take 2)).toNat) else none
def xX (s : List Int) : Nat → Nat → List (Nat × List Int)
  | 0, _ => []
  | f + 1, p => match yR s p with
    | none => []
    | some x => x :: xX s f x.1
def yH (s : List Int) : List (Nat × List Int) := xX s (s.length + 1) 0
def frRow (s : List Int) (i : Nat) : List PV := match (yH s)[i]? with
  | some (e, b) => [.val (.int .i64 (e : Nat)), .sl (byts b)]
  | none => [.val (.int .i64 0), .sl []]
theorem frRow_len (s : List Int) (i : Nat) : (frRow s i).length = 2 := by unfold frRow; split <;> rfl
theorem frameAt_some {s : List Int} {p : Nat} {x : Nat × List Int} (h : yR s p = some x) : p < x.1 ∧ x.1 ≤ s.length ∧ p + 6 ≤ s.length ∧ 1 ≤ (numOf ((s.drop p).take 2)).toNat ∧ x.1 = p + 6 + (numOf ((s.drop p).take 2)).toNat ∧ x.2 = (s.drop (p + 6)).take (numOf ((s.drop p).take 2)).toNat ∧ ((xC 0 x.2 : Nat) : Int) = numOf ((s.drop (p + 2)).take 4) := by
  unfold yR at h
  generalize hc : (decide (p + 6 ≤ s.length) && decide (1 ≤ (numOf ((s.drop p).take 2)).toNat) && decide (p + 6 + (numOf ((s.drop p).take 2)).toNat ≤ s.length) && decide (((xC 0 ((s.drop (p + 6)).take (numOf ((s.drop p).take 2)).toNat) : Nat) : Int) = numOf ((s.drop (p + 2)).take 4))) = c at h
  cases c
  · cases h
  · rw [cond_true] at h
    obtain rfl := Option.some.inj h
    simp only [Bool.and_eq_true, decide_eq_true_eq] at hc
    obtain ⟨⟨⟨h1, h2⟩, h3⟩, h4⟩ := hc
    exact ⟨by show p < p + 6 + _; omega, h3, h1, h2, rfl, rfl, h4⟩
theorem frameAt_none {s : List Int} {p : Nat} (h : ¬ (p + 6 ≤ s.length ∧ 1 ≤ (numOf ((s.drop p).take 2)).toNat ∧ p + 6 + (numOf ((s.drop p).take 2)).toNat ≤ s.length ∧ ((xC 0 ((s.drop (p + 6)).take (numOf ((s.drop p).take 2)).toNat) : Nat) : Int) = numOf ((s.drop (p + 2)).take 4))) : yR s p = none := by
  unfold yR
  generalize hc : (decide (p + 6 ≤ s.length) && decide (1 ≤ (numOf ((s.drop p).take 2)).toNat) && decide (p + 6 + (numOf ((s.drop p).take 2)).toNat ≤ s.length) && decide (((xC 0 ((s.drop (p + 6)).take (numOf ((s.drop p).take 2)).toNat) : Nat) : Int) = numOf ((s.drop (p + 2)).take 4))) = c
  cases c
  · rfl
  · simp only [Bool.and_eq_true, decide_eq_true_eq] at hc
    obtain ⟨⟨⟨h1, h2⟩, h3⟩, h4⟩ := hc
    exact absurd ⟨h1, h2, h3, h4⟩ h
theorem frames_fn (s : List Int) : FnX Tryd.prog 77 [.p (.sl (byts s))] [] (.clo 82 [1000]) [] [.box 35 [.p (.sl (byts s))]] := by
  refine fn_ofX [1] Tryd.func77 rfl Tryd.ntmps77 (Nat.le_of_ble_eq_true rfl) (by decide) rfl rfl ?_
  repeat' ((refine zY.is ?_; first | refine zY.seq ?_ | (refine zY.iq 0 ?_; refine zY.rqa _ K_5 K_8 ?_; refine zZ.m rfl rfl (w_boxS rfl rfl rfl (by decide)) ?_; refine zZ.va rfl rfl rfl rfl (by decide) ?_; refine zZ.nil ?_) | (refine zY.iq 1 ?_; refine zY.rqd _ K_9 K_8 ?_; refine zZ.v rfl rfl (w_mkFunc rfl (by rfl) rfl (by decide)) ?_; refine zZ.v rfl rfl (a_assignC rfl rfl rfl (by decide)) ?_; refine zZ.nil ?_) | refine zY.ret ?_))
  all_goals exact ⟨.inl rfl, _, Sub.refl _, .one rfl rfl, hands_of (by decide) rfl (by repeat' first | exact trivial | rfl | constructor)⟩
def itS (l : Nat) (s : List Int) (p : Nat) : AS := { t := [(0, .p (.val (.func (.yield l) #[] #[]))), (1, .pt [.sl (byts s)]), (3, .p (.val (.int .i64 (p : Nat))))], s := [] }
def itI (P : Program) (n l : Nat) (s : List Int) (M0 : Nat → Nat → Prop) (J : Nat → (Nat → Prop) → World → Prop) (i : Nat) (a : Act) (w : World) : Prop :=
  ∃ p f Z M h ρ, p ≤ s.length ∧ s.length + 1 ≤ f + p ∧ (yH s).drop i = xX s f p ∧ h.w = w ∧ (∀ k, ¬ h.t k) ∧ h.d = [] ∧ J i Z h.w ∧ (∀ k c, M0 k c ∨ Z k → M k c) ∧ Sat M n h (itS l s p) ρ a w
theorem itI_mk {P : Program} {n l : Nat} {s : List Int} {M0 : Nat → Nat → Prop} {N : Nat} {ys : Nat → List PV} {J : Nat → (Nat → Prop) → World → Prop} (hY : Yields P l M0 N ys J) {i p f : Nat} {Z : Nat → Prop} {M : Nat → Nat → Prop} {h : Home} {S : AS} {ρ : Nat → Value} {a : Act} {w : World}
    (h1 : p ≤ s.length) (h2 : s.length + 1 ≤ f + p) (h3 : (yH s).drop i = xX s f p) (ht : ∀ k, ¬ h.t k) (hd : h.d = []) (hJ : J i Z h.w) (hZ : ∀ k c, M0 k c ∨ Z k → M k c) (hs0 : Sat M n h S ρ a w) (hsub : Sub S (itS l s p)) : itI P n l s M0 J i a w := by
  obtain ⟨ρ, hs⟩ := hsub.go hs0
  obtain ⟨hl, ht2, hs2⟩ := hs.switch (fun _ => False) (fun _ => False) (Nat.le_refl _) (fun _ _ h => h.elim) (fun _ _ _ => rfl) (fun _ h => h.elim)
  exact ⟨p, f, Z, _, h.anew w (qR (itS l s p) ρ) hl ht2, ρ, h1, h2, h3, rfl, (fun k ⟨id, b, e, _⟩ => by cases e), hd, hY.ext _ _ _ _ hJ (below_of hs.below ht), (fun k c hk => .inl (hZ k c hk)), hs2⟩
theorem drop_nil {α : Type} {L : List α} {i : Nat} (h : L.drop i = []) : L.length ≤ i := by simpa using h
theorem drop_cons {α : Type} {L R : List α} {i : Nat} {x : α} (h : L.drop i = x :: R) : L[i]? = some x ∧ L.drop (i + 1) = R ∧ i < L.length := by
  have h1 : i < L.length := Nat.lt_of_not_le fun hle => by rw [List.drop_eq_nil_of_le hle] at h; cases h
  rw [List.drop_eq_getElem_cons h1] at h
  injection h with h2 h3
  exact ⟨by rw [List.getElem?_eq_getElem h1, h2], h3, h1⟩
theorem frames1_it (s : List Int) (hb : ∀ x ∈ s, 0 ≤ x ∧ x < 256) (hls : s.length ≤ 1000000) : IterOK Tryd.prog 82 [.pt [.sl (byts s)]] (yH s).length (frRow s) := by
 intro l M0 J W Z lb hY hJ hl htab hM0 hlb hrep
 obtain ⟨v0, rfl⟩ : ∃ v0, lb = [v0] := by
  match lb, hlb with
  | [v0], _ => exact ⟨v0, rfl⟩
 have hv0 := hrep 0 _ v0 rfl rfl
 refine calls_of_wp Tryd.func82 rfl ?_
 have hsat := entry_sat (M := fun k c => M0 k c ∨ Z k) (n := 56) (hl := hl) (nt := Tryd.f82.ntmps) (T := [(0, .p (.val (.func (.yield l) #[] #[]))), (1, .pt [.sl (byts s)])]) (vs := [Value.func (.yield l) #[] #[], v0]) Tryd.ntmps82 (Nat.le_of_ble_eq_true rfl) (fun k c hk => by
  rcases hk with hk | hk
  ·exact hM0 k c hk
  ·exact hY.lt _ _ _ k hJ hk) htab (fun i x hx => by
  match i with
  | 0 => cases hx; exact ⟨_, rfl, .p (.val _)⟩
  | 1 => cases hx; exact ⟨_, rfl, hv0⟩
  | i + 2 => cases hx)
 have hfin : ∀ (M : Nat → Nat → Prop) (h : Home) (S : AS) (ρ : Nat → Value) (a : Act) (w : World) (i : Nat), (yH s).length ≤ i → i ≤ (yH s).length → h.d = [] → (∃ Z, J i Z h.w) → (∀ k, ¬ h.t k) → Sat M 56 h S ρ a w → bodyPost Tryd.prog Tryd.f82 (fun e W' => (∃ v, e = .returned v) ∧ ∃ Z', J (yH s).length Z' W') .ret a w := fun M h S ρ a w i hi1 hi2 hd ⟨Z, hJ⟩ ht hs => by
  refine ⟨hs.defers.trans hd, _, results_none rfl _ _ _, ⟨_, rfl⟩, Z, ?_⟩
  have e : i = (yH s).length := by omega
  subst e
  exact hY.ext _ _ _ _ hJ (below_of hs.below ht)
 refine WC.run (M := fun k c => M0 k c ∨ Z k) (h := Home.plain W hl) (n := 56) ?_ hsat
 refine WC.seq ?_
 repeat' (first | (refine zY.is ?_; (refine zY.isR (id := 0) ?_; refine zY.zK [0, 1] [] (by repeat' first | exact zX.nil | apply zX.p rfl | apply zX.pt rfl) (by repeat' exact zW.nil) ?_; refine zZ.va rfl rfl rfl rfl (by decide) ?_; refine zZ.nil ?_)) | refine zH.n ?_)
 refine WC.block ?_
 refine WC.mk fun ρ a w hs => ?_
 refine wp_loop_iter (N := (yH s).length) (i0 := 0) (itI Tryd.prog 56 l s M0 J) (itI_mk hY (p := 0) (f := s.length + 1) (Z := Z) (Nat.zero_le _) (by omega) rfl (fun _ h => h) rfl hJ (fun k c hk => hk) hs ?sub) (Nat.zero_le _) ?rd
 case sub =>
  unfold itS
  exact zD K_2t []
 clear hs hsat hJ hv0 hrep
 intro i a w hi hI
 obtain ⟨p, f, Z, M, h, ρ, hp, hf, hdr, rfl, ht, hd, hJ, hZ, hs⟩ := hI
 refine WC.run ?_ hs
 unfold itS
 have hnone : yR s p = none → (yH s).length ≤ i := fun hn => drop_nil (by
  rw [hdr]
  match f, hf with
  | 0, hf => omega
  | f + 1, _ => rw [xX, hn])
 have hout : yR s p = none → ∀ S, WE 56 M h (Exit.inBlock 1 (Exit.then (fun a' w' => ∃ j, i < j ∧ j ≤ (yH s).length ∧ itI Tryd.prog 56 l s M0 J j a' w') (Exit.inBlock 0 (bodyPost Tryd.prog Tryd.f82 (fun e W' => (∃ v, e = .returned v) ∧ ∃ Z', J (yH s).length Z' W'))))) .ret S := fun hn S => .mk (by simp) (by simp) fun ρ a w hs => hfin M h S ρ a w i (hnone hn) hi hd ⟨Z, hJ⟩ ht hs
 have g0 : IntKind.i64.wrap (((s.length : Nat) : Int) - (p : Nat)) = ((s.length : Nat) : Int) - (p : Nat) := wrap_i64 _ (by omega)
 by_cases hA : p + 6 ≤ s.length
 case neg =>
  have hn : yR s p = none := frameAt_none fun hc => hA hc.1
  have g1 : decide (((s.length : Nat) : Int) - (p : Nat) ≥ 6) = false := decide_eq_false (by omega)
  refine WC.seq ?_
  repeat' (first | (refine zY.is ?_; first | refine zY.seq ?_ | (refine zY.isR (id := 1) ?_; refine zY.zK [0, 1, 3, 4, 5, 6, 11, 30, 46, 55] [] (by repeat' first | exact zX.nil | apply zX.p rfl | apply zX.pt rfl | apply zX.skip) (by repeat' exact zW.nil) ?_; refine zZ.v rfl rfl (zP rfl rfl rfl rfl (by decide)) ?_; refine zZ.v rfl rfl (xH rfl rfl rfl (by decide)) ?_; refine zZ.vm rfl rfl rfl rfl (by decide) ?_; refine zZ.v rfl rfl (w9 rfl rfl rfl g0 rfl (by decide)) ?_; refine zZ.v rfl rfl (qM rfl rfl rfl g1 rfl (by decide)) ?_; refine zZ.nil ?_) | refine zY.yF rfl (by first | assumption | with_reducible rfl) ?_ | refine zY.exit ?_) | refine zH.e ?_)
  all_goals exact .mk (by simp) (by simp) fun ρ a w hs => hfin M h _ ρ a w i (hnone hn) hi hd ⟨Z, hJ⟩ ht hs
 case pos =>
  have g1 : decide (((s.length : Nat) : Int) - (p : Nat) ≥ 6) = true := decide_eq_true (by omega)
  have g2 : IntKind.i64.wrap (((p : Nat) : Int) + 2) = ((p + 2 : Nat) : Int) := by rw [wrap_i64 _ (by omega)]; omega
  have g3 : (0 : Int) ≤ ((p : Nat) : Int) ∧ ((p : Nat) : Int) ≤ ((p + 2 : Nat) : Int) ∧ ((p + 2 : Nat) : Int) ≤ ((s.length : Nat) : Int) := by omega
  have hsub : ∀ q m : Nat, ∀ x ∈ (s.drop q).take m, 0 ≤ x ∧ x < 256 := fun q m x hx => hb x (List.mem_of_mem_drop (List.mem_of_mem_take hx))
  have hlen2 : ((s.drop p).take 2).length = 2 := by rw [List.length_take, List.length_drop]; omega
  have hnr := numOf_range ((s.drop p).take 2) (hsub p 2)
  rw [hlen2] at hnr
  have c0 : Fn Tryd.prog 83 [.sl (byts ((s.drop ((p : Nat) : Int).toNat).take (((p + 2 : Nat) : Int).toNat - ((p : Nat) : Int).toNat)))] (.p (.val (.int .u64 (numOf ((s.drop p).take 2))))) := by
   have e : ((p + 2 : Nat) : Int).toNat - ((p : Nat) : Int).toNat = 2 := by omega
   rw [e, Int.toNat_natCast]
   exact fnumber_fn _ (hsub p 2) (by omega)
  have hcA := fun (h2 : 1 ≤ (numOf ((s.drop p).take 2)).toNat) (h3 : p + 6 + (numOf ((s.drop p).take 2)).toNat ≤ s.length) => frameAt_none (s := s) (p := p)
  obtain ⟨n, hn⟩ : ∃ n : Nat, numOf ((s.drop p).take 2) = (n : Int) := ⟨_, (Int.toNat_of_nonneg hnr.1).symm⟩
  have hfr : yR s p = bif decide (1 ≤ n) && decide (p + 6 + n ≤ s.length) && decide (((xC 0 ((s.drop (p + 6)).take n) : Nat) : Int) = numOf ((s.drop (p + 2)).take 4)) then some (p + 6 + n, (s.drop (p + 6)).take n) else none := by
   unfold yR
   rw [hn, Int.toNat_natCast, decide_eq_true hA, Bool.true_and]
  rw [hn] at c0 hnr
  clear hcA
  have hn16 : n < 65536 := by have h2 := hnr.2; have h3 : (256 : Int) ^ 2 = 65536 := rfl; rw [h3] at h2; omega
  have g4 : IntKind.i64.wrap ((n : Nat) : Int) = ((n : Nat) : Int) := wrap_i64 _ (by omega)
  have g5 : IntKind.i64.wrap (((p : Nat) : Int) + 6) = ((p + 6 : Nat) : Int) := by rw [wrap_i64 _ (by omega)]; omega
  have g7 : IntKind.i64.wrap (((s.length : Nat) : Int) - ((p + 6 : Nat) : Int)) = ((s.length : Nat) : Int) - ((p + 6 : Nat) : Int) := wrap_i64 _ (by omega)
  by_cases hB : 1 ≤ n ∧ p + 6 + n ≤ s.length
  case neg =>
   have hno : yR s p = none := by
    rw [hfr]
    by_cases h1 : 1 ≤ n
    ·rw [decide_eq_true h1, decide_eq_false (fun h2 => hB ⟨h1, h2⟩)]; rfl
    ·rw [decide_eq_false h1]; rfl
   by_cases h1 : 1 ≤ n
   ·have g6 : decide (((n : Nat) : Int) < 1) = false := decide_eq_false (by omega)
    have g8 : decide (((s.length : Nat) : Int) - ((p + 6 : Nat) : Int) < ((n : Nat) : Int)) = true := decide_eq_true (by have := fun h2 => hB ⟨h1, h2⟩; omega)
    refine WC.seq ?_
    repeat' (first | refine WC.seq ?_ | refine WC.block ?_ | (refine zY.is ?_; first | refine zY.seq ?_ | (refine zY.isR (id := 1) ?_; refine zY.zK [0, 1, 3, 4, 5, 6, 11, 30, 46, 55] [] (by repeat' first | exact zX.nil | apply zX.p rfl | apply zX.pt rfl | apply zX.skip) (by repeat' exact zW.nil) ?_; refine zZ.v rfl rfl (zP rfl rfl rfl rfl (by decide)) ?_; refine zZ.v rfl rfl (xH rfl rfl rfl (by decide)) ?_; refine zZ.vm rfl rfl rfl rfl (by decide) ?_; refine zZ.v rfl rfl (w9 rfl rfl rfl g0 rfl (by decide)) ?_; refine zZ.v rfl rfl (qM rfl rfl rfl g1 rfl (by decide)) ?_; refine zZ.nil ?_) | (refine zY.isR (id := 2) ?_; refine zY.zK [0, 1, 3, 4, 5, 6, 11, 30, 46, 55] [] (by repeat' first | exact zX.nil | apply zX.p rfl | apply zX.pt rfl | apply zX.skip) (by repeat' exact zW.nil) ?_; refine zZ.v rfl rfl (zP rfl rfl rfl rfl (by decide)) ?_; refine zZ.vm rfl rfl rfl rfl (by decide) ?_; refine zZ.vm rfl rfl rfl rfl (by decide) ?_; refine zZ.v rfl rfl (yX rfl rfl rfl g2 rfl (by decide)) ?_; refine zZ.v rfl rfl (vG rfl rfl rfl rfl g3 rfl (by decide)) ?_; refine zZ.v rfl rfl (by exact yE (c0) rfl rfl rfl (by decide)) ?_; refine zZ.v rfl rfl (xZ rfl rfl g4 rfl (by decide)) ?_; refine zZ.va rfl rfl rfl rfl (by decide) ?_; refine zZ.nil ?_) | (refine zY.isR (id := 3) ?_; refine zY.zK [0, 1, 3, 4, 5, 6, 11, 30, 46, 55] [] (by repeat' first | exact zX.nil | apply zX.p rfl | apply zX.pt rfl | apply zX.skip) (by repeat' exact zW.nil) ?_; refine zZ.vm rfl rfl rfl rfl (by decide) ?_; refine zZ.v rfl rfl (yX rfl rfl rfl g5 rfl (by decide)) ?_; refine zZ.va rfl rfl rfl rfl (by decide) ?_; refine zZ.nil ?_) | (refine zY.isR (id := 4) ?_; refine zY.zK [0, 1, 3, 4, 5, 6, 11, 30, 46, 55] [] (by repeat' first | exact zX.nil | apply zX.p rfl | apply zX.pt rfl | apply zX.skip) (by repeat' exact zW.nil) ?_; all_goals (refine zZ.vm rfl rfl rfl rfl (by decide) ?_); all_goals (refine zZ.v rfl rfl (yZ rfl rfl rfl g6 rfl (by decide)) ?_); all_goals (refine zZ.vm rfl rfl rfl rfl (by decide) ?_); all_goals (refine zZ.gY rfl rfl (by decide) rfl (by rfl) rfl (by decide) (zP rfl rfl rfl rfl (by decide)) ?_); all_goals (refine zZ.gY rfl rfl (by decide) rfl (by rfl) rfl (by decide) (xH rfl rfl rfl (by decide)) ?_); all_goals (refine zZ.gY rfl rfl (by decide) rfl (by rfl) rfl (by decide) (zQ rfl rfl rfl (by decide)) ?_); all_goals (refine zZ.gY rfl rfl (by decide) rfl (by rfl) rfl (by decide) (w9 rfl rfl rfl g7 rfl (by decide)) ?_); all_goals (refine zZ.gY rfl rfl (by decide) rfl (by rfl) rfl (by decide) (zQ rfl rfl rfl (by decide)) ?_); all_goals (refine zZ.gY rfl rfl (by decide) rfl (by rfl) rfl (by decide) (yZ rfl rfl rfl g8 rfl (by decide)) ?_); all_goals (refine zZ.v rfl rfl (zM rfl rfl (by rfl) rfl rfl (by decide)) ?_); all_goals (refine zZ.nil ?_)) | refine zY.yC rfl (by first | assumption | with_reducible rfl) ?_ | refine zY.skip ?_ | refine zY.ret ?_) | refine zH.r ?_)
    all_goals exact hout hno _
   ·have g6 : decide (((n : Nat) : Int) < 1) = true := decide_eq_true (by omega)
    refine WC.seq ?_
    repeat' (first | refine WC.seq ?_ | refine WC.block ?_ | (refine zY.is ?_; first | refine zY.seq ?_ | (refine zY.isR (id := 1) ?_; refine zY.zK [0, 1, 3, 4, 5, 6, 11, 30, 46, 55] [] (by repeat' first | exact zX.nil | apply zX.p rfl | apply zX.pt rfl | apply zX.skip) (by repeat' exact zW.nil) ?_; refine zZ.v rfl rfl (zP rfl rfl rfl rfl (by decide)) ?_; refine zZ.v rfl rfl (xH rfl rfl rfl (by decide)) ?_; refine zZ.vm rfl rfl rfl rfl (by decide) ?_; refine zZ.v rfl rfl (w9 rfl rfl rfl g0 rfl (by decide)) ?_; refine zZ.v rfl rfl (qM rfl rfl rfl g1 rfl (by decide)) ?_; refine zZ.nil ?_) | (refine zY.isR (id := 2) ?_; refine zY.zK [0, 1, 3, 4, 5, 6, 11, 30, 46, 55] [] (by repeat' first | exact zX.nil | apply zX.p rfl | apply zX.pt rfl | apply zX.skip) (by repeat' exact zW.nil) ?_; refine zZ.v rfl rfl (zP rfl rfl rfl rfl (by decide)) ?_; refine zZ.vm rfl rfl rfl rfl (by decide) ?_; refine zZ.vm rfl rfl rfl rfl (by decide) ?_; refine zZ.v rfl rfl (yX rfl rfl rfl g2 rfl (by decide)) ?_; refine zZ.v rfl rfl (vG rfl rfl rfl rfl g3 rfl (by decide)) ?_; refine zZ.v rfl rfl (by exact yE (c0) rfl rfl rfl (by decide)) ?_; refine zZ.v rfl rfl (xZ rfl rfl g4 rfl (by decide)) ?_; refine zZ.va rfl rfl rfl rfl (by decide) ?_; refine zZ.nil ?_) | (refine zY.isR (id := 3) ?_; refine zY.zK [0, 1, 3, 4, 5, 6, 11, 30, 46, 55] [] (by repeat' first | exact zX.nil | apply zX.p rfl | apply zX.pt rfl | apply zX.skip) (by repeat' exact zW.nil) ?_; refine zZ.vm rfl rfl rfl rfl (by decide) ?_; refine zZ.v rfl rfl (yX rfl rfl rfl g5 rfl (by decide)) ?_; refine zZ.va rfl rfl rfl rfl (by decide) ?_; refine zZ.nil ?_) | (refine zY.isR (id := 4) ?_; refine zY.zK [0, 1, 3, 4, 5, 6, 11, 30, 46, 55] [] (by repeat' first | exact zX.nil | apply zX.p rfl | apply zX.pt rfl | apply zX.skip) (by repeat' exact zW.nil) ?_; all_goals (refine zZ.vm rfl rfl rfl rfl (by decide) ?_); all_goals (refine zZ.v rfl rfl (yZ rfl rfl rfl g6 rfl (by decide)) ?_); all_goals (refine zZ.vm rfl rfl rfl rfl (by decide) ?_); all_goals (refine zZ.gnF rfl rfl (by decide) rfl (by rfl) rfl (by decide) ?_); all_goals (refine zZ.gnF rfl rfl (by decide) rfl (by rfl) rfl (by decide) ?_); all_goals (refine zZ.gnF rfl rfl (by decide) rfl (by rfl) rfl (by decide) ?_); all_goals (refine zZ.gnF rfl rfl (by decide) rfl (by rfl) rfl (by decide) ?_); all_goals (refine zZ.gnF rfl rfl (by decide) rfl (by rfl) rfl (by decide) ?_); all_goals (refine zZ.gnF rfl rfl (by decide) rfl (by rfl) rfl (by decide) ?_); all_goals (refine zZ.v rfl rfl (zR rfl rfl (by rfl) rfl rfl (by decide)) ?_); all_goals (refine zZ.nil ?_)) | refine zY.yC rfl (by first | assumption | with_reducible rfl) ?_ | refine zY.skip ?_ | refine zY.ret ?_) | refine zH.r ?_)
    all_goals exact hout hno _
  case pos =>
   obtain ⟨h1, h2⟩ := hB
   have g6 : decide (((n : Nat) : Int) < 1) = false := decide_eq_false (by omega)
   have g8 : decide (((s.length : Nat) : Int) - ((p + 6 : Nat) : Int) < ((n : Nat) : Int)) = false := decide_eq_false (by omega)
   have g9 : IntKind.i64.wrap (((p + 6 : Nat) : Int) + ((n : Nat) : Int)) = ((p + 6 + n : Nat) : Int) := by rw [wrap_i64 _ (by omega)]; omega
   have g10 : (0 : Int) ≤ ((p + 6 : Nat) : Int) ∧ ((p + 6 : Nat) : Int) ≤ ((p + 6 + n : Nat) : Int) ∧ ((p + 6 + n : Nat) : Int) ≤ ((s.length : Nat) : Int) := by omega
   have g12 : (0 : Int) ≤ ((p + 2 : Nat) : Int) ∧ ((p + 2 : Nat) : Int) ≤ ((p + 6 : Nat) : Int) ∧ ((p + 6 : Nat) : Int) ≤ ((s.length : Nat) : Int) := by omega
   have e1 : (s.drop ((p + 6 : Nat) : Int).toNat).take (((p + 6 + n : Nat) : Int).toNat - ((p + 6 : Nat) : Int).toNat) = (s.drop (p + 6)).take n := by
    have e : ((p + 6 + n : Nat) : Int).toNat - ((p + 6 : Nat) : Int).toNat = n := by omega
    rw [e, Int.toNat_natCast]
   have hblen : ((s.drop (p + 6)).take n).length = n := by rw [List.length_take, List.length_drop]; omega
   have hm := moreF_lt 0 ((s.drop (p + 6)).take n)
   have c1 : Fn Tryd.prog 61 [.sl (byts ((s.drop ((p + 6 : Nat) : Int).toNat).take (((p + 6 + n : Nat) : Int).toNat - ((p + 6 : Nat) : Int).toNat)))] (.p (.val (.int .u32 (xC 0 ((s.drop (p + 6)).take n))))) := by
    rw [e1]; exact sum_fn _ (by omega) (hsub _ _)
   have c3 : Fn Tryd.prog 84 [.sl (byts ((s.drop ((p + 6 : Nat) : Int).toNat).take (((p + 6 + n : Nat) : Int).toNat - ((p + 6 : Nat) : Int).toNat)))] (.p (.sl (byts ((s.drop (p + 6)).take n)))) := by
    rw [e1]; exact bclone_fn _ (fun e => by rw [e] at hblen; simp at hblen; omega) (by omega)
   have hlen4 : ((s.drop (p + 2)).take 4).length = 4 := by rw [List.length_take, List.length_drop]; omega
   have c2 : Fn Tryd.prog 83 [.sl (byts ((s.drop ((p + 2 : Nat) : Int).toNat).take (((p + 6 : Nat) : Int).toNat - ((p + 2 : Nat) : Int).toNat)))] (.p (.val (.int .u64 (numOf ((s.drop (p + 2)).take 4))))) := by
    have e : ((p + 6 : Nat) : Int).toNat - ((p + 2 : Nat) : Int).toNat = 4 := by omega
    rw [e, Int.toNat_natCast]
    exact fnumber_fn _ (hsub _ 4) (by omega)
   have g11 : IntKind.u64.wrap ((xC 0 ((s.drop (p + 6)).take n) : Nat) : Int) = ((xC 0 ((s.drop (p + 6)).take n) : Nat) : Int) := wrap_u64 _ (by omega)
   rw [decide_eq_true h1, decide_eq_true h2, Bool.true_and, Bool.true_and] at hfr
   by_cases hC : ((xC 0 ((s.drop (p + 6)).take n) : Nat) : Int) = numOf ((s.drop (p + 2)).take 4)
   case neg =>
    have hno : yR s p = none := by rw [hfr, decide_eq_false hC]; rfl
    have g13 : (!decide (((xC 0 ((s.drop (p + 6)).take n) : Nat) : Int) = numOf ((s.drop (p + 2)).take 4))) = true := by rw [decide_eq_false hC]; rfl
    refine WC.seq ?_
    repeat' (first | refine WC.seq ?_ | refine WC.block ?_ | (refine zY.is ?_; first | refine zY.seq ?_ | (refine zY.isR (id := 1) ?_; refine zY.zK [0, 1, 3, 4, 5, 6, 11, 30, 46, 55] [] (by repeat' first | exact zX.nil | apply zX.p rfl | apply zX.pt rfl | apply zX.skip) (by repeat' exact zW.nil) ?_; refine zZ.v rfl rfl (zP rfl rfl rfl rfl (by decide)) ?_; refine zZ.v rfl rfl (xH rfl rfl rfl (by decide)) ?_; refine zZ.vm rfl rfl rfl rfl (by decide) ?_; refine zZ.v rfl rfl (w9 rfl rfl rfl g0 rfl (by decide)) ?_; refine zZ.v rfl rfl (qM rfl rfl rfl g1 rfl (by decide)) ?_; refine zZ.nil ?_) | (refine zY.isR (id := 2) ?_; refine zY.zK [0, 1, 3, 4, 5, 6, 11, 30, 46, 55] [] (by repeat' first | exact zX.nil | apply zX.p rfl | apply zX.pt rfl | apply zX.skip) (by repeat' exact zW.nil) ?_; refine zZ.v rfl rfl (zP rfl rfl rfl rfl (by decide)) ?_; refine zZ.vm rfl rfl rfl rfl (by decide) ?_; refine zZ.vm rfl rfl rfl rfl (by decide) ?_; refine zZ.v rfl rfl (yX rfl rfl rfl g2 rfl (by decide)) ?_; refine zZ.v rfl rfl (vG rfl rfl rfl rfl g3 rfl (by decide)) ?_; refine zZ.v rfl rfl (by exact yE (c0) rfl rfl rfl (by decide)) ?_; refine zZ.v rfl rfl (xZ rfl rfl g4 rfl (by decide)) ?_; refine zZ.va rfl rfl rfl rfl (by decide) ?_; refine zZ.nil ?_) | (refine zY.isR (id := 3) ?_; refine zY.zK [0, 1, 3, 4, 5, 6, 11, 30, 46, 55] [] (by repeat' first | exact zX.nil | apply zX.p rfl | apply zX.pt rfl | apply zX.skip) (by repeat' exact zW.nil) ?_; refine zZ.vm rfl rfl rfl rfl (by decide) ?_; refine zZ.v rfl rfl (yX rfl rfl rfl g5 rfl (by decide)) ?_; refine zZ.va rfl rfl rfl rfl (by decide) ?_; refine zZ.nil ?_) | (refine zY.isR (id := 4) ?_; refine zY.zK [0, 1, 3, 4, 5, 6, 11, 30, 46, 55] [] (by repeat' first | exact zX.nil | apply zX.p rfl | apply zX.pt rfl | apply zX.skip) (by repeat' exact zW.nil) ?_; all_goals (refine zZ.vm rfl rfl rfl rfl (by decide) ?_); all_goals (refine zZ.v rfl rfl (yZ rfl rfl rfl g6 rfl (by decide)) ?_); all_goals (refine zZ.vm rfl rfl rfl rfl (by decide) ?_); all_goals (refine zZ.gY rfl rfl (by decide) rfl (by rfl) rfl (by decide) (zP rfl rfl rfl rfl (by decide)) ?_); all_goals (refine zZ.gY rfl rfl (by decide) rfl (by rfl) rfl (by decide) (xH rfl rfl rfl (by decide)) ?_); all_goals (refine zZ.gY rfl rfl (by decide) rfl (by rfl) rfl (by decide) (zQ rfl rfl rfl (by decide)) ?_); all_goals (refine zZ.gY rfl rfl (by decide) rfl (by rfl) rfl (by decide) (w9 rfl rfl rfl g7 rfl (by decide)) ?_); all_goals (refine zZ.gY rfl rfl (by decide) rfl (by rfl) rfl (by decide) (zQ rfl rfl rfl (by decide)) ?_); all_goals (refine zZ.gY rfl rfl (by decide) rfl (by rfl) rfl (by decide) (yZ rfl rfl rfl g8 rfl (by decide)) ?_); all_goals (refine zZ.v rfl rfl (zM rfl rfl (by rfl) rfl rfl (by decide)) ?_); all_goals (refine zZ.nil ?_)) | (refine zY.isR (id := 5) ?_; refine zY.zK [0, 1, 3, 4, 5, 6, 11, 30, 46, 55] [] (by repeat' first | exact zX.nil | apply zX.p rfl | apply zX.pt rfl | apply zX.skip) (by repeat' exact zW.nil) ?_; refine zZ.v rfl rfl (zP rfl rfl rfl rfl (by decide)) ?_; refine zZ.vm rfl rfl rfl rfl (by decide) ?_; refine zZ.vm rfl rfl rfl rfl (by decide) ?_; refine zZ.vm rfl rfl rfl rfl (by decide) ?_; refine zZ.v rfl rfl (yX rfl rfl rfl g9 rfl (by decide)) ?_; refine zZ.v rfl rfl (vG rfl rfl rfl rfl g10 rfl (by decide)) ?_; refine zZ.va rfl rfl rfl rfl (by decide) ?_; refine zZ.nil ?_) | (refine zY.isR (id := 6) ?_; refine zY.xE [0, 1, 3, 4, 5, 6, 11, 30, 46, 55] [] (by repeat' first | exact zX.nil | apply zX.p rfl | apply zX.pt rfl | apply zX.skip) (by repeat' exact zW.nil) (zY.draws ?_); all_goals (refine Draws.v rfl rfl (zQ rfl rfl rfl (by decide)) ?_); all_goals (refine Draws.v rfl rfl (by exact yE (c1) rfl rfl rfl (by decide)) ?_); all_goals (refine Draws.v rfl rfl (xZ rfl rfl g11 rfl (by decide)) ?_); all_goals (refine Draws.v rfl rfl (zP rfl rfl rfl rfl (by decide)) ?_); all_goals (refine Draws.v rfl rfl (zQ rfl rfl rfl (by decide)) ?_); all_goals (refine Draws.v rfl rfl (yX rfl rfl rfl g2 rfl (by decide)) ?_); all_goals (refine Draws.v rfl rfl (zQ rfl rfl rfl (by decide)) ?_); all_goals (refine Draws.v rfl rfl (vG rfl rfl rfl rfl g12 rfl (by decide)) ?_); all_goals (refine Draws.v rfl rfl (by exact yE (c2) rfl rfl rfl (by decide)) ?_); all_goals (refine Draws.v rfl rfl (vJ rfl rfl rfl g13 rfl (by decide)) ?_); all_goals ((refine Draws.done (by kernel_rfl) (by kernel_rfl) (by kernel_rfl) ?_; refine zL.nil ?_))) | refine zY.yC rfl (by first | assumption | with_reducible rfl) ?_ | refine zY.yF rfl (by first | assumption | with_reducible rfl) ?_ | refine zY.skip ?_ | refine zY.ret ?_) | refine zH.r ?_)
    all_goals exact hout hno _
   case pos =>
    have hso : yR s p = some (p + 6 + n, (s.drop (p + 6)).take n) := by rw [hfr, decide_eq_true hC]; rfl
    have g13 : (!decide (((xC 0 ((s.drop (p + 6)).take n) : Nat) : Int) = numOf ((s.drop (p + 2)).take 4))) = false := by rw [decide_eq_true hC]; rfl
    obtain ⟨f', rfl⟩ : ∃ f', f = f' + 1 := ⟨f - 1, by omega⟩
    rw [xX, hso] at hdr
    obtain ⟨hat, hdr2, hilt⟩ := drop_cons hdr
    have hrow : frRow s i = [.val (.int .i64 ((p + 6 + n : Nat) : Int)), .sl (byts ((s.drop (p + 6)).take n))] := by unfold frRow; rw [hat]
    refine WC.seq ?_
    repeat' (first | refine WC.stop (id := 8) ?_ | refine WC.seq ?_ | refine WC.block ?_ | (refine zY.is ?_; first | refine zY.seq ?_ | (refine zY.isR (id := 1) ?_; refine zY.zK [0, 1, 3, 4, 5, 6, 11, 30, 46, 55] [] (by repeat' first | exact zX.nil | apply zX.p rfl | apply zX.pt rfl | apply zX.skip) (by repeat' exact zW.nil) ?_; refine zZ.v rfl rfl (zP rfl rfl rfl rfl (by decide)) ?_; refine zZ.v rfl rfl (xH rfl rfl rfl (by decide)) ?_; refine zZ.vm rfl rfl rfl rfl (by decide) ?_; refine zZ.v rfl rfl (w9 rfl rfl rfl g0 rfl (by decide)) ?_; refine zZ.v rfl rfl (qM rfl rfl rfl g1 rfl (by decide)) ?_; refine zZ.nil ?_) | (refine zY.isR (id := 2) ?_; refine zY.zK [0, 1, 3, 4, 5, 6, 11, 30, 46, 55] [] (by repeat' first | exact zX.nil | apply zX.p rfl | apply zX.pt rfl | apply zX.skip) (by repeat' exact zW.nil) ?_; refine zZ.v rfl rfl (zP rfl rfl rfl rfl (by decide)) ?_; refine zZ.vm rfl rfl rfl rfl (by decide) ?_; refine zZ.vm rfl rfl rfl rfl (by decide) ?_; refine zZ.v rfl rfl (yX rfl rfl rfl g2 rfl (by decide)) ?_; refine zZ.v rfl rfl (vG rfl rfl rfl rfl g3 rfl (by decide)) ?_; refine zZ.v rfl rfl (by exact yE (c0) rfl rfl rfl (by decide)) ?_; refine zZ.v rfl rfl (xZ rfl rfl g4 rfl (by decide)) ?_; refine zZ.va rfl rfl rfl rfl (by decide) ?_; refine zZ.nil ?_) | (refine zY.isR (id := 3) ?_; refine zY.zK [0, 1, 3, 4, 5, 6, 11, 30, 46, 55] [] (by repeat' first | exact zX.nil | apply zX.p rfl | apply zX.pt rfl | apply zX.skip) (by repeat' exact zW.nil) ?_; refine zZ.vm rfl rfl rfl rfl (by decide) ?_; refine zZ.v rfl rfl (yX rfl rfl rfl g5 rfl (by decide)) ?_; refine zZ.va rfl rfl rfl rfl (by decide) ?_; refine zZ.nil ?_) | (refine zY.isR (id := 4) ?_; refine zY.zK [0, 1, 3, 4, 5, 6, 11, 30, 46, 55] [] (by repeat' first | exact zX.nil | apply zX.p rfl | apply zX.pt rfl | apply zX.skip) (by repeat' exact zW.nil) ?_; all_goals (refine zZ.vm rfl rfl rfl rfl (by decide) ?_); all_goals (refine zZ.v rfl rfl (yZ rfl rfl rfl g6 rfl (by decide)) ?_); all_goals (refine zZ.vm rfl rfl rfl rfl (by decide) ?_); all_goals (refine zZ.gY rfl rfl (by decide) rfl (by rfl) rfl (by decide) (zP rfl rfl rfl rfl (by decide)) ?_); all_goals (refine zZ.gY rfl rfl (by decide) rfl (by rfl) rfl (by decide) (xH rfl rfl rfl (by decide)) ?_); all_goals (refine zZ.gY rfl rfl (by decide) rfl (by rfl) rfl (by decide) (zQ rfl rfl rfl (by decide)) ?_); all_goals (refine zZ.gY rfl rfl (by decide) rfl (by rfl) rfl (by decide) (w9 rfl rfl rfl g7 rfl (by decide)) ?_); all_goals (refine zZ.gY rfl rfl (by decide) rfl (by rfl) rfl (by decide) (zQ rfl rfl rfl (by decide)) ?_); all_goals (refine zZ.gY rfl rfl (by decide) rfl (by rfl) rfl (by decide) (yZ rfl rfl rfl g8 rfl (by decide)) ?_); all_goals (refine zZ.v rfl rfl (zM rfl rfl (by rfl) rfl rfl (by decide)) ?_); all_goals (refine zZ.nil ?_)) | (refine zY.isR (id := 5) ?_; refine zY.zK [0, 1, 3, 4, 5, 6, 11, 30, 46, 55] [] (by repeat' first | exact zX.nil | apply zX.p rfl | apply zX.pt rfl | apply zX.skip) (by repeat' exact zW.nil) ?_; refine zZ.v rfl rfl (zP rfl rfl rfl rfl (by decide)) ?_; refine zZ.vm rfl rfl rfl rfl (by decide) ?_; refine zZ.vm rfl rfl rfl rfl (by decide) ?_; refine zZ.vm rfl rfl rfl rfl (by decide) ?_; refine zZ.v rfl rfl (yX rfl rfl rfl g9 rfl (by decide)) ?_; refine zZ.v rfl rfl (vG rfl rfl rfl rfl g10 rfl (by decide)) ?_; refine zZ.va rfl rfl rfl rfl (by decide) ?_; refine zZ.nil ?_) | (refine zY.isR (id := 6) ?_; refine zY.xE [0, 1, 3, 4, 5, 6, 11, 30, 46, 55] [] (by repeat' first | exact zX.nil | apply zX.p rfl | apply zX.pt rfl | apply zX.skip) (by repeat' exact zW.nil) (zY.draws ?_); all_goals (refine Draws.v rfl rfl (zQ rfl rfl rfl (by decide)) ?_); all_goals (refine Draws.v rfl rfl (by exact yE (c1) rfl rfl rfl (by decide)) ?_); all_goals (refine Draws.v rfl rfl (xZ rfl rfl g11 rfl (by decide)) ?_); all_goals (refine Draws.v rfl rfl (zP rfl rfl rfl rfl (by decide)) ?_); all_goals (refine Draws.v rfl rfl (zQ rfl rfl rfl (by decide)) ?_); all_goals (refine Draws.v rfl rfl (yX rfl rfl rfl g2 rfl (by decide)) ?_); all_goals (refine Draws.v rfl rfl (zQ rfl rfl rfl (by decide)) ?_); all_goals (refine Draws.v rfl rfl (vG rfl rfl rfl rfl g12 rfl (by decide)) ?_); all_goals (refine Draws.v rfl rfl (by exact yE (c2) rfl rfl rfl (by decide)) ?_); all_goals (refine Draws.v rfl rfl (vJ rfl rfl rfl g13 rfl (by decide)) ?_); all_goals ((refine Draws.done (by kernel_rfl) (by kernel_rfl) (by kernel_rfl) ?_; refine zL.nil ?_))) | (refine zY.isR (id := 7) ?_; refine zY.zK [0, 1, 3, 4, 5, 6, 11, 30, 46, 55] [] (by repeat' first | exact zX.nil | apply zX.p rfl | apply zX.pt rfl | apply zX.skip) (by repeat' exact zW.nil) ?_; refine zZ.vm rfl rfl rfl rfl (by decide) ?_; refine zZ.vm rfl rfl rfl rfl (by decide) ?_; refine zZ.v rfl rfl (yX rfl rfl rfl g9 rfl (by decide)) ?_; refine zZ.va rfl rfl rfl rfl (by decide) ?_; refine zZ.nil ?_) | refine zY.yC rfl (by first | assumption | with_reducible rfl) ?_ | refine zY.yF rfl (by first | assumption | with_reducible rfl) ?_ | refine zY.skip ?_))
    refine Hold.go ?_
    refine WC.yield (id := 8) (d := 54) (l := l) (N := (yH s).length) (i := i) (M0 := M0) (pre := [_, _, _, _]) (post := [_]) (x := .tmp 50) (ys := frRow s) (J := J) (Z := Z) { t := [(0, .p (.val (.func (.yield l) #[] #[]))), (1, .pt [.sl (byts s)]), (3, .p (.val (.int .i64 ((p + 6 + n : Nat) : Int)))), (50, .p (.val (.func (.yield l) #[] #[]))), (51, .p (.val (.int .i64 ((p + 6 + n : Nat) : Int)))), (53, .p (.sl (byts ((s.drop (p + 6)).take n))))], s := [] } ?pre rfl rfl rfl rfl rfl (Nat.le_of_ble_eq_true rfl) rfl rfl hY hilt (by rw [hrow]; rfl) hJ ht hZ ?post
    case pre =>
     repeat' ((refine zZ.is ?_; first | refine zZ.nil ?_ | refine zZ.v rfl rfl (by first | exact zQ rfl rfl rfl (by decide) | exact yE (c3) rfl rfl rfl (by decide)) ?_))
     all_goals
      refine ⟨rfl, ?_⟩
      exact zD K_3l []
    case post =>
     intro Z' M' h' hJ' ht' hZ' hd' _
     repeat' (first | (refine zZ.is ?_; first | refine zZ.nil ?_ | refine zZ.v rfl rfl (by exact xR rfl rfl (by exact bF (by decide)) rfl (by decide)) ?_) | refine zH.n ?_)
     refine WC.of ?_
     repeat' ((refine zY.is ?_; first | refine zY.yF rfl (by first | assumption | with_reducible rfl) ?_ | refine zY.skip ?_))
     all_goals refine .mk (by simp) (by simp) fun ρ a w hs => ⟨i + 1, by omega, hilt, itI_mk hY (p := p + 6 + n) (f := f') (Z := Z') h2 (by omega) hdr2 ht' (hd'.trans hd) hJ' hZ' hs ?_⟩
     all_goals
      unfold itS
      exact zD K_2t []
end Go.Proofs.YtomlhekjgagjaaaDoor
namespace Go.Proofs.YtomlhekjgagjaaaDoor
set_option maxRecDepth 100000
set_option maxHeartbeats 16000000
open Go Go.RowKit
def pinS : List Nat → Nat → Nat → Nat
  | [], _, k => k
  | x :: r, m, k => if k = x then m else if k = m then x else pinS r (m + 1) k
theorem pinS_fix : ∀ (ids : List Nat) (m k : Nat), k ∉ ids → k < m → pinS ids m k = k
  | [], _, _, _, _ => rfl
  | x :: r, m, k, h1, h2 => by
    simp only [List.mem_cons, not_or] at h1
    rw [pinS, if_neg h1.1, if_neg (by omega)]
    exact pinS_fix r (m + 1) k h1.2 (by omega)
theorem pinS_inv : ∀ (ids : List Nat) (m : Nat), (∀ x ∈ ids, x < m) → ids.Nodup → ∀ k, pinS ids m (pinS ids m k) = k
  | [], _, _, _, _ => rfl
  | x :: r, m, hx, hnd, k => by
    have hx1 : x < m := hx x (by simp)
    have hnx : x ∉ r := (List.nodup_cons.1 hnd).1
    have ih := pinS_inv r (m + 1) (fun y hy => by have := hx y (by simp [hy]); omega) (List.nodup_cons.1 hnd).2
    have fx : pinS r (m + 1) x = x := pinS_fix r (m + 1) x hnx (by omega)
    have fm : pinS r (m + 1) m = m := pinS_fix r (m + 1) m (fun h => by have := hx m (by simp [h]); omega) (by omega)
    by_cases h1 : k = x
    · subst h1
      rw [pinS, pinS, if_pos rfl]
      by_cases h2 : m = k
      · omega
      · rw [if_neg h2, if_pos rfl]
    · by_cases h2 : k = m
      · subst h2
        rw [pinS, pinS, if_neg h1, if_pos rfl, if_pos rfl]
      · have e : pinS (x :: r) m k = pinS r (m + 1) k := by rw [pinS, if_neg h1, if_neg h2]
        rw [e, pinS, if_neg (fun h3 => h1 (by rw [← ih k, h3, fx])), if_neg (fun h3 => h2 (by rw [← ih k, h3, fm]))]
        exact ih k
section
variable {σ : Nat → Nat} {M : Nat → Nat → Prop} {ρ : Nat → Value} {w : World}
theorem yV.swap (hσ : ∀ k, σ (σ k) = k) {x : AV} {v : Value} (h : yV M ρ w x v) : yV M (fun k => ρ (σ k)) w (x.ren σ) v := by
  cases h with
  | any v => exact .any v
  | p h => exact .p h
  | own id =>
    have : yV M (fun k => ρ (σ k)) w (.own (σ id)) ((fun k => ρ (σ k)) (σ id)) := .own _
    simpa [hσ, AV.ren] using this
  | ptr id off g h => exact .ptr _ _ g (by simpa [hσ] using h)
  | pt xs g o ys h hc hM hg => exact .pt xs g o ys h hc hM hg
  | tup avs vs hl h =>
    refine .tup _ vs (by simp [hl]) fun i c v hc hv => ?_
    rw [List.getElem?_map, Option.map_eq_some_iff] at hc
    obtain ⟨c0, hc0, rfl⟩ := hc
    have h2 := h i c0 v hc0 hv
    cases c0 with
    | p y => cases h2 with
      | p h3 => exact .p h3
    | _ => exact .any _
  | clo f ids vs hl h =>
    refine .clo f _ vs (by simp [hl]) fun i k v hk hv => ?_
    rw [List.getElem?_map, Option.map_eq_some_iff] at hk
    obtain ⟨k0, hk0, rfl⟩ := hk
    obtain ⟨g, h1, h2⟩ := h i k0 v hk0 hv
    exact ⟨g, by simpa [hσ] using h1, h2⟩
  | glob g => exact .glob g
  | ifp t id g h => exact .ifp t _ g (by simpa [hσ] using h)
theorem yK.swap (hσ : ∀ k, σ (σ k) = k) {xs : List AV} {ys : List Value} (h : yK M ρ w xs ys) : yK M (fun k => ρ (σ k)) w (xs.map (AV.ren σ)) ys := by
  refine ⟨by simp [h.len], fun i c v hc hv => ?_, h.one⟩
  rw [List.getElem?_map, Option.map_eq_some_iff] at hc
  obtain ⟨c0, hc0, rfl⟩ := hc
  exact (h.each i c0 v hc0 hv).swap hσ
theorem y7.swap (hσ : ∀ k, σ (σ k) = k) {B : Nat} {v : Value} {b : Blk} (h : y7 M B ρ w v b) : y7 M B (fun k => ρ (σ k)) w v (b.ren σ) := by
  cases b with
  | row t s n xs => obtain ⟨ys, h1, h2⟩ := h; exact ⟨ys, h1, h2.swap hσ⟩
  | prow t s n xs =>
    obtain ⟨ys, h1, h2⟩ := h
    have h3 := h2.swap hσ
    have e : (xs.map AV.p).map (AV.ren σ) = xs.map AV.p := by rw [List.map_map]; rfl
    rw [e] at h3
    exact ⟨ys, h1, h3⟩
  | box t xs => obtain ⟨g, ys, h0, h1, h2, h3⟩ := h; exact ⟨g, ys, h0, h1, h2, h3.swap hσ⟩
  | lent t s n xs =>
    obtain ⟨ys, h1, h2⟩ := h
    have h3 := h2.swap hσ
    have e : (xs.map AV.p).map (AV.ren σ) = xs.map AV.p := by rw [List.map_map]; rfl
    rw [e] at h3
    exact ⟨ys, h1, h3⟩
  | obj mp Q => exact h
end
def AS.ren (σ : Nat → Nat) (S : AS) : AS := { t := S.t.map fun p => (p.1, p.2.ren σ), s := S.s.map fun p => (σ p.1, p.2.ren σ) }
theorem look_ren {α β : Type} {σ : Nat → Nat} (hσ : ∀ k, σ (σ k) = k) (f : α → β) : ∀ (l : List (Nat × α)) (j : Nat), look (l.map fun p => (σ p.1, f p.2)) j = (look l (σ j)).map f
  | [], _ => rfl
  | (k, x) :: r, j => by
    simp only [List.map_cons, look]
    by_cases h : k = σ j
    · subst h
      rw [if_pos (hσ j), if_pos rfl]; rfl
    · rw [if_neg h, if_neg (fun h2 => h (by rw [← h2, hσ])), look_ren hσ f r j]
theorem AS.tmp_ren (σ : Nat → Nat) (S : AS) (i : Nat) : (S.ren σ).tmp i = (S.tmp i).ren σ := by
  simp only [AS.tmp, AS.ren, look_map]
  cases look S.t i <;> rfl
theorem AS.blk_ren {σ : Nat → Nat} (hσ : ∀ k, σ (σ k) = k) (S : AS) (i : Nat) : (S.ren σ).blk i = (S.blk (σ i)).map (Blk.ren σ) := look_ren hσ _ _ _
def Home.fixed (h : Home) (r : Nat → Option Value) (ptr : ∀ k v, r k = some v → ∃ mp g, v = objV mp g) (lo : ∀ k, k < 1000 → r k = none) : Home := { h with r := r, ptr := ptr, lo := lo }
theorem Sat.pin {M : Nat → Nat → Prop} {n : Nat} {h : Home} {S : AS} {ρ : Nat → Value} {a : Act} {w : World} {σ : Nat → Nat} (hs : Sat M n h S ρ a w) (hσ : ∀ k, σ (σ k) = k) (r : Nat → Option Value) (ptr : ∀ k v, r k = some v → ∃ mp g, v = objV mp g) (lo : ∀ k, k < 1000 → r k = none) (hr : ∀ k v, r k = some v → ρ (σ k) = v) (hn : n ≤ 1000) :
    Sat M n (h.fixed r ptr lo) (S.ren σ) (fun k => ρ (σ k)) a w := by
  have hm : ∀ k c, Mut M (S.ren σ) (fun k => ρ (σ k)) k c → Mut M S ρ k c := by
    rintro k c (hk | ⟨id, b, h1, h2, h3⟩)
    · exact .inl hk
    · rw [AS.blk_ren hσ, Option.map_eq_some_iff] at h1
      obtain ⟨b0, hb0, rfl⟩ := h1
      exact .inr ⟨σ id, b0, hb0, h2, (Blk.vB c).1 h3⟩
  refine ⟨⟨hs.below.os, hs.below.tape, hs.below.output, hs.below.size, hs.below.block⟩, hs.out, hs.tab, hs.size, hs.defers, fun i => ?_, fun id b hb => ?_, fun id b k hb hk => ?_, hr, fun k hk => lo k (by omega), fun i j bi bj k h1 h2 h3 h4 => ?_⟩
  · rw [AS.tmp_ren]
    exact ((hs.tmps i).mono fun k c _ hk => hm k c hk).swap hσ
  · rw [AS.blk_ren hσ, Option.map_eq_some_iff] at hb
    obtain ⟨b0, hb0, rfl⟩ := hb
    exact ((hs.blks _ b0 hb0).mono hm).swap hσ
  · rw [AS.blk_ren hσ, Option.map_eq_some_iff] at hb
    obtain ⟨b0, hb0, rfl⟩ := hb
    exact hs.mine _ b0 k hb0 hk
  · rw [AS.blk_ren hσ, Option.map_eq_some_iff] at h1 h2
    obtain ⟨b1, hb1, rfl⟩ := h1
    obtain ⟨b2, hb2, rfl⟩ := h2
    have := hs.dist _ _ b1 b2 k hb1 hb2 h3 h4
    rw [← hσ i, this, hσ]
theorem WC.pin {P : Program} {n : Nat} {c : Code} {S S2 : AS} {M : Nat → Nat → Prop} {h : Home} {Q : Exit → Act → World → Prop} (ids : List Nat) (hnd : ids.Nodup) (hlt : ∀ x ∈ ids, x < 1000) (hn : n ≤ 1000) (hb : ∀ (i : Nat) x, ids[i]? = some x → pinS ids 1000 (1000 + i) = x ∧ ∃ t xs, S.blk x = some (.box t xs)) (hS : S.ren (pinS ids 1000) = S2)
    (hc : ∀ r ptr lo, (∀ i, i < ids.length → (r (1000 + i)).isSome = true) → WC P n c S2 M (h.fixed r ptr lo) Q) : WC P n c S M h Q := WC.mk fun ρ a w hs => by
  subst hS
  have hσ := pinS_inv ids 1000 hlt hnd
  let r : Nat → Option Value := fun k => if 1000 ≤ k ∧ k < 1000 + ids.length then some (ρ (pinS ids 1000 k)) else none
  have hr : ∀ k v, r k = some v → ρ (pinS ids 1000 k) = v := fun k v hk => by
    simp only [r] at hk
    split at hk
    · exact Option.some.inj hk
    · cases hk
  have hin : ∀ k v, r k = some v → 1000 ≤ k ∧ k < 1000 + ids.length := fun k v hk => by
    simp only [r] at hk
    split at hk
    · assumption
    · cases hk
  refine WC.run (hc r (fun k v hk => ?_) (fun k hk => ?_) (fun i hi => ?_)) (hs.pin hσ r _ _ hr hn)
  · obtain ⟨h1, h2⟩ := hin k v hk
    obtain ⟨e, t, xs, h3⟩ := hb (k - 1000) _ (List.getElem?_eq_getElem (by omega))
    have e2 : 1000 + (k - 1000) = k := by omega
    rw [e2] at e
    have h4 := hs.blks _ _ h3
    obtain ⟨g, ys, h5, _⟩ := h4
    rw [← hr k v hk, e]
    exact ⟨false, g, h5⟩
  · simp only [r]; rw [if_neg (by omega)]
  · simp only [r]; rw [if_pos (by omega)]; rfl
theorem sub_adoptBox {S : AS} {r t j id ty sz : Nat} {xs : List AV} (hid : id < 1000) (hne : id ≠ r) (hr : S.blk r = some (.box t xs)) (hj : xs[j]? = some (.p (.val (.slice none 0 0)))) :
    Sub S ((S.create id (.row ty sz 0 [])).tag r (.box t ((xs.map (AV.kill id)).set j (.own id)))) := fun M n w0 ρ a w hs => by
  have h1 := hs.change id (.row ty sz 0 []) (.slice none 0 0) none (w0.lo id hid) (w' := w) ⟨rfl, rfl, rfl, Nat.le_refl _, fun _ _ _ => rfl⟩ (fun k hk => by cases hk) (fun k hk => by cases hk) ⟨[], World.ownsRow_nil w _ ty sz, ⟨rfl, fun i c v hc => by simp at hc, fun v hv => by simp at hv⟩⟩
  refine ⟨upd ρ id (.slice none 0 0), ?_⟩
  have hr2 : (S.create id (.row ty sz 0 [])).blk r = some (.box t (xs.map (AV.kill id))) := by rw [AS.xK, if_neg hne, hr]; rfl
  have hρ : upd ρ id (.slice none 0 0) id = .slice none 0 0 := by simp [upd]
  generalize upd ρ id (.slice none 0 0) = ρ2 at *
  generalize S.create id (.row ty sz 0 []) = S2 at *
  have hm : ∀ k c, k < w.heap.size → Mut M (S2.tag r (.box t ((xs.map (AV.kill id)).set j (.own id)))) ρ2 k c → Mut M S2 ρ2 k c := fun k c _ hk => by
    rcases hk with hk | ⟨i, b, hi, hk, ht⟩
    · exact .inl hk
    · rw [AS.xQ] at hi
      split at hi
      · rename_i he
        subst he
        exact .inr ⟨r, _, hr2, hk, trivial⟩
      · exact .inr ⟨i, b, hi, hk, ht⟩
  have some_of : ∀ i b, (S2.tag r (.box t ((xs.map (AV.kill id)).set j (.own id)))).blk i = some b → ∃ b1, S2.blk i = some b1 := fun i b hi => by
    rw [AS.xQ] at hi
    split at hi
    · rename_i he; subst he; exact ⟨_, hr2⟩
    · exact ⟨b, hi⟩
  refine ⟨h1.below, h1.out, h1.tab, h1.size, h1.defers, fun i => (h1.tmps i).mono hm, fun i b hi => ?_, fun i b k hi hk => ?_, h1.fix, h1.free, fun i i' bi bj k hi hi' => ?_⟩
  · rw [AS.xQ] at hi
    split at hi
    · rename_i he
      subst he
      obtain rfl := Option.some.inj hi
      obtain ⟨g, ys, h0, ho, hh, hc⟩ := h1.blks r _ hr2
      refine ⟨g, ys, h0, ho, hh, by rw [List.length_set]; exact hc.len, fun i c v h3 h4 => ?_, hc.one⟩
      rw [List.getElem?_set] at h3
      split at h3
      · rename_i he
        subst he
        split at h3
        · obtain rfl := Option.some.inj h3
          have h5 := hc.each j (.p (.val (.slice none 0 0))) v (by rw [List.getElem?_map, hj]; rfl) h4
          have h6 : v = ρ2 id := by rw [hρ]; exact rep_val (rep_p h5)
          rw [h6]
          exact .own id
        · cases h3
      · exact (hc.each i c v h3 h4).mono hm
    · have := h1.blks i b hi
      cases b with
      | row t size m xs => obtain ⟨ys, ho, hc⟩ := this; exact ⟨ys, ho, hc.mono hm⟩
      | prow t size m xs => obtain ⟨ys, ho, hc⟩ := this; exact ⟨ys, ho, hc.mono hm⟩
      | lent t size m xs => obtain ⟨ys, ho, hc⟩ := this; exact ⟨ys, ho, hc.mono hm⟩
      | obj mp Q => exact this
      | box t xs => obtain ⟨g, ys, hv, hg, hh, hc⟩ := this; exact ⟨g, ys, hv, hg, hh, hc.mono hm⟩
  · obtain ⟨b1, h3⟩ := some_of i b hi
    exact h1.mine i b1 k h3 hk
  · obtain ⟨b1, h3⟩ := some_of i bi hi
    obtain ⟨b2, h4⟩ := some_of i' bj hi'
    exact h1.dist i i' b1 b2 k h3 h4
theorem WC.seqW {P : Program} {n : Nat} {x y : Code} {S : AS} {M : Nat → Nat → Prop} {h : Home} {Q : Exit → Act → World → Prop} (hc : WC P n x S M h (Exit.then (y.wp P Q) Q)) : WC P n (.seq x y) S M h Q := WC.mk fun ρ a w hs => wp_seq (WC.run hc hs)
theorem sub_adoptBoxV {S : AS} {r t j id ty sz : Nat} {xs : List AV} (hid : id < 1000) (hne : id ≠ r) (hr : S.blk r = some (.box t xs)) (hj : xs[j]? = some (.p (.val (.slice none 0 0)))) :
    Sub S (((S.create id (.row ty sz 0 [])).tag r (.box t ((xs.map (AV.kill id)).set j (.own id)))).tag id (x9 ty sz [])) :=
  (sub_adoptBox hid hne hr hj).trans (vK (b := .row ty sz 0 []) (by rw [AS.xQ, if_neg (Ne.symm hne), AS.xK, if_pos rfl]; rfl) (vI ty sz [])).sub
theorem sub_adoptV {S : AS} {d id ty sz : Nat} (hid : id < 1000) (hd : S.tmp d = .p (.val (.slice none 0 0))) :
    Sub S (((S.create id (.row ty sz 0 [])).put d (.own id)).tag id (x9 ty sz [])) :=
  (sub_adopt hid hd).trans (vK (b := .row ty sz 0 []) (by rw [AS.blk_put, AS.xK, if_pos rfl]; rfl) (vI ty sz [])).sub
theorem Sat.clo1 {M : Nat → Nat → Prop} {n : Nat} {h : Home} {S : AS} {ρ : Nat → Value} {a : Act} {w : World} (hs : Sat M n h S ρ a w) {d f id t : Nat} {xs : List PV} (hd : S.tmp d = .clo f [id]) (hb : S.blk id = some (.box t (xs.map AV.p))) (htu : ∀ i b, (S.drop id).blk i = some b → ∀ c, b.turns c) :
    ∃ v, a.eval (.tmp d) = .func (.func f) #[] #[v] ∧ yV (fun k c => M k c ∨ qR (S.drop id) ρ k) (fun _ => undef) w (.pt xs) v := by
  have h1 := hs.tmps d
  rw [hd] at h1
  have e : a.eval (.tmp d) = a.tmps.getD d undef := rfl
  rw [e]
  generalize a.tmps.getD d undef = v at h1
  obtain ⟨g, ys, hv, _, hh, hc⟩ := hs.blks id _ hb
  have hl := RepL.mk (M := Mut M S ρ) (w := w) (cs := xs) (vs := ys) (by have := hc.len; simpa using this) (fun i c v hc1 hv1 => by
    have := hc.each i (.p c) v (by rw [List.getElem?_map, hc1]; rfl) hv1
    cases this with
    | p h => exact h) hc.one
  cases h1 with
  | clo _ _ vs hl2 hall =>
    match vs, hl2 with
    | [v], _ =>
      obtain ⟨g2, h2, rfl⟩ := hall 0 id v rfl rfl
      rw [hv] at h2
      simp only [zT, Option.some.injEq] at h2
      subst h2
      refine ⟨_, rfl, .pt xs g 0 ys (hl.mono fun k c _ hk => hk.elim .inl fun ⟨i, b, h1, h2⟩ => Mut.drop (id := id) (.inr ⟨i, b, h1, h2, htu i b h1 c⟩)) (fun j y hy => ?_) (fun j hj hk => ?_) (Array.getElem?_eq_some_iff.1 hh).1⟩
      · have hy2 : ys.toArray[j]? = some y := by simpa using hy
        simp [World.cell?, hh, hy2]
      · rcases hk with hk | ⟨i, b, h4, h5⟩
        · exact hs.out g _ hk (hs.mine id _ g hb (by rw [hv]; rfl))
        · rw [AS.xP] at h4
          split at h4
          · cases h4
          · rename_i hne
            obtain ⟨b0, hb0, _⟩ := Option.map_eq_some_iff.1 h4
            exact hne (hs.dist id i _ b0 g hb hb0 (by rw [hv]; rfl) h5)
end Go.Proofs.YtomlhekjgagjaaaDoor
namespace Go.Proofs.YtomlhekjgagjaaaDoor
set_option maxRecDepth 100000
set_option maxHeartbeats 16000000
open Go Go.RowKit
attribute [local irreducible] zZ zY Step zA Sub zL z8 Fn
def spRows (s : List Int) (i : Nat) : List PV := ((yH s).take i).map fun x => .sl (byts x.2)
def spUsed (s : List Int) (i : Nat) : Nat := (((yH s).take i).getLast?.map (·.1)).getD 0
def spS (s : List Int) (i : Nat) : AS := { t := [(4, .ptr 1000 0), (5, .ptr 1001 0)], s := [(42, x9 35 1 (spRows s i)), (1000, .box 22 [.own 42]), (1001, .box 3 [.p (.val (.int .i64 (spUsed s i : Nat)))])] }
def spA (s : List Int) (i : Nat) : AS := { t := [(4, .ptr 1000 0), (5, .ptr 1001 0), (6, .p ((frRow s i).getD 0 (.sl []))), (7, .p ((frRow s i).getD 1 (.sl [])))], s := (spS s i).s }
theorem fr_many {s : List Int} : ∀ (f p : Nat), (xX s f p).length ≤ s.length - p
  | 0, p => by simp [xX]
  | f + 1, p => by
    rw [xX]
    cases e : yR s p with
    | none => simp
    | some y =>
      obtain ⟨h1, h2, _⟩ := frameAt_some e
      have := fr_many (s := s) f y.1
      simp only [List.length_cons]
      omega
theorem spRows_len (s : List Int) (i : Nat) (h : i ≤ (yH s).length) : (spRows s i).length = i := by
  simp [spRows]; omega
theorem spRows_succ {s : List Int} {i : Nat} {x : Nat × List Int} (hx : (yH s)[i]? = some x) : spRows s (i + 1) = spRows s i ++ [.sl (byts x.2)] := by
  unfold spRows
  rw [List.take_add_one, hx, List.map_append]; rfl
theorem spUsed_succ {s : List Int} {i : Nat} {x : Nat × List Int} (hx : (yH s)[i]? = some x) : spUsed s (i + 1) = x.1 := by
  unfold spUsed
  rw [List.take_add_one, hx]; simp
theorem fsplit_fn (s : List Int) (hb : ∀ x ∈ s, 0 ≤ x ∧ x < 256) (hls : s.length ≤ 1000000) : Fn Tryd.prog 65 [.sl (byts s)] (.tup [.sl (spRows s (yH s).length), .val (.int .i64 (spUsed s (yH s).length : Nat))]) := by
  have hit := frames1_it s hb hls
  have hmany : (yH s).length ≤ 1000000 := by have := fr_many (s := s) (s.length + 1) 0; unfold yH; omega
  refine fn_ofM Tryd.func65 rfl Tryd.ntmps65 (Nat.le_of_ble_eq_true rfl) fun M w hl hM => ?_
  refine WC.seq ?_
  repeat' (first | (refine zY.is ?_; (refine zY.iq 0 ?_; refine zY.rqa _ K_5 K_1z ?_; refine zZ.va rfl rfl rfl rfl (by decide) ?_; refine zZ.va rfl rfl rfl rfl (by decide) ?_; refine zZ.nil ?_)) | refine zH.n ?_)
  refine WC.seq ?_
  repeat' (first | (refine zY.is ?_; (refine zY.iq 1 ?_; refine zY.rqa _ K_7 K_1z ?_; refine zZ.m rfl rfl (xW rfl (by decide) rfl (by decide)) ?_; refine zZ.nil ?_)) | refine zH.n ?_)
  refine WC.seq ?_
  repeat' (first | (refine zY.is ?_; (refine zY.iq 2 ?_; refine zY.rqh _ K_k K_1z ?_; refine zZ.m rfl rfl (xW rfl (by decide) rfl (by decide)) ?_; refine zZ.w rfl (by exact yB rfl rfl rfl rfl rfl (by rfl) (by exact Nat.le_of_ble_eq_true rfl) rfl rfl) ?_; refine zZ.nil ?_)) | refine zH.n ?_)
  refine WC.seqW ?_
  refine WC.seq ?_
  repeat' (first | (refine zY.is ?_; (refine zY.iq 3 ?_; refine zY.rqh _ K_2b K_1z ?_; refine zZ.vm rfl rfl rfl rfl (by decide) ?_; refine zZ.ofT rfl (z8.eNew [] [40] ((frames_fn s)) rfl (by decide) (yT rfl) (by rfl) (hands_of (by decide) rfl (by repeat' exact trivial)) (by decide) rfl rfl (by decide) rfl rfl rfl ?_); refine zZ.nil ?_)) | refine zH.n ?_)
  refine WC.block ?_
  refine WC.sub (sub_adoptBoxV (r := 4) (j := 0) (id := 42) (ty := 35) (sz := 1) (by decide) (by decide) rfl rfl) ?_
  refine WC.sub (S' := { t := [(4, .ptr 4 0), (5, .ptr 5 0), (9, .clo 82 [40])], s := [(42, x9 35 1 []), (4, .box 22 [.own 42]), (5, .box 3 [.p (.val (.int .i64 0))]), (40, .box 35 [.p (.sl (byts s))])] }) ?sub ?_
  case sub =>
    exact zD K_3m K_3n
  refine WC.pin [4, 5] (by decide) (by decide) (Nat.le_of_ble_eq_true rfl) (fun i x hx => by
    match i with
    | 0 => cases hx; exact ⟨rfl, _, _, rfl⟩
    | 1 => cases hx; exact ⟨rfl, _, _, rfl⟩
    | i + 2 => cases hx) (S2 := { t := [(4, .ptr 1000 0), (5, .ptr 1001 0), (9, .clo 82 [40])], s := [(42, x9 35 1 []), (1000, .box 22 [.own 42]), (1001, .box 3 [.p (.val (.int .i64 0))]), (40, .box 35 [.p (.sl (byts s))])] }) rfl fun r ptr lo hr => ?_
  refine WC.mk fun ρ a w1 hs => ?_
  have htu : ∀ i id b, (spS s i).blk id = some b → ∀ c, b.turns c := fun i id b hb c => by
    have hm := look_mem (show look (spS s i).s id = some b from hb)
    simp only [spS, List.mem_cons, Prod.mk.injEq, List.not_mem_nil, or_false] at hm
    rcases hm with ⟨_, rfl⟩ | ⟨_, rfl⟩ | ⟨_, rfl⟩ <;> trivial
  obtain ⟨v, hg, hpt⟩ := hs.clo1 (d := 9) (id := 40) (xs := [.sl (byts s)]) rfl rfl (htu 0)
  have hs0 : Sat M _ _ (spS s 0) ρ a w1 := (hs.drop 40).same ⟨fun i => by
      show (look [(4, AV.ptr 1000 0), (5, .ptr 1001 0), (9, .any)] i).getD .any = (look [(4, AV.ptr 1000 0), (5, .ptr 1001 0)] i).getD .any
      simp only [look]
      split
      · rfl
      · split
        · rfl
        · split <;> rfl, fun _ => rfl⟩
  refine wp_range (gf := 82) (lb := [v]) (cs := [.pt [.sl (byts s)]]) (N := (yH s).length) (ys := frRow s) (spS s) (spA s) (fun i => spS s (i + 1)) hs0 hg rfl (fun j x v' hx hv => by
    match j with
    | 0 => cases hx; cases hv; exact hpt
    | j + 1 => cases hx) hit (fun d hd => by
    simp only [List.mem_cons, List.not_mem_nil, or_false] at hd
    rcases hd with rfl | rfl <;> exact Nat.le_of_ble_eq_true rfl) (fun i => frRow_len s i) (fun _ => rfl) (fun _ => rfl) (fun i p hp => by
    simp only [spS, List.mem_cons, List.not_mem_nil, or_false] at hp
    rcases hp with rfl | rfl
    · exact hr 0 (by decide)
    · exact hr 1 (by decide)) htu ?hass ?hbody ?hdone
  case hass =>
    intro l i hi
    obtain ⟨x, hx⟩ : ∃ x, (yH s)[i]? = some x := ⟨_, List.getElem?_eq_getElem hi⟩
    have hrow : frRow s i = [.val (.int .i64 (x.1 : Nat)), .sl (byts x.2)] := by unfold frRow; rw [hx]
    unfold spA
    rw [hrow]
    unfold spS
    simp only [List.getD_cons_zero, List.getD_cons_succ]
    refine xL.seq ?_
    refine xL.region (id := 4) rfl ?_
    repeat' (first | (refine zZ.is ?_; first | refine zZ.nil ?_ | refine zZ.va rfl rfl rfl rfl (by decide) ?_) | refine zH.n ?_)
    refine xL.region (id := 5) rfl ?_
    repeat' ((refine zZ.is ?_; first | refine zZ.nil ?_ | refine zZ.va rfl rfl rfl rfl (by decide) ?_))
    all_goals
      refine ⟨rfl, ?_⟩
      exact zD K_3o K_2u
  case hbody =>
    intro l i hi
    obtain ⟨x, hx⟩ : ∃ x, (yH s)[i]? = some x := ⟨_, List.getElem?_eq_getElem hi⟩
    have hrow : frRow s i = [.val (.int .i64 (x.1 : Nat)), .sl (byts x.2)] := by unfold frRow; rw [hx]
    unfold spA
    rw [hrow]
    unfold spS
    simp only [List.getD_cons_zero, List.getD_cons_succ]
    refine xL.block ?_
    refine xL.region (id := 6) rfl ?_
    have q6 : ∀ e ∈ [PV.sl (byts x.2)], e.cells.length = 1 := fun e he => by simp at he; subst he; rfl
    have q7 : ([PV.sl (byts x.2)] : List PV).length * 24 ≤ 140737488355328 ∧ ([PV.sl (byts x.2)] : List PV).length ≤ maxLen := by simp [maxLen]
    have q8 : ((spRows s i).length + ([PV.sl (byts x.2)] : List PV).length) * 24 ≤ 140737488355328 ∧ (spRows s i).length + ([PV.sl (byts x.2)] : List PV).length ≤ maxLen := by rw [spRows_len s i (by omega)]; simp [maxLen]; omega
    repeat' (first | (refine zZ.is ?_; first | refine zZ.nil ?_ | refine zZ.v rfl rfl (by first | exact y8 rfl rfl rfl rfl rfl (by decide) | exact zQ rfl rfl rfl (by decide) | exact wO rfl (by decide) (by decide) (by decide) (by decide) (by rfl) (by rfl) (by rfl) (by rfl) (by rfl) (by rfl) (by rfl) rfl (by decide)) ?_ | refine zZ.w rfl (by first | exact qF rfl rfl rfl rfl q6 q8 rfl (by decide) rfl (by decide) | exact w_storeO rfl rfl rfl rfl rfl rfl (by exact Nat.le_of_ble_eq_true rfl) rfl rfl | exact yB rfl rfl rfl rfl rfl (by rfl) (by exact Nat.le_of_ble_eq_true rfl) rfl rfl) ?_) | refine zS.n ?_)
    all_goals
      refine ⟨rfl, ?_⟩
      rw [spRows_succ hx, spUsed_succ hx]
      exact zD K_3p K_2u
  case hdone =>
    intro D M' h' ρ' w' hD hM' hMD hw hr' hd ht hbel hcell hsN
    show (Code.seq _ _).wp _ _ _ _
    refine WC.run ?_ hsN
    have hd2 : h'.d = [{ target := .collected D, args := #[] }] := by rw [hd, hs.defers]; rfl
    refine WC.sub (wS 42 35 1 (spRows s (yH s).length) rfl) ?_
    refine WC.seq ?_
    repeat' (first | (refine zY.is ?_; (refine zY.isR (id := 7) ?_; refine zY.xE [2, 3, 4, 5] [2, 4, 5, 14, 1000, 1001] (by repeat' first | exact zX.nil | apply zX.ptr rfl | apply zX.skip) (by repeat' first | exact zW.nil | apply zW.boxP rfl rfl | apply zW.skip) (zY.draws ?_); all_goals (refine Draws.v rfl rfl (zB rfl rfl rfl rfl rfl (by decide)) ?_); all_goals (refine Draws.v rfl rfl (zB rfl rfl rfl rfl rfl (by decide)) ?_); all_goals (refine Draws.v rfl rfl (wN rfl rfl rfl (by decide)) ?_); all_goals (refine Draws.v rfl rfl (wN rfl rfl rfl (by decide)) ?_); all_goals ((refine Draws.done (by kernel_rfl) (by kernel_rfl) (by kernel_rfl) ?_; refine zL.nil ?_)))) | refine zH.n ?_)
    refine WC.of ?_
    repeat' ((refine zY.is ?_; refine zY.ret ?_))
    all_goals exact .mk (by simp) (by simp) fun ρ2 a2 w2 hs2 => end_marks hs2 hD hM' hMD hd2 ht (show xM (Home.plain w hl) h'.w from ⟨(hw ▸ hbel).os, (hw ▸ hbel).tape, (hw ▸ hbel).output, (hw ▸ hbel).size, (hw ▸ hbel).block⟩) (hw ▸ hcell) (rs := [.tmp 2, .tmp 3]) (l := [.sl (spRows s (yH s).length), .val (.int .i64 (spUsed s (yH s).length : Nat))]) rfl (by decide) (.cons (.tmp rfl) (.cons (.tmp rfl) .nil))
end Go.Proofs.YtomlhekjgagjaaaDoor
namespace Go.Proofs.YtomlhekjgagjaaaDoor
set_option maxRecDepth 100000
set_option maxHeartbeats 16000000
open Go Go.RowKit
def wT (b : List Int) (p : Nat) : Int := numOf ((b.drop p).take 8)
end Go.Proofs.YtomlhekjgagjaaaDoor
namespace Go.Proofs.YtomlhekjgagjaaaDoor
set_option maxRecDepth 100000
set_option maxHeartbeats 16000000
open Go Go.RowKit
attribute [local irreducible] zZ zY Step zA Sub zL Fn
def decBad : List PV := [entV 0 0 0 0 0 0, .val (.int .i64 2)]
def decPut (k s y u v x : Int) : List PV := if qP k s y u v x then [entV k s y u v x, .val (.int .i64 0)] else decBad
def decR (b : List Int) : List PV :=
  if b.length = 9 then (if b.getD 0 0 = 1 then decBad else decPut (b.getD 0 0) (wT b 1) 0 0 0 0)
  else if b.length = 41 then (if b.getD 0 0 = 1 then decPut (b.getD 0 0) (wT b 1) (wT b 9) (wT b 17) (wT b 25) (wT b 33) else decBad)
  else decBad
theorem numAt_range (b : List Int) (hb : ∀ x ∈ b, 0 ≤ x ∧ x < 256) (p : Nat) : 0 ≤ wT b p ∧ wT b p < 18446744073709551616 :=
  numOf_small (b.drop p) 8 fun x hx => hb x (List.mem_of_mem_drop hx)
theorem getD_range (b : List Int) (hb : ∀ x ∈ b, 0 ≤ x ∧ x < 256) (i : Nat) : 0 ≤ b.getD i 0 ∧ b.getD i 0 < 256 := by
  by_cases h : i < b.length
  · simpa [List.getD, h] using hb b[i] (List.getElem_mem h)
  · simp [List.getD, h]
end Go.Proofs.YtomlhekjgagjaaaDoor
