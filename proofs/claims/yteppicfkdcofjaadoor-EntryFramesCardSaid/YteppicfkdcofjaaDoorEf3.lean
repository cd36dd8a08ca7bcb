/- For every rows of entries EntryFrames returns true, and leaves its argument as it was; tied to the program by the card. Conditions: none beyond the given statement's own. (Part 3 of 4.) -/
import Derived.Test.YteppicfkdcofjaaDoorEf2
import Derived.Laws.OwnMore
import Derived.ArgAppend
import Derived.Laws.Cover3
import Derived.Laws.BitsAllLaws
import Derived.RangeFuncLeaves
import Derived.RangeFuncCalls
import Derived.RangeFuncRecord
import Derived.Deep.Upon
/- A call of fields, whose argument is a pointer to an own variable. -/
namespace Go.Proofs.YteppicfkdcofjaaDoor
set_option maxRecDepth 100000
set_option maxHeartbeats 16000000
open Go Go.RowKit
/-- what fields hands back: pointers into the variable -/
def zA (id : Nat) (k : Int) : List AV :=
  if k = 1 then [.ptr id 1, .ptr id 2, .ptr id 3, .ptr id 4, .ptr id 5] else if k = 2 ∨ k = 3 then [.ptr id 1] else []
theorem fieldsA_cells {M : Nat → Nat → Prop} {ρ : Nat → Value} {w : World} {id g : Nat} (k : Int) (hg : zC (ρ id) = some g) : zD M ρ w (zA id k) (fieldsOf g k) := by
  have one : ∀ j, zG M ρ w (.ptr id j) (.pointer (some ⟨g, j, none⟩)) := fun j => .ptr id j g hg
  unfold zA fieldsOf
  by_cases h1 : k = 1
  · rw [if_pos h1, if_pos h1]
    refine ⟨rfl, fun i c v hc hv => ?_, fun v hv => ?_⟩
    · match i with
      | 0 | 1 | 2 | 3 | 4 => simp at hc hv; subst hc; subst hv; exact one _
      | i + 5 => simp at hc
    · simp at hv
      rcases hv with rfl | rfl | rfl | rfl | rfl <;> rfl
  · rw [if_neg h1, if_neg h1]
    by_cases h2 : k = 2 ∨ k = 3
    · rw [if_pos h2, if_pos h2]
      refine ⟨rfl, fun i c v hc hv => ?_, fun v hv => ?_⟩
      · match i with
        | 0 => simp at hc hv; subst hc; subst hv; exact one _
        | i + 1 => simp at hc
      · simp at hv
        subst hv
        rfl
    · rw [if_neg h2, if_neg h2]
      exact ⟨rfl, fun i c v hc => by simp at hc, fun v hv => by simp at hv⟩
theorem fieldsA_len (id g : Nat) (k : Int) : (zA id k).length = (fieldsOf g k).length := by
  unfold zA fieldsOf
  split
  · rfl
  · split <;> rfl
theorem w_fields {n : Nat} {o : Oper} {S : AS} {d id ty : Nat} {x : Operand} {k : Int} {cs : List AV} {ts : Array TypeId} (ho : o.op = .call { callee := .value (.func 13), args := #[x], argTypes := ts }) (hx : S.get x = .ptr id 0)
    (hb : S.blk id = some (.box ty cs)) (hk : cs[0]? = some (.p (.val (.int .i64 k)))) (hd : o.dst = some d) (hn : d < n) :
    zJ Tryd.prog n o S [id] (.own d) (some (.row 43 1 (zA id k).length (zA id k))) := by
  intro S2 hg hbl M w0 ρ a w K Q hs hK
  have hx2 : S2.get x = .ptr id 0 := (hg x (by rw [ho]; simp [Op.operands, Call.operands])).trans hx
  have hb2 : S2.blk id = some (.box ty cs) := (hbl id (by simp)).trans hb
  have h1 := hs.rep x
  rw [hx2] at h1
  obtain ⟨g, hgv, hv⟩ := rep_ptr h1
  obtain ⟨ys, hcs, hcell⟩ := (hs.blks id _ hb2).cells hgv
  have h0 : 0 < cs.length := (List.getElem?_eq_some_iff.1 hk).1
  have hy : ys[0]? = some (ys[0]'(by rw [hcs.len]; exact h0)) := List.getElem?_eq_getElem _
  have hkv := rep_val (rep_p (hcs.each 0 _ _ hk hy))
  have hc0 := (hcell 0 _ hy).1
  rw [hkv] at hc0
  have he : (execOp a.eval o).run Tryd.prog w = .ok (.enter 13 (#[x].map a.eval)) w := by
    unfold execOp
    rw [ho]
    simp [resolve, Deferred.ofValue, Act.eval, invoke, HasFn.h]
  unfold Oper.wp
  rw [he, Oper.upon_enter]
  have e : #[x].map a.eval = #[.pointer (some ⟨g, 0, none⟩)] := by simp [hv]
  rw [e]
  refine (fields_any g k w hc0).mono ?_
  rintro en w' ⟨v, rfl, hown, hbw⟩
  show K (a.put o.dst v) w'
  rw [hd] at hK ⊢
  have hbk : ∀ k', zC v = some k' → w.heap.size ≤ k' := fun k' hk' => (hown.lt k' (by rw [← own_slice hown]; exact hk')).1
  have h2 := hs.change d (.row 43 1 (zA id k).length (zA id k)) v none (hs.free d hn) ⟨hbw.os, hbw.tape, hbw.output, hbw.size, fun k' hk' _ => hbw.block k' hk'⟩ (fun k' h => by cases h) (fun k' hk' => .inl (hbk k' hk'))
    ⟨fieldsOf g k, by rw [fieldsA_len id g k]; exact ownsRow_base hown (Nat.zero_le _), fieldsA_cells k hgv⟩
  refine hK (upd ρ d v) _ w' (h2.put hn ?_)
  have := zG.own (M := Mut M (S2.create d (.row 43 1 (zA id k).length (zA id k))) (upd ρ d v)) (ρ := upd ρ d v) (w := w') d
  simpa [upd] using this
end Go.Proofs.YteppicfkdcofjaaDoor
/- Encode, the program's, as a contract. -/
namespace Go.Proofs.YteppicfkdcofjaaDoor
set_option maxRecDepth 100000
set_option maxHeartbeats 16000000
open Go Go.RowKit
set_option linter.unusedSimpArgs false
attribute [local irreducible] zY zX Step zJ Sub zL Fn
/-- the values that fields tells, of an entry of kind k -/
def yZ (k s y u v x : Int) : List Int := if k = 1 then [s, y, u, v, x] else [s]
/-- the bytes so far: the kind's, and the first i values' -/
def encUp (k : Int) (vals : List Int) (i : Nat) : List Int := IntKind.u8.wrap k :: (vals.take i).flatMap (bytesOf 8)
def cellsOf (k s y u v x : Int) : List PV := [.val (.int .i64 k), .val (.int .u64 s), .val (.int .u64 y), .val (.int .u64 u), .val (.int .u64 v), .val (.int .u64 x)]
theorem encUp_succ (k : Int) (vals : List Int) (i : Nat) (h : i < vals.length) : encUp k vals (i + 1) = encUp k vals i ++ bytesOf 8 (vals.getD i 0) := by
  have e : vals.take (i + 1) = vals.take i ++ [vals.getD i 0] := by
    rw [List.take_add_one, List.getElem?_eq_getElem h]
    simp [List.getD, h]
  unfold encUp
  rw [e, List.flatMap_append, List.cons_append]
  simp
def encO (k s y u v x : Int) (i : Nat) : AS :=
  ⟨[(2, .p (.val (.slice none 0 0))), (3, .p (.val (.int .i64 0))), (4, .own 14), (15, .own 15), (16, .p (.val (.int .i64 (zA 1 k).length))), (17, .p (.val (.int .i64 i)))],
   [(1, .box 28 ((cellsOf k s y u v x).map AV.p)), (14, zM 5 (encUp k (yZ k s y u v x) i)), (15, .row 43 1 (zA 1 k).length (zA 1 k))], .any⟩
def encI (k s y u v x : Int) (i j : Nat) : AS :=
  ⟨[(2, .p (.val (.slice none 0 0))), (3, .p (.val (.int .i64 0))), (4, .own 14), (6, .ptr 1 (i + 1)), (15, .own 15), (16, .p (.val (.int .i64 (zA 1 k).length))), (17, .p (.val (.int .i64 i))), (21, .p (.val (.int .i64 j)))],
   [(1, .box 28 ((cellsOf k s y u v x).map AV.p)), (14, zM 5 (encUp k (yZ k s y u v x) i ++ bytesOf j ((yZ k s y u v x).getD i 0))), (15, .row 43 1 (zA 1 k).length (zA 1 k))], .any⟩
theorem fieldsA_kill (k : Int) (id : Nat) (h : id ≠ 1) : (zA 1 k).map (AV.kill id) = zA 1 k := by
  have e : ∀ j, AV.kill id (.ptr 1 j) = .ptr 1 j := fun j => by
    show (if 1 = id then AV.any else AV.ptr 1 j) = _
    rw [if_neg (fun h' => h h'.symm)]
  unfold zA
  split
  · simp only [List.map_cons, List.map_nil, e]
  · split
    · simp only [List.map_cons, List.map_nil, e]
    · rfl
/-- the row of the fields, whatever is made anew -/
theorem rowF_kill (k : Int) (id : Nat) (h : id ≠ 1) : (some (Blk.row 43 1 (zA 1 k).length ((zA 1 k).map (AV.kill id))) : Option Blk) = some (.row 43 1 (zA 1 k).length (zA 1 k)) := by
  rw [fieldsA_kill k id h]
theorem rowF_kill2 (k : Int) (id id2 : Nat) (h : id ≠ 1) (h2 : id2 ≠ 1) : (some (Blk.row 43 1 (zA 1 k).length (((zA 1 k).map (AV.kill id)).map (AV.kill id2))) : Option Blk) = some (.row 43 1 (zA 1 k).length (zA 1 k)) := by
  rw [fieldsA_kill k id h, fieldsA_kill k id2 h2]
theorem fieldsA_get (k : Int) (i : Nat) (hi : i < (zA 1 k).length) : (zA 1 k)[((i : Int)).toNat * 1]? = some (.ptr 1 (i + 1)) := by
  rw [Nat.mul_one, Int.toNat_natCast]
  unfold zA at hi ⊢
  by_cases h1 : k = 1
  · rw [if_pos h1] at hi ⊢
    match i with
    | 0 | 1 | 2 | 3 | 4 => rfl
    | i + 5 => exact absurd hi (by simp)
  · rw [if_neg h1] at hi ⊢
    by_cases h2 : k = 2 ∨ k = 3
    · rw [if_pos h2] at hi ⊢
      match i with
      | 0 => rfl
      | i + 1 => simp at hi
    · rw [if_neg h2] at hi; simp at hi
theorem fields_len (k s y u v x : Int) (i : Nat) (hi : i < (zA 1 k).length) : i < (yZ k s y u v x).length := by
  unfold zA at hi
  unfold yZ
  by_cases h1 : k = 1
  · rw [if_pos h1] at hi ⊢; exact hi
  · rw [if_neg h1] at hi ⊢
    by_cases h2 : k = 2 ∨ k = 3
    · rw [if_pos h2] at hi; exact hi
    · rw [if_neg h2] at hi; simp at hi
theorem cells_get (k s y u v x : Int) (i : Nat) (hi : i < (zA 1 k).length) : ((cellsOf k s y u v x).map AV.p)[i + 1]? = some (.p (.val (.int .u64 ((yZ k s y u v x).getD i 0)))) := by
  unfold zA at hi
  unfold yZ
  by_cases h1 : k = 1
  · rw [if_pos h1] at hi ⊢
    match i with
    | 0 | 1 | 2 | 3 | 4 => rfl
    | i + 5 => exact absurd hi (by simp)
  · rw [if_neg h1] at hi ⊢
    by_cases h2 : k = 2 ∨ k = 3
    · rw [if_pos h2] at hi
      match i with
      | 0 => rfl
      | i + 1 => simp at hi
    · rw [if_neg h2] at hi; simp at hi
theorem valsOf_range (k s y u v x : Int) (h0 : 0 ≤ s) (h1 : s < 18446744073709551616) (h2 : 0 ≤ y) (h3 : y < 18446744073709551616) (h4 : 0 ≤ u) (h5 : u < 18446744073709551616) (h6 : 0 ≤ v) (h7 : v < 18446744073709551616) (h8 : 0 ≤ x) (h9 : x < 18446744073709551616) (i : Nat) :
    0 ≤ (yZ k s y u v x).getD i 0 ∧ (yZ k s y u v x).getD i 0 < 18446744073709551616 := by
  unfold yZ
  by_cases hk : k = 1
  · rw [if_pos hk]
    match i with
    | 0 => exact ⟨h0, h1⟩
    | 1 => exact ⟨h2, h3⟩
    | 2 => exact ⟨h4, h5⟩
    | 3 => exact ⟨h6, h7⟩
    | 4 => exact ⟨h8, h9⟩
    | i + 5 => exact ⟨Int.le_refl 0, (by decide : (0 : Int) < 18446744073709551616)⟩
  · rw [if_neg hk]
    match i with
    | 0 => exact ⟨h0, h1⟩
    | i + 1 => exact ⟨Int.le_refl 0, (by decide : (0 : Int) < 18446744073709551616)⟩
theorem encUp_len (k : Int) (vals : List Int) (i : Nat) : (encUp k vals i).length = 1 + 8 * min i vals.length := by
  unfold encUp
  rw [List.length_cons]
  have : ∀ l : List Int, (l.flatMap (bytesOf 8)).length = 8 * l.length := by
    intro l
    induction l with
    | nil => rfl
    | cons a r ih => simp only [List.flatMap_cons, List.length_append, List.length_cons, bytesOf_length, ih]; omega
  rw [this, List.length_take]
  omega
theorem fieldsA_le (k : Int) : (zA 1 k).length ≤ 5 := by
  unfold zA
  split
  · decide
  · split <;> decide
theorem pow8 (j : Nat) : (2 : Int) ^ (8 * (j : Int)).toNat = 256 ^ j := by
  have : (8 * (j : Int)).toNat = 8 * j := by omega
  rw [this, Int.pow_mul]
  rfl
theorem encUp_all (k s y u v x : Int) (hm : xB k s y u v x = true) : encUp k (yZ k s y u v x) (zA 1 k).length = y5 k s y u v x := by
  have hw : IntKind.u8.wrap k = k % 256 := by simp [IntKind.wrap, IntKind.signed, IntKind.bits]
  have hk : k = 1 ∨ k = 2 ∨ k = 3 := by
    unfold xB at hm
    by_cases h1 : k = 1
    · exact .inl h1
    · by_cases h2 : k = 2
      · exact .inr (.inl h2)
      · by_cases h3 : k = 3
        · exact .inr (.inr h3)
        · simp [h1, h2, h3] at hm
  unfold encUp y5 yZ zA
  rw [hw]
  rcases hk with rfl | rfl | rfl <;> simp
theorem enc_fn (k s y u v x : Int) (h0 : 0 ≤ s) (h1 : s < 18446744073709551616) (h2 : 0 ≤ y) (h3 : y < 18446744073709551616) (h4 : 0 ≤ u) (h5 : u < 18446744073709551616) (h6 : 0 ≤ v) (h7 : v < 18446744073709551616) (h8 : 0 ≤ x) (h9 : x < 18446744073709551616) :
    Fn Tryd.prog 6 [entV k s y u v x] (.tup (if xB k s y u v x then [.sl (byts (y5 k s y u v x)), .val (.int .i64 0)] else [.sl [], .val (.int .i64 1)])) := by
  refine fn_of2 Tryd.func6 rfl Tryd.ntmps6 (Nat.le_of_ble_eq_true rfl) ?_
  repeat' (first | (refine zX.is ?_; first | refine zX.seq ?_ | (refine zX.isR (id := 0) ?_; refine zX.zQ [0] [1, 2, 9, 14, 15, 16, 32, 33] (by repeat' first | exact zZ.nil | apply zZ.p rfl) (by repeat' first | exact zW.nil | apply zW.skip) ?_; (refine zY.m rfl rfl (w_boxA rfl rfl rfl (by decide)) ?_); (refine zY.v rfl rfl (zK rfl rfl rfl (by decide)) ?_); (refine zY.v rfl rfl (zK rfl rfl rfl (by decide)) ?_); refine zY.nil ?_) | (refine zX.isR (id := 1) ?_; refine zX.zQ [1, 2, 3] [1, 2, 9, 14, 15, 16, 32, 33] (by repeat' first | exact zZ.nil | apply zZ.p rfl | apply zZ.ptr rfl) (by repeat' first | exact zW.nil | apply zW.boxP rfl rfl | apply zW.skip) ?_; (refine zY.v rfl rfl (w_loadRN rfl rfl rfl (by rfl) (by rfl) rfl (by decide)) ?_); (refine zY.v rfl rfl (by exact zU (may_fn _ _ _ _ _ _ h2 h3) rfl rfl rfl (by decide)) ?_); (refine zY.v rfl rfl (r_notB rfl rfl (by rfl) rfl (by decide)) ?_); refine zY.nil ?_) | (refine zX.isR (id := 2) ?_; refine zX.zQ [1, 2, 3] [1, 2, 9, 14, 15, 16, 32, 33] (by repeat' first | exact zZ.nil | apply zZ.p rfl | apply zZ.ptr rfl) (by repeat' first | exact zW.nil | apply zW.boxP rfl rfl | apply zW.skip) ?_; (refine zY.v rfl rfl (zK rfl rfl rfl (by decide)) ?_); (refine zY.v rfl rfl (zK rfl rfl rfl (by decide)) ?_); refine zY.nil ?_) | (refine zX.isR (id := 3) ?_; refine zX.zQ [1, 2, 3] [1, 2, 9, 14, 15, 16, 32, 33] (by repeat' first | exact zZ.nil | apply zZ.p rfl | apply zZ.ptr rfl) (by repeat' first | exact zW.nil | apply zW.boxP rfl rfl | apply zW.skip) ?_; (refine zY.v rfl rfl (zH rfl rfl rfl (by decide)) ?_); (refine zY.v rfl rfl (zB rfl rfl rfl rfl rfl (by decide)) ?_); (refine zY.v rfl rfl (y9 rfl rfl (by rfl) rfl (by decide)) ?_); (refine zY.m rfl rfl (w_buildB rfl (by decide) (by decide) (by decide) (by decide) (by rfl) (by rfl) (by rfl) (by rfl) rfl (by decide)) ?_); (refine zY.v rfl rfl (yO rfl rfl rfl (by decide)) ?_); refine zY.nil ?_) | (refine zX.isR (id := 4) ?_; refine zX.zQ [1, 2, 3, 4] [1, 2, 9, 14, 15, 16, 32, 33] (by repeat' first | exact zZ.nil | apply zZ.p rfl | apply zZ.ptr rfl | apply zZ.own rfl) (by repeat' first | exact zW.nil | apply zW.boxP rfl rfl | apply zW.zM rfl | apply zW.skip) ?_; (refine zY.m rfl rfl (w_fields rfl rfl rfl rfl rfl (by decide)) ?_); (refine zY.v rfl rfl (w_lenO rfl rfl rfl rfl (by decide)) ?_); (refine zY.v rfl rfl (zV rfl rfl rfl (by decide)) ?_); refine zY.nil ?_) | refine zX.cond rfl (fun h => ?_) (fun h => ?_) | refine zX.skip ?_ | refine zX.block ?_ | refine zX.ret ?_) | refine zR.r ?_)
  · have hm : xB k s y u v x = false := by simpa using h
    rw [if_neg (by simp [hm])]
    exact ⟨.inl rfl, _, sub_nil (d := 2) rfl, .tup (rs := [.tmp 2, .tmp 3]) rfl (by decide) (.cons (.tmp rfl) (.cons (.tmp rfl) .nil))⟩
  · have hm : xB k s y u v x = true := by simpa using h
    have h5l := fieldsA_le k
    refine zX.loop (encO k s y u v x) (fun i => i ≤ (zA 1 k).length) (fun i => (zA 1 k).length - i) 0 ?h0 (Nat.zero_le _) ?rd
    case h0 =>
      refine zI (is := [2, 3, 4, 15, 16, 17]) (js := [1, 14, 15]) ?_ (.boxP rfl rfl (.zM rfl (.some (rowF_kill k 15 (by decide)) .nil)))
      repeat' first | exact zZ.nil | apply zZ.p rfl | apply zZ.ptr rfl | apply zZ.own rfl | apply zZ.clo rfl | apply zZ.pt rfl | apply zZ.tup rfl | apply zZ.skip
    case rd =>
      intro i hi
      have hV := valsOf_range k s y u v x h0 h1 h2 h3 h4 h5 h6 h7 h8 h9 i
      by_cases hc : i < (zA 1 k).length
      · have hb : decide ((i : Int) < ((zA 1 k).length : Int)) = true := by simpa using hc
        have f1 := fieldsA_get k i hc
        have f2 := cells_get k s y u v x i hc
        have f3 : (0 : Int) ≤ (i : Int) ∧ ((i : Int)).toNat < (zA 1 k).length := by omega
        repeat' ((refine zX.is ?_; first | refine zX.seq ?_ | (refine zX.isR (id := 5) ?_; refine zX.zQ [2, 3, 4, 6, 7, 15, 16, 17, 18, 21, 22] [1, 2, 9, 14, 15, 16, 32, 33] (by repeat' first | exact zZ.nil | apply zZ.p rfl | apply zZ.own rfl | apply zZ.skip) (by repeat' first | exact zW.nil | apply zW.boxP rfl rfl | apply zW.zM rfl | apply zW.some rfl | apply zW.skip) ?_; (refine zY.v rfl rfl (yL rfl rfl rfl (by rfl) rfl (by decide)) ?_); refine zY.nil ?_) | (refine zX.isR (id := 6) ?_; refine zX.zQ [2, 3, 4, 6, 7, 15, 16, 17, 18, 21, 22] [1, 2, 9, 14, 15, 16, 32, 33] (by repeat' first | exact zZ.nil | apply zZ.p rfl | apply zZ.own rfl | apply zZ.skip) (by repeat' first | exact zW.nil | apply zW.boxP rfl rfl | apply zW.zM rfl | apply zW.some rfl | apply zW.skip) ?_; (refine zY.v rfl rfl (by exact w_indexO rfl rfl rfl rfl (by omega) rfl (by decide)) ?_); (refine zY.v rfl rfl (by exact w_loadP rfl rfl rfl (by exact f1) rfl (by decide)) ?_); (refine zY.v rfl rfl (a_assignR rfl rfl rfl (by decide)) ?_); refine zY.nil ?_) | (refine zX.isR (id := 7) ?_; refine zX.zQ [2, 3, 4, 6, 7, 15, 16, 17, 18, 21, 22] [1, 2, 9, 14, 15, 16, 32, 33] (by repeat' first | exact zZ.nil | apply zZ.p rfl | apply zZ.ptr rfl | apply zZ.own rfl | apply zZ.skip) (by repeat' first | exact zW.nil | apply zW.boxP rfl rfl | apply zW.zM rfl | apply zW.some rfl | apply zW.skip) ?_; (refine zY.v rfl rfl (zV rfl rfl rfl (by decide)) ?_); refine zY.nil ?_) | refine zX.condY rfl (by assumption) ?_ | refine zX.skip ?_ | refine zX.block ?_))
        refine zX.loop (encI k s y u v x i) (fun j => j ≤ 8) (fun j => 8 - j) 0 ?h0 (Nat.zero_le _) ?rd
        case h0 =>
          have e : encUp k (yZ k s y u v x) i = encUp k (yZ k s y u v x) i ++ bytesOf 0 ((yZ k s y u v x).getD i 0) := by simp [bytesOf]
          unfold encI
          rw [← e]
          refine zI (is := [2, 3, 4, 6, 15, 16, 17, 21]) (js := [1, 14, 15]) ?_ ?_
          repeat' first | exact zZ.nil | apply zZ.p rfl | apply zZ.ptr rfl | apply zZ.own rfl | apply zZ.clo rfl | apply zZ.pt rfl | apply zZ.tup rfl | apply zZ.skip
          repeat' first | exact zW.nil | apply zW.boxP rfl rfl | apply zW.zM rfl | apply zW.some rfl | apply zW.skip
        case rd =>
          intro j hj
          by_cases hj8 : j < 8
          · have hb8 : decide ((j : Int) < 8) = true := by simp; omega
            have hj8' : (j : Int) < 8 := by omega
            have g1 : (yZ k s y u v x).getD i 0 / 2 ^ (8 * (j : Int)).toNat = (yZ k s y u v x).getD i 0 / 256 ^ j := by rw [pow8]
            have g2 : IntKind.u8.wrap ((yZ k s y u v x).getD i 0 / 256 ^ j) = (yZ k s y u v x).getD i 0 / 256 ^ j % 256 := by simp [IntKind.wrap, IntKind.signed, IntKind.bits]
            have g3 : (encUp k (yZ k s y u v x) i ++ bytesOf j ((yZ k s y u v x).getD i 0)).length + [(yZ k s y u v x).getD i 0 / 256 ^ j % 256].length ≤ 140737488355328 := by
              rw [List.length_append, encUp_len, bytesOf_length, List.length_singleton]
              have : min i (yZ k s y u v x).length ≤ i := Nat.min_le_left _ _
              omega
            repeat' (first | (refine zX.is ?_; first | refine zX.seq ?_ | (refine zX.isR (id := 8) ?_; refine zX.zQ [2, 3, 4, 6, 7, 15, 16, 17, 18, 21, 22] [1, 2, 9, 14, 15, 16, 32, 33] (by repeat' first | exact zZ.nil | apply zZ.p rfl | apply zZ.ptr rfl | apply zZ.own rfl | apply zZ.skip) (by repeat' first | exact zW.nil | apply zW.boxP rfl rfl | apply zW.zM rfl | apply zW.some rfl | apply zW.skip) ?_; (refine zY.v rfl rfl (yL rfl rfl rfl (by rfl) rfl (by decide)) ?_); refine zY.nil ?_) | (refine zX.isR (id := 9) ?_; refine zX.zQ [2, 3, 4, 6, 7, 15, 16, 17, 18, 21, 22] [1, 2, 9, 14, 15, 16, 32, 33] (by repeat' first | exact zZ.nil | apply zZ.p rfl | apply zZ.ptr rfl | apply zZ.own rfl | apply zZ.skip) (by repeat' first | exact zW.nil | apply zW.boxP rfl rfl | apply zW.zM rfl | apply zW.some rfl | apply zW.skip) ?_; (refine zY.v rfl rfl (zV rfl rfl rfl (by decide)) ?_); (refine zY.v rfl rfl (zK rfl rfl rfl (by decide)) ?_); refine zY.nil ?_) | (refine zX.isR (id := 10) ?_; refine zX.zQ [2, 3, 4, 6, 7, 15, 16, 17, 18, 21, 22] [1, 2, 9, 14, 15, 16, 32, 33] (by repeat' first | exact zZ.nil | apply zZ.p rfl | apply zZ.ptr rfl | apply zZ.own rfl | apply zZ.skip) (by repeat' first | exact zW.nil | apply zW.boxP rfl rfl | apply zW.zM rfl | apply zW.some rfl | apply zW.skip) ?_; (refine zY.v rfl rfl (a_moveO rfl rfl rfl (by decide)) ?_); (refine zY.v rfl rfl (a_moveR rfl rfl rfl (by decide)) ?_); (refine zY.v rfl rfl (a_nilR rfl rfl rfl (by decide)) ?_); (refine zY.v rfl rfl (by exact zB rfl rfl rfl (by exact f2) rfl (by decide)) ?_); (refine zY.v rfl rfl (zV rfl rfl rfl (by decide)) ?_); (refine zY.v rfl rfl (by exact a_mul rfl rfl rfl (by exact wrap_i64 _ (by omega)) rfl (by decide)) ?_); (refine zY.v rfl rfl (by exact a_shr rfl rfl rfl (by omega) (by (simp only [IntKind.bits]; omega)) (by exact g1) rfl (by decide)) ?_); (refine zY.v rfl rfl (by exact y9 rfl rfl (by exact g2) rfl (by decide)) ?_); (refine zY.m rfl rfl (w_buildB rfl (by decide) (by decide) (by decide) (by decide) (by rfl) (by rfl) (by rfl) (by rfl) rfl (by decide)) ?_); (refine zY.w rfl (by exact w_appOB rfl rfl rfl rfl rfl (by exact g3) rfl rfl (by decide)) ?_); (refine zY.v rfl rfl (yO rfl rfl rfl (by decide)) ?_); refine zY.nil ?_) | (refine zX.isR (id := 11) ?_; refine zX.zQ [2, 3, 4, 6, 7, 15, 16, 17, 18, 21, 22] [1, 2, 9, 14, 15, 16, 32, 33] (by repeat' first | exact zZ.nil | apply zZ.p rfl | apply zZ.ptr rfl | apply zZ.own rfl | apply zZ.skip) (by repeat' first | exact zW.nil | apply zW.boxP rfl rfl | apply zW.zM rfl | apply zW.some rfl | apply zW.skip) ?_; (refine zY.v rfl rfl (by exact yT rfl rfl rfl (by exact wrap_i64 _ (by omega)) rfl (by decide)) ?_); (refine zY.v rfl rfl (zV rfl rfl rfl (by decide)) ?_); refine zY.nil ?_) | refine zX.condY rfl (by assumption) ?_ | refine zX.skip ?_ | refine zX.block ?_) | refine zR.n ?_)
            refine ⟨j + 1, ?_, by omega, by omega⟩
            have e : encUp k (yZ k s y u v x) i ++ bytesOf (j + 1) ((yZ k s y u v x).getD i 0) = encUp k (yZ k s y u v x) i ++ bytesOf j ((yZ k s y u v x).getD i 0) ++ [(yZ k s y u v x).getD i 0 / 256 ^ j % 256] := by rw [bytesOf_snoc, List.append_assoc]
            unfold encI
            rw [e]
            refine zI (is := [2, 3, 4, 6, 15, 16, 17, 21]) (js := [1, 14, 15]) ?_ (.boxP rfl rfl (.zM rfl (.some (rowF_kill2 k 32 14 (by decide) (by decide)) .nil)))
            repeat' first | exact zZ.nil | apply zZ.p rfl | apply zZ.ptr rfl | apply zZ.own rfl | apply zZ.clo rfl | apply zZ.pt rfl | apply zZ.tup rfl | apply zZ.skip
          · have hb8 : decide ((j : Int) < 8) = false := by simp; omega
            obtain rfl : j = 8 := by omega
            repeat' (first | (refine zX.is ?_; first | refine zX.seq ?_ | (refine zX.isR (id := 8) ?_; refine zX.zQ [2, 3, 4, 6, 7, 15, 16, 17, 18, 21, 22] [1, 2, 9, 14, 15, 16, 32, 33] (by repeat' first | exact zZ.nil | apply zZ.p rfl | apply zZ.ptr rfl | apply zZ.own rfl | apply zZ.skip) (by repeat' first | exact zW.nil | apply zW.boxP rfl rfl | apply zW.zM rfl | apply zW.some rfl | apply zW.skip) ?_; (refine zY.v rfl rfl (by exact yL rfl rfl rfl (by exact bF (by decide)) rfl (by decide)) ?_); refine zY.nil ?_) | (refine zX.isR (id := 12) ?_; refine zX.zQ [2, 3, 4, 6, 7, 15, 16, 17, 18, 21, 22] [1, 2, 9, 14, 15, 16, 32, 33] (by repeat' first | exact zZ.nil | apply zZ.p rfl | apply zZ.ptr rfl | apply zZ.own rfl | apply zZ.skip) (by repeat' first | exact zW.nil | apply zW.boxP rfl rfl | apply zW.zM rfl | apply zW.some rfl | apply zW.skip) ?_; (refine zY.v rfl rfl (by exact yT rfl rfl rfl (by exact wrap_i64 _ (by omega)) rfl (by decide)) ?_); (refine zY.v rfl rfl (zV rfl rfl rfl (by decide)) ?_); refine zY.nil ?_) | refine zX.condN rfl (by assumption) ?_ | refine zX.exit ?_) | refine zR.n ?_)
            refine ⟨i + 1, ?_, by omega, by omega⟩
            unfold encO
            rw [encUp_succ k _ i (fields_len k s y u v x i hc)]
            refine zI (is := [2, 3, 4, 15, 16, 17]) (js := [1, 14, 15]) ?_ ?_
            repeat' first | exact zZ.nil | apply zZ.p rfl | apply zZ.ptr rfl | apply zZ.own rfl | apply zZ.clo rfl | apply zZ.pt rfl | apply zZ.tup rfl | apply zZ.skip
            repeat' first | exact zW.nil | apply zW.boxP rfl rfl | apply zW.zM rfl | apply zW.some rfl | apply zW.skip
      · have hb : decide ((i : Int) < ((zA 1 k).length : Int)) = false := by simpa using hc
        obtain rfl : i = (zA 1 k).length := by omega
        repeat' ((refine zX.is ?_; first | refine zX.seq ?_ | (refine zX.isR (id := 5) ?_; refine zX.zQ [2, 3, 4, 6, 7, 15, 16, 17, 18, 21, 22] [1, 2, 9, 14, 15, 16, 32, 33] (by repeat' first | exact zZ.nil | apply zZ.p rfl | apply zZ.own rfl | apply zZ.skip) (by repeat' first | exact zW.nil | apply zW.boxP rfl rfl | apply zW.zM rfl | apply zW.some rfl | apply zW.skip) ?_; (refine zY.v rfl rfl (yL rfl rfl rfl (by rfl) rfl (by decide)) ?_); refine zY.nil ?_) | (refine zX.isR (id := 13) ?_; refine zX.zQ [2, 3, 4] [1, 2, 9, 14, 15, 16, 32, 33] (by repeat' first | exact zZ.nil | apply zZ.p rfl | apply zZ.own rfl) (by repeat' first | exact zW.nil | apply zW.boxP rfl rfl | apply zW.zM rfl | apply zW.some rfl | apply zW.skip) ?_; (refine zY.v rfl rfl (a_moveO rfl rfl rfl (by decide)) ?_); (refine zY.v rfl rfl (yO rfl rfl rfl (by decide)) ?_); (refine zY.v rfl rfl (zK rfl rfl rfl (by decide)) ?_); refine zY.nil ?_) | refine zX.condN rfl (by assumption) ?_ | refine zX.exit ?_ | refine zX.ret ?_))
        rw [if_pos hm, ← encUp_all k s y u v x hm]
        exact ⟨.inl rfl, _, sub_freezeB (d := 2) (id := 14) rfl rfl, .tup (rs := [.tmp 2, .tmp 3]) rfl (by decide) (.cons (.tmp rfl) (.cons (.tmp rfl) .nil))⟩
end Go.Proofs.YteppicfkdcofjaaDoor
/- Frames of bytes, the program's and the document's: contracts of Put. -/
namespace Go.Proofs.YteppicfkdcofjaaDoor
set_option maxRecDepth 100000
set_option maxHeartbeats 16000000
open Go Go.RowKit
set_option linter.unusedSimpArgs false
attribute [local irreducible] zY zX Step zJ Sub zL Fn
theorem byts_vals (bs : List Int) : ∀ c ∈ byts bs, ∃ v, c = .val v := fun c hc => by
  simp only [byts, List.mem_map] at hc
  obtain ⟨b, _, rfl⟩ := hc
  exact ⟨_, rfl⟩
def laidS (cs : List Int) (n : Int) (many i : Nat) : AS :=
  { t := [(0, .own 1000), (1, .p (.val (.int .u64 n))), (6, .p (.val (.slice none 0 0))), (8, .p (.val (.int .i64 many))), (9, .p (.val (.int .i64 i)))], s := [(1000, zM 5 (cs ++ bytesOf i n))] }
theorem laid_fn (cs : List Int) (n : Int) (many : Nat) (hm : many ≤ 8) (hc : cs.length ≤ 1000000) :
    FnR Tryd.prog 14 [.val (.int .u64 n), .val (.int .i64 many)] (zM 5 cs) (zM 5 (cs ++ bytesOf many n)) := by
  refine fn_ofR (t := 6) Tryd.func14 rfl Tryd.ntmps14 (Nat.le_of_ble_eq_true rfl) rfl ?_
  repeat' ((refine zX.is ?_; first | refine zX.seq ?_ | (refine zX.isR (id := 0) ?_; refine zX.zQ [0, 1, 2] [6, 18, 1000] (by repeat' first | exact zZ.nil | apply zZ.p rfl | apply zZ.own rfl) (by repeat' first | exact zW.nil | apply zW.zM rfl | apply zW.skip) ?_; (refine zY.v rfl rfl (zK rfl rfl rfl (by decide)) ?_); refine zY.nil ?_) | (refine zX.isR (id := 1) ?_; refine zX.zQ [0, 1, 2, 6] [6, 18, 1000] (by repeat' first | exact zZ.nil | apply zZ.p rfl | apply zZ.own rfl) (by repeat' first | exact zW.nil | apply zW.zM rfl | apply zW.skip) ?_; (refine zY.v rfl rfl (zV rfl rfl rfl (by decide)) ?_); (refine zY.v rfl rfl (zV rfl rfl rfl (by decide)) ?_); refine zY.nil ?_) | refine zX.block ?_))
  refine zX.loop (laidS cs n many) (fun i => i ≤ many) (fun i => many - i) 0 ?h0 (Nat.zero_le _) ?rd
  case h0 =>
    have e : cs = cs ++ bytesOf 0 n := by simp [bytesOf]
    unfold laidS
    rw [← e]
    refine zI (is := [0, 1, 6, 8, 9]) (js := [1000]) ?_ ?_
    repeat' first | exact zZ.nil | apply zZ.p rfl | apply zZ.ptr rfl | apply zZ.own rfl | apply zZ.clo rfl | apply zZ.pt rfl | apply zZ.tup rfl | apply zZ.skip
    repeat' first | exact zW.nil | apply zW.boxP rfl rfl | apply zW.zM rfl | apply zW.some rfl | apply zW.skip
  case rd =>
    intro i hi
    by_cases hlt : i < many
    · have hd : decide ((i : Int) < (many : Int)) = true := by simp; omega
      have g1 : n / 2 ^ (8 * (i : Int)).toNat = n / 256 ^ i := by rw [pow8]
      have g2 : IntKind.u8.wrap (n / 256 ^ i) = n / 256 ^ i % 256 := by simp [IntKind.wrap, IntKind.signed, IntKind.bits]
      have g3 : (cs ++ bytesOf i n).length + [n / 256 ^ i % 256].length ≤ 140737488355328 := by
        rw [List.length_append, bytesOf_length, List.length_singleton]
        omega
      repeat' (first | (refine zX.is ?_; first | refine zX.seq ?_ | (refine zX.isR (id := 2) ?_; refine zX.zQ [0, 1, 6, 7, 8, 9, 10] [6, 18, 1000] (by repeat' first | exact zZ.nil | apply zZ.p rfl | apply zZ.own rfl | apply zZ.skip) (by repeat' first | exact zW.nil | apply zW.zM rfl | apply zW.skip) ?_; (refine zY.v rfl rfl (yL rfl rfl rfl (by rfl) rfl (by decide)) ?_); refine zY.nil ?_) | (refine zX.isR (id := 3) ?_; refine zX.zQ [0, 1, 6, 7, 8, 9, 10] [6, 18, 1000] (by repeat' first | exact zZ.nil | apply zZ.p rfl | apply zZ.own rfl | apply zZ.skip) (by repeat' first | exact zW.nil | apply zW.zM rfl | apply zW.skip) ?_; (refine zY.v rfl rfl (zV rfl rfl rfl (by decide)) ?_); (refine zY.v rfl rfl (zK rfl rfl rfl (by decide)) ?_); refine zY.nil ?_) | (refine zX.isR (id := 4) ?_; refine zX.zQ [0, 1, 6, 7, 8, 9, 10] [6, 18, 1000] (by repeat' first | exact zZ.nil | apply zZ.p rfl | apply zZ.own rfl) (by repeat' first | exact zW.nil | apply zW.zM rfl | apply zW.skip) ?_; (refine zY.v rfl rfl (a_moveO rfl rfl rfl (by decide)) ?_); (refine zY.v rfl rfl (zV rfl rfl rfl (by decide)) ?_); (refine zY.v rfl rfl (zV rfl rfl rfl (by decide)) ?_); (refine zY.v rfl rfl (by exact a_mul rfl rfl rfl (by exact wrap_i64 _ (by omega)) rfl (by decide)) ?_); (refine zY.v rfl rfl (by exact a_shr rfl rfl rfl (by omega) (by (simp only [IntKind.bits]; omega)) (by exact g1) rfl (by decide)) ?_); (refine zY.v rfl rfl (by exact y9 rfl rfl (by exact g2) rfl (by decide)) ?_); (refine zY.m rfl rfl (w_buildB rfl (by decide) (by decide) (by decide) (by decide) (by rfl) (by rfl) (by rfl) (by rfl) rfl (by decide)) ?_); (refine zY.w rfl (by exact w_appOB rfl rfl rfl rfl rfl (by exact g3) rfl rfl (by decide)) ?_); (refine zY.v rfl rfl (yO rfl rfl rfl (by decide)) ?_); refine zY.nil ?_) | (refine zX.isR (id := 5) ?_; refine zX.zQ [0, 1, 6, 7, 8, 9, 10] [6, 18, 1000] (by repeat' first | exact zZ.nil | apply zZ.p rfl | apply zZ.own rfl) (by repeat' first | exact zW.nil | apply zW.zM rfl | apply zW.skip) ?_; (refine zY.v rfl rfl (by exact yT rfl rfl rfl (by exact wrap_i64 _ (by omega)) rfl (by decide)) ?_); (refine zY.v rfl rfl (zV rfl rfl rfl (by decide)) ?_); refine zY.nil ?_) | refine zX.condY rfl (by assumption) ?_ | refine zX.skip ?_ | refine zX.block ?_) | refine zR.n ?_)
      refine ⟨i + 1, ?_, by omega, by omega⟩
      have e : cs ++ bytesOf (i + 1) n = cs ++ bytesOf i n ++ [n / 256 ^ i % 256] := by rw [bytesOf_snoc, List.append_assoc]
      unfold laidS
      rw [e]
      refine zI (is := [0, 1, 6, 8, 9]) (js := [1000]) ?_ ?_
      repeat' first | exact zZ.nil | apply zZ.p rfl | apply zZ.ptr rfl | apply zZ.own rfl | apply zZ.clo rfl | apply zZ.pt rfl | apply zZ.tup rfl | apply zZ.skip
      repeat' first | exact zW.nil | apply zW.boxP rfl rfl | apply zW.zM rfl | apply zW.some rfl | apply zW.skip
    · have hd : decide ((i : Int) < (many : Int)) = false := by simp; omega
      obtain rfl : i = many := by omega
      repeat' ((refine zX.is ?_; first | refine zX.seq ?_ | (refine zX.isR (id := 2) ?_; refine zX.zQ [0, 1, 6, 7, 8, 9, 10] [6, 18, 1000] (by repeat' first | exact zZ.nil | apply zZ.p rfl | apply zZ.own rfl | apply zZ.skip) (by repeat' first | exact zW.nil | apply zW.zM rfl | apply zW.skip) ?_; (refine zY.v rfl rfl (yL rfl rfl rfl (by rfl) rfl (by decide)) ?_); refine zY.nil ?_) | (refine zX.isR (id := 6) ?_; refine zX.zQ [0, 6] [6, 18, 1000] (by repeat' first | exact zZ.nil | apply zZ.p rfl | apply zZ.own rfl) (by repeat' first | exact zW.nil | apply zW.zM rfl | apply zW.skip) ?_; (refine zY.v rfl rfl (a_moveO rfl rfl rfl (by decide)) ?_); (refine zY.v rfl rfl (yO rfl rfl rfl (by decide)) ?_); refine zY.nil ?_) | refine zX.condN rfl (by assumption) ?_ | refine zX.exit ?_ | refine zX.ret ?_))
      exact ⟨.inl rfl, _, Sub.refl _, rfl, rfl⟩
/-- a frame's bytes -/
def putF (b : List Int) : List Int := bytesOf 2 b.length ++ bytesOf 4 (yN 0 b : Nat) ++ b
def putOk (b : List Int) : Prop := 1 ≤ b.length ∧ b.length ≤ 65535
theorem moreF_lt (sum : Nat) (b : List Int) : yN sum b < 4294967296 := by unfold yN; omega
theorem put_fn (b : List Int) (hb : ∀ x ∈ b, 0 ≤ x ∧ x < 256) (hl : putOk b) : Fn Tryd.prog 7 [.sl (byts b)] (.tup [.sl (byts (putF b)), .val (.int .i64 0)]) := by
  obtain ⟨hl0, hl1⟩ := hl
  have hm := moreF_lt 0 b
  have c1 := sum_fn b (by omega) hb
  have c2 := laid_fn [] (b.length : Int) 2 (by decide) (by decide)
  have c3 := laid_fn ([] ++ bytesOf 2 (b.length : Int)) ((yN 0 b : Nat) : Int) 4 (by decide) (by rw [List.nil_append, bytesOf_length]; decide)
  have g1 : decide ((b.length : Int) < 1) = false := decide_eq_false (by omega)
  have g2 : decide ((65535 : Int) < (b.length : Int)) = false := decide_eq_false (by omega)
  have g3 : IntKind.u64.wrap (b.length : Int) = (b.length : Int) := wrap_u64 _ (by omega)
  have g4 : IntKind.u64.wrap ((yN 0 b : Nat) : Int) = ((yN 0 b : Nat) : Int) := wrap_u64 _ (by omega)
  have g5 : ([] ++ bytesOf 2 (b.length : Int) ++ bytesOf 4 ((yN 0 b : Nat) : Int)).length + b.length ≤ 140737488355328 := by
    rw [List.nil_append, List.length_append, bytesOf_length, bytesOf_length]
    omega
  refine fn_of2 Tryd.func7 rfl Tryd.ntmps7 (Nat.le_of_ble_eq_true rfl) ?_
  repeat' ((refine zX.is ?_; first | refine zX.seq ?_ | (refine zX.isR (id := 0) ?_; refine zX.zQ [0] [2, 6, 10, 14, 16, 19, 21, 24] (by repeat' first | exact zZ.nil | apply zZ.p rfl) (by repeat' first | exact zW.nil | apply zW.skip) ?_; (refine zY.v rfl rfl (zK rfl rfl rfl (by decide)) ?_); (refine zY.v rfl rfl (zK rfl rfl rfl (by decide)) ?_); refine zY.nil ?_) | (refine zX.isR (id := 1) ?_; refine zX.zQ [0, 2, 3] [2, 6, 10, 14, 16, 19, 21, 24] (by repeat' first | exact zZ.nil | apply zZ.p rfl) (by repeat' first | exact zW.nil | apply zW.skip) ?_; all_goals (refine zY.v rfl rfl (zV rfl rfl rfl (by decide)) ?_); all_goals (refine zY.v rfl rfl (xV rfl rfl rfl (by decide)) ?_); all_goals (refine zY.v rfl rfl (by exact yL rfl rfl rfl (by exact g1) rfl (by decide)) ?_); all_goals (refine zY.v rfl rfl (zV rfl rfl rfl (by decide)) ?_); all_goals (refine zY.gY rfl rfl (by decide) rfl (by with_reducible rfl) rfl (by decide) (zV rfl rfl rfl (by decide)) ?_); all_goals (refine zY.gY rfl rfl (by decide) rfl (by with_reducible rfl) rfl (by decide) (xV rfl rfl rfl (by decide)) ?_); all_goals (refine zY.gY rfl rfl (by decide) rfl (by with_reducible rfl) rfl (by decide) (by exact r_gtr rfl rfl rfl (by exact g2) rfl (by decide)) ?_); all_goals (refine zY.v rfl rfl (by exact zP rfl rfl (by with_reducible rfl) rfl rfl (by decide)) ?_); all_goals (refine zY.nil ?_)) | (refine zX.isR (id := 3) ?_; refine zX.zQ [0, 2, 3] [2, 6, 10, 14, 16, 19, 21, 24] (by repeat' first | exact zZ.nil | apply zZ.p rfl) (by repeat' first | exact zW.nil | apply zW.skip) ?_; (refine zY.v rfl rfl (zV rfl rfl rfl (by decide)) ?_); (refine zY.v rfl rfl (xV rfl rfl rfl (by decide)) ?_); (refine zY.v rfl rfl (by exact y9 rfl rfl (by exact g3) rfl (by decide)) ?_); (refine zY.w rfl (by exact s_callRnil (c2) (byts_vals _) rfl ⟨_, rfl, rfl⟩ rfl rfl (by decide)) ?_); (refine zY.v rfl rfl (yO rfl rfl rfl (by decide)) ?_); refine zY.nil ?_) | (refine zX.isR (id := 4) ?_; refine zX.zQ [0, 2, 3, 4] [2, 6, 10, 14, 16, 19, 21, 24] (by repeat' first | exact zZ.nil | apply zZ.p rfl | apply zZ.own rfl) (by repeat' first | exact zW.nil | apply zW.zM rfl | apply zW.skip) ?_; (refine zY.v rfl rfl (a_moveO rfl rfl rfl (by decide)) ?_); (refine zY.v rfl rfl (zV rfl rfl rfl (by decide)) ?_); (refine zY.v rfl rfl (by exact zU (c1) rfl rfl rfl (by decide)) ?_); (refine zY.v rfl rfl (by exact y9 rfl rfl (by exact g4) rfl (by decide)) ?_); (refine zY.w rfl (by exact s_callR (c3) (byts_vals _) rfl ⟨_, rfl, rfl⟩ rfl rfl rfl (by decide)) ?_); (refine zY.v rfl rfl (yO rfl rfl rfl (by decide)) ?_); refine zY.nil ?_) | (refine zX.isR (id := 5) ?_; refine zX.zQ [0, 2, 3, 4] [2, 6, 10, 14, 16, 19, 21, 24] (by repeat' first | exact zZ.nil | apply zZ.p rfl | apply zZ.own rfl) (by repeat' first | exact zW.nil | apply zW.zM rfl | apply zW.skip) ?_; (refine zY.v rfl rfl (a_moveO rfl rfl rfl (by decide)) ?_); (refine zY.v rfl rfl (zV rfl rfl rfl (by decide)) ?_); (refine zY.w rfl (by exact w_appB rfl rfl rfl rfl (by exact g5) rfl rfl (by decide)) ?_); (refine zY.v rfl rfl (yO rfl rfl rfl (by decide)) ?_); (refine zY.v rfl rfl (zK rfl rfl rfl (by decide)) ?_); refine zY.nil ?_) | refine zX.condN rfl (by first | assumption | with_reducible rfl) ?_ | refine zX.skip ?_ | refine zX.ret ?_))
  all_goals exact ⟨.inl rfl, _, sub_freezeB (d := 2) (id := 16) rfl rfl, .tup (rs := [.tmp 2, .tmp 3]) rfl (by decide) (.cons (.tmp rfl) (.cons (.tmp rfl) .nil))⟩
/-- an entry's bytes, as a frame; none, if it may not be -/
def bytesE (k s y u v x : Int) : List Int := if xB k s y u v x then putF (y5 k s y u v x) else []
theorem encL_le2 (k s y u v x : Int) : putOk (y5 k s y u v x) := by
  have : (y5 k s y u v x).length = if k = 1 then 41 else 9 := by
    unfold y5
    by_cases hk : k = 1
    · rw [if_pos hk, if_pos hk]; simp [bytesOf_length]
    · rw [if_neg hk, if_neg hk]; simp [bytesOf_length]
  unfold putOk
  rw [this]
  split <;> decide
theorem bytesOf_range' : ∀ (k : Nat) (n : Int), ∀ x ∈ bytesOf k n, 0 ≤ x ∧ x < 256
  | 0, n, x, hx => by simp [bytesOf] at hx
  | k + 1, n, x, hx => by
    rw [bytesOf, List.mem_cons] at hx
    rcases hx with rfl | hx
    · omega
    · exact bytesOf_range' k (n / 256) x hx
def U (x : Int) : Prop := 0 ≤ x ∧ x < 18446744073709551616
end Go.Proofs.YteppicfkdcofjaaDoor
/- The number of eight bytes (reference). -/
namespace Go.Proofs.YteppicfkdcofjaaDoor
set_option maxRecDepth 100000
set_option maxHeartbeats 16000000
open Go.RowKit
/-- the number of bytes, the lowest first -/
def numOf : List Int → Int
  | [] => 0
  | b :: l => b + 256 * numOf l
theorem numOf_range (l : List Int) (h : ∀ b ∈ l, 0 ≤ b ∧ b < 256) : 0 ≤ numOf l ∧ numOf l < 256 ^ l.length := by
  induction l with
  | nil => simp [numOf]
  | cons b l ih =>
    have h1 := h b (by simp)
    have h2 := ih fun c hc => h c (by simp [hc])
    simp only [numOf, List.length_cons, Int.pow_succ]
    omega
theorem numOf_small (l : List Int) (k : Nat) (h : ∀ b ∈ l, 0 ≤ b ∧ b < 256) : 0 ≤ numOf (l.take k) ∧ numOf (l.take k) < 256 ^ k := by
  have h1 := numOf_range (l.take k) fun b hb => h b (List.mem_of_mem_take hb)
  have h2 : (l.take k).length ≤ k := List.length_take_le _ _
  have h3 : (256 : Int) ^ (l.take k).length ≤ 256 ^ k := by
    obtain ⟨d, hd⟩ := Nat.exists_eq_add_of_le h2
    have h4 := pow256_pos (l.take k).length
    have h5 := pow256_pos d
    have e : (256 : Int) ^ k = 256 ^ (l.take k).length * 256 ^ d := by rw [← Int.pow_add, ← hd]
    rw [e]
    have h6 := Int.mul_le_mul_of_nonneg_left (show (1 : Int) ≤ 256 ^ d by omega) (Int.le_of_lt h4)
    omega
  omega
end Go.Proofs.YteppicfkdcofjaaDoor
/- A region that draws its order, walked in each order that may be. Generic over the program. -/
namespace Go.Proofs.YteppicfkdcofjaaDoor
set_option maxRecDepth 100000
set_option maxHeartbeats 16000000
open Go Go.RowKit
/-- what may come next, these being done -/
def readyD (l : List Oper) (done : List Nat) : List Nat := (List.range l.length).filter fun i => !done.contains i && (match l[i]? with
  | some o => o.after.toList.all fun e => !Region.binds .any e || done.contains e.on
  | none => false)
def DAll (P : Program) (n : Nat) (l : List Oper) (K : Exit → AS → Prop) : Nat → List Nat → AS → Prop
  | 0, done, S => readyD l done = [] ∧ K .normal S
  | m + 1, done, S => readyD l done ≠ [] ∧ ∀ i ∈ readyD l done, ∃ o, l[i]? = some o ∧ o.guard = none ∧ TStep P n o S K fun S1 => DAll P n l K m (i :: done) S1
def DOne (P : Program) (n : Nat) (l : List Oper) (K : Exit → AS → Prop) (m : Nat) (done : List Nat) (S : AS) (i : Nat) : Prop :=
  ∃ o, l[i]? = some o ∧ o.guard = none ∧ TStep P n o S K fun S1 => DAll P n l K m (i :: done) S1
def DEach (p : Nat → Prop) : List Nat → Prop
  | [] => True
  | i :: r => p i ∧ DEach p r
theorem DEach.all {p : Nat → Prop} : ∀ {rs : List Nat}, DEach p rs → ∀ i ∈ rs, p i
  | [], _, i, hi => by simp at hi
  | j :: r, h, i, hi => by
    rcases List.mem_cons.1 hi with rfl | hi
    · exact h.1
    · exact DEach.all h.2 i hi
theorem DEach.nil {p : Nat → Prop} : DEach p [] := trivial
theorem DEach.cons {p : Nat → Prop} {i : Nat} {r : List Nat} (h : p i) (hr : DEach p r) : DEach p (i :: r) := ⟨h, hr⟩
section
variable {P : Program} {n : Nat} {l : List Oper} {K : Exit → AS → Prop} {fu : Nat} {done : List Nat} {S S1 : AS} {i d : Nat} {o : Oper}
theorem DAll.is (h : DAll P n l K fu done S) : DAll P n l K fu done S := h
theorem DAll.fin (hr : readyD l done = []) (h : K .normal S) : DAll P n l K 0 done S := ⟨hr, h⟩
theorem DAll.many (hr : (readyD l done).isEmpty = false) (h : DEach (DOne P n l K fu done S) (readyD l done)) : DAll P n l K (fu + 1) done S :=
  ⟨(fun e => by rw [e] at hr; cases hr), h.all⟩
theorem DOne.is (h : DOne P n l K fu done S i) : DOne P n l K fu done S i := h
theorem DOne.v {bs : List Nat} {av : AV} (ho : l[i]? = some o) (hg : o.guard = none) (hd : o.dst = some d) (h : zJ P n o S bs av none) (hr : DAll P n l K fu (i :: done) (S.put d av)) : DOne P n l K fu done S i :=
  ⟨o, ho, hg, Step.t h.step (by rw [hd]; exact hr)⟩
theorem DOne.m {bs : List Nat} {av : AV} {b : Blk} (ho : l[i]? = some o) (hg : o.guard = none) (hd : o.dst = some d) (h : zJ P n o S bs av (some b)) (hr : DAll P n l K fu (i :: done) ((S.create d b).put d av)) : DOne P n l K fu done S i :=
  ⟨o, ho, hg, Step.t h.step (by rw [hd]; exact hr)⟩
theorem DOne.w (ho : l[i]? = some o) (hg : o.guard = none) (h : Step P n o S S1) (hr : DAll P n l K fu (i :: done) S1) : DOne P n l K fu done S i := ⟨o, ho, hg, h.t hr⟩
theorem DOne.ofT (ho : l[i]? = some o) (hg : o.guard = none) (h : TStep P n o S K fun S1 => DAll P n l K fu (i :: done) S1) : DOne P n l K fu done S i := ⟨o, ho, hg, h⟩
end
attribute [irreducible] DAll DOne
end Go.Proofs.YteppicfkdcofjaaDoor
/- An array's literal. Generic over the program. -/
namespace Go.Proofs.YteppicfkdcofjaaDoor
set_option maxRecDepth 100000
set_option maxHeartbeats 16000000
open Go Go.RowKit
section
variable {P : Program} {n : Nat} {o : Oper} {S : AS} {d : Nat} {t : TypeId}
end
end Go.Proofs.YteppicfkdcofjaaDoor
/- Own rows of pure elements; rows that are frozen wherever they are spoken of; calls of function values. Generic over the program. -/
namespace Go.Proofs.YteppicfkdcofjaaDoor
set_option maxRecDepth 100000
set_option maxHeartbeats 16000000
open Go Go.RowKit
/-! ### Rows of pure elements -/
def rowV (e sz : Nat) (es : List PV) : Blk := .prow e sz es.length (flat es)
theorem rowV_alike (e sz : Nat) (es : List PV) : Alike (.row e sz es.length ((flat es).map AV.p)) (rowV e sz es) := .rp _ _ _ _
theorem rowV_alike' (e sz : Nat) (es : List PV) : Alike (rowV e sz es) (.row e sz es.length ((flat es).map AV.p)) := .pr _ _ _ _
theorem flat_append (xs ys : List PV) : flat (xs ++ ys) = flat xs ++ flat ys := by simp [flat]
section
variable {P : Program} {n : Nat} {o : Oper} {S : AS} {d : Nat} {t : TypeId} {x y : Operand}
theorem w_appV {id e sz by_ : Nat} {z : Value} {cs bs : List PV} [ht : Und P t (.slice e)] [hi : InfoA P e z sz by_] (ho : o.op = .call { callee := .builtin .append, args := #[x, y], argTypes := #[t, t] }) (hx : S.get x = .own id) (hb : S.blk id = some (rowV e sz cs))
    (hy : S.get y = .p (.sl bs)) (hes : ∀ e ∈ bs, e.cells.length = sz) (hlim : (cs.length + bs.length) * by_ ≤ 140737488355328 ∧ cs.length + bs.length ≤ maxLen) (hzs : z.cells.size = sz) (hsz : 0 < sz) (hd : o.dst = some d) (hn : d < n) :
    Step P n o S ((S.create id (rowV e sz (cs ++ bs))).put d (.own id)) := by
  have h := w_appendP (P := P) (S := S.tag id (.row e sz cs.length ((flat cs).map AV.p))) (o := o) (d := d) ho (by rw [AS.xA]; exact hx) (by rw [AS.yK, if_pos rfl]) (by rw [AS.xA]; exact hy) hes hlim hzs hsz hd hn
  have e1 : Blk.row e sz (cs.length + bs.length) ((flat cs).map AV.p ++ (flat bs).map AV.p) = .row e sz (cs ++ bs).length ((flat (cs ++ bs)).map AV.p) := by
    rw [flat_append, List.map_append, List.length_append]
  rw [e1] at h
  exact h.same (xQ hb (rowV_alike' e sz cs)) (((xZ hb (rowV_alike e sz cs)).create id (rowV_alike e sz (cs ++ bs))).put d _)
end
end Go.Proofs.YteppicfkdcofjaaDoor
/- Rows that are frozen wherever they are spoken of; rows that are lent and grow; calls of function values; arrays. Generic over the program. -/
namespace Go.Proofs.YteppicfkdcofjaaDoor
set_option maxRecDepth 100000
set_option maxHeartbeats 16000000
open Go Go.RowKit
/-! ### Frozen wherever it is spoken of -/
def AV.frz (id : Nat) (x : PV) : AV → AV
  | .own j => if j = id then .p x else .own j
  | y => y.kill id
def Blk.frz (id : Nat) (x : PV) : Blk → Blk
  | .row t s n xs => .row t s n (xs.map (AV.frz id x))
  | .prow t s n xs => .prow t s n xs
  | .box t xs => .box t (xs.map (AV.frz id x))
  | .lent t s n xs => .lent t s n xs
def AS.frz (S : AS) (id : Nat) (x : PV) : AS := { t := S.t.map fun p => (p.1, p.2.frz id x), s := (dropL S.s id).map fun p => (p.1, p.2.frz id x) }
theorem AS.tmp_frz (S : AS) (id : Nat) (x : PV) (i : Nat) : (S.frz id x).tmp i = (S.tmp i).frz id x := by
  simp only [AS.tmp, AS.frz, look_map]
  cases look S.t i <;> rfl
theorem AS.blk_frz (S : AS) (id : Nat) (x : PV) (j : Nat) : (S.frz id x).blk j = if id = j then none else (S.blk j).map (Blk.frz id x) := by
  simp only [AS.blk, AS.frz, look_map, look_dropL]
  by_cases hj : id = j
  · rw [if_pos hj, if_pos hj]; rfl
  · rw [if_neg hj, if_neg hj]
theorem Blk.turns_frz (b : Blk) (id : Nat) (x : PV) (c : Nat) : (b.frz id x).turns c ↔ b.turns c := by cases b <;> exact Iff.rfl
theorem zG.frz {M : Nat → Nat → Prop} {ρ : Nat → Value} {w : World} {y : AV} {v : Value} {id : Nat} {x : PV} (h : zG M ρ w y v) (hx : Rep M w x (ρ id)) : zG M ρ w (y.frz id x) v := by
  have hk := h.killed id (ρ id)
  rw [upd_self] at hk
  cases y with
  | own j =>
    show zG M ρ w (if j = id then .p x else .own j) v
    by_cases hj : j = id
    · subst hj
      rw [if_pos rfl, own_eq h]
      exact .p hx
    · rw [if_neg hj]
      exact h
  | _ => exact hk
theorem zD.frz {M : Nat → Nat → Prop} {ρ : Nat → Value} {w : World} {xs : List AV} {ys : List Value} {id : Nat} {x : PV} (h : zD M ρ w xs ys) (hx : Rep M w x (ρ id)) : zD M ρ w (xs.map (AV.frz id x)) ys :=
  ⟨by simp [h.len], fun i c v hc hv => by
    rw [List.getElem?_map, Option.map_eq_some_iff] at hc
    obtain ⟨c', hc', rfl⟩ := hc
    exact (h.each i c' v hc' hv).frz hx, h.one⟩
section
variable {M : Nat → Nat → Prop} {n : Nat} {w0 : Home} {w w' : World} {S : AS} {ρ : Nat → Value} {a : Act}
theorem Mut.frz {id k c : Nat} {x : PV} (h : Mut M (S.frz id x) ρ k c) : Mut M (S.drop id) ρ k c := by
  rcases h with h | ⟨j, b, hb, hk, ht⟩
  · exact .inl h
  · rw [AS.blk_frz] at hb
    split at hb
    · cases hb
    · rename_i hne
      obtain ⟨b1, h1, rfl⟩ := Option.map_eq_some_iff.1 hb
      exact .inr ⟨j, b1.kill id, by rw [AS.yQ, if_neg hne, h1]; rfl, hk, (Blk.turns_kill b1 id c).2 ((Blk.turns_frz b1 id x c).1 ht)⟩
theorem Sat.frz_of (h : Sat M n w0 S ρ a w) {id : Nat} {x : PV} (hx : Rep (Mut M (S.drop id) ρ) w x (ρ id)) : Sat M n w0 (S.frz id x) ρ a w := by
  have hx' : Rep (Mut M (S.frz id x) ρ) w x (ρ id) := hx.mono fun _ _ _ hk => Mut.frz hk
  have hm : ∀ k c, k < w.heap.size → Mut M (S.frz id x) ρ k c → Mut M S ρ k c := fun k c _ hk => Mut.drop (Mut.frz hk)
  refine ⟨h.below, h.out, h.tab, h.size, h.defers, fun i => ?_, fun j b hb => ?_, fun j b k hb hk => ?_, h.fix, h.free, fun i j bi bj k hi hj => ?_⟩
  · rw [AS.tmp_frz]
    exact ((h.tmps i).mono hm).frz hx'
  · rw [AS.blk_frz] at hb
    split at hb
    · cases hb
    · obtain ⟨b1, h1, rfl⟩ := Option.map_eq_some_iff.1 hb
      have := h.blks j b1 h1
      cases b1 with
      | row t size m xs =>
        obtain ⟨ys, ho, hc⟩ := this
        exact ⟨ys, ho, (hc.mono hm).frz hx'⟩
      | prow t size m xs =>
        obtain ⟨ys, ho, hc⟩ := this
        exact ⟨ys, ho, hc.mono hm⟩
      | lent t size m xs =>
        obtain ⟨ys, ho, hc⟩ := this
        exact ⟨ys, ho, hc.mono hm⟩
      | box t xs =>
        obtain ⟨g, ys, hv, hg, hh, hc⟩ := this
        exact ⟨g, ys, hv, hg, hh, (hc.mono hm).frz hx'⟩
  · rw [AS.blk_frz] at hb
    split at hb
    · cases hb
    · obtain ⟨b1, h1, _⟩ := Option.map_eq_some_iff.1 hb
      exact h.mine j b1 k h1 hk
  · rw [AS.blk_frz] at hi hj
    split at hi
    · cases hi
    · split at hj
      · cases hj
      · obtain ⟨b1, h1, _⟩ := Option.map_eq_some_iff.1 hi
        obtain ⟨b2, h2, _⟩ := Option.map_eq_some_iff.1 hj
        exact h.dist i j b1 b2 k h1 h2
end
theorem sub_frz {S : AS} {id e sz : Nat} {es : List PV} (hb : S.blk id = some (rowV e sz es)) : Sub S (S.frz id (.sl es)) :=
  fun M n w0 ρ a w hs => by
    refine ⟨ρ, hs.frz_of ?_⟩
    have h1 := ((xQ hb (rowV_alike' e sz es)).sat hs).frozen (id := id) (es := es) (by rw [AS.yK, if_pos rfl]) rfl
    refine h1.mono fun k c _ hk => ?_
    rcases hk with hk | ⟨j, b, hj, hk, ht⟩
    · exact .inl hk
    · rw [AS.yQ] at hj
      split at hj
      · cases hj
      · rename_i hne
        refine .inr ⟨j, b, ?_, hk, ht⟩
        rw [AS.yQ, if_neg hne, AS.yK, if_neg hne]
        exact hj
/-! ### Rows that are lent -/
def lentV (e sz : Nat) (es : List PV) : Blk := .lent e sz es.length (flat es)
end Go.Proofs.YteppicfkdcofjaaDoor
/- A lent row grows; calls of function values; arrays in variables; slices that are compared with nil. Generic over the program. -/
namespace Go.Proofs.YteppicfkdcofjaaDoor
set_option maxRecDepth 100000
set_option maxHeartbeats 16000000
open Go Go.RowKit
section
variable {P : Program} {n : Nat} {o : Oper} {S : AS} {d : Nat} {t : TypeId} {x y : Operand}
/-! ### Compared with nil -/
theorem r_eqlNil {yt : TypeId} {es : List PV} {r : Bool} {e : TypeId} [ht : Und P t (.slice e)] (ho : o.op = .binOp .eql t x y yt) (hx : S.get x = .p (.sl es)) (hy : S.get y = .p (.val (.slice none 0 0))) (hne : es ≠ []) (hr : false = r) (hd : o.dst = some d) (hn : d < n) : zJ P n o S [] (.p (.val (.bool r))) none := by
  subst hr
  exact zJ.pure hd hn fun S2 hg _ M w0 ρ a w hs => by
    have r1 := yA hs ((hg x (by rw [ho]; simp [Op.operands])).trans hx)
    have r2 := hs.val ((hg y (by rw [ho]; simp [Op.operands])).trans hy)
    rcases rep_sl r1 with ⟨_, h0⟩ | ⟨g, off, cap, ys, hv, _⟩
    · exact (hne h0).elim
    · refine ⟨.bool false, w, ?_, Below.refl _ _, .p (.val _)⟩
      unfold execOp
      rw [ho]
      simp only [hv, r2, Sem.run_bind]
      simp [eqGuard, binOp, run_equal_slice_nil w t e (some ⟨g, off, none⟩) es.length cap ht.h]
end
end Go.Proofs.YteppicfkdcofjaaDoor
/- Numbers of bytes, and bytes cloned: contracts. -/
namespace Go.Proofs.YteppicfkdcofjaaDoor
set_option maxRecDepth 100000
set_option maxHeartbeats 16000000
open Go Go.RowKit
set_option linter.unusedSimpArgs false
set_option linter.unusedVariables false
attribute [local irreducible] zY zX Step zJ Sub zL TStep Fn
theorem or_byte (a c : Int) (h0 : 0 ≤ a) (h1 : a * 256 + 256 ≤ 18446744073709551616) (c0 : 0 ≤ c) (c1 : c < 256) : bits .or .u64 (a * 256) c = c + 256 * a := by
  obtain ⟨n, rfl⟩ := Int.eq_ofNat_of_zero_le h0
  obtain ⟨m, rfl⟩ := Int.eq_ofNat_of_zero_le c0
  have h2 := Nat.shiftLeft_add_eq_or_of_lt (show m < 2 ^ 8 by omega) n
  rw [Nat.shiftLeft_eq] at h2
  have e : ((n : Int) * 256) = ((n * 256 : Nat) : Int) := by omega
  rw [e, u64_or_nat (n * 256) m (by omega) (by omega), ← h2]
  omega
def numS (b : List Int) (k : Nat) : AS := { t := [(0, .p (.sl (byts b))), (3, .p (.val (.int .u64 (numOf (b.drop k))))), (4, .p (.val (.int .i64 ((k : Int) - 1))))], s := [] }
theorem fnumber_fn (b : List Int) (hb : ∀ x ∈ b, 0 ≤ x ∧ x < 256) (hl : b.length ≤ 7) : Fn Tryd.prog 23 [.sl (byts b)] (.p (.val (.int .u64 (numOf b)))) := by
  have g0 : IntKind.i64.wrap (((b.length : Nat) : Int) - 1) = ((b.length : Nat) : Int) - 1 := wrap_i64 _ (by omega)
  refine fn_of Tryd.func23 rfl Tryd.ntmps23 (Nat.le_of_ble_eq_true rfl) ?_
  repeat' ((refine zX.is ?_; first | refine zX.seq ?_ | (refine zX.isR (id := 0) ?_; refine zX.zQ [0] [] (by repeat' first | exact zZ.nil | apply zZ.p rfl) (by repeat' exact zW.nil) ?_; (refine zY.v rfl rfl (zK rfl rfl rfl (by decide)) ?_); refine zY.nil ?_) | (refine zX.isR (id := 1) ?_; refine zX.zQ [0, 2] [] (by repeat' first | exact zZ.nil | apply zZ.p rfl) (by repeat' exact zW.nil) ?_; (refine zY.v rfl rfl (zK rfl rfl rfl (by decide)) ?_); refine zY.nil ?_) | (refine zX.isR (id := 2) ?_; refine zX.zQ [0, 2, 3] [] (by repeat' first | exact zZ.nil | apply zZ.p rfl) (by repeat' exact zW.nil) ?_; (refine zY.v rfl rfl (zV rfl rfl rfl (by decide)) ?_); (refine zY.v rfl rfl (xV rfl rfl rfl (by decide)) ?_); (refine zY.v rfl rfl (by exact a_sub rfl rfl rfl (by exact g0) rfl (by decide)) ?_); (refine zY.v rfl rfl (zK rfl rfl rfl (by decide)) ?_); refine zY.nil ?_) | refine zX.block ?_))
  refine zX.loop (fun k : Nat => numS b k) (fun k => k ≤ b.length) (fun k => k) b.length ?h0 (Nat.le_refl _) ?rd
  case h0 =>
    unfold numS
    rw [List.drop_length]
    refine zI (is := [0, 3, 4]) (js := []) ?_ ?_
    repeat' first | exact zZ.nil | apply zZ.p rfl | apply zZ.ptr rfl | apply zZ.own rfl | apply zZ.clo rfl | apply zZ.pt rfl | apply zZ.tup rfl | apply zZ.skip
    repeat' first | exact zW.nil | apply zW.boxP rfl rfl | apply zW.zM rfl | apply zW.some rfl | apply zW.skip
  case rd =>
    intro k hk
    match k, hk with
    | 0, _ =>
      have g1 : decide ((((0 : Nat) : Int) - 1) ≥ 0) = false := rfl
      unfold numS
      repeat' ((refine zX.is ?_; first | refine zX.seq ?_ | (refine zX.isR (id := 3) ?_; refine zX.zQ [0, 2, 3, 4, 9] [] (by repeat' first | exact zZ.nil | apply zZ.p rfl | apply zZ.skip) (by repeat' exact zW.nil) ?_; (refine zY.v rfl rfl (zV rfl rfl rfl (by decide)) ?_); (refine zY.v rfl rfl (by exact r_geq rfl rfl rfl (by exact g1) rfl (by decide)) ?_); refine zY.nil ?_) | (refine zX.isR (id := 6) ?_; refine zX.zQ [2, 3] [] (by repeat' first | exact zZ.nil | apply zZ.p rfl | apply zZ.skip) (by repeat' exact zW.nil) ?_; (refine zY.v rfl rfl (zV rfl rfl rfl (by decide)) ?_); (refine zY.v rfl rfl (zK rfl rfl rfl (by decide)) ?_); refine zY.nil ?_) | refine zX.condN rfl (by assumption) ?_ | refine zX.exit ?_ | refine zX.ret ?_))
      all_goals exact ⟨by first | exact .inl rfl | exact .inr rfl, gives1 rfl rfl rfl⟩
    | k + 1, hk =>
      have hlt : k < b.length := hk
      have g1 : decide ((((k + 1 : Nat) : Int) - 1) ≥ 0) = true := decide_eq_true (by omega)
      obtain ⟨c, hc⟩ : ∃ c, b[k]? = some c := ⟨_, List.getElem?_eq_getElem hlt⟩
      have hcr := hb c (List.mem_of_getElem? hc)
      have hnr := numOf_range (b.drop (k + 1)) fun x hx => hb x (List.mem_of_mem_drop hx)
      have hn6 : numOf (b.drop (k + 1)) < 281474976710656 := Int.lt_of_lt_of_le hnr.2 (by
        have h1 : (b.drop (k + 1)).length ≤ 6 := by rw [List.length_drop]; omega
        have : (256 : Int) ^ (b.drop (k + 1)).length ≤ 256 ^ 6 := by exact_mod_cast Nat.pow_le_pow_right (by decide) h1
        simpa using this)
      have hd : numOf (b.drop k) = c + 256 * numOf (b.drop (k + 1)) := by
        rw [List.drop_eq_getElem_cons hlt]
        have e : b[k] = c := by rw [List.getElem?_eq_getElem hlt] at hc; exact Option.some.inj hc
        rw [e]; rfl
      unfold numS
      generalize numOf (b.drop (k + 1)) = m at *
      have e0 : ((k + 1 : Nat) : Int) - 1 = (k : Nat) := by omega
      have g2 : (0 : Int) ≤ (k : Int) ∧ (k : Int) < ((b.length : Nat) : Int) := by omega
      have g3 : IntKind.u64.wrap (m * 2 ^ (8 : Int).toNat) = m * 256 := by
        have : (2 : Int) ^ (8 : Int).toNat = 256 := rfl
        rw [this]; exact wrap_u64 _ (by omega)
      have hgd : b.getD (k : Int).toNat 0 = c := by rw [Int.toNat_natCast, List.getD_eq_getElem?_getD, hc]; rfl
      have g4 : IntKind.u64.wrap (b.getD (k : Int).toNat 0) = c := by rw [hgd]; exact wrap_u64 _ (by omega)
      have g5 : bits .or .u64 (m * 256) c = c + 256 * m := or_byte m c hnr.1 (by omega) hcr.1 hcr.2
      have g6 : IntKind.i64.wrap ((k : Int) - 1) = (k : Int) - 1 := wrap_i64 _ (by omega)
      rw [e0] at g1 ⊢
      repeat' (first | (refine zX.is ?_; first | refine zX.seq ?_ | (refine zX.isR (id := 3) ?_; refine zX.zQ [0, 2, 3, 4, 9] [] (by repeat' first | exact zZ.nil | apply zZ.p rfl | apply zZ.skip) (by repeat' exact zW.nil) ?_; (refine zY.v rfl rfl (zV rfl rfl rfl (by decide)) ?_); (refine zY.v rfl rfl (by exact r_geq rfl rfl rfl (by exact g1) rfl (by decide)) ?_); refine zY.nil ?_) | (refine zX.isR (id := 5) ?_; refine zX.zQ [0, 2, 3, 4, 9] [] (by repeat' first | exact zZ.nil | apply zZ.p rfl | apply zZ.skip) (by repeat' exact zW.nil) ?_; (refine zY.v rfl rfl (zV rfl rfl rfl (by decide)) ?_); (refine zY.v rfl rfl (by exact a_shl rfl rfl rfl (by decide) (by decide) (by exact g3) rfl (by decide)) ?_); (refine zY.v rfl rfl (zV rfl rfl rfl (by decide)) ?_); (refine zY.v rfl rfl (zV rfl rfl rfl (by decide)) ?_); (refine zY.v rfl rfl (by exact w_indexB rfl rfl rfl (by exact g2) rfl (by decide)) ?_); (refine zY.v rfl rfl (zT rfl rfl rfl rfl (by decide)) ?_); (refine zY.v rfl rfl (by exact y9 rfl rfl (by exact g4) rfl (by decide)) ?_); (refine zY.v rfl rfl (by exact a_or rfl rfl rfl (by exact g5) rfl (by decide)) ?_); (refine zY.v rfl rfl (zK rfl rfl rfl (by decide)) ?_); refine zY.nil ?_) | (refine zX.isR (id := 4) ?_; refine zX.zQ [0, 2, 3, 4, 9] [] (by repeat' first | exact zZ.nil | apply zZ.p rfl | apply zZ.skip) (by repeat' exact zW.nil) ?_; (refine zY.v rfl rfl (zV rfl rfl rfl (by decide)) ?_); (refine zY.v rfl rfl (by exact a_sub rfl rfl rfl (by exact g6) rfl (by decide)) ?_); (refine zY.v rfl rfl (zK rfl rfl rfl (by decide)) ?_); refine zY.nil ?_) | refine zX.condY rfl (by assumption) ?_ | refine zX.skip ?_ | refine zX.block ?_) | refine zR.n ?_)
      all_goals
        refine ⟨k, ?_, by omega, by omega⟩
        try unfold numS
        rw [hd]
        refine zI (is := [0, 3, 4]) (js := []) ?_ ?_
        repeat' first | exact zZ.nil | apply zZ.p rfl | apply zZ.ptr rfl | apply zZ.own rfl | apply zZ.clo rfl | apply zZ.pt rfl | apply zZ.tup rfl | apply zZ.skip
        repeat' first | exact zW.nil | apply zW.boxP rfl rfl | apply zW.zM rfl | apply zW.some rfl | apply zW.skip
theorem bclone_fn (b : List Int) (h0 : b ≠ []) (hl : b.length ≤ 1000000) : Fn Tryd.prog 24 [.sl (byts b)] (.p (.sl (byts b))) := by
  have hne : byts b ≠ [] := fun e => h0 (by
    have := congrArg List.length e
    rw [byts_len] at this
    exact List.length_eq_zero_iff.1 this)
  refine fn_of2 Tryd.func24 rfl Tryd.ntmps24 (Nat.le_of_ble_eq_true rfl) ?_
  repeat' ((refine zX.is ?_; first | refine zX.seq ?_ | (refine zX.isR (id := 0) ?_; refine zX.zQ [0] [2, 5] (by repeat' first | exact zZ.nil | apply zZ.p rfl) (by repeat' first | exact zW.nil | apply zW.skip) ?_; (refine zY.v rfl rfl (zK rfl rfl rfl (by decide)) ?_); refine zY.nil ?_) | (refine zX.isR (id := 1) ?_; refine zX.zQ [0, 2] [2, 5] (by repeat' first | exact zZ.nil | apply zZ.p rfl) (by repeat' first | exact zW.nil | apply zW.skip) ?_; (refine zY.v rfl rfl (zV rfl rfl rfl (by decide)) ?_); (refine zY.v rfl rfl (by exact r_eqlNil rfl rfl rfl (by exact hne) (by exact bF (by decide)) rfl (by decide)) ?_); refine zY.nil ?_) | (refine zX.isR (id := 3) ?_; refine zX.zQ [0, 2] [2, 5] (by repeat' first | exact zZ.nil | apply zZ.p rfl) (by repeat' first | exact zW.nil | apply zW.skip) ?_; (refine zY.m rfl rfl (w_build0B rfl rfl (by decide)) ?_); (refine zY.v rfl rfl (zV rfl rfl rfl (by decide)) ?_); (refine zY.w rfl (by exact w_appB rfl rfl rfl rfl (by (simp only [List.length_append, List.length_cons, List.length_nil, *]; omega)) rfl rfl (by decide)) ?_); (refine zY.v rfl rfl (yO rfl rfl rfl (by decide)) ?_); refine zY.nil ?_) | refine zX.condN rfl (by with_reducible rfl) ?_ | refine zX.skip ?_ | refine zX.ret ?_))
  all_goals exact ⟨by first | exact .inl rfl | exact .inr rfl, _, sub_freezeB (d := 2) rfl rfl, .p rfl (.tmp rfl)⟩
end Go.Proofs.YteppicfkdcofjaaDoor
/- Functions that make variables, and hand them back to their callers. Generic over the program. -/
namespace Go.Proofs.YteppicfkdcofjaaDoor
set_option maxRecDepth 100000
set_option maxHeartbeats 16000000
open Go Go.RowKit
set_option linter.unusedSimpArgs false
set_option linter.unusedVariables false
/-- What function f does: of such arguments, and such variables of its callers'; it hands back new variables, numbered behind those. -/
def FnX (P : Program) (f : FuncId) (args : List AV) (B : List Blk) (x : AV) (B' New : List Blk) : Prop :=
  ∀ (M : Nat → Nat → Prop) (h : Home) (ρ : Nat → Value) (vs : List Value), Handed h B ρ → (∀ k, 1000 + B.length ≤ k → h.r k = none) → Sat M 0 h (asB B) ρ noAct h.w → vs.length = args.length →
    (∀ (i : Nat) x v, args[i]? = some x → vs[i]? = some v → zG (Mut M (asB B) ρ) ρ h.w x v) →
    Calls P f vs.toArray h.w fun e w' => ∃ ρ' v, e = .returned v ∧ Sat M 0 h (asB (B' ++ New)) ρ' noAct w' ∧ zG (Mut M (asB (B' ++ New)) ρ') ρ' w' x v
section
variable {M : Nat → Nat → Prop} {n : Nat} {w0 : Home} {w : World} {S : AS} {ρ : Nat → Value} {a : Act}
theorem Sat.dropU (h : Sat M n w0 S ρ a w) (id : Nat) (u : Value) (hr : w0.r id = none) : Sat M n w0 (S.drop id) (upd ρ id u) a w := by
  have hu : ∀ j, j ≠ id → upd ρ id u j = ρ j := fun j hj => by simp [upd, hj]
  have hm : ∀ k c, Mut M (S.drop id) (upd ρ id u) k c → Mut M S ρ k c := fun k c hk => by
    rcases hk with hk | ⟨j, b, hb, hk, ht⟩
    · exact .inl hk
    · rw [AS.yQ] at hb
      split at hb
      · cases hb
      · rename_i hne
        obtain ⟨b1, h1, rfl⟩ := Option.map_eq_some_iff.1 hb
        rw [hu j (fun e => hne e.symm)] at hk
        exact .inr ⟨j, b1, h1, hk, (Blk.turns_kill b1 id c).1 ht⟩
  have hk : ∀ {x : AV} {v : Value}, zG (Mut M S ρ) ρ w x v → zG (Mut M (S.drop id) (upd ρ id u)) (upd ρ id u) w (x.kill id) v := fun {x v} hx => (hx.killed id u).mono fun k c _ hk => hm k c hk
  refine ⟨h.below, h.out, h.tab, h.size, h.defers, fun i => ?_, fun j b hb => ?_, fun j b k hb hk => ?_, fun k v hv => ?_, h.free, fun i j bi bj k hi hj h1 h2 => ?_⟩
  · have e : (S.drop id).tmp i = (S.tmp i).kill id := S.tmp_kill id i
    rw [e]
    exact hk (h.tmps i)
  · rw [AS.yQ] at hb
    split at hb
    · cases hb
    · rename_i hne
      obtain ⟨b1, h1, rfl⟩ := Option.map_eq_some_iff.1 hb
      have := h.blks j b1 h1
      rw [hu j (fun e => hne e.symm)]
      cases b1 with
      | row t size m xs =>
        obtain ⟨ys, ho, hc⟩ := this
        exact ⟨ys, ho, (hc.killed id u).mono fun k c _ hk => hm k c hk⟩
      | prow t size m xs =>
        obtain ⟨ys, ho, hc⟩ := this
        exact ⟨ys, ho, (y7 xs id ▸ hc.killed id u : zD _ _ _ (xs.map AV.p) ys).mono fun k c _ hk => hm k c hk⟩
      | box t xs =>
        obtain ⟨g, ys, hv, hg, hh, hc⟩ := this
        exact ⟨g, ys, hv, hg, hh, (hc.killed id u).mono fun k c _ hk => hm k c hk⟩
      | lent t size m xs =>
        obtain ⟨ys, ho, hc⟩ := this
        exact ⟨ys, ho, (y7 xs id ▸ hc.killed id u : zD _ _ _ (xs.map AV.p) ys).mono fun k c _ hk => hm k c hk⟩
  · rw [AS.yQ] at hb
    split at hb
    · cases hb
    · rename_i hne
      obtain ⟨b1, h1, _⟩ := Option.map_eq_some_iff.1 hb
      rw [hu j (fun e => hne e.symm)] at hk
      exact h.mine j b1 k h1 hk
  · by_cases e : k = id
    · subst e
      rw [hr] at hv; cases hv
    · rw [hu k e]
      exact h.fix k v hv
  · rw [AS.yQ] at hi hj
    split at hi
    · cases hi
    · rename_i hi1
      split at hj
      · cases hj
      · rename_i hj1
        obtain ⟨b1, h3, _⟩ := Option.map_eq_some_iff.1 hi
        obtain ⟨b2, h4, _⟩ := Option.map_eq_some_iff.1 hj
        rw [hu i (fun e => hi1 e.symm)] at h1
        rw [hu j (fun e => hj1 e.symm)] at h2
        exact h.dist i j b1 b2 k h3 h4 h1 h2
theorem yX.monoW {M M' : Nat → Nat → Prop} {B : Nat} {ρ : Nat → Value} {w : World} {v : Value} {b : Blk} (h : yX M B ρ w v b) (hM : ∀ k c, k < w.heap.size → M' k c → M k c) : yX M' B ρ w v b := by
  cases b with
  | row t size m xs => obtain ⟨ys, ho, hc⟩ := h; exact ⟨ys, ho, hc.mono hM⟩
  | prow t size m xs => obtain ⟨ys, ho, hc⟩ := h; exact ⟨ys, ho, hc.mono hM⟩
  | lent t size m xs => obtain ⟨ys, ho, hc⟩ := h; exact ⟨ys, ho, hc.mono hM⟩
  | box t xs => obtain ⟨g, ys, hv, hg, hh, hc⟩ := h; exact ⟨g, ys, hv, hg, hh, hc.mono hM⟩
def AS.drops (S : AS) (ids : List Nat) : AS := ids.foldl AS.drop S
theorem Sat.drops : ∀ (ids : List Nat) {S : AS} {ρ : Nat → Value}, Sat M n w0 S ρ a w → (∀ j ∈ ids, w0.r j = none) → ∀ ρ', (∀ j, j ∉ ids → ρ' j = ρ j) → Sat M n w0 (S.drops ids) ρ' a w
  | [], S, ρ, h, _, ρ', e => by
    have : ρ' = ρ := funext fun j => e j (by simp)
    subst this
    exact h
  | id :: r, S, ρ, h, hr, ρ', e => by
    show Sat M n w0 ((S.drop id).drops r) ρ' a w
    refine Sat.drops r (h.dropU id (ρ' id) (hr id (by simp))) (fun j hj => hr j (by simp [hj])) ρ' fun j hj => ?_
    by_cases h1 : j = id
    · subst h1
      simp [upd]
    · rw [e j (by simp [h1, hj])]
      simp [upd, h1]
theorem drops_none : ∀ (ids : List Nat) {S : AS} {j : Nat}, S.blk j = none → (S.drops ids).blk j = none
  | [], _, _, h => h
  | id :: r, S, j, h => drops_none r (S := S.drop id) (by rw [AS.yQ, h]; simp)
theorem drops_blk : ∀ (ids : List Nat) {S : AS} {j : Nat}, j ∈ ids → (S.drops ids).blk j = none
  | id :: r, S, j, h => by
    show ((S.drop id).drops r).blk j = none
    by_cases h1 : id = j
    · exact drops_none r (by rw [AS.yQ, if_pos h1])
    · exact drops_blk r ((List.mem_cons.1 h).resolve_left fun e => h1 e.symm)
theorem drops_mut : ∀ (ids : List Nat) {S : AS} {k c : Nat}, Mut M (S.drops ids) ρ k c → Mut M S ρ k c
  | [], _, _, _, h => h
  | id :: r, S, k, c, h => Mut.drop (drops_mut r (S := S.drop id) h)
end
section
variable {P : Program} {n : Nat} {o : Oper} {S : AS} {d : Nat}
theorem call_new {f : FuncId} {xs : List AV} {ids nids : List Nat} {B B' New : List Blk} {rx : AV} (hf : FnX P f xs B rx B' New) (hh : Hands S ids B) (hB' : B'.length = B.length) (hnl : nids.length = New.length) (hnd : (ids ++ nids).Nodup)
    (hok' : (B' ++ New).all (Blk.okE (B' ++ New).length) = true) (hxs : xs.all (AV.okE B.length) = true) (hrx : rx.okE (B' ++ New).length = true) (hno : ∀ j ∈ nids, S.blk j = none)
    {M : Nat → Nat → Prop} {w0 : Home} {ρ : Nat → Value} {a : Act} {w : World} (hs : Sat M n w0 S ρ a w) (hfree : ∀ ρ', (∀ j, j ∉ nids → ρ' j = ρ j) → Sat M n w0 S ρ' a w) {vs : List Value} (hvl : vs.length = xs.length)
    (hvs : ∀ (i : Nat) x v, xs[i]? = some x → vs[i]? = some v → zG (Mut M S ρ) ρ w (x.ren (sig ids)) v) :
    Calls P f vs.toArray w fun e w' => ∃ ρ' v, e = .returned v ∧ Sat M n w0 (S.after (ids ++ nids) (B' ++ New)) ρ' a w' ∧ zG (Mut M (S.after (ids ++ nids) (B' ++ New)) ρ') ρ' w' (rx.ren (sig (ids ++ nids))) v := by
  have hlen := hh.len
  have hLL : (ids ++ nids).length = (B' ++ New).length := by simp [hlen, hB', hnl]
  have at_i : ∀ i, i < B.length → ∃ id b, ids[i]? = some id ∧ B[i]? = some b ∧ S.blk id = some (b.ren (sig ids)) ∧ sig ids (1000 + i) = id := fun i hi => by
    have h1 : ids[i]? = some (ids[i]'(by omega)) := List.getElem?_eq_getElem _
    have h2 : B[i]? = some B[i] := List.getElem?_eq_getElem _
    exact ⟨_, _, h1, h2, hh.at_ i _ _ h1 h2, sig_at h1⟩
  have box_i : ∀ i, i < B.length → ∃ g, ρ (sig ids (1000 + i)) = .pointer (some ⟨g, 0, none⟩) := fun i hi => by
    obtain ⟨id, b, h1, h2, h3, h4⟩ := at_i i hi
    have hb := hs.blks id _ h3
    have hbo := List.all_eq_true.1 hh.ok b (List.mem_of_getElem? h2)
    rw [h4]
    cases b with
    | box t cs =>
      obtain ⟨g, ys, hv, _⟩ := hb
      exact ⟨g, hv⟩
    | row t s m cs => cases hbo
    | prow t s m cs => cases hbo
    | lent t s m cs => cases hbo
  let T : Nat → Prop := fun k => ∃ i, i < B.length ∧ zC (ρ (sig ids (1000 + i))) = some k
  have T_mut : ∀ k c, T k → Mut M S ρ k c := fun k c ⟨i, hi, hk⟩ => by
    obtain ⟨id, b, h1, h2, h3, h4⟩ := at_i i hi
    rw [h4] at hk
    exact .inr ⟨id, _, h3, hk, (Blk.ren_turns c).2 (Blk.okE_turns (List.all_eq_true.1 hh.ok b (List.mem_of_getElem? h2)) c)⟩
  have T_has : ∀ k, T k → w0.has k := fun k ⟨i, hi, hk⟩ => by
    obtain ⟨id, b, h1, h2, h3, h4⟩ := at_i i hi
    rw [h4] at hk
    exact hs.mine id _ k h3 hk
  let M' : Nat → Nat → Prop := fun k c => Mut M S ρ k c ∧ ¬ T k
  let h : Home := ⟨w, T, hs.lays, (fun g hg ht => hs.tabs g 0 hg (T_mut g 0 ht)), fun k => if 1000 ≤ k ∧ k < 1000 + B.length then some (ρ (sig ids k)) else none, (fun k v hk => by
      by_cases hc : 1000 ≤ k ∧ k < 1000 + B.length
      · simp only [hc, and_self, if_true, Option.some.injEq] at hk
        obtain ⟨g, hg⟩ := box_i (k - 1000) (by omega)
        have e : 1000 + (k - 1000) = k := by omega
        rw [e] at hg
        exact ⟨g, by rw [← hk, hg]⟩
      · rw [if_neg hc] at hk; cases hk), (fun k hk => if_neg (by omega)), []⟩
  have hr_i : ∀ k, 1000 ≤ k → k < 1000 + B.length → h.r k = some (ρ (sig ids k)) := fun k h1 h2 => if_pos ⟨h1, h2⟩
  have mutc : ∀ k c, Mut M' (asB B) (fun k => ρ (sig ids k)) k c → Mut M S ρ k c := by
    rintro k c (hk | ⟨id, b, hb, hk, _⟩)
    · exact hk.1
    · obtain ⟨i, rfl, hbi⟩ := yD hb
      exact T_mut k c ⟨i, (List.getElem?_eq_some_iff.1 hbi).1, hk⟩
  have hsat : Sat M' 0 h (asB B) (fun k => ρ (sig ids k)) noAct h.w := by
    refine ⟨yV.refl h, fun k c hk hh2 => ?_, fun g c hg hk => ?_, rfl, rfl, fun i => .any _, fun id b hb => ?_, fun id b k hb hk => ?_, fun k v hk => ?_, fun k hk => by omega, fun i j bi bj k hi hj h1 h2 => ?_⟩
    · rcases hh2 with hh2 | hh2
      · exact absurd (Mut.lt hs hk.1) (Nat.not_lt.2 hh2)
      · exact hk.2 hh2
    · exact hs.tabs g c hg hk.1
    · obtain ⟨i, rfl, hbi⟩ := yD hb
      have hi : i < B.length := (List.getElem?_eq_some_iff.1 hbi).1
      obtain ⟨id, b2, h1, h2, h3, h4⟩ := at_i i hi
      rw [hbi] at h2
      obtain rfl := Option.some.inj h2
      have hbo := List.all_eq_true.1 hh.ok b (List.mem_of_getElem? hbi)
      have hb2 := hs.blks id _ h3
      cases b with
      | box t cs =>
        obtain ⟨g, ys, hv, hg, hhp, hc⟩ := hb2
        exact ⟨g, ys, by show ρ (sig ids (1000 + i)) = _; rw [h4]; exact hv, hg, hhp, zD.inn hc hbo fun k c _ hk => mutc k c hk⟩
      | row t s m cs => cases hbo
      | prow t s m cs => cases hbo
      | lent t s m cs => cases hbo
    · obtain ⟨i, rfl, hbi⟩ := yD hb
      exact .inr ⟨i, (List.getElem?_eq_some_iff.1 hbi).1, hk⟩
    · by_cases hc : 1000 ≤ k ∧ k < 1000 + B.length
      · rw [hr_i k hc.1 hc.2] at hk
        exact Option.some.inj hk
      · have : h.r k = none := if_neg hc
        rw [this] at hk; cases hk
    · obtain ⟨i', rfl, hbi⟩ := yD hi
      obtain ⟨j', rfl, hbj⟩ := yD hj
      obtain ⟨id, b1, p1, p2, p3, p4⟩ := at_i i' (List.getElem?_eq_some_iff.1 hbi).1
      obtain ⟨jd, b2, q1, q2, q3, q4⟩ := at_i j' (List.getElem?_eq_some_iff.1 hbj).1
      rw [p4] at h1
      rw [q4] at h2
      have e := hs.dist id jd _ _ k p3 q3 h1 h2
      subst e
      rw [nodup_inj hh.nodup p1 q1]
  have hcall := hf M' h _ vs ⟨fun i hi => hr_i _ (by omega) (by omega), fun k hk => hk⟩ (fun k hk => if_neg (by omega)) hsat hvl (fun i x v h1 h2 => zG.inn (hvs i x v h1 h2) (List.all_eq_true.1 hxs x (List.mem_of_getElem? h1)) fun k c _ hk => mutc k c hk)
  refine Calls.mono hcall ?_
  rintro e w' ⟨ρ2, v, rfl, hs2, hrep⟩
  have hρ1 : ∀ k, 1000 ≤ k → k < 1000 + B.length → ρ2 k = ρ (sig ids k) := fun k h1 h2 => hs2.fix k _ (hr_i k h1 h2)
  -- the names' values behind the call
  let ρ3 : Nat → Value := fun j => if j ∈ nids then ρ2 (1000 + (ids ++ nids).idxOf j) else ρ j
  have hs3 : Sat M n w0 S ρ3 a w := hfree ρ3 fun j hj => if_neg hj
  have idx_at : ∀ i j, (ids ++ nids)[i]? = some j → (ids ++ nids).idxOf j = i := fun i j hi => by
    have hm : j ∈ ids ++ nids := List.mem_of_getElem? hi
    have h1 : (ids ++ nids).idxOf j < (ids ++ nids).length := List.idxOf_lt_length_of_mem hm
    have h2 : (ids ++ nids)[(ids ++ nids).idxOf j]? = some j := by rw [List.getElem?_eq_getElem h1, List.getElem_idxOf h1]
    exact nodup_inj hnd h2 hi
  have old_not : ∀ j, j ∈ ids → j ∉ nids := fun j h1 h2 => (List.nodup_append.1 hnd).2.2 j h1 j h2 rfl
  have old3 : ∀ j, j ∈ ids → ρ3 j = ρ j := fun j hj => if_neg (old_not j hj)
  have hρ : ∀ k, 1000 ≤ k → k < 1000 + (B' ++ New).length → ρ2 k = ρ3 (sig (ids ++ nids) k) := fun k h1 h2 => by
    obtain ⟨i, rfl⟩ : ∃ i, k = 1000 + i := ⟨k - 1000, by omega⟩
    have hi : i < (ids ++ nids).length := by omega
    have hat : (ids ++ nids)[i]? = some (ids ++ nids)[i] := List.getElem?_eq_getElem hi
    rw [sig_at hat]
    by_cases hlt : i < ids.length
    · have e1 : (ids ++ nids)[i] = ids[i] := List.getElem_append_left hlt
      have e2 : ids[i]? = some ids[i] := List.getElem?_eq_getElem hlt
      rw [e1, old3 _ (List.getElem_mem _), hρ1 (1000 + i) (by omega) (by omega), sig_at e2]
    · have e1 : (ids ++ nids)[i] ∈ nids := by
        rw [List.getElem_append_right (by omega)]
        exact List.getElem_mem _
      show _ = if _ then _ else _
      rw [if_pos e1, idx_at i _ hat]
  have hblk : ∀ j, (S.after (ids ++ nids) (B' ++ New)).blk j = if j ∈ ids ++ nids then ((B' ++ New).map (Blk.ren (sig (ids ++ nids))))[(ids ++ nids).idxOf j]? else S.blk j := fun j => look_putBs _ _ S.s j (by rw [List.length_map]; exact hLL) hnd
  have mem_at : ∀ j, j ∈ ids ++ nids → ∃ i b, (ids ++ nids).idxOf j = i ∧ i < (B' ++ New).length ∧ (ids ++ nids)[i]? = some j ∧ (B' ++ New)[i]? = some b ∧ sig (ids ++ nids) (1000 + i) = j := fun j hj => by
    have h1 : (ids ++ nids).idxOf j < (ids ++ nids).length := List.idxOf_lt_length_of_mem hj
    have h2 : (ids ++ nids)[(ids ++ nids).idxOf j]? = some j := by rw [List.getElem?_eq_getElem h1, List.getElem_idxOf h1]
    have h3 : (ids ++ nids).idxOf j < (B' ++ New).length := by omega
    exact ⟨_, _, rfl, h3, h2, List.getElem?_eq_getElem h3, sig_at h2⟩
  have T_old : ∀ j k, j ∈ ids → zC (ρ j) = some k → T k := fun j k hj hk => by
    obtain ⟨i, hi, he⟩ := List.getElem_of_mem hj
    refine ⟨i, by omega, ?_⟩
    have : ids[i]? = some j := by rw [List.getElem?_eq_getElem hi, he]
    rw [sig_at this]; exact hk
  have new_ge : ∀ j k, j ∈ nids → zC (ρ3 j) = some k → w.heap.size ≤ k := fun j k hj hk => by
    obtain ⟨i, b, h1, h2, h3, h4, h5⟩ := mem_at j (List.mem_append_right _ hj)
    have e3 : ρ2 (1000 + i) = ρ3 j := by rw [hρ (1000 + i) (by omega) (by omega), h5]
    have hb : (asB (B' ++ New)).blk (1000 + i) = some b := by rw [asB_blk]; exact h4
    rcases hs2.mine (1000 + i) b k hb (by rw [e3]; exact hk) with h6 | ⟨i', h6, h7⟩
    · exact h6
    · have h8 : i' < (B' ++ New).length := by simp; omega
      have hb' : (asB (B' ++ New)).blk (1000 + i') = some (B' ++ New)[i'] := by rw [asB_blk]; exact List.getElem?_eq_getElem h8
      have e := hs2.dist _ _ _ _ k hb hb' (by rw [e3]; exact hk) (by rw [hρ1 (1000 + i') (by omega) (by omega)]; exact h7)
      have e' : i = i' := by omega
      subst e'
      have : (ids ++ nids)[i]? = ids[i]? := List.getElem?_append_left (by omega)
      rw [this] at h3
      exact absurd hj (old_not j (List.mem_of_getElem? h3))
  have mut3 : ∀ k c, Mut M (S.after (ids ++ nids) (B' ++ New)) ρ3 k c → Mut M' (asB (B' ++ New)) ρ2 k c := fun k c hk => by
    by_cases ht : T k
    · obtain ⟨i, hi, hk2⟩ := ht
      have h8 : i < (B' ++ New).length := by simp; omega
      refine .inr ⟨1000 + i, (B' ++ New)[i], by rw [asB_blk]; exact List.getElem?_eq_getElem h8, ?_, Blk.okE_turns (List.all_eq_true.1 hok' _ (List.getElem_mem _)) c⟩
      rw [hρ1 (1000 + i) (by omega) (by omega)]
      exact hk2
    · rcases hk with hk | ⟨j, b, hb, hk, htn⟩
      · exact .inl ⟨.inl hk, ht⟩
      · rw [hblk] at hb
        by_cases hj : j ∈ ids ++ nids
        · obtain ⟨i, b', h1, h2, h3, h4, h5⟩ := mem_at j hj
          refine .inr ⟨1000 + i, b', by rw [asB_blk]; exact h4, ?_, Blk.okE_turns (List.all_eq_true.1 hok' b' (List.mem_of_getElem? h4)) c⟩
          rw [hρ (1000 + i) (by omega) (by omega), h5]
          exact hk
        · rw [if_neg hj] at hb
          refine .inl ⟨.inr ⟨j, b, hb, ?_, htn⟩, ht⟩
          have : ρ3 j = ρ j := if_neg fun h => hj (List.mem_append_right _ h)
          rw [← this]; exact hk
  have mut1 : ∀ k c, k < w.heap.size → Mut M (S.after (ids ++ nids) (B' ++ New)) ρ3 k c → Mut M S ρ3 k c := by
    rintro k c hlt (hk | ⟨j, b, hb, hk, ht⟩)
    · exact .inl hk
    · rw [hblk] at hb
      by_cases hj : j ∈ ids ++ nids
      · rcases List.mem_append.1 hj with hj | hj
        · rw [old3 j hj] at hk
          obtain ⟨i, hi, he⟩ := List.getElem_of_mem hj
          obtain ⟨id, b0, h1, h2, h3, h4⟩ := at_i i (by omega)
          have : ids[i]? = some j := by rw [List.getElem?_eq_getElem hi, he]
          rw [this] at h1
          obtain rfl := Option.some.inj h1
          exact .inr ⟨j, _, h3, by rw [old3 j hj]; exact hk, (Blk.ren_turns c).2 (Blk.okE_turns (List.all_eq_true.1 hh.ok b0 (List.mem_of_getElem? h2)) c)⟩
        · have := new_ge j k hj hk
          omega
      · rw [if_neg hj] at hb
        exact .inr ⟨j, b, hb, hk, ht⟩
  have mutS : ∀ k c, Mut M S ρ3 k c ↔ Mut M S ρ k c := fun k c => by
    constructor
    all_goals
      rintro (hk | ⟨j, b, hb, hk, ht⟩)
      · exact .inl hk
      · have hj : j ∉ nids := fun h => by rw [hno j h] at hb; cases hb
        have e : ρ3 j = ρ j := if_neg hj
        exact .inr ⟨j, b, hb, by first | rw [← e]; exact hk | rw [e]; exact hk, ht⟩
  have grow : Keeps (Mut M S ρ3) w w' := ⟨hs2.below.size, fun k c hk hnm => World.cell?_of_block (w := w) (hs2.below.block k hk (fun ht => hnm ((mutS k c).2 (T_mut k c ht))))⟩
  refine ⟨ρ3, v, rfl, ?_, zG.outw hrep hrx (fun k c _ hk => mut3 k c hk) hρ⟩
  refine ⟨⟨hs2.below.os.trans hs.below.os, hs2.below.tape.trans hs.below.tape, hs2.below.output.trans hs.below.output, Nat.le_trans hs.below.size hs2.below.size, fun k hk ht => ?_⟩, hs.out, hs.tab, hs.size, hs.defers, fun i => ?_, fun j b hb => ?_, fun j b k hb hk => ?_, hs3.fix, hs.free, fun i j bi bj k hi hj h1 h2 => ?_⟩
  · refine (hs2.below.block k (Nat.lt_of_lt_of_le hk hs.below.size) (fun hT => ?_)).trans (hs.below.block k hk ht)
    rcases T_has k hT with h1 | h1
    · omega
    · exact ht h1
  · exact ((hs3.tmps i).mono (M' := Mut M (S.after (ids ++ nids) (B' ++ New)) ρ3) mut1).keep ⟨hs2.below.size, fun k c hk hnm => World.cell?_of_block (w := w) (hs2.below.block k hk (fun ht => hnm (by
      obtain ⟨i, hi, hk2⟩ := ht
      obtain ⟨id, b0, h1, h2, h3, h4⟩ := at_i i hi
      rw [h4] at hk2
      have hm : id ∈ ids := List.mem_of_getElem? h1
      obtain ⟨i2, b2, q1, q2, q3, q4, q5⟩ := mem_at id (List.mem_append_left _ hm)
      refine .inr ⟨id, b2.ren (sig (ids ++ nids)), ?_, by rw [old3 id hm]; exact hk2, (Blk.ren_turns c).2 (Blk.okE_turns (List.all_eq_true.1 hok' b2 (List.mem_of_getElem? q4)) c)⟩
      rw [hblk, if_pos (List.mem_append_left _ hm), q1, List.getElem?_map, q4]; rfl)))⟩
  · rw [hblk] at hb
    by_cases hj : j ∈ ids ++ nids
    · obtain ⟨i, b', h1, hi, h2, h4, h6⟩ := mem_at j hj
      rw [if_pos hj, h1, List.getElem?_map, h4] at hb
      obtain rfl := Option.some.inj hb
      have hb2 := hs2.blks (1000 + i) b' (by rw [asB_blk]; exact h4)
      have hbo := List.all_eq_true.1 hok' b' (List.mem_of_getElem? h4)
      cases b' with
      | box t cs =>
        obtain ⟨g, ys, hv, hg, hhp, hc⟩ := hb2
        rw [hρ (1000 + i) (by omega) (by omega), h6] at hv
        exact ⟨g, ys, hv, hg, hhp, zD.outw hc hbo (fun k c _ hk => mut3 k c hk) hρ⟩
      | row t s m cs => cases hbo
      | prow t s m cs => cases hbo
      | lent t s m cs => cases hbo
    · rw [if_neg hj] at hb
      have hjn : j ∉ nids := fun h => hj (List.mem_append_right _ h)
      have e3 : ρ3 j = ρ j := if_neg hjn
      have hlt : ∀ k, zC (ρ3 j) = some k → k < w.heap.size := fun k hk => Mut.blk_lt hs3 hb hk
      have hb3 := (hs3.blks j b hb).monoW (M' := Mut M (S.after (ids ++ nids) (B' ++ New)) ρ3) mut1
      refine yX.keep hb3 (fun k hk => ?_) ⟨hs2.below.size, fun k c hk hnm => World.cell?_of_block (w := w) (hs2.below.block k hk (fun ht => hnm (by
        obtain ⟨i, hi, hk2⟩ := ht
        obtain ⟨id, b0, h1, h2, h3, h4⟩ := at_i i hi
        rw [h4] at hk2
        have hm : id ∈ ids := List.mem_of_getElem? h1
        obtain ⟨i2, b2, q1, q2, q3, q4, q5⟩ := mem_at id (List.mem_append_left _ hm)
        refine .inr ⟨id, b2.ren (sig (ids ++ nids)), ?_, by rw [old3 id hm]; exact hk2, (Blk.ren_turns c).2 (Blk.okE_turns (List.all_eq_true.1 hok' b2 (List.mem_of_getElem? q4)) c)⟩
        rw [hblk, if_pos (List.mem_append_left _ hm), q1, List.getElem?_map, q4]; rfl)))⟩ (fun k c _ hk => hk)
      refine hs2.below.block k (hlt k hk) (fun ⟨i, hi, hk2⟩ => ?_)
      obtain ⟨id, b2, p1, p2, p3, p4⟩ := at_i i hi
      rw [p4] at hk2
      rw [e3] at hk
      have := hs.dist j id _ _ k hb p3 hk hk2
      subst this
      exact hj (List.mem_append_left _ (List.mem_of_getElem? p1))
  · rw [hblk] at hb
    by_cases hj : j ∈ ids ++ nids
    · rcases List.mem_append.1 hj with hj2 | hj2
      · rw [old3 j hj2] at hk
        exact T_has k (T_old j k hj2 hk)
      · exact .inl (Nat.le_trans hs.below.size (new_ge j k hj2 hk))
    · rw [if_neg hj] at hb
      exact hs3.mine j b k hb hk
  · rw [hblk] at hi hj
    by_cases hi2 : i ∈ ids ++ nids
    · obtain ⟨ii, bI, p1, p2, p3, p4, p5⟩ := mem_at i hi2
      have eI : ρ2 (1000 + ii) = ρ3 i := by rw [hρ (1000 + ii) (by omega) (by omega), p5]
      by_cases hj2 : j ∈ ids ++ nids
      · obtain ⟨jj, bJ, q1, q2, q3, q4, q5⟩ := mem_at j hj2
        have eJ : ρ2 (1000 + jj) = ρ3 j := by rw [hρ (1000 + jj) (by omega) (by omega), q5]
        have e := hs2.dist (1000 + ii) (1000 + jj) bI bJ k (by rw [asB_blk]; exact p4) (by rw [asB_blk]; exact q4) (by rw [eI]; exact h1) (by rw [eJ]; exact h2)
        have e' : ii = jj := by omega
        subst e'
        rw [p3] at q3
        exact Option.some.inj q3
      · rw [if_neg hj2] at hj
        have hlt := Mut.blk_lt hs3 hj h2
        rcases List.mem_append.1 hi2 with hi3 | hi3
        · rw [old3 i hi3] at h1
          obtain ⟨i', h6, h7⟩ := T_old i k hi3 h1
          obtain ⟨id, b0, r1, r2, r3, r4⟩ := at_i i' h6
          have e3 : ρ3 j = ρ j := if_neg fun h => hj2 (List.mem_append_right _ h)
          rw [r4] at h7
          rw [e3] at h2
          have e := hs.dist id j _ _ k r3 hj h7 h2
          subst e
          exact absurd (List.mem_append_left _ (List.mem_of_getElem? r1)) hj2
        · have := new_ge i k hi3 h1
          omega
    · rw [if_neg hi2] at hi
      have hlt := Mut.blk_lt hs3 hi h1
      by_cases hj2 : j ∈ ids ++ nids
      · rcases List.mem_append.1 hj2 with hj3 | hj3
        · rw [old3 j hj3] at h2
          obtain ⟨i', h6, h7⟩ := T_old j k hj3 h2
          obtain ⟨id, b0, r1, r2, r3, r4⟩ := at_i i' h6
          have e3 : ρ3 i = ρ i := if_neg fun h => hi2 (List.mem_append_right _ h)
          rw [r4] at h7
          rw [e3] at h1
          have e := hs.dist id i _ _ k r3 hi h7 h1
          subst e
          exact absurd (List.mem_append_left _ (List.mem_of_getElem? r1)) hi2
        · have := new_ge j k hj3 h2
          omega
      · rw [if_neg hj2] at hj
        exact hs3.dist i j bi bj k hi hj h1 h2
/-- A call by a contract, that comes back with new variables. -/
theorem TStep.eNew {f : FuncId} {avs xs : List AV} {B B' New : List Blk} {rx : AV} {K : Exit → AS → Prop} {N : AS → Prop} (ids nids : List Nat) (hf : FnX P f xs B rx B' New) (hd : o.dst = some d) (hn : d < n) (he : Enters P o S f avs) (hx : avs = xs.map (AV.ren (sig ids))) (hh : Hands (S.drops nids) ids B) (hlo : nids.all (fun k => decide (k < 1000)) = true)
    (hB' : B'.length = B.length) (hnl : nids.length = New.length) (hnd : (ids ++ nids).Nodup) (hok' : (B' ++ New).all (Blk.okE (B' ++ New).length) = true) (hxs : xs.all (AV.okE B.length) = true) (hrx : rx.okE (B' ++ New).length = true)
    (hr : N (((S.drops nids).after (ids ++ nids) (B' ++ New)).put d (rx.ren (sig (ids ++ nids))))) : TStep P n o S K N := by
  intro M w0 ρ a w KK Q hs hK _
  obtain ⟨vs, he1, he2, he3⟩ := he M n w0 ρ a w hs
  unfold Oper.wp
  rw [he1, Oper.upon_enter]
  have hlo' : ∀ j ∈ nids, w0.r j = none := fun j hj => w0.lo j (by simpa using List.all_eq_true.1 hlo j hj)
  have hall := Sat.drops nids hs hlo'
  refine Calls.mono (call_new hf hh hB' hnl hnd hok' hxs hrx (fun j hj => drops_blk nids hj) (hall ρ fun _ _ => rfl) hall (by rw [he2, hx, List.length_map]) fun i x v h1 h2 => ?_) ?_
  · exact (reps_ren hx he3 i x v h1 h2).mono fun k c _ hk => drops_mut nids hk
  · rintro e w' ⟨ρ', v, rfl, hs', hv⟩
    show KK (a.put o.dst v) w'
    rw [hd]
    exact hK _ ρ' _ w' hr (hs'.put hn hv)
theorem fn_ofX {f : FuncId} {fn : Func} {c : Code} {args : List AV} {B B' New : List Blk} {x : AV} (IDS : List Nat) (hf : P.funcs[f]? = some fn) (hb : fn.body = some c) (hn : fn.ntmps = n) (hle : args.length ≤ n) (h1000 : n ≤ 1000) (hids : IDS.take B.length = (List.range B.length).map (1000 + ·)) (hrx : x.okE (B' ++ New).length = true)
    (h : zX P n c { t := zipA 0 args, s := numB 1000 B } (fun e S => (e = .ret ∨ e = .normal) ∧ ∃ S', Sub S S' ∧ GivesA P fn S' (x.ren (sig IDS)) ∧ Hands S' IDS (B' ++ New))) : FnX P f args B x B' New := by
  intro M hh ρ vs hand hnone hs0 hvl hvs
  refine calls_of_wp hf hb ?_
  have hsat : Sat M n hh { t := zipA 0 args, s := numB 1000 B } ρ { tmps := vs.toArray ++ Array.replicate (fn.ntmps - vs.toArray.size) undef, defers := [] } hh.w := by
    refine ⟨hs0.below, hs0.out, hs0.tab, by simp; omega, hs0.defers, fun i => ?_, hs0.blks, hs0.mine, hs0.fix, fun k hk => hh.lo k (by omega), hs0.dist⟩
    show zG _ _ _ ((look (zipA 0 args) i).getD .any) _
    rw [look_zipA]
    simp only [Nat.zero_le, if_true, Nat.sub_zero]
    cases hx : args[i]? with
    | none => exact .any _
    | some x =>
      have hi : i < vs.length := by rw [hvl]; exact (List.getElem?_eq_some_iff.1 hx).1
      have e : ({ tmps := vs.toArray ++ Array.replicate (fn.ntmps - vs.toArray.size) undef, defers := [] } : Act).tmps.getD i undef = vs[i] := by
        simp [Array.getD_eq_getD_getElem?, Array.getElem?_append, hi]
      rw [e]
      exact hvs i x vs[i] hx (List.getElem?_eq_getElem hi)
  refine h M hh ρ _ hh.w _ hsat ?_
  rintro e S0 ρ0 a' w' ⟨he, S', hsub, hg, hH⟩ hs1 hx
  obtain ⟨ρ', hs'⟩ := hsub M n hh ρ0 a' w' hs1
  have at_i : ∀ i b, (B' ++ New)[i]? = some b → ∃ id, IDS[i]? = some id ∧ S'.blk id = some (b.ren (sig IDS)) ∧ sig IDS (1000 + i) = id := fun i b hb => by
    have hi : i < IDS.length := by rw [hH.len]; exact (List.getElem?_eq_some_iff.1 hb).1
    have h1 : IDS[i]? = some IDS[i] := List.getElem?_eq_getElem hi
    exact ⟨_, h1, hH.at_ i _ b h1 hb, sig_at h1⟩
  have low : ∀ i, i < B.length → sig IDS (1000 + i) = 1000 + i := fun i hi => by
    have h1 : (IDS.take B.length)[i]? = some (1000 + i) := by rw [hids, List.getElem?_map, List.getElem?_range hi]; rfl
    rw [List.getElem?_take, if_pos hi] at h1
    exact sig_at h1
  have mutc : ∀ k c, Mut M (asB (B' ++ New)) (fun k => ρ' (sig IDS k)) k c → Mut M S' ρ' k c := by
    rintro k c (hk | ⟨id, b, hb, hk, ht⟩)
    · exact .inl hk
    · obtain ⟨i, rfl, hbi⟩ := yD hb
      obtain ⟨id, h1, h2, h3⟩ := at_i i b hbi
      exact .inr ⟨id, _, h2, by rw [← h3]; exact hk, (Blk.ren_turns c).2 ht⟩
  have hfin : Sat M 0 hh (asB (B' ++ New)) (fun k => ρ' (sig IDS k)) noAct w' := by
    refine ⟨hs'.below, hs'.out, hs'.tab, rfl, hs0.defers, fun i => .any _, fun id b hb => ?_, fun id b k hb hk => ?_, fun k v hk => ?_, fun k hk => by omega, fun i j bi bj k hi hj h1 h2 => ?_⟩
    · obtain ⟨i, rfl, hbi⟩ := yD hb
      obtain ⟨id, h1, h2, h3⟩ := at_i i b hbi
      have hbo := List.all_eq_true.1 hH.ok b (List.mem_of_getElem? hbi)
      have hb2 := hs'.blks id _ h2
      cases b with
      | box t cs =>
        obtain ⟨g, ys, hv, hg, hhp, hc⟩ := hb2
        exact ⟨g, ys, by show ρ' (sig IDS (1000 + i)) = _; rw [h3]; exact hv, hg, hhp, zD.inn hc hbo fun k c _ hk => mutc k c hk⟩
      | row t s m cs => cases hbo
      | prow t s m cs => cases hbo
      | lent t s m cs => cases hbo
    · obtain ⟨i, rfl, hbi⟩ := yD hb
      obtain ⟨id, h1, h2, h3⟩ := at_i i b hbi
      exact hs'.mine id _ k h2 (by rw [← h3]; exact hk)
    · rcases Nat.lt_or_ge k 1000 with h1 | h1
      · rw [hh.lo k h1] at hk; cases hk
      · rcases Nat.lt_or_ge k (1000 + B.length) with h2 | h2
        · have e := low (k - 1000) (by omega)
          have e2 : 1000 + (k - 1000) = k := by omega
          rw [e2] at e
          show ρ' (sig IDS k) = v
          rw [e]
          exact hs'.fix k v hk
        · rw [hnone k h2] at hk; cases hk
    · obtain ⟨i', rfl, hbi⟩ := yD hi
      obtain ⟨j', rfl, hbj⟩ := yD hj
      obtain ⟨id, p1, p2, p3⟩ := at_i i' bi hbi
      obtain ⟨jd, q1, q2, q3⟩ := at_i j' bj hbj
      have e := hs'.dist id jd _ _ k p2 q2 (by rw [← p3]; exact h1) (by rw [← q3]; exact h2)
      subst e
      rw [nodup_inj hH.nodup p1 q1]
  have fin : a'.defers = [] ∧ ∃ v, (results fn a'.tmps).run P w' = .ok v w' ∧ (∃ ρ' v2, Ending.returned v = .returned v2 ∧ Sat M 0 hh (asB (B' ++ New)) ρ' noAct w' ∧ zG (Mut M (asB (B' ++ New)) ρ') ρ' w' x v2) := by
    refine ⟨hs'.defers.trans hs0.defers.symm, ?_⟩
    generalize hy : x.ren (sig IDS) = y at hg
    cases hg with
    | none hr => exact ⟨_, results_none hr _ _ _, _, _, rfl, hfin, zG.inn (ids := IDS) (ρ := ρ') (M := Mut M S' ρ') (by rw [hy]; exact .any _) hrx fun k c _ hk => mutc k c hk⟩
    | one hr ht =>
      refine ⟨_, results_tmp hr _ _ _, _, _, rfl, hfin, zG.inn (ids := IDS) (ρ := ρ') (M := Mut M S' ρ') ?_ hrx fun k c _ hk => mutc k c hk⟩
      rw [hy, ← ht]
      exact hs'.tmps _
    | p hr hx =>
      obtain ⟨v, g1, g2⟩ := res_oneM hs' hx
      have g3 := results_run (P := P) (w := w') fn a'.tmps (rs := [_]) (vs := [v]) hr (by simp only [List.mapM_cons, List.mapM_nil, Sem.run_bind, Sem.run_pure, g1, Result.andThen_ok])
      exact ⟨v, g3, _, _, rfl, hfin, zG.inn (ids := IDS) (ρ := ρ') (M := Mut M S' ρ') (by rw [hy]; exact .p g2) hrx fun k c _ hk => mutc k c hk⟩
    | tup hr hl hx =>
      obtain ⟨us, g1, g2, g4, g3⟩ := res_allM hs' hx
      have g5 := results_run (P := P) (w := w') fn a'.tmps hr g1
      rw [dif_neg (by simp only [List.size_toArray]; omega)] at g5
      refine ⟨_, g5, _, _, rfl, hfin, zG.inn (ids := IDS) (ρ := ρ') (M := Mut M S' ρ') ?_ hrx fun k c _ hk => mutc k c hk⟩
      rw [hy]
      refine .tup _ us (by simpa using g2) fun i c v hc hv => ?_
      rw [List.getElem?_map, Option.map_eq_some_iff] at hc
      obtain ⟨y, hy, rfl⟩ := hc
      exact .p (g3 i y v hy hv)
  cases e with
  | ret => exact fin
  | normal => exact fin
  | exit id => rcases he with h | h <;> cases h
  | goto l => rcases he with h | h <;> cases h
  | panic c => rcases he with h | h <;> cases h
  | outgrown => rcases he with h | h <;> cases h
end
end Go.Proofs.YteppicfkdcofjaaDoor
/- Rounds of a range over a function: code in a round; a frame that sleeps while others run. Generic over the program. -/
namespace Go.Proofs.YteppicfkdcofjaaDoor
set_option maxRecDepth 100000
set_option maxHeartbeats 16000000
open Go Go.RowKit
set_option linter.unusedSimpArgs false
set_option linter.unusedVariables false
section
variable {P : Program} {n : Nat} {S : AS}
/-- the wide fence, at a frame of a round or of none -/
def wideF (r : Option Nat) : Fence := { Fence.wide with round := r }
theorem sem_at (r : Option Nat) (ρ : Operand → Value) (o : Oper) (h : ∀ c, o.op ≠ .defer c) : o.semAt r ρ = execOp ρ o := by
  cases r with
  | none => rfl
  | some l => exact Oper.semAt_some l ρ o h
/-- An operation that is no defer statement is carried out in a round as everywhere. -/
theorem wp_in {o : Oper} {a : Act} {w : World} {next next' : Act → World → Prop} {Q Q' : Exit → Act → World → Prop} (r : Option Nat) (hd : ∀ c, o.op ≠ .defer c) (hn : ∀ a w, next a w → next' a w) (hq : ∀ e a w, e ≠ .normal → Q e a w → Q' e a w) (h : o.wp P a w next Q) : o.wpIn (wideF r) 0 P a w next' Q' := by
  refine ⟨fun _ _ => trivial, ?_⟩
  show o.uponIn _ 0 P a next' Q' ((o.semAt r a.eval).run P w)
  rw [sem_at r a.eval o hd]
  unfold Oper.wp at h
  revert h
  cases (execOp a.eval o).run P w with
  | ok x w' =>
    cases x with
    | value v => exact fun h => hn _ _ h
    | skip => exact fun h => hn _ _ h
    | defer d => exact fun h => hn _ _ h
    | enter f args =>
      intro h
      have h1 : CallsIn (wideF r) 0 P f args w' _ := callsIn_wide.2 h
      refine ⟨fun h => (by cases h), h1.mono fun e w'' he => ?_⟩
      cases e with
      | returned v => exact hn _ _ he
      | panicked chain => exact hq _ _ _ (by simp) he
      | outgrown =>
        obtain ⟨a0, w0, h0⟩ := he
        exact ⟨a0, w0, hq _ _ _ (by simp) h0⟩
    | row row args =>
      intro h
      refine ⟨fun h => (by cases h), fun c cs _ => ?_⟩
      obtain ⟨v, w'', h1, h2⟩ := h c cs
      exact ⟨v, w'', hn _ _ h1, stepsIn_wide.2 h2⟩
    | _ => exact fun h => h.elim
  | halt s w' =>
    cases s with
    | panic v => exact fun h => hq _ _ _ (by simp) h
    | _ => exact fun h => h.elim
/-- operations, and others behind them -/
theorem wpList_app {ops : Array Oper} {Q Q' : Exit → Act → World → Prop} {l2 : List Oper} (r : Option Nat) (hq : ∀ a w, ¬ Q .outgrown a w) (hqq : ∀ e a w, e ≠ .normal → Q e a w → Q' e a w) (h2 : ∀ a w, Q .normal a w → wpListIn (wideF r) 0 P ops Q' l2 a w) :
    ∀ {l1 : List Oper} {a : Act} {w : World}, (∀ o ∈ l1, ∀ c, o.op ≠ .defer c) → wpList P ops Q l1 a w → wpListIn (wideF r) 0 P ops Q' (l1 ++ l2) a w
  | [], a, w, _, h => h2 a w h
  | o :: rest, a, w, hd, h => by
    unfold wpList at h
    show wpListIn _ _ _ _ _ (o :: (rest ++ l2)) a w
    unfold wpListIn
    by_cases hw : Region.wanted o (yielded ops a.tmps) = true
    · rw [if_pos hw] at h ⊢
      rcases h with h | ⟨_, a', w', h⟩
      · exact wp_in r (hd o (by simp)) (fun a w h => wpList_app r hq hqq h2 (fun o ho => hd o (by simp [ho])) h) hqq h
      · exact absurd h (hq a' w')
    · rw [if_neg hw] at h ⊢
      exact ⟨fun _ _ => trivial, wpList_app r hq hqq h2 (fun o ho => hd o (by simp [ho])) h⟩
theorem wpList_in {ops : Array Oper} {Q : Exit → Act → World → Prop} (r : Option Nat) (hq : ∀ a w, ¬ Q .outgrown a w) {rest : List Oper} {a : Act} {w : World} (hd : ∀ o ∈ rest, ∀ c, o.op ≠ .defer c) (h : wpList P ops Q rest a w) : wpListIn (wideF r) 0 P ops Q rest a w := by
  have := wpList_app (l2 := []) r hq (fun _ _ _ _ h => h) (fun a w h => h) hd h
  rwa [List.append_nil] at this
/-- Code in a round of loop l. -/
def z8 (l : Nat) (P : Program) (n : Nat) (c : Code) (S : AS) (K : Exit → AS → Prop) : Prop :=
  (∀ S, ¬ K .outgrown S) → ∀ (M : Nat → Nat → Prop) (w0 : Home) (ρ : Nat → Value) (a : Act) (w : World) (Q : Exit → Act → World → Prop),
    Sat M n w0 S ρ a w → (∀ e S' ρ' a' w', K (bare e) S' → Sat M n w0 S' ρ' a' w' → ExOK M S' ρ' w' e → Q e a' w') → c.wpIn (Fence.wide.inRound l) 0 P Q a w
def noDefer (l : List Oper) : Bool := l.all fun o => match o.op with
  | .defer _ => false
  | _ => true
theorem noDefer_of {l : List Oper} (h : noDefer l = true) : ∀ o ∈ l, ∀ c, o.op ≠ .defer c := fun o ho c e => by
  have := List.all_eq_true.1 h o ho
  rw [e] at this
  cases this
theorem z8.region {r id : Nat} {l : List Oper} {K : Exit → AS → Prop} (hd : noDefer l = true) (h : zY P n l.toArray l S K) : z8 r P n (.region id l.toArray false) S K := by
  intro h0 M w0 ρ a w Q hs hK
  have h1 := h M w0 ρ a w (fun e a' w' => e ≠ .outgrown ∧ Q e a' w') hs fun e S' ρ' a' w' hk hs' hx => ⟨fun e1 => by subst e1; exact h0 _ hk, hK e S' ρ' a' w' hk hs' hx⟩
  have h2 : wpListIn (Fence.wide.inRound r) 0 P _ _ _ _ _ := wpList_in (some r) (fun a w h => h.1 rfl) (noDefer_of hd) h1
  exact wpIn_mono (wpIn_region_lit h2) fun e a w h => h.2
theorem z8.sub {r : Nat} {S' : AS} {c : Code} {K : Exit → AS → Prop} (hs : Sub S S') (h : z8 r P n c S' K) : z8 r P n c S K := fun h0 M w0 ρ a w Q h1 hK => by
  obtain ⟨ρ', h2⟩ := hs M n w0 ρ a w h1
  exact h h0 M w0 ρ' a w Q h2 hK
theorem z8.skip {r : Nat} {K : Exit → AS → Prop} (h : K .normal S) : z8 r P n .skip S K := fun _ _ _ ρ a w _ hs hK => wpIn_skip (hK _ S ρ a w h hs trivial)
theorem z8.ret {r : Nat} {K : Exit → AS → Prop} (h : K .ret S) : z8 r P n .ret S K := fun _ _ _ ρ a w _ hs hK => wpIn_ret (hK _ S ρ a w h hs trivial)
theorem z8.exit {r id : Nat} {K : Exit → AS → Prop} (h : K (.exit id) S) : z8 r P n (.exit id) S K := fun _ _ _ ρ a w _ hs hK => wpIn_exit (hK _ S ρ a w h hs trivial)
theorem z8.seq {r : Nat} {x y : Code} {K : Exit → AS → Prop} (h : z8 r P n x S (zR (fun S' => z8 r P n y S' K) K)) : z8 r P n (.seq x y) S K :=
  fun h0 M w0 ρ a w Q hs hK => wpIn_seq (h h0 M w0 ρ a w _ hs fun e S' ρ' a' w' hk hs' hx => by
    cases e with
    | normal => exact hk h0 M w0 ρ' a' w' Q hs' hK
    | exit id => exact hK (.exit id) S' ρ' a' w' hk hs' hx
    | goto l => exact hK (.goto l) S' ρ' a' w' hk hs' hx
    | ret => exact hK .ret S' ρ' a' w' hk hs' hx
    | panic c => exact hK (.panic c) S' ρ' a' w' hk hs' hx
    | outgrown => exact hK .outgrown S' ρ' a' w' hk hs' hx)
theorem z8.cond {r : Nat} {c : Operand} {x y : Code} {K : Exit → AS → Prop} {b : Bool} (hc : S.get c = .p (.val (.bool b))) (ht : b = true → z8 r P n x S K) (hf : b = false → z8 r P n y S K) : z8 r P n (.cond c x y) S K :=
  fun h0 M w0 ρ a w Q hs hK => wpIn_cond_split (hs.val hc) (fun h => ht h h0 M w0 ρ a w Q hs hK) (fun h => hf h h0 M w0 ρ a w Q hs hK)
theorem z8.block {r id : Nat} {c : Code} {K : Exit → AS → Prop} (h : z8 r P n c S (blockK id K)) : z8 r P n (.block id c) S K :=
  fun h0 M w0 ρ a w Q hs hK => wpIn_block (h h0 M w0 ρ a w _ hs fun e S' ρ' a' w' hk hs' hx => by
    cases e with
    | exit id' =>
      show if id' = id then Q .normal a' w' else Q (.exit id') a' w'
      have hk' : if id' = id then K .normal S' else K (.exit id') S' := hk
      by_cases h1 : id' = id
      · rw [if_pos h1] at hk' ⊢; exact hK _ _ ρ' a' w' hk' hs' hx
      · rw [if_neg h1] at hk' ⊢; exact hK _ _ ρ' a' w' hk' hs' hx
    | normal => exact hK .normal S' ρ' a' w' hk hs' hx
    | goto l => exact hK (.goto l) S' ρ' a' w' hk hs' hx
    | ret => exact hK .ret S' ρ' a' w' hk hs' hx
    | panic c => exact hK (.panic c) S' ρ' a' w' hk hs' hx
    | outgrown => exact hK .outgrown S' ρ' a' w' hk hs' hx)
/-! ### A frame that sleeps -/
/-- a frame's own blocks -/
def xK (S : AS) (ρ : Nat → Value) (k : Nat) : Prop := ∃ id b, S.blk id = some b ∧ zC (ρ id) = some k
/-- at home anew: in the world as it is; its own blocks are handed over to it -/
def Home.anew (h : Home) (w : World) (T : Nat → Prop) (hl : Lays w) (ht : ∀ g, Tabs g → ¬ T g) : Home := ⟨w, T, hl, ht, h.r, h.ptr, h.lo, h.d⟩
theorem Lays.keep {w w' : World} (h : Lays w) (hs : w.heap.size ≤ w'.heap.size) (hb : ∀ g, Tabs g → w'.heap[g]? = w.heap[g]?) : Lays w' := fun g xs hg => by
  obtain ⟨h1, h2⟩ := h g xs hg
  exact ⟨Nat.lt_of_lt_of_le h1 hs, fun j p hp => by rw [World.cell?_of_block (w := w) (hb g ⟨xs, hg⟩)]; exact h2 j p hp⟩
/-- While a frame sleeps others have turned blocks Z, that it may not read, and have made new ones, of which they may turn N again. -/
theorem Sat.switch {M : Nat → Nat → Prop} {h : Home} {ρ : Nat → Value} {a : Act} {w w' : World} (hs : Sat M n h S ρ a w) (Z N : Nat → Prop) (hsz : w.heap.size ≤ w'.heap.size) (hZ : ∀ k c, Z k → k < w.heap.size → M k c)
    (hb : ∀ k, k < w.heap.size → ¬ Z k → w'.heap[k]? = w.heap[k]?) (hN : ∀ k, N k → w.heap.size ≤ k ∧ k < w'.heap.size) :
    ∃ hl ht, Sat (fun k c => M k c ∨ N k) n (h.anew w' (xK S ρ) hl ht) S ρ a w' := by
  have own_has : ∀ k, xK S ρ k → h.has k := fun k ⟨id, b, h1, h2⟩ => hs.mine id b k h1 h2
  have own_lt : ∀ k, xK S ρ k → k < w.heap.size := fun k ⟨id, b, h1, h2⟩ => Mut.blk_lt hs h1 h2
  have own_not : ∀ k, xK S ρ k → ¬ Z k := fun k ho hz => hs.out k 0 (hZ k 0 hz (own_lt k ho)) (own_has k ho)
  have htab : ∀ g, Tabs g → ¬ xK S ρ g := fun g ⟨xs, hg⟩ ho => by
    rcases own_has g ho with h1 | h1
    · have := (h.lays g xs hg).1
      omega
    · exact h.tabs g ⟨xs, hg⟩ h1
  have tab_lt : ∀ g, Tabs g → g < w.heap.size := fun g ⟨xs, hg⟩ => (hs.tbl hg).2.1
  have hl : Lays w' := hs.lays.keep hsz fun g hg => hb g (tab_lt g hg) fun hz => hs.tab g 0 hg (hZ g 0 hz (tab_lt g hg))
  have hm : ∀ k c, k < w.heap.size → Mut (fun k c => M k c ∨ N k) S ρ k c → Mut M S ρ k c := by
    rintro k c hk ((h1 | h1) | h1)
    · exact .inl h1
    · have := (hN k h1).1
      omega
    · exact .inr h1
  have hks : Keeps (Mut M S ρ) w w' := .of_block hsz fun k hk ⟨c, hc⟩ => hb k hk fun hz => hc (.inl (hZ k c hz hk))
  have hks2 : Keeps (fun k c => Mut M S ρ k c ∨ Mut (fun k c => M k c ∨ N k) S ρ k c) w w' := .of_block hsz fun k hk ⟨c, hc⟩ => hb k hk fun hz => hc (.inl (.inl (hZ k c hz hk)))
  have hm2 : ∀ k c, k < w.heap.size → (Mut M S ρ k c ∨ Mut (fun k c => M k c ∨ N k) S ρ k c) → Mut M S ρ k c := fun k c hk h1 => h1.elim (fun h => h) (hm k c hk)
  refine ⟨hl, htab, ⟨yV.refl _, fun k c hk hh => ?_, fun g c hg hk => ?_, hs.size, hs.defers, fun i => ?_, fun id b hb2 => ?_, fun id b k hb2 hk => .inr ⟨id, b, hb2, hk⟩, hs.fix, hs.free, hs.dist⟩⟩
  · rcases hh with hh | hh
    · have hlt : k < w'.heap.size := by
        rcases hk with hk | hk
        · exact Nat.lt_of_lt_of_le (Mut.lt hs (c := c) (.inl hk)) hsz
        · exact (hN k hk).2
      exact absurd hlt (Nat.not_lt.2 hh)
    · rcases hk with hk | hk
      · exact hs.out k c hk (own_has k hh)
      · have h1 := (hN k hk).1
        have h2 := own_lt k hh
        omega
  · rcases hk with hk | hk
    · exact hs.tab g c hg hk
    · have h1 := (hN g hk).1
      have h2 := tab_lt g hg
      omega
  · exact (((hs.tmps i).mono hm2).keep hks2).mono fun k c _ hk => .inr hk
  · exact (yX.keep (hs.blks id b hb2) (fun k hk => hb k (Mut.blk_lt hs hb2 hk) (own_not k ⟨id, b, hb2, hk⟩)) hks2 hm2).mono fun k c hk => .inr hk
end
end Go.Proofs.YteppicfkdcofjaaDoor
/- Calls that give an own row; ends that do. Generic over the program. -/
namespace Go.Proofs.YteppicfkdcofjaaDoor
set_option maxRecDepth 100000
set_option maxHeartbeats 16000000
set_option linter.unusedSimpArgs false
open Go Go.RowKit
section
variable {P : Program} {n : Nat} {o : Oper} {S : AS} {d : Nat} {t : TypeId} {x y : Operand}
def Blk.isRow : Blk → Bool
  | .box _ _ => false
  | _ => true
/-- a store of an own row's slice -/
theorem s_storeO {id off id2 : Nat} {b b2 : Blk} (ho : o.op = .store t x y) (hx : S.get x = .ptr id off) (hb : S.blk id = some b) (hy : S.get y = .own id2) (hb2 : S.blk id2 = some b2) (hrow : b2.isRow = true) (hm : ∀ w, (sizeOf t).run P w = .ok 1 w)
    (hle : off + 1 ≤ b.xs.length) (hlb : b.lentB = false) (hd : o.dst = none) : Step P n o S { S with s := putL S.s id (b.setXs (splice b.xs off (AV.own id2).yF)) } := by
  have hlen : (AV.own id2).yF.length = 1 := rfl
  intro M w0 ρ a w K Q hs hK
  have hfr := Blk.turns_of hlb
  have h1 := hs.rep x
  rw [hx] at h1
  obtain ⟨g, hgv, hv⟩ := rep_ptr h1
  have h2 := hs.rep y
  rw [hy] at h2
  have hcy : zD (Mut M S ρ) ρ w (AV.own id2).yF (a.eval y).cells.toList := by
    have hown : ∃ e sz m2 ys, w.ownsRow 0 e sz (ρ id2) m2 ys := by
      have h := hs.blks id2 _ hb2
      cases b2 with
      | box _ _ => cases hrow
      | _ => exact let ⟨ys, h, _⟩ := h; ⟨_, _, _, ys, h⟩
    obtain ⟨_, _, _, _, hown⟩ := hown
    have e1 : a.eval y = ρ id2 := by
      generalize a.eval y = v at h2
      cases h2
      rfl
    rw [e1]
    rcases hown.2 with ⟨e, _⟩ | ⟨g', cap, cur, e, _⟩
    · rw [e]
      exact ⟨rfl, fun i c u h1 h3 => by
        cases i with
        | zero => simp [Value.cells, AV.yF] at h1 h3; subst h1; subst h3; rw [← e]; exact .own id2
        | succ i => simp [AV.yF] at h1, fun u hu => by simp [Value.cells] at hu; subst hu; rfl⟩
    · rw [e]
      exact ⟨rfl, fun i c u h1 h3 => by
        cases i with
        | zero => simp [Value.cells, AV.yF] at h1 h3; subst h1; subst h3; rw [← e]; exact .own id2
        | succ i => simp [AV.yF] at h1, fun u hu => by simp [Value.cells] at hu; subst hu; rfl⟩
  have hB := hs.blks id b hb
  have key : ∃ cur ty, w.heap[g]? = some (.cells cur ty (0, 0)) ∧ off + (a.eval y).cells.toList.length ≤ cur.size ∧
      (∀ w' : World, w.grownBy w' (some g) → w'.heap[g]? = some (.cells (splice cur.toList off (a.eval y).cells.toList).toArray ty (0, 0)) → yX (Mut M S ρ) 0 ρ w' (ρ id) (b.setXs (splice b.xs off (AV.own id2).yF))) := by
    have keeps : ∀ {w' : World}, w.grownBy w' (some g) → Keeps (Mut M S ρ) w w' := fun {w'} hg => ⟨hg.size, fun k c hk hnm => World.cell?_of_block (w := w) (hg.block k hk (fun e => hnm (.inr ⟨id, b, hb, by rw [hgv]; exact e.symm, hfr c⟩)))⟩
    cases b with
    | lent ty size k xs => cases hlb
    | box ty xs =>
      obtain ⟨g', ys, e, hg, hh, hc⟩ := hB
      have eg : g' = g := by rw [e] at hgv; simpa [zC] using hgv
      subst eg
      refine ⟨ys.toArray, ty, hh, ?_, fun w' hgr hh' => ⟨g', splice ys off (a.eval y).cells.toList, e, hg, by simpa using hh', (hc.splice hcy (by rw [hlen]; exact hle)).keep (keeps hgr)⟩⟩
      have e1 := hcy.len
      have e2 := hc.len
      have e3 : off + 1 ≤ xs.length := hle
      simp only [List.size_toArray]
      omega
    | row ty size k xs =>
      obtain ⟨ys, ⟨hl, ho2⟩, hc⟩ := hB
      have e1 := hcy.len
      have e2 := hc.len
      have e3 : off + 1 ≤ xs.length := hle
      rcases ho2 with ⟨e, _⟩ | ⟨g', cap, cur, e, hbg, hh, hkc, hcm, hcs, htk⟩
      · rw [e] at hgv; simp [zC] at hgv
      · have eg : g' = g := by rw [e] at hgv; simpa [zC] using hgv
        subst eg
        have hsz : k * size ≤ cur.size := by rw [hcs]; exact Nat.mul_le_mul_right _ hkc
        refine ⟨cur, ty, hh, by omega, fun w' hgr hh' => ⟨splice ys off (a.eval y).cells.toList, ⟨by rw [yI (by omega)]; exact hl, .inr ⟨g', cap, _, e, hbg, hh', hkc, hcm, ?_, ?_⟩⟩, (hc.splice hcy (by rw [hlen]; exact hle)).keep (keeps hgr)⟩⟩
        · simp only [List.size_toArray]
          rw [yI (by simp only [Array.length_toList] at *; omega)]
          simpa using hcs
        · apply List.ext_getElem?
          intro i
          rw [List.getElem?_take]
          rw [yY (by simp only [Array.length_toList] at *; omega), yY (by omega)]
          have hi : ∀ (i : Nat), i < k * size → cur.toList[i]? = ys[i]? := fun i hi => by rw [← htk, List.getElem?_take, if_pos hi]
          by_cases h3 : i < k * size
          · rw [if_pos h3]
            split
            · exact hi i h3
            · split
              · rfl
              · exact hi i h3
          · rw [if_neg h3]
            rw [if_neg (by omega), if_neg (by omega)]
            exact (List.getElem?_eq_none (by omega)).symm
    | prow ty size k xs =>
      obtain ⟨ys, ⟨hl, ho2⟩, hc⟩ := hB
      have e1 := hcy.len
      have e2 := hc.len
      have e3 : off + 1 ≤ (xs.map AV.p).length := hle
      rcases ho2 with ⟨e, _⟩ | ⟨g', cap, cur, e, hbg, hh, hkc, hcm, hcs, htk⟩
      · rw [e] at hgv; simp [zC] at hgv
      · have eg : g' = g := by rw [e] at hgv; simpa [zC] using hgv
        subst eg
        have hsz : k * size ≤ cur.size := by rw [hcs]; exact Nat.mul_le_mul_right _ hkc
        refine ⟨cur, ty, hh, by omega, fun w' hgr hh' => ⟨splice ys off (a.eval y).cells.toList, ⟨by rw [yI (by omega)]; exact hl, .inr ⟨g', cap, _, e, hbg, hh', hkc, hcm, ?_, ?_⟩⟩, (hc.splice hcy (by rw [hlen]; exact hle)).keep (keeps hgr)⟩⟩
        · simp only [List.size_toArray]
          rw [yI (by simp only [Array.length_toList] at *; omega)]
          simpa using hcs
        · apply List.ext_getElem?
          intro i
          rw [List.getElem?_take]
          rw [yY (by simp only [Array.length_toList] at *; omega), yY (by omega)]
          have hi : ∀ (i : Nat), i < k * size → cur.toList[i]? = ys[i]? := fun i hi => by rw [← htk, List.getElem?_take, if_pos hi]
          by_cases h3 : i < k * size
          · rw [if_pos h3]
            split
            · exact hi i h3
            · split
              · rfl
              · exact hi i h3
          · rw [if_neg h3]
            rw [if_neg (by omega), if_neg (by omega)]
            exact (List.getElem?_eq_none (by omega)).symm
  obtain ⟨cur, ty, hh, hfit, hfin⟩ := key
  have hst := run_storeCells_at P g off ty (a.eval y).cells.toList 0 cur w hh (by simpa using hfit) hcy.one
  have hsz : (a.eval y).cells.size = 1 := by have := hcy.len; rw [hlen] at this; simpa using this
  have hrun : (execOp a.eval o).run P w = .ok .skip (w.setRow g (splice cur.toList off (a.eval y).cells.toList).toArray) := by
    unfold execOp
    rw [ho]
    simp only [hv, Instr.storeAt, Instr.sureAddr, storeVar, Sem.run_bind, Sem.run_pure, Result.andThen_ok, hm, hsz, ne_eq, not_true_eq_false, if_false]
    simp only [Nat.add_zero] at hst
    rw [hst]
    rfl
  have hgr : w.grownBy (w.setRow g (splice cur.toList off (a.eval y).cells.toList).toArray) (some g) := ⟨rfl, rfl, rfl, by simp, fun k _ hk => setRow_other w g k _ (fun e => hk (by rw [e]))⟩
  unfold Oper.wp
  rw [hrun]
  show K (a.put o.dst undef) _
  rw [hd]
  exact hK ρ a _ (hs.turn hb hgv hgr hfr (hfin _ hgr (setRow_heap w g cur _ ty _ hh)))
theorem w_storeO {id off id2 : Nat} {b b2 : Blk} {agg : Bool} [h : TyA P t agg 1] (ho : o.op = .store t x y) (hx : S.get x = .ptr id off) (hb : S.blk id = some b) (hy : S.get y = .own id2) (hb2 : S.blk id2 = some b2) (hrow : b2.isRow = true)
    (hle : off + 1 ≤ b.xs.length) (hlb : b.lentB = false) (hd : o.dst = none) : Step P n o S { S with s := putL S.s id (b.setXs (splice b.xs off [AV.own id2])) } :=
  s_storeO ho hx hb hy hb2 hrow h.sz hle hlb hd
end
end Go.Proofs.YteppicfkdcofjaaDoor
/- Appending to a slice cut to its length: s[:n:n]. Generic over the program. -/
namespace Go.Proofs.YteppicfkdcofjaaDoor
set_option maxRecDepth 100000
set_option maxHeartbeats 16000000
open Go Go.RowKit
set_option linter.unusedSimpArgs false
theorem RepL.append {M : Nat → Nat → Prop} {w : World} {xs xs' : List PV} {ys ys' : List Value} (h : RepL M w xs ys) (h' : RepL M w xs' ys') : RepL M w (xs ++ xs') (ys ++ ys') :=
  ⟨by rw [List.length_append, List.length_append, h.len, h'.len], fun i c v h1 h2 => by
    by_cases hi : i < xs.length
    · rw [List.getElem?_append_left hi] at h1
      rw [List.getElem?_append_left (by rw [h.len]; exact hi)] at h2
      exact h.each i c v h1 h2
    · rw [List.getElem?_append_right (by omega)] at h1
      rw [List.getElem?_append_right (by rw [h.len]; omega), h.len] at h2
      exact h'.each _ c v h1 h2, fun v hv => by
    rcases List.mem_append.1 hv with hv | hv
    · exact h.one v hv
    · exact h'.one v hv⟩
section
variable {P : Program} {n : Nat} {ops : Array Oper} {S : AS} {K : Exit → AS → Prop}
end
end Go.Proofs.YteppicfkdcofjaaDoor
/- A struct's literal of which parts are own rows, stored into a new variable; appending to nil. Generic over the program. -/
namespace Go.Proofs.YteppicfkdcofjaaDoor
set_option maxRecDepth 100000
set_option maxHeartbeats 16000000
open Go Go.RowKit
set_option linter.unusedSimpArgs false
def partB (S : AS) (av : AV) : Bool := av.partOK || (match av with
  | .own id => (match S.blk id with | some b => b.isRow | none => false)
  | _ => false)
section
variable {P : Program} {n : Nat} {ops : Array Oper} {S : AS} {K : Exit → AS → Prop}
end
theorem rowB_V (e : Nat) (bs : List Int) : zM e bs = rowV e 1 (byts bs) := by
  unfold zM rowV
  rw [byts_flat, byts_len]
theorem sub_frzE {S : AS} (id e sz : Nat) (es : List PV) (hb : S.blk id = some (rowV e sz es)) : Sub S (S.frz id (.sl es)) := sub_frz hb
theorem sub_frzB {S : AS} (id : Nat) {e : Nat} {bs : List Int} (hb : S.blk id = some (zM e bs)) : Sub S (S.frz id (.sl (byts bs))) := sub_frz (hb.trans (congrArg some (rowB_V e bs)))
end Go.Proofs.YteppicfkdcofjaaDoor
/- Rows of slices that own their rows: a cell read as a slice that nobody turns; a nil in a cell as an own row; code in two parts with a frame between. Generic over the program. -/
namespace Go.Proofs.YteppicfkdcofjaaDoor
set_option maxRecDepth 100000
set_option maxHeartbeats 16000000
open Go Go.RowKit
set_option linter.unusedSimpArgs false
section
variable {P : Program} {n : Nat} {o : Oper} {S : AS} {d : Nat} {t : TypeId} {x : Operand}
end
/-- Code in two parts: behind the first one of a family of frames. -/
theorem zX.cut {P : Program} {n : Nat} {S : AS} {c1 c2 : Code} {K : Exit → AS → Prop} {ι : Type} (mid : ι → AS) (ok : ι → Prop) (h1 : zX P n c1 S (zR (fun S' => ∃ i, ok i ∧ Sub S' (mid i)) K)) (h2 : ∀ i, ok i → zX P n c2 (mid i) K) : zX P n (.seq c1 c2) S K :=
  .seq (h1.mono fun e S' h => by
    cases e with
    | normal => obtain ⟨i, hi, hs⟩ := h; exact (h2 i hi).sub hs
    | _ => exact h)
/-- a goal that a walk leaves -/
def Hold (p : Prop) : Prop := p
theorem Hold.go {p : Prop} (h : p) : Hold p := h
theorem Hold.out {p : Prop} (h : Hold p) : p := h
theorem zX.hold {P : Program} {n id : Nat} {ops : Array Oper} {d : Bool} {S : AS} {c2 : Code} {K : Exit → AS → Prop} (h : Hold (zX P n (.seq (.region id ops d) c2) S K)) : zX P n (.seq (.region id ops d) c2) S K := h
attribute [irreducible] Hold
end Go.Proofs.YteppicfkdcofjaaDoor
/- Iterators: code that calls yield between stretches that only make new values. Generic over the program. -/
namespace Go.Proofs.YteppicfkdcofjaaDoor
set_option maxRecDepth 100000
set_option maxHeartbeats 16000000
open Go Go.RowKit
set_option linter.unusedSimpArgs false
set_option linter.unusedVariables false
section
variable {P : Program} {n : Nat} {S S' : AS} {M : Nat → Nat → Prop} {h : Home} {Q : Exit → Act → World → Prop}
theorem Sub.go {ρ : Nat → Value} {a : Act} {w : World} (hsub : Sub S S') (hs : Sat M n h S ρ a w) : ∃ ρ', Sat M n h S' ρ' a w := hsub M n h ρ a w hs
/-- a way out, its end told in full -/
def WE (n : Nat) (M : Nat → Nat → Prop) (h : Home) (Q : Exit → Act → World → Prop) (e : Exit) (S : AS) : Prop := e ≠ .outgrown ∧ (∀ c, e ≠ .panic c) ∧ ∀ ρ a w, Sat M n h S ρ a w → Q e a w
/-- code of a frame at a home that is told, its end told in full -/
def WC (P : Program) (n : Nat) (c : Code) (S : AS) (M : Nat → Nat → Prop) (h : Home) (Q : Exit → Act → World → Prop) : Prop := ∀ ρ a w, Sat M n h S ρ a w → c.wp P Q a w
theorem bare_of {e e' : Exit} (h : bare e = e') (hn : ∀ c, e' ≠ .panic c) : e = e' := by
  cases e <;> first | exact h | exact absurd h.symm (hn _)
theorem WE.use {e : Exit} (hk : WE n M h Q (bare e) S) {ρ : Nat → Value} {a : Act} {w : World} (hs : Sat M n h S ρ a w) : Q e a w := by
  have e1 := bare_of (e := e) rfl hk.2.1
  have := hk.2.2 ρ a w hs
  rwa [← e1] at this
theorem WC.of {c : Code} (hc : zX P n c S (WE n M h Q)) : WC P n c S M h Q := fun ρ a w hs => hc M h ρ a w Q hs fun e S' ρ' a' w' hk hs' _ => hk.use hs'
theorem WC.seq {x y : Code} (hc : zX P n x S (zR (fun S' => WC P n y S' M h Q) (WE n M h Q))) : WC P n (.seq x y) S M h Q := fun ρ a w hs =>
  wp_seq (hc M h ρ a w _ hs fun e S' ρ' a' w' hk hs' _ => by
    cases e with
    | normal => exact hk ρ' a' w' hs'
    | exit id => exact WE.use (e := .exit id) hk hs'
    | goto l => exact WE.use (e := .goto l) hk hs'
    | ret => exact WE.use (e := .ret) hk hs'
    | panic c => exact WE.use (e := .panic c) hk hs'
    | outgrown => exact WE.use (e := .outgrown) hk hs')
theorem WC.block {id : Nat} {c : Code} (hc : WC P n c S M h (Exit.inBlock id Q)) : WC P n (.block id c) S M h Q := fun ρ a w hs => wp_block (hc ρ a w hs)
theorem WC.run {c : Code} (hc : WC P n c S M h Q) {ρ : Nat → Value} {a : Act} {w : World} (hs : Sat M n h S ρ a w) : c.wp P Q a w := hc ρ a w hs
theorem WC.mk {c : Code} (hc : ∀ ρ a w, Sat M n h S ρ a w → c.wp P Q a w) : WC P n c S M h Q := hc
theorem WE.mk {e : Exit} (h1 : e ≠ .outgrown) (h2 : ∀ c, e ≠ .panic c) (h3 : ∀ ρ a w, Sat M n h S ρ a w → Q e a w) : WE n M h Q e S := ⟨h1, h2, h3⟩
theorem WC.sub {c : Code} (hs : Sub S S') (hc : WC P n c S' M h Q) : WC P n c S M h Q := fun ρ a w h1 => by
  obtain ⟨ρ', h2⟩ := hs M n h ρ a w h1
  exact hc ρ' a w h2
theorem WC.stop {id : Nat} {ops : Array Oper} {d : Bool} {y : Code} (hc : Hold (WC P n (.seq (.region id ops d) y) S M h Q)) : WC P n (.seq (.region id ops d) y) S M h Q := hc.out
theorem WC.hold {id : Nat} {ops : Array Oper} {d : Bool} {y : Code} (hc : WC P n (.seq (.region id ops d) y) S M h Q) : WC P n (.seq (.region id ops d) y) S M h Q := hc
/-- The caller's side of a loop over an iterator: J i Z w: i rounds are over; the blocks Z are the caller's to turn. -/
structure Yields (P : Program) (l : Nat) (M0 : Nat → Nat → Prop) (N : Nat) (ys : Nat → List PV) (J : Nat → (Nat → Prop) → World → Prop) : Prop where
  lt : ∀ i Z w k, J i Z w → Z k → k < w.heap.size
  ext : ∀ i Z w w', J i Z w → Below w.heap.size w w' → J i Z w'
  round : ∀ i Z w (vs : List Value), i < N → J i Z w → vs.length = (ys i).length → (∀ (j : Nat) c v, (ys i)[j]? = some c → vs[j]? = some v → Rep (fun k c => M0 k c ∨ Z k) w c v) →
    YieldAt Fence.wide 0 P l vs.toArray w fun e w' => e = .returned (.bool true) ∧ ∃ Z', J (i + 1) Z' w' ∧ w.heap.size ≤ w'.heap.size ∧ (∀ k, k < w.heap.size → ¬ Z k → w'.heap[k]? = w.heap[k]?) ∧ ∀ k, Z' k → Z k ∨ w.heap.size ≤ k
theorem below_of {h : Home} {w : World} (hb : yV h w) (ht : ∀ k, ¬ h.t k) : Below h.w.heap.size h.w w := ⟨hb.os, hb.tape, hb.output, hb.size, fun k hk => hb.block k hk (ht k)⟩
theorem run_yieldOp {o : Oper} {x : Operand} {args : Array Operand} {ts : Array TypeId} {l : Nat} {a : Act} {w : World} (ho : o.op = .call { callee := .value x, args := args, argTypes := ts }) (hx : a.eval x = .func (.yield l) #[] #[]) :
    (execOp a.eval o).run P w = (Instr.yield l (args.map a.eval)).run P w := by
  unfold execOp
  rw [ho]
  simp [resolve, Deferred.ofValue, hx, invoke]
/-- A region that calls yield. -/
theorem WC.yield {id d l N i : Nat} {M0 : Nat → Nat → Prop} {pre post : List Oper} {oy : Oper} {x : Operand} {args : Array Operand} {ts : Array TypeId} {y : Code} {ys : Nat → List PV} {J : Nat → (Nat → Prop) → World → Prop} {Z : Nat → Prop} (S1 : AS)
    (hpre : zY P n (pre ++ oy :: post).toArray pre S (fun e S' => e = .normal ∧ Sub S' S1)) (hdp : noDefer pre = true) (hdq : noDefer post = true)
    (ho : oy.op = .call { callee := .value x, args := args, argTypes := ts }) (hg : oy.guard = none) (hd : oy.dst = some d) (hn : d < n) (hx : S1.get x = .p (.val (.func (.yield l) #[] #[]))) (hs1 : S1.s = [])
    (hY : Yields P l M0 N ys J) (hi : i < N) (hargs : args.toList.map S1.get = (ys i).map AV.p) (hJ : J i Z h.w) (ht : ∀ k, ¬ h.t k) (hZ : ∀ k c, M0 k c ∨ Z k → M k c)
    (hr : ∀ Z' M' h', J (i + 1) Z' h'.w → (∀ k, ¬ h'.t k) → (∀ k c, M0 k c ∨ Z' k → M' k c) → h'.d = h.d → h'.r = h.r → zY P n (pre ++ oy :: post).toArray post (S1.put d (.p (.val (.bool true)))) (zR (fun S' => WC P n y S' M' h' Q) (WE n M' h' Q))) :
    WC P n (.seq (.region id (pre ++ oy :: post).toArray false) y) S M h Q := by
  intro ρ a w hs
  refine wp_seq ((wpIn_wide (n := 0)).1 ?_)
  show (Code.region id _ false).wpIn (wideF none) 0 P _ a w
  refine wpIn_region_lit ?_
  have h1 := hpre M h ρ a w (fun e a' w' => e = .normal ∧ ∃ ρ', Sat M n h S1 ρ' a' w') hs fun e S' ρ' a' w' hk hs' _ => by
    obtain ⟨he, hsub⟩ := hk
    obtain ⟨ρ2, h2⟩ := hsub M n h ρ' a' w' hs'
    exact ⟨bare_of he (fun c hc => by cases hc), ρ2, h2⟩
  refine wpList_app none (fun a w h => by cases h.1) (fun e a w hne h => absurd h.1 hne) (fun a1 w1 hq => ?_) (noDefer_of hdp) h1
  obtain ⟨_, ρ1, hs2⟩ := hq
  unfold wpListIn
  rw [if_pos (by simp [Region.wanted, hg])]
  refine ⟨fun _ _ => trivial, ?_⟩
  show oy.uponIn _ 0 P a1 _ _ ((oy.semAt none a1.eval).run P w1)
  rw [sem_at none a1.eval oy (fun c hc => by rw [ho] at hc; cases hc), run_yieldOp ho (hs2.val hx)]
  have hb := below_of hs2.below ht
  have hJ1 : J i Z w1 := hY.ext i Z _ _ hJ hb
  have hlen : (args.toList.map a1.eval).length = (ys i).length := by
    have := congrArg List.length hargs
    simpa using this
  obtain ⟨fn, tmps, assign, body, hy, hR⟩ := hY.round i Z w1 (args.toList.map a1.eval) hi hJ1 hlen (fun j c v hc hv => by
    rw [List.getElem?_map, Option.map_eq_some_iff] at hv
    obtain ⟨o, ho2, rfl⟩ := hv
    have h3 : (args.toList.map S1.get)[j]? = some (AV.p c) := by rw [hargs, List.getElem?_map, hc]; rfl
    rw [List.getElem?_map, ho2] at h3
    have h4 := hs2.rep o
    rw [Option.some.inj h3] at h4
    cases h4 with
    | p h5 => exact h5.mono fun k c _ hk => .inl (hZ k c hk))
  have e : (args.toList.map a1.eval).toArray = args.map a1.eval := by apply Array.ext'; simp
  rw [e] at hy
  rw [hy]
  refine ⟨fun h => (by cases h), RoundIn.mono hR fun ev w2 he => ?_⟩
  obtain ⟨rfl, Z', hJ2, hsz, hun, hZ'⟩ := he
  have hown : ∀ k, ¬ xK S1 ρ1 k := fun k ⟨id, b, h1, _⟩ => by
    have : look S1.s id = some b := h1
    rw [hs1] at this
    cases this
  obtain ⟨hl, ht2, hs3⟩ := hs2.switch Z (fun k => Z' k ∧ w1.heap.size ≤ k) hsz (fun k c hz _ => hZ k c (.inr hz)) hun (fun k hk => ⟨hk.2, hY.lt _ _ _ k hJ2 hk.1⟩)
  have hs4 := hs3.put hn (x := .p (.val (.bool true))) (.p (.val _))
  have h5 := hr Z' (fun k c => M k c ∨ (Z' k ∧ w1.heap.size ≤ k)) (h.anew w2 (xK S1 ρ1) hl ht2) hJ2 hown (fun k c hk => by
    rcases hk with hk | hk
    · exact .inl (hZ k c (.inl hk))
    rcases hZ' k hk with h6 | h6
    · exact .inl (hZ k c (.inr h6))
    · exact .inr ⟨hk, h6⟩) rfl rfl _ _ ρ1 _ w2 (fun e a' w' => e ≠ .outgrown ∧ Exit.then (y.wp P Q) Q e a' w') hs4 (fun e S' ρ' a' w' hk hs' _ => by
    cases e with
    | normal => exact ⟨by simp, hk ρ' a' w' hs'⟩
    | exit id => exact ⟨by simp, WE.use (e := .exit id) hk hs'⟩
    | goto l => exact ⟨by simp, WE.use (e := .goto l) hk hs'⟩
    | ret => exact ⟨by simp, WE.use (e := .ret) hk hs'⟩
    | panic c => exact ⟨by simp, WE.use (e := .panic c) hk hs'⟩
    | outgrown => exact absurd rfl hk.1)
  have h6 := wpList_in none (fun a w h => h.1 rfl) (noDefer_of hdq) h5
  show wpListIn (wideF none) 0 P _ _ post (a1.put oy.dst (.bool true)) w2
  rw [hd]
  have h7 := wpList_app (l2 := []) none (fun a w h => h.1 rfl) (Q' := Exit.then (y.wp P Q) Q) (fun e a w _ h => h.2) (fun a w h => h.2) (noDefer_of hdq) h5
  rwa [List.append_nil] at h7
/-- a function's frame at its beginning: nothing of its own -/
theorem entry_sat {W : World} {hl : Lays W} {nt : Nat} {T : List (Nat × AV)} {vs : List Value} (hn : nt = n) (hle : vs.length ≤ n) (hM : ∀ k c, M k c → k < W.heap.size) (htab : ∀ g c, Tabs g → ¬ M g c) (hT : ∀ i x, look T i = some x → ∃ v, vs[i]? = some v ∧ zG M (fun _ => undef) W x v) :
    Sat M n (Home.plain W hl) { t := T, s := [] } (fun _ => undef) { tmps := vs.toArray ++ Array.replicate (nt - vs.toArray.size) undef, defers := [] } W := by
  subst hn
  refine ⟨yV.refl (Home.plain W hl), (fun k c hk hh => by rcases hh with hh | hh; exact absurd (hM k c hk) (Nat.not_lt.2 hh); exact hh), htab, by simp; omega, rfl, fun i => ?_, (fun id b hb => by cases hb), (fun id b k hb => by cases hb), (fun k v hk => by cases hk), (fun _ _ => rfl), (fun i j bi bj k hi => by cases hi)⟩
  show zG _ _ _ ((look T i).getD .any) _
  cases e : look T i with
  | none => exact .any _
  | some x =>
    obtain ⟨v, h1, h2⟩ := hT i x e
    have hi : i < vs.length := (List.getElem?_eq_some_iff.1 h1).1
    have e2 : ({ tmps := vs.toArray ++ Array.replicate (nt - vs.toArray.size) undef, defers := [] } : Act).tmps.getD i undef = v := by
      rw [List.getElem?_eq_getElem hi] at h1
      simp [Array.getD_eq_getD_getElem?, Array.getElem?_append, hi]
      exact Option.some.inj h1
    rw [e2]
    exact h2.mono fun k c _ hk => by
      rcases hk with hk | ⟨id, b, e, _⟩
      · exact hk
      · cases e
/-- rounds, no more than N -/
theorem wp_loop_iter {c : Code} {N i0 : Nat} {a : Act} {w : World} (I : Nat → Act → World → Prop) (h0 : I i0 a w) (hi0 : i0 ≤ N) (round : ∀ i a w, i ≤ N → I i a w → c.wp P (Exit.then (fun a' w' => ∃ j, i < j ∧ j ≤ N ∧ I j a' w') Q) a w) : (Code.loop c).wp P Q a w := by
  intro b k cs
  have key : ∀ (m i : Nat) (a : Act) (w : World), N - i = m → i ≤ N → I i a w → ∃ e a' w', Q e a' w' ∧ Arrives P (lone (b.at a (.code c :: .inLoop c :: k)) cs w) b k cs e a' w' := by
    intro m
    induction m using Nat.strongRecOn with
    | _ m ih =>
      intro i a w hm hi hI
      obtain ⟨e, a₁, w₁, hq, harr⟩ := round i a w hi hI b (.inLoop c :: k) cs
      cases e with
      | normal =>
        obtain ⟨j, hlt, hj, hI'⟩ := hq
        obtain ⟨e₂, a₂, w₂, hq₂, harr₂⟩ := ih (N - j) (by omega) j a₁ w₁ rfl hj hI'
        exact ⟨e₂, a₂, w₂, hq₂, .of_steps (Steps.trans harr (.one step_inLoop)) harr₂⟩
      | exit id => exact ⟨_, a₁, w₁, hq, .pass (x := .inLoop c) rfl (fun _ _ => .inl (by simp)) harr⟩
      | goto l => exact ⟨_, a₁, w₁, hq, .pass (x := .inLoop c) rfl (fun _ _ => .inl (by simp)) harr⟩
      | ret => exact ⟨_, a₁, w₁, hq, .pass (x := .inLoop c) rfl (fun _ _ => .inl (by simp)) harr⟩
      | panic ch => exact ⟨_, a₁, w₁, hq, .pass (x := .inLoop c) rfl (fun _ _ => .inl (by simp)) harr⟩
      | outgrown => exact ⟨_, a₁, w₁, hq, .pass (x := .inLoop c) rfl (fun _ _ => .inl (by simp)) harr⟩
  obtain ⟨e, a', w', hq, harr⟩ := key _ i0 a w rfl hi0 h0
  exact ⟨e, a', w', hq, .of_steps (.one step_loop) harr⟩
end
attribute [irreducible] WC WE
end Go.Proofs.YteppicfkdcofjaaDoor
/- A loop over an iterator: the caller's side. Generic over the program. -/
namespace Go.Proofs.YteppicfkdcofjaaDoor
set_option maxRecDepth 100000
set_option maxHeartbeats 16000000
open Go Go.RowKit
set_option linter.unusedSimpArgs false
set_option linter.unusedVariables false
theorem putObj_size (w : World) (l : Nat) (o : Obj) : (w.putObj l o).heap.size = w.heap.size := by simp [World.putObj]
theorem putObj_at {w : World} {l : Nat} {o o' : Obj} (h : w.heap[l]? = some o') : (w.putObj l o).heap[l]? = some o := World.putObj_heap_same (Array.getElem?_eq_some_iff.1 h).1
theorem putObj_ne {w : World} {l k : Nat} {o : Obj} (h : k ≠ l) : (w.putObj l o).heap[k]? = w.heap[k]? := World.putObj_heap_other h
section
variable {P : Program} {n : Nat} {S : AS} {M : Nat → Nat → Prop} {h : Home} {ρ : Nat → Value} {a : Act} {w : World}
/-- the same frame, other deferred calls -/
theorem Sat.withD (hs : Sat M n h S ρ a w) (D : List Deferred) : Sat M n { h with d := D } S ρ { a with defers := D } w :=
  ⟨⟨hs.below.os, hs.below.tape, hs.below.output, hs.below.size, hs.below.block⟩, hs.out, hs.tab, hs.size, rfl, hs.tmps, hs.blks, hs.mine, hs.fix, hs.free, hs.dist⟩
def putsA (S : AS) : List Nat → List PV → AS
  | d :: ds, x :: xs => putsA (S.put d (.p x)) ds xs
  | _, _ => S
theorem Sat.puts : ∀ {ds : List Nat} {xs : List PV} {vs : List Value} {S : AS} {a : Act}, Sat M n h S ρ a w → ds.length = xs.length → vs.length = xs.length → (∀ d ∈ ds, d < n) → (∀ (j : Nat) c v, xs[j]? = some c → vs[j]? = some v → Rep (Mut M S ρ) w c v) →
    Sat M n h (putsA S ds xs) ρ { a with tmps := (ds.zip vs).foldl (fun t (p, v) => t.setIfInBounds p v) a.tmps } w
  | [], [], [], _, _, hs, _, _, _, _ => hs
  | d :: ds, x :: xs, v :: vs, S, a, hs, h1, h2, hd, hv => by
    have hs1 := hs.put (d := d) (x := .p x) (v := v) (hd d (by simp)) (.p (hv 0 x v rfl rfl))
    exact Sat.puts (S := S.put d (.p x)) (a := a.put (some d) v) hs1 (by simpa using h1) (by simpa using h2) (fun d' hd' => hd d' (by simp [hd'])) (fun j c u hc hu => hv (j + 1) c u (by simpa using hc) (by simpa using hu))
/-- values that wake up as they fell asleep: of a variable just its number, at home -/
def wakes (r : Nat → Option Value) : AV → Prop
  | .any => True
  | .p _ => True
  | .pt _ => True
  | .glob _ => True
  | .ptr k _ => (r k).isSome = true
  | _ => False
/-- A frame that slept wakes up: others have turned its own blocks, and l. -/
theorem Sat.wake {h3 : Home} {M3 : Nat → Nat → Prop} {S3 S' : AS} {ρ3 : Nat → Value} {a3 : Act} {w3 w4 : World} {l : Nat} (hs : Sat M n h S ρ a w) (hb : Sat M3 n h3 S3 ρ3 a3 w3) (ht : S'.t = S.t) (hb' : S'.s = S3.s) (hw : ∀ p ∈ S.t, wakes h.r p.2) (hr : h3.r = h.r)
    (htu : ∀ id b, S.blk id = some b → ∀ c, b.turns c) (hMl : ∀ c, M l c) (hM3 : ∀ k c, M k c → M3 k c) (hos : w4.os = w.os ∧ w4.tape = w.tape ∧ w4.output = w.output) (hsz : w.heap.size ≤ w4.heap.size) (hun : ∀ k, k < w.heap.size → ¬ xK S ρ k → w4.heap[k]? = w.heap[k]?)
    (h34 : w3.heap.size ≤ w4.heap.size) (hl3 : ∀ k, k < w3.heap.size → k ≠ l → w4.heap[k]? = w3.heap[k]?) (hl4 : (∀ c, w3.cell? ⟨l, c, none⟩ = none) ∧ ∀ c, w4.cell? ⟨l, c, none⟩ = none) (hown : ∀ k, xK S3 ρ3 k → xK S ρ k ∨ w.heap.size ≤ k) :
    Sat M n h S' ρ3 a w4 := by
  have blk_eq : ∀ id, S'.blk id = S3.blk id := fun id => by show look S'.s id = look S3.s id; rw [hb']
  have own_has : ∀ k, xK S ρ k → h.has k := fun k ⟨id, b, h1, h2⟩ => hs.mine id b k h1 h2
  have own_mut : ∀ k c, xK S ρ k → Mut M S ρ k c := fun k c ⟨id, b, h1, h2⟩ => .inr ⟨id, b, h1, h2, htu id b h1 c⟩
  have hm : ∀ k c, k < w.heap.size → Mut M S' ρ3 k c → Mut M S ρ k c := by
    rintro k c hk (h1 | ⟨id, b, h1, h2, _⟩)
    · exact .inl h1
    · rw [blk_eq] at h1
      rcases hown k ⟨id, b, h1, h2⟩ with h3 | h3
      · exact own_mut k c h3
      · omega
  have hks : Keeps (Mut M S ρ) w w4 := .of_block hsz fun k hk ⟨c, hc⟩ => hun k hk fun ho => hc (own_mut k c ho)
  have hks2 : Keeps (fun k c => Mut M S ρ k c ∨ Mut M S' ρ3 k c) w w4 := .of_block hsz fun k hk ⟨c, hc⟩ => hun k hk fun ho => hc (.inl (own_mut k c ho))
  have hm2 : ∀ k c, k < w.heap.size → (Mut M S ρ k c ∨ Mut M S' ρ3 k c) → Mut M S ρ k c := fun k c hk h1 => h1.elim (fun h => h) (hm k c hk)
  have own_ne : ∀ k, xK S3 ρ3 k → k ≠ l := fun k ⟨id, b, h1, h2⟩ e => by
    subst e
    exact hb.out k 0 (hM3 k 0 (hMl 0)) (hb.mine id b k h1 h2)
  have tmp_eq : ∀ i, S'.tmp i = S.tmp i := fun i => by show (look S'.t i).getD .any = _; rw [ht]; rfl
  refine ⟨⟨hos.1.trans hs.below.os, hos.2.1.trans hs.below.tape, hos.2.2.trans hs.below.output, Nat.le_trans hs.below.size hsz, fun k hk ht => ?_⟩, hs.out, hs.tab, hs.size, hs.defers, fun i => ?_, fun id b h1 => ?_, fun id b k h1 h2 => ?_, fun k v hk => hb.fix k v (by rw [hr]; exact hk), hs.free, fun i j bi bj k h1 h2 h3 h4 => ?_⟩
  · refine (hun k (Nat.lt_of_lt_of_le hk hs.below.size) fun ho => ?_).trans (hs.below.block k hk ht)
    rcases own_has k ho with h1 | h1
    · omega
    · exact ht h1
  · rw [tmp_eq]
    have h0 := hs.tmps i
    have hwk : wakes h.r (S.tmp i) := by
      show wakes h.r ((look S.t i).getD .any)
      have mem : ∀ (T : List (Nat × AV)) x, look T i = some x → ∃ p ∈ T, p.2 = x := by
        intro T x
        induction T with
        | nil => intro h; cases h
        | cons p T ih =>
          intro h
          obtain ⟨k, y⟩ := p
          unfold look at h
          split at h
          · exact ⟨(k, y), by simp, Option.some.inj h⟩
          · obtain ⟨q, hq, e⟩ := ih h
            exact ⟨q, by simp [hq], e⟩
      cases e : look S.t i with
      | none => trivial
      | some x =>
        obtain ⟨p, hp, rfl⟩ := mem S.t x e
        exact hw p hp
    generalize S.tmp i = x at h0 hwk
    generalize a.tmps.getD i undef = v at h0
    cases h0 with
    | any => exact .any _
    | p h1 => exact .p (((h1.mono hm2).keep hks2).mono fun k c _ hk => .inr hk)
    | own => cases hwk
    | ptr id off g h1 =>
      obtain ⟨u, hu⟩ := Option.isSome_iff_exists.1 hwk
      refine .ptr id off g ?_
      rw [hb.fix id u (by rw [hr]; exact hu), ← hs.fix id u hu]
      exact h1
    | pt xs g o ys h1 hc hM hg =>
      have := (((zG.pt (ρ := ρ) xs g o ys h1 hc hM hg).mono hm2).keep hks2).mono (M' := Mut M S' ρ3) fun k c _ hk => .inr hk
      cases this with
      | pt _ _ _ ys' h1 hc hM hg => exact .pt xs g o ys' h1 hc hM hg
    | tup => cases hwk
    | clo => cases hwk
    | glob g => exact .glob g
  · rw [blk_eq] at h1
    have hb2 := (hb.blks id b h1).mono (M' := Mut M S' ρ3) fun k c hk => by
      rcases hk with hk | ⟨id', b', h3, h4, h5⟩
      · exact .inl (hM3 k c hk)
      · rw [blk_eq] at h3
        exact .inr ⟨id', b', h3, h4, h5⟩
    have hks3 : Keeps (Mut M S' ρ3) w3 w4 := ⟨h34, fun k c hk _ => by
      by_cases e : k = l
      · subst e
        rw [hl4.1 c, hl4.2 c]
      · exact World.cell?_of_block (w := w3) (hl3 k hk e)⟩
    exact yX.keep hb2 (fun k hk => hl3 k (Mut.blk_lt hb h1 hk) (own_ne k ⟨id, b, h1, hk⟩)) hks3 fun k c _ hk => hk
  · rw [blk_eq] at h1
    rcases hown k ⟨id, b, h1, h2⟩ with h3 | h3
    · exact own_has k h3
    · exact .inl (Nat.le_trans hs.below.size h3)
  · rw [blk_eq] at h1 h2
    exact hb.dist i j bi bj k h1 h2 h3 h4
end
theorem cell_obj {w : World} {l : Nat} {r : Loop} (h : w.heap[l]? = some (.loop r)) (c : Nat) : w.cell? ⟨l, c, none⟩ = none := by
  simp [World.cell?, h]
/-- What an iterator does: it calls yield with N rows of values, one after the other; lb: what it has captured, that reads as cs. -/
def IterOK (P : Program) (gf : FuncId) (cs : List AV) (N : Nat) (ys : Nat → List PV) : Prop :=
  ∀ (l : Nat) (M0 : Nat → Nat → Prop) (J : Nat → (Nat → Prop) → World → Prop) (W : World) (Z : Nat → Prop) (lb : List Value), Yields P l M0 N ys J → J 0 Z W → Lays W → (∀ g c, Tabs g → ¬ (M0 g c ∨ Z g)) → (∀ k c, M0 k c → k < W.heap.size) → lb.length = cs.length →
    (∀ (j : Nat) x v, cs[j]? = some x → lb[j]? = some v → zG (fun k c => M0 k c ∨ Z k) (fun _ => undef) W x v) →
    Calls P gf (Value.func (.yield l) #[] #[] :: lb).toArray W fun e W' => (∃ v, e = .returned v) ∧ ∃ Z', J N Z' W'
section
variable {P : Program} {n : Nat} {M : Nat → Nat → Prop} {h : Home} {ρ : Nat → Value} {a : Act} {w : World}
/-- 'for .. := range g { .. }', whose rounds all end at the body's end. -/
theorem wp_range {g : Operand} {ps : Array Tmp} {assign body : Code} {Q : Exit → Act → World → Prop} {gf : FuncId} {lb : List Value} {cs : List AV} {N : Nat} {ys : Nat → List PV} (Sf Sa Sb : Nat → AS) [hc : HasFn P gf]
    (hs : Sat M n h (Sf 0) ρ a w) (hg : a.eval g = .func (.func gf) #[] lb.toArray) (hlb : lb.length = cs.length) (hcs : ∀ (j : Nat) x v, cs[j]? = some x → lb[j]? = some v → zG (fun k c => M k c ∨ xK (Sf 0) ρ k) (fun _ => undef) w x v) (hit : IterOK P gf cs N ys)
    (hps : ∀ d ∈ ps.toList, d < n) (hys : ∀ i, (ys i).length = ps.size) (ht : ∀ i, (Sf (i + 1)).t = (Sf i).t) (hb : ∀ i, (Sf (i + 1)).s = (Sb i).s) (hw : ∀ i, ∀ p ∈ (Sf i).t, wakes h.r p.2) (htu : ∀ i id b, (Sf i).blk id = some b → ∀ c, b.turns c)
    (hass : ∀ l i, i < N → z8 l P n assign (putsA (Sf i) ps.toList (ys i)) (fun e S' => e = .normal ∧ Sub S' (Sa i)))
    (hbody : ∀ l i, i < N → z8 l P n body (Sa i) (fun e S' => e = .normal ∧ Sub S' (Sb i)))
    (hdone : ∀ D M' h' ρ' w', h.w.heap.size ≤ D → (∀ k c, M k c → M' k c) → (∀ c, M' D c) → h'.w = w' → h'.r = h.r → h'.d = { target := .collected D, args := #[] } :: a.defers → (∀ k, h'.t k → h.has k) → yV h w' → w'.heap[D]? = some (.deferred (some [])) → Sat M' n h' (Sf N) ρ' { a with defers := { target := .collected D, args := #[] } :: a.defers } w' → Q .normal { a with defers := { target := .collected D, args := #[] } :: a.defers } w') :
    (Code.rangeFunc g ps assign body).wp P Q a w := by
  refine (wpIn_wide (n := 0)).1 (wpIn_rangeFunc fun fn _ => ?_)
  obtain ⟨rec, hrec⟩ : ∃ rec : LoopState → Option Code → Loop, rec = fun st pe => { state := st, pending := pe, fn, tmps := a.tmps, params := ps, assign, body, defers := w.heap.size } := ⟨_, rfl⟩
  obtain ⟨D, hD⟩ : ∃ D, D = w.heap.size := ⟨_, rfl⟩
  obtain ⟨l, hl⟩ : ∃ l, l = w.heap.size + 1 := ⟨_, rfl⟩
  obtain ⟨W1, hW1⟩ : ∃ W1, (w.alloc (.deferred (some []))).alloc (.loop (rec .ready none)) = W1 := ⟨_, rfl⟩
  have hsz1 : W1.heap.size = w.heap.size + 2 := by rw [← hW1]; simp
  have hL1 : W1.heap[l]? = some (.loop (rec .ready none)) := by
    rw [← hW1, hl]; have := World.alloc_heap_new (w.alloc (.deferred (some []))) (.loop (rec .ready none)); rwa [World.size_alloc] at this
  have hK1 : W1.heap[D]? = some (.deferred (some [])) := by
    rw [← hW1, hD]; exact (Below.heap_alloc _ _ _ (by simp)).trans (World.alloc_heap_new w _)
  have hB1 : Below w.heap.size w W1 := by
    rw [← hW1]; exact ((Below.refl _ w).alloc (Nat.le_refl _) _).alloc (by simp) _
  obtain ⟨hl1, ht1, hs1⟩ := hs.switch (fun _ => False) (fun k => k = D ∨ k = l) hB1.size (fun _ _ h => h.elim) (fun k hk _ => hB1.block k hk) (fun k hk => by rcases hk with rfl | rfl <;> omega)
  obtain ⟨h1, hh1⟩ : ∃ h1, h1 = h.anew W1 (xK (Sf 0) ρ) hl1 ht1 := ⟨_, rfl⟩
  rw [← hh1] at hs1
  have hr1 : h1.r = h.r := by rw [hh1]; rfl
  have hw1 : h1.w = W1 := by rw [hh1]; rfl
  have ht1' : ∀ k, h1.t k → xK (Sf 0) ρ k := by rw [hh1]; exact fun k hk => hk
  obtain ⟨M1, hM1⟩ : ∃ M1 : Nat → Nat → Prop, M1 = fun k c => M k c ∨ (k = D ∨ k = l) := ⟨_, rfl⟩
  rw [← hM1] at hs1
  have hMl : ∀ c, M1 l c := fun c => by rw [hM1]; exact .inr (.inr rfl)
  have hMD : ∀ c, M1 D c := fun c => by rw [hM1]; exact .inr (.inl rfl)
  have hDl : D ≠ l := by omega
  have not_own : ∀ {S : AS} {ρ : Nat → Value} {M' : Nat → Nat → Prop} {h' : Home} {a' : Act} {w' : World} {k : Nat}, Sat M' n h' S ρ a' w' → (∀ c, M' k c) → ¬ xK S ρ k := fun hs' hk ⟨id, b, p1, p2⟩ => hs'.out _ 0 (hk 0) (hs'.mine id b _ p1 p2)
  let J : Nat → (Nat → Prop) → World → Prop := fun i Z W => ∃ ρ, Sat M1 n h1 (Sf i) ρ a W ∧ Z = xK (Sf i) ρ ∧ W.heap[l]? = some (.loop (rec .ready none)) ∧ W.heap[D]? = some (.deferred (some []))
  have hY : Yields P l M1 N ys J := by
    refine ⟨fun i Z W k ⟨ρ, hs, hz, _⟩ hk => ?_, fun i Z W W' ⟨ρ, hs, hz, p1, p2⟩ hB => ?_, fun i Z W vs hi hJ hvl hvs => ?_⟩
    · subst hz
      obtain ⟨id, b, p1, p2⟩ := hk
      exact Mut.blk_lt hs p1 p2
    · exact ⟨ρ, hs.ext hB, hz, (hB.block l (Array.getElem?_eq_some_iff.1 p1).1).trans p1, (hB.block D (Array.getElem?_eq_some_iff.1 p2).1).trans p2⟩
    · obtain ⟨ρ, hs, rfl, p1, p2⟩ := hJ
      have hvp : vs.toArray.size = (rec .ready none).params.size := by rw [hrec]; simp [hvl, hys]
      have hltl : l < W.heap.size := (Array.getElem?_eq_some_iff.1 p1).1
      have hltD : D < W.heap.size := (Array.getElem?_eq_some_iff.1 p2).1
      refine ⟨fn, (ps.zip vs.toArray).foldl (fun t (p, v) => t.setIfInBounds p v) a.tmps, assign, body, ?_, roundIn_of_wpIn trivial ?_⟩
      · have := run_yield (P := P) (args := vs.toArray) p1 hvp
        rw [this, hrec]
      -- the round's frame
      obtain ⟨hla, hta, hsa⟩ := hs.switch (fun _ => False) (fun _ => False) (Nat.le_refl _) (fun _ _ h => h.elim) (fun _ _ _ => rfl) (fun _ h => h.elim)
      have hsb := (hsa.puts (ds := ps.toList) (xs := ys i) (vs := vs) (by simp [hys]) hvl hps (fun j c v hc hv => (hvs j c v hc hv).mono fun k c _ hk => by
        rcases hk with (hk | hk) | ⟨id, b, q1, q2, _⟩
        · exact .inl hk
        · exact hk.elim
        · exact .inr ⟨id, b, q1, q2⟩)).withD []
      have efold : (ps.zip vs.toArray).foldl (fun t (p, v) => t.setIfInBounds p v) a.tmps = (ps.toList.zip vs).foldl (fun t (p, v) => t.setIfInBounds p v) a.tmps := by
        rw [← Array.foldl_toList]
        simp
      rw [efold]
      refine hass l i hi (fun S h => by cases h.1) _ _ ρ _ W _ hsb fun e S' ρ' a' w' hk hs' _ => ?_
      obtain ⟨he, hsub⟩ := hk
      obtain rfl := bare_of he (fun c hc => by cases hc)
      obtain ⟨ρa, hsA⟩ := hsub _ _ _ ρ' a' w' hs'
      -- the round begins
      have hA : yV (h1.anew W (xK (Sf i) ρ) hla hta) w' := ⟨hsA.below.os, hsA.below.tape, hsA.below.output, hsA.below.size, hsA.below.block⟩
      have nl := not_own hs hMl
      have nD := not_own hs hMD
      have q1 : w'.heap[l]? = some (.loop (rec .ready none)) := (hA.block l hltl nl).trans p1
      have q2 : w'.heap[D]? = some (.deferred (some [])) := (hA.block D hltD nD).trans p2
      refine ⟨_, run_beginRound q1 (by rw [hrec]), ?_⟩
      obtain ⟨w2, hw2⟩ : ∃ w2, w'.putObj l (.loop { rec .ready none with state := .busy }) = w2 := ⟨_, rfl⟩
      rw [hw2]
      have sz2 : w2.heap.size = w'.heap.size := by rw [← hw2]; exact putObj_size _ _ _
      have r1 : w2.heap[l]? = some (.loop { rec .ready none with state := .busy }) := by rw [← hw2]; exact putObj_at q1
      have ne2 : ∀ k, k ≠ l → w2.heap[k]? = w'.heap[k]? := fun k hk => by rw [← hw2]; exact putObj_ne hk
      have os2 : w2.os = w'.os ∧ w2.tape = w'.tape ∧ w2.output = w'.output := by rw [← hw2]; exact ⟨rfl, rfl, rfl⟩
      obtain ⟨hlb2, htb2, hsB⟩ := hsA.switch (fun k => k = l) (fun _ => False) (Nat.le_of_eq sz2.symm) (fun k c hk _ => by subst hk; exact .inl (hMl c)) (fun k _ hk => ne2 k hk) (fun _ h => h.elim)
      have ownA : ∀ k, xK (Sa i) ρa k → xK (Sf i) ρ k ∨ W.heap.size ≤ k := fun k ⟨id, b, e1, e2⟩ => by
        rcases hsA.mine id b k e1 e2 with h5 | h5
        · exact .inr h5
        · exact .inl h5
      have nlA : ¬ xK (Sa i) ρa l := not_own hsA fun c => .inl (hMl c)
      refine hbody l i hi (fun S h => by cases h.1) _ _ ρa _ w2 _ hsB fun e S' ρ' a3 w3 hk hs' _ => ?_
      obtain ⟨he, hsub⟩ := hk
      obtain rfl := bare_of he (fun c hc => by cases hc)
      obtain ⟨ρ3, hsC⟩ := hsub _ _ _ ρ' a3 w3 hs'
      have hC := hsC.below
      have hCblk : ∀ k, k < w2.heap.size → ¬ xK (Sa i) ρa k → w3.heap[k]? = w2.heap[k]? := hC.block
      have hCsz : w2.heap.size ≤ w3.heap.size := hC.size
      have hAsz : W.heap.size ≤ w'.heap.size := hA.size
      have s1 : w3.heap[l]? = some (.loop { rec .ready none with state := .busy }) := (hCblk l (by omega) nlA).trans r1
      have hend := run_endRound (P := P) none s1
      have erec : ({ ({ rec .ready none with state := .busy } : Loop) with state := if (none : Option Code).isNone then .ready else .done, pending := none } : Loop) = rec .ready none := by rw [hrec]; rfl
      rw [erec] at hend
      refine ⟨_, _, hend, rfl, ?_⟩
      obtain ⟨w4, hw4⟩ : ∃ w4, w3.putObj l (.loop (rec .ready none)) = w4 := ⟨_, rfl⟩
      rw [hw4]
      have sz4 : w4.heap.size = w3.heap.size := by rw [← hw4]; exact putObj_size _ _ _
      have t1 : w4.heap[l]? = some (.loop (rec .ready none)) := by rw [← hw4]; exact putObj_at s1
      have ne4 : ∀ k, k ≠ l → w4.heap[k]? = w3.heap[k]? := fun k hk => by rw [← hw4]; exact putObj_ne hk
      have os4 : w4.os = w3.os ∧ w4.tape = w3.tape ∧ w4.output = w3.output := by rw [← hw4]; exact ⟨rfl, rfl, rfl⟩
      have un4 : ∀ k, k < W.heap.size → ¬ xK (Sf i) ρ k → w4.heap[k]? = W.heap[k]? := fun k hk hno => by
        by_cases e : k = l
        · subst e; rw [t1, p1]
        · rw [ne4 k e, hCblk k (by omega) fun ho => by rcases ownA k ho with h5 | h5; exact hno h5; omega, ne2 k e]
          exact hA.block k hk hno
      have ownC : ∀ k, xK (Sb i) ρ3 k → xK (Sf i) ρ k ∨ W.heap.size ≤ k := fun k ⟨id, b, e1, e2⟩ => by
        rcases hsC.mine id b k e1 e2 with h5 | h5
        · exact .inr (by have h6 : w2.heap.size ≤ k := h5; omega)
        · exact ownA k h5
      have blkC : ∀ id, (Sf (i + 1)).blk id = (Sb i).blk id := fun id => by show look (Sf (i + 1)).s id = look (Sb i).s id; rw [hb i]
      have hwake := hs.wake (l := l) (w4 := w4) hsC (ht i) (hb i) (fun p hp => by rw [hr1]; exact hw i p hp) rfl (htu i) hMl (fun k c hk => .inl (.inl hk))
        ⟨os4.1.trans (hC.os.trans (os2.1.trans hA.os)), os4.2.1.trans (hC.tape.trans (os2.2.1.trans hA.tape)), os4.2.2.trans (hC.output.trans (os2.2.2.trans hA.output))⟩ (by omega) un4 (Nat.le_of_eq sz4.symm) (fun k _ hk => ne4 k hk) ⟨cell_obj s1, cell_obj t1⟩ ownC
      refine ⟨xK (Sf (i + 1)) ρ3, ⟨ρ3, hwake, rfl, t1, ?_⟩, by omega, un4, fun k ⟨id, b, e1, e2⟩ => ownC k ⟨id, b, by rw [← blkC]; exact e1, e2⟩⟩
      exact (un4 D hltD nD).trans p2
  refine ⟨l, [{ target := .collected D, args := #[] }], W1, { target := .fn (.func gf) lb.toArray, args := #[.func (.yield l) #[] #[]] }, W1, gf, (Value.func (.yield l) #[] #[] :: lb).toArray, W1, ?_, ?_, ?_, ?_, fun h => (by cases h), ?_⟩
  · have := run_enterLoop_outer (P := P) (w := w) fn a.tmps ps assign body
    rw [← hW1, hrec, hD, hl]
    exact this
  · simp only [resolve, hg]
    simp [go_sem]
  · intro _ _; trivial
  · simp [invoke, go_sem, hc.h]
  · refine (callsIn_wide.2 (hit l M1 J W1 (xK (Sf 0) ρ) lb hY ⟨ρ, hs1, rfl, hL1, hK1⟩ hl1 (fun g c hg hk => by
      rcases hk with hk | hk
      · exact hs1.tab g c hg hk
      · exact ht1 g hg hk) (fun k c hk => Mut.lt hs1 (c := c) (.inl hk)) hlb fun j x v hx hv => ?_)).mono fun e W2 he => ?_
    · refine ((hcs j x v hx hv).mono fun k c hk hm => ?_).keep (.of_below _ hB1)
      rcases hm with hm | hm
      · rw [hM1] at hm
        rcases hm with hm | hm | hm
        · exact .inl hm
        · omega
        · omega
      · exact .inr hm
    · obtain ⟨⟨v, rfl⟩, Z', ρ2, hs2, rfl, p1, p2⟩ := he
      obtain ⟨W3, hW3⟩ : ∃ W3, W2.putObj l (.loop { rec .ready none with state := .exhausted }) = W3 := ⟨_, rfl⟩
      have hendl := run_endLoop (P := P) p1 (by rw [hrec]; simp)
      rw [hW3] at hendl
      have epend : (rec .ready none).pending = none := by rw [hrec]
      rw [epend] at hendl
      refine ⟨none, W3, hendl, ?_⟩
      have sz3 : W3.heap.size = W2.heap.size := by rw [← hW3]; exact putObj_size _ _ _
      have ne3 : ∀ k, k ≠ l → W3.heap[k]? = W2.heap[k]? := fun k hk => by rw [← hW3]; exact putObj_ne hk
      have os3 : W3.os = W2.os ∧ W3.tape = W2.tape ∧ W3.output = W2.output := by rw [← hW3]; exact ⟨rfl, rfl, rfl⟩
      obtain ⟨hl3, ht3, hs3⟩ := hs2.switch (fun k => k = l) (fun _ => False) (Nat.le_of_eq sz3.symm) (fun k c hk _ => by subst hk; exact hMl c) (fun k _ hk => ne3 k hk) (fun _ h => h.elim)
      have hs4 := hs3.withD ({ target := .collected D, args := #[] } :: a.defers)
      have own_has : ∀ k, xK (Sf N) ρ2 k → h.has k := fun k ⟨id, b, e1, e2⟩ => by
        rcases hs2.mine id b k e1 e2 with h5 | h5
        · rw [hw1] at h5
          exact .inl (Nat.le_trans hs.below.size (Nat.le_trans hB1.size h5))
        · obtain ⟨id', b', e3, e4⟩ := ht1' k h5
          exact hs.mine id' b' k e3 e4
      have hbel : yV h W3 := by
        have b2 := hs2.below
        refine ⟨os3.1.trans (b2.os.trans ?_), os3.2.1.trans (b2.tape.trans ?_), os3.2.2.trans (b2.output.trans ?_), ?_, fun k hk hk2 => ?_⟩
        · rw [hw1]; exact hB1.os.trans hs.below.os
        · rw [hw1]; exact hB1.tape.trans hs.below.tape
        · rw [hw1]; exact hB1.output.trans hs.below.output
        · have := b2.size; rw [hw1] at this; have := hs.below.size; have := hB1.size; omega
        · have hkw : k < w.heap.size := Nat.lt_of_lt_of_le hk hs.below.size
          rw [ne3 k (by omega)]
          rw [b2.block k (by rw [hw1]; omega) fun h5 => ?_, hw1, hB1.block k hkw]
          · exact hs.below.block k hk hk2
          · obtain ⟨id', b', e3, e4⟩ := ht1' k h5
            rcases hs.mine id' b' k e3 e4 with h6 | h6
            · omega
            · exact hk2 h6
      exact hdone D (fun k c => M1 k c ∨ False) { h1.anew W3 (xK (Sf N) ρ2) hl3 ht3 with d := { target := .collected D, args := #[] } :: a.defers } ρ2 W3 (by rw [hD]; exact hs.below.size) (fun k c hk => .inl (by rw [hM1]; exact .inl hk)) (fun c => .inl (hMD c)) rfl hr1 rfl own_has hbel ((ne3 D hDl).trans p2) hs4
end
/-! ### A function that holds such a loop -/
def RFn (M : Nat → Nat → Prop) (w : World) (r : RV) (e : Ending) (w' : World) : Prop := ∃ v, e = .returned v ∧ RepR M w w' r v ∧ Below w.heap.size w w'
theorem fn_ofM {P : Program} {f : FuncId} {fn : Func} {c : Code} {args : List PV} {r : RV} {n : Nat} (hf : P.funcs[f]? = some fn) (hb : fn.body = some c) (hn : fn.ntmps = n) (hle : args.length ≤ n)
    (h : ∀ (M : Nat → Nat → Prop) (w : World) (hl : Lays w), (∀ k c, M k c → k < w.heap.size) → WC P n c (AS.entry args) M (Home.plain w hl) (bodyPostM Fence.wide 0 P fn (RFn M w r))) : Fn P f args r := by
  intro M w vs hT hM hvl hvs
  refine callsIn_wide.1 (callsIn_of_wp_marks (n := 0) hf hb trivial (wpIn_wide.2 (WC.run (h M w hT.1 hM) (ρ := fun _ => undef) ?_)))
  refine ⟨yV.refl (Home.plain w hT.1), (fun k c hk hh => by rcases hh with hh | hh; exact absurd (hM k c hk) (Nat.not_lt.2 hh); exact hh), hT.2, by simp; omega, rfl, fun i => ?_, (fun id b hb => by cases hb), (fun id b k hb => by cases hb), (fun k v hk => by cases hk), (fun _ _ => rfl), (fun i j bi bj k hi => by cases hi)⟩
  show zG _ _ _ ((look (zipArgs 0 args) i).getD .any) _
  rw [look_zipArgs]
  simp only [Nat.zero_le, if_true, Nat.sub_zero]
  cases hx : args[i]? with
  | none => exact .any _
  | some x =>
    have hi : i < vs.length := by rw [hvl]; exact (List.getElem?_eq_some_iff.1 hx).1
    have e : ({ tmps := vs.toArray ++ Array.replicate (fn.ntmps - vs.toArray.size) undef, defers := [] } : Act).tmps.getD i undef = vs[i] := by
      simp [Array.getD_eq_getD_getElem?, Array.getElem?_append, hi]
    rw [e]
    refine .p ((hvs i x vs[i] hx (List.getElem?_eq_getElem hi)).mono ?_)
    rintro k c _ (hk | ⟨id, b, hb, _⟩)
    · exact hk
    · cases hb
/-- at the function's end, with the loop's mark among its deferred calls -/
theorem end_marks {P : Program} {fn : Func} {n D : Nat} {M M' : Nat → Nat → Prop} {w w' : World} {hl : Lays w} {h' : Home} {S : AS} {ρ : Nat → Value} {a : Act} {rs : List ResultVar} {l : List PV} (hs : Sat M' n h' S ρ a w') (hD : w.heap.size ≤ D) (hM : ∀ k c, M k c → M' k c) (hMD : ∀ c, M' D c) (hd : h'.d = [{ target := .collected D, args := #[] }])
    (ht : ∀ k, h'.t k → (Home.plain w hl).has k) (hb : yV (Home.plain w hl) h'.w) (hk : h'.w.heap[D]? = some (.deferred (some []))) (hr : fn.results = rs.toArray) (hn : rs.length ≠ 1) (hx : ResVs P S rs l) :
    bodyPostM Fence.wide 0 P fn (RFn M w (.tup l)) .ret a w' := by
  have hnt : ¬ h'.t D := fun h1 => hs.out D 0 (hMD 0) (.inr h1)
  have hlt : D < h'.w.heap.size := (Array.getElem?_eq_some_iff.1 hk).1
  have hk2 : w'.heap[D]? = some (.deferred (some [])) := (hs.below.block D hlt hnt).trans hk
  obtain ⟨w2, hw2⟩ : ∃ w2, w'.putObj D (.deferred none) = w2 := ⟨_, rfl⟩
  have sz2 : w2.heap.size = w'.heap.size := by rw [← hw2]; exact putObj_size _ _ _
  have ne2 : ∀ k, k ≠ D → w2.heap[k]? = w'.heap[k]? := fun k hk => by rw [← hw2]; exact putObj_ne hk
  have os2 : w2.os = w'.os ∧ w2.tape = w'.tape ∧ w2.output = w'.output := by rw [← hw2]; exact ⟨rfl, rfl, rfl⟩
  obtain ⟨hl3, ht3, hs3⟩ := hs.switch (fun k => k = D) (fun _ => False) (Nat.le_of_eq sz2.symm) (fun k c hk _ => by subst hk; exact hMD c) (fun k _ hk => ne2 k hk) (fun _ h => h.elim)
  have hbel : Below w.heap.size w w2 := by
    have b1 := hb.plain
    refine ⟨os2.1.trans (hs.below.os.trans b1.os), os2.2.1.trans (hs.below.tape.trans b1.tape), os2.2.2.trans (hs.below.output.trans b1.output), ?_, fun k hk => ?_⟩
    · have := b1.size; have := hs.below.size; omega
    · have h2 := b1.size
      rw [ne2 k (by omega), hs.below.block k (by omega) fun h5 => ?_]
      · exact b1.block k hk
      · rcases ht k h5 with h6 | h6
        · have h7 : w.heap.size ≤ k := h6
          omega
        · exact h6
  show LeavesInM Fence.wide 0 P fn a.tmps _ a.defers .returning w'
  rw [hs.defers, hd]
  refine ⟨by simp, .inl ⟨D, w2, rfl, ?_, ?_⟩⟩
  · rw [← hw2]; exact run_takeDeferred hk2
  · obtain ⟨us, h1, h2, h4, h3⟩ := res_all hs3 hx
    have h5 := results_run (P := P) (w := w2) fn a.tmps hr h1
    rw [dif_neg (by simp only [List.size_toArray]; omega)] at h5
    exact ⟨_, h5, _, rfl, ⟨us, rfl, h2, fun i x u hx hu => (h3 i x u hx hu).mono fun k c _ hk => .inl (hM k c hk)⟩, hbel⟩
end Go.Proofs.YteppicfkdcofjaaDoor
