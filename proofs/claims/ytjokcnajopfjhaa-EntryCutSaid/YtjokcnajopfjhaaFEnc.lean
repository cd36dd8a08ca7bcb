/- Encode, the program's, as a contract. -/
import Derived.Test.YtjokcnajopfjhaaFFields
namespace Go.Proofs.Ytjokcnajopfjhaa
open Go Go.RowKit
set_option linter.unusedSimpArgs false
attribute [local irreducible] AOps ACode Step AStep Sub TChain Fn

/-- the values that fields tells, of an entry of kind k -/
def valsOf (k s y u v x : Int) : List Int := if k = 1 then [s, y, u, v, x] else [s]
/-- the bytes so far: the kind's, and the first i values' -/
def encUp (k : Int) (vals : List Int) (i : Nat) : List Int := IntKind.u8.wrap k :: (vals.take i).flatMap (bytesOf 8)
def cellsOf (k s y u v x : Int) : List PV := [.val (.int .i64 k), .val (.int .u64 s), .val (.int .u64 y), .val (.int .u64 u), .val (.int .u64 v), .val (.int .u64 x)]

theorem encUp_succ (k : Int) (vals : List Int) (i : Nat) (h : i < vals.length) : encUp k vals (i + 1) = encUp k vals i ++ bytesOf 8 (vals.getD i 0) := by
  have e : vals.take (i + 1) = vals.take i ++ [vals.getD i 0] := by
    rw [List.take_add_one, List.getElem?_eq_getElem h]
    simp [List.getD, h]
  unfold encUp
  rw [e, List.flatMap_append, List.cons_append]
  simp

def encO (k s y u v x : Int) (i : Nat) : AS :=
  ⟨[(2, .p (.val (.slice none 0 0))), (3, .p (.val (.int .i64 0))), (4, .own 14), (15, .own 15), (16, .p (.val (.int .i64 (fieldsA 1 k).length))), (17, .p (.val (.int .i64 i)))],
   [(1, .box 24 ((cellsOf k s y u v x).map AV.p)), (14, rowB 5 (encUp k (valsOf k s y u v x) i)), (15, .row 43 1 (fieldsA 1 k).length (fieldsA 1 k))]⟩
def encI (k s y u v x : Int) (i j : Nat) : AS :=
  ⟨[(2, .p (.val (.slice none 0 0))), (3, .p (.val (.int .i64 0))), (4, .own 14), (6, .ptr 1 (i + 1)), (15, .own 15), (16, .p (.val (.int .i64 (fieldsA 1 k).length))), (17, .p (.val (.int .i64 i))), (21, .p (.val (.int .i64 j)))],
   [(1, .box 24 ((cellsOf k s y u v x).map AV.p)), (14, rowB 5 (encUp k (valsOf k s y u v x) i ++ bytesOf j ((valsOf k s y u v x).getD i 0))), (15, .row 43 1 (fieldsA 1 k).length (fieldsA 1 k))]⟩


theorem fieldsA_kill (k : Int) (id : Nat) (h : id ≠ 1) : (fieldsA 1 k).map (AV.kill id) = fieldsA 1 k := by
  have e : ∀ j, AV.kill id (.ptr 1 j) = .ptr 1 j := fun j => by
    show (if 1 = id then AV.any else AV.ptr 1 j) = _
    rw [if_neg (fun h' => h h'.symm)]
  unfold fieldsA
  split
  · simp only [List.map_cons, List.map_nil, e]
  · split
    · simp only [List.map_cons, List.map_nil, e]
    · rfl
/-- the row of the fields, whatever is made anew -/
theorem rowF_kill (k : Int) (id : Nat) (h : id ≠ 1) : (some (Blk.row 43 1 (fieldsA 1 k).length ((fieldsA 1 k).map (AV.kill id))) : Option Blk) = some (.row 43 1 (fieldsA 1 k).length (fieldsA 1 k)) := by
  rw [fieldsA_kill k id h]
theorem rowF_kill2 (k : Int) (id id2 : Nat) (h : id ≠ 1) (h2 : id2 ≠ 1) : (some (Blk.row 43 1 (fieldsA 1 k).length (((fieldsA 1 k).map (AV.kill id)).map (AV.kill id2))) : Option Blk) = some (.row 43 1 (fieldsA 1 k).length (fieldsA 1 k)) := by
  rw [fieldsA_kill k id h, fieldsA_kill k id2 h2]

theorem fieldsA_get (k : Int) (i : Nat) (hi : i < (fieldsA 1 k).length) : (fieldsA 1 k)[((i : Int)).toNat * 1]? = some (.ptr 1 (i + 1)) := by
  rw [Nat.mul_one, Int.toNat_natCast]
  unfold fieldsA at hi ⊢
  by_cases h1 : k = 1
  · rw [if_pos h1] at hi ⊢
    match i with
    | 0 | 1 | 2 | 3 | 4 => rfl
    | i + 5 => exact absurd hi (by simp)
  · rw [if_neg h1] at hi ⊢
    by_cases h2 : k = 2 ∨ k = 3
    · rw [if_pos h2] at hi ⊢
      match i with
      | 0 => rfl
      | i + 1 => simp at hi
    · rw [if_neg h2] at hi; simp at hi

theorem fields_len (k s y u v x : Int) (i : Nat) (hi : i < (fieldsA 1 k).length) : i < (valsOf k s y u v x).length := by
  unfold fieldsA at hi
  unfold valsOf
  by_cases h1 : k = 1
  · rw [if_pos h1] at hi ⊢; exact hi
  · rw [if_neg h1] at hi ⊢
    by_cases h2 : k = 2 ∨ k = 3
    · rw [if_pos h2] at hi; exact hi
    · rw [if_neg h2] at hi; simp at hi

theorem cells_get (k s y u v x : Int) (i : Nat) (hi : i < (fieldsA 1 k).length) : ((cellsOf k s y u v x).map AV.p)[i + 1]? = some (.p (.val (.int .u64 ((valsOf k s y u v x).getD i 0)))) := by
  unfold fieldsA at hi
  unfold valsOf
  by_cases h1 : k = 1
  · rw [if_pos h1] at hi ⊢
    match i with
    | 0 | 1 | 2 | 3 | 4 => rfl
    | i + 5 => exact absurd hi (by simp)
  · rw [if_neg h1] at hi ⊢
    by_cases h2 : k = 2 ∨ k = 3
    · rw [if_pos h2] at hi
      match i with
      | 0 => rfl
      | i + 1 => simp at hi
    · rw [if_neg h2] at hi; simp at hi

theorem valsOf_range (k s y u v x : Int) (h0 : 0 ≤ s) (h1 : s < 18446744073709551616) (h2 : 0 ≤ y) (h3 : y < 18446744073709551616) (h4 : 0 ≤ u) (h5 : u < 18446744073709551616) (h6 : 0 ≤ v) (h7 : v < 18446744073709551616) (h8 : 0 ≤ x) (h9 : x < 18446744073709551616) (i : Nat) :
    0 ≤ (valsOf k s y u v x).getD i 0 ∧ (valsOf k s y u v x).getD i 0 < 18446744073709551616 := by
  unfold valsOf
  by_cases hk : k = 1
  · rw [if_pos hk]
    match i with
    | 0 => exact ⟨h0, h1⟩
    | 1 => exact ⟨h2, h3⟩
    | 2 => exact ⟨h4, h5⟩
    | 3 => exact ⟨h6, h7⟩
    | 4 => exact ⟨h8, h9⟩
    | i + 5 => exact ⟨Int.le_refl 0, (by decide : (0 : Int) < 18446744073709551616)⟩
  · rw [if_neg hk]
    match i with
    | 0 => exact ⟨h0, h1⟩
    | i + 1 => exact ⟨Int.le_refl 0, (by decide : (0 : Int) < 18446744073709551616)⟩

theorem encUp_len (k : Int) (vals : List Int) (i : Nat) : (encUp k vals i).length = 1 + 8 * min i vals.length := by
  unfold encUp
  rw [List.length_cons]
  have : ∀ l : List Int, (l.flatMap (bytesOf 8)).length = 8 * l.length := by
    intro l
    induction l with
    | nil => rfl
    | cons a r ih => simp only [List.flatMap_cons, List.length_append, List.length_cons, bytesOf_length, ih]; omega
  rw [this, List.length_take]
  omega

theorem fieldsA_le (k : Int) : (fieldsA 1 k).length ≤ 5 := by
  unfold fieldsA
  split
  · decide
  · split <;> decide

theorem pow8 (j : Nat) : (2 : Int) ^ (8 * (j : Int)).toNat = 256 ^ j := by
  have : (8 * (j : Int)).toNat = 8 * j := by omega
  rw [this, Int.pow_mul]
  rfl

theorem encUp_all (k s y u v x : Int) (hm : mayB k s y u v x = true) : encUp k (valsOf k s y u v x) (fieldsA 1 k).length = encL k s y u v x := by
  have hw : IntKind.u8.wrap k = k % 256 := by simp [IntKind.wrap, IntKind.signed, IntKind.bits]
  have hk : k = 1 ∨ k = 2 ∨ k = 3 := by
    unfold mayB at hm
    by_cases h1 : k = 1
    · exact .inl h1
    · by_cases h2 : k = 2
      · exact .inr (.inl h2)
      · by_cases h3 : k = 3
        · exact .inr (.inr h3)
        · simp [h1, h2, h3] at hm
  unfold encUp encL valsOf fieldsA
  rw [hw]
  rcases hk with rfl | rfl | rfl <;> simp

set_option maxRecDepth 100000 in
set_option maxHeartbeats 4000000 in
theorem enc_fn (k s y u v x : Int) (h0 : 0 ≤ s) (h1 : s < 18446744073709551616) (h2 : 0 ≤ y) (h3 : y < 18446744073709551616) (h4 : 0 ≤ u) (h5 : u < 18446744073709551616) (h6 : 0 ≤ v) (h7 : v < 18446744073709551616) (h8 : 0 ≤ x) (h9 : x < 18446744073709551616) :
    Fn Try.prog 8 [entV k s y u v x] (.tup (if mayB k s y u v x then [.sl (byts (encL k s y u v x)), .val (.int .i64 0)] else [.sl [], .val (.int .i64 1)])) := by
  refine fn_of2 Try.func8 rfl Try.ntmps8 (Nat.le_of_ble_eq_true rfl) ?_
  repeat' (first
    | (refine AOps.is ?_; first
      | refine AOps.nil ?_
      | refine AOps.v rfl rfl (by first | exact a_assignP rfl rfl rfl (by decide) | exact a_assignO rfl rfl rfl (by decide) | exact a_assignR rfl rfl rfl (by decide) | exact a_assignPt rfl rfl rfl (by decide) | exact a_assignT rfl rfl rfl (by decide) | exact a_add rfl rfl rfl (by first |  (simp only [Int.reduceAdd, Int.reduceSub, Int.reduceMul]; first | exact wrap_i64 _ (by omega) | exact wrap_u64 _ (by omega) | exact wrap_u8 _ (by omega) | exact wrap_u32 _ (by omega) | exact wrap_i32 _ (by omega) | exact wrap_u16 _ (by omega)) | exact wrap_i64 _ (by omega) | exact wrap_u64 _ (by omega) | exact wrap_u8 _ (by omega) | exact wrap_u32 _ (by omega) | exact wrap_i32 _ (by omega) | exact wrap_u16 _ (by omega) | rfl) rfl (by decide) | exact r_lss rfl rfl rfl (by first | exact bT (by decide) | exact bF (by decide) | exact decide_eq_true (by with_reducible rfl) | (with_reducible exact beq_self_eq_true _) | rfl) rfl (by decide) | exact a_mul rfl rfl rfl (by first |  (simp only [Int.reduceAdd, Int.reduceSub, Int.reduceMul]; first | exact wrap_i64 _ (by omega) | exact wrap_u64 _ (by omega) | exact wrap_u8 _ (by omega) | exact wrap_u32 _ (by omega) | exact wrap_i32 _ (by omega) | exact wrap_u16 _ (by omega)) | exact wrap_i64 _ (by omega) | exact wrap_u64 _ (by omega) | exact wrap_u8 _ (by omega) | exact wrap_u32 _ (by omega) | exact wrap_i32 _ (by omega) | exact wrap_u16 _ (by omega) | rfl) rfl (by decide) | exact a_shr rfl rfl rfl (by first | decide | omega) (by first | decide | (simp only [IntKind.bits]; omega)) (by first |  (simp only [Int.reduceToNat, Int.reducePow]; rfl) | rfl) rfl (by decide) | exact w_lenP rfl rfl rfl (by decide) | exact w_lenS rfl rfl rfl (by decide) | exact w_lenN rfl rfl rfl (by decide) | exact w_lenB rfl rfl rfl rfl (by decide) | exact w_lenO rfl rfl rfl rfl (by decide) | exact w_conv rfl rfl (by first |  (simp only [Int.reduceAdd, Int.reduceSub, Int.reduceMul]; first | exact wrap_i64 _ (by omega) | exact wrap_u64 _ (by omega) | exact wrap_u8 _ (by omega) | exact wrap_u32 _ (by omega) | exact wrap_i32 _ (by omega) | exact wrap_u16 _ (by omega)) | exact wrap_i64 _ (by omega) | exact wrap_u64 _ (by omega) | exact wrap_u8 _ (by omega) | exact wrap_u32 _ (by omega) | exact wrap_i32 _ (by omega) | exact wrap_u16 _ (by omega) | rfl) rfl (by decide) | exact w_str rfl rfl rfl (by decide) | exact w_fieldR rfl rfl rfl (by decide) | exact w_fieldPt rfl rfl rfl (by decide) | exact w_indexB rfl rfl rfl (by first |  (simp only [decide_eq_true_eq, decide_eq_false_iff_not, Bool.not_eq_true', Bool.not_eq_false'] at *; omega)) rfl (by decide) | exact w_indexOB rfl rfl rfl rfl (by first |  (simp only [decide_eq_true_eq, decide_eq_false_iff_not, Bool.not_eq_true', Bool.not_eq_false'] at *; omega)) rfl (by decide) | exact w_indexO rfl rfl rfl rfl (by first |  (simp only [decide_eq_true_eq, decide_eq_false_iff_not, Bool.not_eq_true', Bool.not_eq_false'] at *; omega)) rfl (by decide) | exact w_load1 rfl rfl rfl rfl (by decide) | exact w_loadR1 rfl rfl rfl rfl rfl (by decide) | exact w_loadRN rfl rfl rfl (by rfl) (by rfl) rfl (by decide) | exact w_loadN rfl rfl (by exact Nat.le_of_ble_eq_true rfl) rfl (by decide) | exact w_loadO rfl rfl rfl rfl rfl (by decide) | exact w_loadP rfl rfl rfl rfl rfl (by decide) | exact a_moveP rfl rfl rfl (by decide) | exact a_moveO rfl rfl rfl (by decide) | exact a_moveR rfl rfl rfl (by decide) | exact a_movePt rfl rfl rfl (by decide) | exact a_moveT rfl rfl rfl (by decide) | exact a_nilR rfl rfl rfl (by decide) | exact a_nilPt rfl rfl rfl (by decide) | exact r_notB rfl rfl (by first | exact bT (by decide) | exact bF (by decide) | exact decide_eq_true (by with_reducible rfl) | (with_reducible exact beq_self_eq_true _) | rfl) rfl (by decide) | exact w_call (may_fn _ _ _ _ _ _ h2 h3) rfl rfl rfl (by decide) | exact w_callT (may_fn _ _ _ _ _ _ h2 h3) rfl rfl rfl (by decide)) ?_
      | refine AOps.m rfl rfl (by first | exact w_boxA rfl rfl rfl (by decide) | exact w_boxV rfl rfl rfl rfl (by decide) | exact w_boxS rfl rfl rfl (by decide) | exact w_build0B rfl rfl (by decide) | exact w_buildB rfl (by decide) (by decide) (by decide) (by decide) (by rfl) (by rfl) (by rfl) (by rfl) rfl (by decide) | exact w_buildSlice rfl (by decide) (by decide) (by decide) (by decide) (by rfl) (by rfl) (by rfl) rfl (by decide) | exact w_fields rfl rfl rfl rfl rfl (by decide)) ?_
      | refine AOps.w rfl (by first | exact w_appB rfl rfl rfl rfl (by first |  (simp only [List.length_append, List.length_cons, List.length_nil, *]; omega)) rfl rfl (by decide) | exact w_appOB rfl rfl rfl rfl rfl (by first |  (simp only [List.length_append, List.length_cons, List.length_nil, *]; omega)) rfl rfl (by decide)) ?_
      | refine AOps.sub (sub_freezeB (d := 1) rfl rfl) ?_
      | refine AOps.sub (sub_freezeB (d := 8) rfl rfl) ?_)
    | (refine ACode.is ?_; first
      | refine ACode.seq ?_
      | (refine ACode.isR (id := 0) ?_; refine ACode.regionK [0] [1, 2, 9, 14, 15, 16, 32, 33] (by repeat' first | exact KeepT.nil | apply KeepT.p rfl | apply KeepT.ptr rfl | apply KeepT.own rfl | apply KeepT.pt rfl | apply KeepT.tup rfl | apply KeepT.skip) (by repeat' first | exact KeepB.nil | apply KeepB.boxP rfl rfl | apply KeepB.rowB rfl | apply KeepB.some rfl | apply KeepB.skip) ?_)
      | (refine ACode.isR (id := 1) ?_; refine ACode.regionK [1, 2, 3] [1, 2, 9, 14, 15, 16, 32, 33] (by repeat' first | exact KeepT.nil | apply KeepT.p rfl | apply KeepT.ptr rfl | apply KeepT.own rfl | apply KeepT.pt rfl | apply KeepT.tup rfl | apply KeepT.skip) (by repeat' first | exact KeepB.nil | apply KeepB.boxP rfl rfl | apply KeepB.rowB rfl | apply KeepB.some rfl | apply KeepB.skip) ?_)
      | (refine ACode.isR (id := 2) ?_; refine ACode.regionK [1, 2, 3] [1, 2, 9, 14, 15, 16, 32, 33] (by repeat' first | exact KeepT.nil | apply KeepT.p rfl | apply KeepT.ptr rfl | apply KeepT.own rfl | apply KeepT.pt rfl | apply KeepT.tup rfl | apply KeepT.skip) (by repeat' first | exact KeepB.nil | apply KeepB.boxP rfl rfl | apply KeepB.rowB rfl | apply KeepB.some rfl | apply KeepB.skip) ?_)
      | (refine ACode.isR (id := 3) ?_; refine ACode.regionK [1, 2, 3] [1, 2, 9, 14, 15, 16, 32, 33] (by repeat' first | exact KeepT.nil | apply KeepT.p rfl | apply KeepT.ptr rfl | apply KeepT.own rfl | apply KeepT.pt rfl | apply KeepT.tup rfl | apply KeepT.skip) (by repeat' first | exact KeepB.nil | apply KeepB.boxP rfl rfl | apply KeepB.rowB rfl | apply KeepB.some rfl | apply KeepB.skip) ?_)
      | (refine ACode.isR (id := 4) ?_; refine ACode.regionK [1, 2, 3, 4] [1, 2, 9, 14, 15, 16, 32, 33] (by repeat' first | exact KeepT.nil | apply KeepT.p rfl | apply KeepT.ptr rfl | apply KeepT.own rfl | apply KeepT.pt rfl | apply KeepT.tup rfl | apply KeepT.skip) (by repeat' first | exact KeepB.nil | apply KeepB.boxP rfl rfl | apply KeepB.rowB rfl | apply KeepB.some rfl | apply KeepB.skip) ?_)
      | (refine ACode.isR (id := 5) ?_; refine ACode.regionK [2, 3, 4, 6, 7, 15, 16, 17, 18, 21, 22] [1, 2, 9, 14, 15, 16, 32, 33] (by repeat' first | exact KeepT.nil | apply KeepT.p rfl | apply KeepT.ptr rfl | apply KeepT.own rfl | apply KeepT.pt rfl | apply KeepT.tup rfl | apply KeepT.skip) (by repeat' first | exact KeepB.nil | apply KeepB.boxP rfl rfl | apply KeepB.rowB rfl | apply KeepB.some rfl | apply KeepB.skip) ?_)
      | (refine ACode.isR (id := 6) ?_; refine ACode.regionK [2, 3, 4, 6, 7, 15, 16, 17, 18, 21, 22] [1, 2, 9, 14, 15, 16, 32, 33] (by repeat' first | exact KeepT.nil | apply KeepT.p rfl | apply KeepT.ptr rfl | apply KeepT.own rfl | apply KeepT.pt rfl | apply KeepT.tup rfl | apply KeepT.skip) (by repeat' first | exact KeepB.nil | apply KeepB.boxP rfl rfl | apply KeepB.rowB rfl | apply KeepB.some rfl | apply KeepB.skip) ?_)
      | (refine ACode.isR (id := 7) ?_; refine ACode.regionK [2, 3, 4, 6, 7, 15, 16, 17, 18, 21, 22] [1, 2, 9, 14, 15, 16, 32, 33] (by repeat' first | exact KeepT.nil | apply KeepT.p rfl | apply KeepT.ptr rfl | apply KeepT.own rfl | apply KeepT.pt rfl | apply KeepT.tup rfl | apply KeepT.skip) (by repeat' first | exact KeepB.nil | apply KeepB.boxP rfl rfl | apply KeepB.rowB rfl | apply KeepB.some rfl | apply KeepB.skip) ?_)
      | (refine ACode.isR (id := 8) ?_; refine ACode.regionK [2, 3, 4, 6, 7, 15, 16, 17, 18, 21, 22] [1, 2, 9, 14, 15, 16, 32, 33] (by repeat' first | exact KeepT.nil | apply KeepT.p rfl | apply KeepT.ptr rfl | apply KeepT.own rfl | apply KeepT.pt rfl | apply KeepT.tup rfl | apply KeepT.skip) (by repeat' first | exact KeepB.nil | apply KeepB.boxP rfl rfl | apply KeepB.rowB rfl | apply KeepB.some rfl | apply KeepB.skip) ?_)
      | (refine ACode.isR (id := 9) ?_; refine ACode.regionK [2, 3, 4, 6, 7, 15, 16, 17, 18, 21, 22] [1, 2, 9, 14, 15, 16, 32, 33] (by repeat' first | exact KeepT.nil | apply KeepT.p rfl | apply KeepT.ptr rfl | apply KeepT.own rfl | apply KeepT.pt rfl | apply KeepT.tup rfl | apply KeepT.skip) (by repeat' first | exact KeepB.nil | apply KeepB.boxP rfl rfl | apply KeepB.rowB rfl | apply KeepB.some rfl | apply KeepB.skip) ?_)
      | (refine ACode.isR (id := 10) ?_; refine ACode.regionK [2, 3, 4, 6, 7, 15, 16, 17, 18, 21, 22] [1, 2, 9, 14, 15, 16, 32, 33] (by repeat' first | exact KeepT.nil | apply KeepT.p rfl | apply KeepT.ptr rfl | apply KeepT.own rfl | apply KeepT.pt rfl | apply KeepT.tup rfl | apply KeepT.skip) (by repeat' first | exact KeepB.nil | apply KeepB.boxP rfl rfl | apply KeepB.rowB rfl | apply KeepB.some rfl | apply KeepB.skip) ?_)
      | (refine ACode.isR (id := 11) ?_; refine ACode.regionK [2, 3, 4, 6, 7, 15, 16, 17, 18, 21, 22] [1, 2, 9, 14, 15, 16, 32, 33] (by repeat' first | exact KeepT.nil | apply KeepT.p rfl | apply KeepT.ptr rfl | apply KeepT.own rfl | apply KeepT.pt rfl | apply KeepT.tup rfl | apply KeepT.skip) (by repeat' first | exact KeepB.nil | apply KeepB.boxP rfl rfl | apply KeepB.rowB rfl | apply KeepB.some rfl | apply KeepB.skip) ?_)
      | (refine ACode.isR (id := 12) ?_; refine ACode.regionK [2, 3, 4, 6, 7, 15, 16, 17, 18, 21, 22] [1, 2, 9, 14, 15, 16, 32, 33] (by repeat' first | exact KeepT.nil | apply KeepT.p rfl | apply KeepT.ptr rfl | apply KeepT.own rfl | apply KeepT.pt rfl | apply KeepT.tup rfl | apply KeepT.skip) (by repeat' first | exact KeepB.nil | apply KeepB.boxP rfl rfl | apply KeepB.rowB rfl | apply KeepB.some rfl | apply KeepB.skip) ?_)
      | (refine ACode.isR (id := 13) ?_; refine ACode.regionK [2, 3, 4] [1, 2, 9, 14, 15, 16, 32, 33] (by repeat' first | exact KeepT.nil | apply KeepT.p rfl | apply KeepT.ptr rfl | apply KeepT.own rfl | apply KeepT.pt rfl | apply KeepT.tup rfl | apply KeepT.skip) (by repeat' first | exact KeepB.nil | apply KeepB.boxP rfl rfl | apply KeepB.rowB rfl | apply KeepB.some rfl | apply KeepB.skip) ?_)
      | refine ACode.condY rfl (by first | assumption | with_reducible rfl) ?_
      | refine ACode.condN rfl (by first | assumption | with_reducible rfl) ?_
      | refine ACode.cond rfl (fun h => ?_) (fun h => ?_)
      | refine ACode.skip ?_
      | refine ACode.block ?_
      | refine ACode.exit ?_
      | refine ACode.ret ?_)
    | refine thenK.n ?_
    | refine thenK.r ?_
    | refine blockK.n ?_
    | refine blockK.r ?_
    | refine blockK.eY ?_
    | refine blockK.eN rfl ?_
    | refine thenK.e ?_)
  · have hm : mayB k s y u v x = false := by simpa using h
    rw [if_neg (by simp [hm])]
    exact ⟨.inl rfl, _, sub_nil (d := 2) rfl, .tup (rs := [.tmp 2, .tmp 3]) rfl (by decide) (.cons (.tmp rfl) (.cons (.tmp rfl) .nil))⟩
  · have hm : mayB k s y u v x = true := by simpa using h
    have h5l := fieldsA_le k
    refine ACode.loop (encO k s y u v x) (fun i => i ≤ (fieldsA 1 k).length) (fun i => (fieldsA 1 k).length - i) 0 ?h0 (Nat.zero_le _) ?rd
    case h0 =>
      refine sub_keep (is := [2, 3, 4, 15, 16, 17]) (js := [1, 14, 15]) ?_ (.boxP rfl rfl (.rowB rfl (.some (rowF_kill k 15 (by decide)) .nil)))
      repeat' first | exact KeepT.nil | apply KeepT.p rfl | apply KeepT.ptr rfl | apply KeepT.own rfl | apply KeepT.pt rfl | apply KeepT.tup rfl | apply KeepT.skip
    case rd =>
      intro i hi
      have hV := valsOf_range k s y u v x h0 h1 h2 h3 h4 h5 h6 h7 h8 h9 i
      by_cases hc : i < (fieldsA 1 k).length
      · have hb : decide ((i : Int) < ((fieldsA 1 k).length : Int)) = true := by simpa using hc
        have f1 := fieldsA_get k i hc
        have f2 := cells_get k s y u v x i hc
        have f3 : (0 : Int) ≤ (i : Int) ∧ ((i : Int)).toNat < (fieldsA 1 k).length := by omega
        repeat' (first
          | (refine AOps.is ?_; first
            | refine AOps.nil ?_
            | refine AOps.v rfl rfl (by first | exact a_assignP rfl rfl rfl (by decide) | exact a_assignO rfl rfl rfl (by decide) | exact a_assignR rfl rfl rfl (by decide) | exact a_assignPt rfl rfl rfl (by decide) | exact a_assignT rfl rfl rfl (by decide) | exact a_add rfl rfl rfl (by first | exact f1 | exact f2 |  (simp only [Int.reduceAdd, Int.reduceSub, Int.reduceMul]; first | exact wrap_i64 _ (by omega) | exact wrap_u64 _ (by omega) | exact wrap_u8 _ (by omega) | exact wrap_u32 _ (by omega) | exact wrap_i32 _ (by omega) | exact wrap_u16 _ (by omega)) | exact wrap_i64 _ (by omega) | exact wrap_u64 _ (by omega) | exact wrap_u8 _ (by omega) | exact wrap_u32 _ (by omega) | exact wrap_i32 _ (by omega) | exact wrap_u16 _ (by omega) | rfl) rfl (by decide) | exact r_lss rfl rfl rfl (by first | exact f1 | exact f2 | exact bT (by decide) | exact bF (by decide) | exact decide_eq_true (by with_reducible rfl) | (with_reducible exact beq_self_eq_true _) | rfl) rfl (by decide) | exact a_mul rfl rfl rfl (by first | exact f1 | exact f2 |  (simp only [Int.reduceAdd, Int.reduceSub, Int.reduceMul]; first | exact wrap_i64 _ (by omega) | exact wrap_u64 _ (by omega) | exact wrap_u8 _ (by omega) | exact wrap_u32 _ (by omega) | exact wrap_i32 _ (by omega) | exact wrap_u16 _ (by omega)) | exact wrap_i64 _ (by omega) | exact wrap_u64 _ (by omega) | exact wrap_u8 _ (by omega) | exact wrap_u32 _ (by omega) | exact wrap_i32 _ (by omega) | exact wrap_u16 _ (by omega) | rfl) rfl (by decide) | exact a_shr rfl rfl rfl (by first | decide | omega) (by first | decide | (simp only [IntKind.bits]; omega)) (by first | exact f1 | exact f2 |  (simp only [Int.reduceToNat, Int.reducePow]; rfl) | rfl) rfl (by decide) | exact w_lenP rfl rfl rfl (by decide) | exact w_lenS rfl rfl rfl (by decide) | exact w_lenN rfl rfl rfl (by decide) | exact w_lenB rfl rfl rfl rfl (by decide) | exact w_lenO rfl rfl rfl rfl (by decide) | exact w_conv rfl rfl (by first | exact f1 | exact f2 |  (simp only [Int.reduceAdd, Int.reduceSub, Int.reduceMul]; first | exact wrap_i64 _ (by omega) | exact wrap_u64 _ (by omega) | exact wrap_u8 _ (by omega) | exact wrap_u32 _ (by omega) | exact wrap_i32 _ (by omega) | exact wrap_u16 _ (by omega)) | exact wrap_i64 _ (by omega) | exact wrap_u64 _ (by omega) | exact wrap_u8 _ (by omega) | exact wrap_u32 _ (by omega) | exact wrap_i32 _ (by omega) | exact wrap_u16 _ (by omega) | rfl) rfl (by decide) | exact w_str rfl rfl rfl (by decide) | exact w_fieldR rfl rfl rfl (by decide) | exact w_fieldPt rfl rfl rfl (by decide) | exact w_indexB rfl rfl rfl (by first | exact f1 | exact f2 |  (simp only [decide_eq_true_eq, decide_eq_false_iff_not, Bool.not_eq_true', Bool.not_eq_false'] at *; omega)) rfl (by decide) | exact w_indexOB rfl rfl rfl rfl (by first | exact f1 | exact f2 |  (simp only [decide_eq_true_eq, decide_eq_false_iff_not, Bool.not_eq_true', Bool.not_eq_false'] at *; omega)) rfl (by decide) | exact w_indexO rfl rfl rfl rfl (by first | exact f1 | exact f2 |  (simp only [decide_eq_true_eq, decide_eq_false_iff_not, Bool.not_eq_true', Bool.not_eq_false'] at *; omega)) rfl (by decide) | exact w_load1 rfl rfl rfl rfl (by decide) | exact w_loadR1 rfl rfl rfl (by first | exact f1 | exact f2 | rfl) rfl (by decide) | exact w_loadRN rfl rfl rfl (by rfl) (by rfl) rfl (by decide) | exact w_loadN rfl rfl (by exact Nat.le_of_ble_eq_true rfl) rfl (by decide) | exact w_loadO rfl rfl rfl rfl rfl (by decide) | exact w_loadP rfl rfl rfl (by first | exact f1 | exact f2 | rfl) rfl (by decide) | exact a_moveP rfl rfl rfl (by decide) | exact a_moveO rfl rfl rfl (by decide) | exact a_moveR rfl rfl rfl (by decide) | exact a_movePt rfl rfl rfl (by decide) | exact a_moveT rfl rfl rfl (by decide) | exact a_nilR rfl rfl rfl (by decide) | exact a_nilPt rfl rfl rfl (by decide) | exact r_notB rfl rfl (by first | exact f1 | exact f2 | exact bT (by decide) | exact bF (by decide) | exact decide_eq_true (by with_reducible rfl) | (with_reducible exact beq_self_eq_true _) | rfl) rfl (by decide)) ?_
            | refine AOps.m rfl rfl (by first | exact w_boxA rfl rfl rfl (by decide) | exact w_boxV rfl rfl rfl rfl (by decide) | exact w_boxS rfl rfl rfl (by decide) | exact w_build0B rfl rfl (by decide) | exact w_buildB rfl (by decide) (by decide) (by decide) (by decide) (by rfl) (by rfl) (by rfl) (by rfl) rfl (by decide) | exact w_buildSlice rfl (by decide) (by decide) (by decide) (by decide) (by rfl) (by rfl) (by rfl) rfl (by decide)) ?_
            | refine AOps.w rfl (by first | exact w_appB rfl rfl rfl rfl (by first | exact f1 | exact f2 |  (simp only [List.length_append, List.length_cons, List.length_nil, *]; omega)) rfl rfl (by decide) | exact w_appOB rfl rfl rfl rfl rfl (by first | exact f1 | exact f2 |  (simp only [List.length_append, List.length_cons, List.length_nil, *]; omega)) rfl rfl (by decide)) ?_
            | refine AOps.sub (sub_freezeB (d := 1) rfl rfl) ?_
            | refine AOps.sub (sub_freezeB (d := 8) rfl rfl) ?_)
          | (refine ACode.is ?_; first
            | refine ACode.seq ?_
            | (refine ACode.isR (id := 0) ?_; refine ACode.regionK [0] [1, 2, 9, 14, 15, 16, 32, 33] (by repeat' first | exact KeepT.nil | apply KeepT.p rfl | apply KeepT.ptr rfl | apply KeepT.own rfl | apply KeepT.pt rfl | apply KeepT.tup rfl | apply KeepT.skip) (by repeat' first | exact KeepB.nil | apply KeepB.boxP rfl rfl | apply KeepB.rowB rfl | apply KeepB.some rfl | apply KeepB.skip) ?_)
            | (refine ACode.isR (id := 1) ?_; refine ACode.regionK [1, 2, 3] [1, 2, 9, 14, 15, 16, 32, 33] (by repeat' first | exact KeepT.nil | apply KeepT.p rfl | apply KeepT.ptr rfl | apply KeepT.own rfl | apply KeepT.pt rfl | apply KeepT.tup rfl | apply KeepT.skip) (by repeat' first | exact KeepB.nil | apply KeepB.boxP rfl rfl | apply KeepB.rowB rfl | apply KeepB.some rfl | apply KeepB.skip) ?_)
            | (refine ACode.isR (id := 2) ?_; refine ACode.regionK [1, 2, 3] [1, 2, 9, 14, 15, 16, 32, 33] (by repeat' first | exact KeepT.nil | apply KeepT.p rfl | apply KeepT.ptr rfl | apply KeepT.own rfl | apply KeepT.pt rfl | apply KeepT.tup rfl | apply KeepT.skip) (by repeat' first | exact KeepB.nil | apply KeepB.boxP rfl rfl | apply KeepB.rowB rfl | apply KeepB.some rfl | apply KeepB.skip) ?_)
            | (refine ACode.isR (id := 3) ?_; refine ACode.regionK [1, 2, 3] [1, 2, 9, 14, 15, 16, 32, 33] (by repeat' first | exact KeepT.nil | apply KeepT.p rfl | apply KeepT.ptr rfl | apply KeepT.own rfl | apply KeepT.pt rfl | apply KeepT.tup rfl | apply KeepT.skip) (by repeat' first | exact KeepB.nil | apply KeepB.boxP rfl rfl | apply KeepB.rowB rfl | apply KeepB.some rfl | apply KeepB.skip) ?_)
            | (refine ACode.isR (id := 4) ?_; refine ACode.regionK [1, 2, 3, 4] [1, 2, 9, 14, 15, 16, 32, 33] (by repeat' first | exact KeepT.nil | apply KeepT.p rfl | apply KeepT.ptr rfl | apply KeepT.own rfl | apply KeepT.pt rfl | apply KeepT.tup rfl | apply KeepT.skip) (by repeat' first | exact KeepB.nil | apply KeepB.boxP rfl rfl | apply KeepB.rowB rfl | apply KeepB.some rfl | apply KeepB.skip) ?_)
            | (refine ACode.isR (id := 5) ?_; refine ACode.regionK [2, 3, 4, 6, 7, 15, 16, 17, 18, 21, 22] [1, 2, 9, 14, 15, 16, 32, 33] (by repeat' first | exact KeepT.nil | apply KeepT.p rfl | apply KeepT.ptr rfl | apply KeepT.own rfl | apply KeepT.pt rfl | apply KeepT.tup rfl | apply KeepT.skip) (by repeat' first | exact KeepB.nil | apply KeepB.boxP rfl rfl | apply KeepB.rowB rfl | apply KeepB.some rfl | apply KeepB.skip) ?_)
            | (refine ACode.isR (id := 6) ?_; refine ACode.regionK [2, 3, 4, 6, 7, 15, 16, 17, 18, 21, 22] [1, 2, 9, 14, 15, 16, 32, 33] (by repeat' first | exact KeepT.nil | apply KeepT.p rfl | apply KeepT.ptr rfl | apply KeepT.own rfl | apply KeepT.pt rfl | apply KeepT.tup rfl | apply KeepT.skip) (by repeat' first | exact KeepB.nil | apply KeepB.boxP rfl rfl | apply KeepB.rowB rfl | apply KeepB.some rfl | apply KeepB.skip) ?_)
            | (refine ACode.isR (id := 7) ?_; refine ACode.regionK [2, 3, 4, 6, 7, 15, 16, 17, 18, 21, 22] [1, 2, 9, 14, 15, 16, 32, 33] (by repeat' first | exact KeepT.nil | apply KeepT.p rfl | apply KeepT.ptr rfl | apply KeepT.own rfl | apply KeepT.pt rfl | apply KeepT.tup rfl | apply KeepT.skip) (by repeat' first | exact KeepB.nil | apply KeepB.boxP rfl rfl | apply KeepB.rowB rfl | apply KeepB.some rfl | apply KeepB.skip) ?_)
            | (refine ACode.isR (id := 8) ?_; refine ACode.regionK [2, 3, 4, 6, 7, 15, 16, 17, 18, 21, 22] [1, 2, 9, 14, 15, 16, 32, 33] (by repeat' first | exact KeepT.nil | apply KeepT.p rfl | apply KeepT.ptr rfl | apply KeepT.own rfl | apply KeepT.pt rfl | apply KeepT.tup rfl | apply KeepT.skip) (by repeat' first | exact KeepB.nil | apply KeepB.boxP rfl rfl | apply KeepB.rowB rfl | apply KeepB.some rfl | apply KeepB.skip) ?_)
            | (refine ACode.isR (id := 9) ?_; refine ACode.regionK [2, 3, 4, 6, 7, 15, 16, 17, 18, 21, 22] [1, 2, 9, 14, 15, 16, 32, 33] (by repeat' first | exact KeepT.nil | apply KeepT.p rfl | apply KeepT.ptr rfl | apply KeepT.own rfl | apply KeepT.pt rfl | apply KeepT.tup rfl | apply KeepT.skip) (by repeat' first | exact KeepB.nil | apply KeepB.boxP rfl rfl | apply KeepB.rowB rfl | apply KeepB.some rfl | apply KeepB.skip) ?_)
            | (refine ACode.isR (id := 10) ?_; refine ACode.regionK [2, 3, 4, 6, 7, 15, 16, 17, 18, 21, 22] [1, 2, 9, 14, 15, 16, 32, 33] (by repeat' first | exact KeepT.nil | apply KeepT.p rfl | apply KeepT.ptr rfl | apply KeepT.own rfl | apply KeepT.pt rfl | apply KeepT.tup rfl | apply KeepT.skip) (by repeat' first | exact KeepB.nil | apply KeepB.boxP rfl rfl | apply KeepB.rowB rfl | apply KeepB.some rfl | apply KeepB.skip) ?_)
            | (refine ACode.isR (id := 11) ?_; refine ACode.regionK [2, 3, 4, 6, 7, 15, 16, 17, 18, 21, 22] [1, 2, 9, 14, 15, 16, 32, 33] (by repeat' first | exact KeepT.nil | apply KeepT.p rfl | apply KeepT.ptr rfl | apply KeepT.own rfl | apply KeepT.pt rfl | apply KeepT.tup rfl | apply KeepT.skip) (by repeat' first | exact KeepB.nil | apply KeepB.boxP rfl rfl | apply KeepB.rowB rfl | apply KeepB.some rfl | apply KeepB.skip) ?_)
            | (refine ACode.isR (id := 12) ?_; refine ACode.regionK [2, 3, 4, 6, 7, 15, 16, 17, 18, 21, 22] [1, 2, 9, 14, 15, 16, 32, 33] (by repeat' first | exact KeepT.nil | apply KeepT.p rfl | apply KeepT.ptr rfl | apply KeepT.own rfl | apply KeepT.pt rfl | apply KeepT.tup rfl | apply KeepT.skip) (by repeat' first | exact KeepB.nil | apply KeepB.boxP rfl rfl | apply KeepB.rowB rfl | apply KeepB.some rfl | apply KeepB.skip) ?_)
            | (refine ACode.isR (id := 13) ?_; refine ACode.regionK [2, 3, 4] [1, 2, 9, 14, 15, 16, 32, 33] (by repeat' first | exact KeepT.nil | apply KeepT.p rfl | apply KeepT.ptr rfl | apply KeepT.own rfl | apply KeepT.pt rfl | apply KeepT.tup rfl | apply KeepT.skip) (by repeat' first | exact KeepB.nil | apply KeepB.boxP rfl rfl | apply KeepB.rowB rfl | apply KeepB.some rfl | apply KeepB.skip) ?_)
            | refine ACode.condY rfl (by first | assumption | with_reducible rfl) ?_
            | refine ACode.condN rfl (by first | assumption | with_reducible rfl) ?_
            | refine ACode.cond rfl (fun h => ?_) (fun h => ?_)
            | refine ACode.skip ?_
            | refine ACode.block ?_
            | refine ACode.exit ?_
            | refine ACode.ret ?_)
          | refine thenK.n ?_
          | refine thenK.r ?_
          | refine blockK.n ?_
          | refine blockK.r ?_
          | refine blockK.eY ?_
          | refine blockK.eN rfl ?_
          | refine thenK.e ?_)
        refine ACode.loop (encI k s y u v x i) (fun j => j ≤ 8) (fun j => 8 - j) 0 ?h0 (Nat.zero_le _) ?rd
        case h0 =>
          have e : encUp k (valsOf k s y u v x) i = encUp k (valsOf k s y u v x) i ++ bytesOf 0 ((valsOf k s y u v x).getD i 0) := by simp [bytesOf]
          unfold encI
          rw [← e]
          refine sub_keep (is := [2, 3, 4, 6, 15, 16, 17, 21]) (js := [1, 14, 15]) ?_ ?_
          repeat' first | exact KeepT.nil | apply KeepT.p rfl | apply KeepT.ptr rfl | apply KeepT.own rfl | apply KeepT.pt rfl | apply KeepT.tup rfl | apply KeepT.skip
          repeat' first | exact KeepB.nil | apply KeepB.boxP rfl rfl | apply KeepB.rowB rfl | apply KeepB.some rfl | apply KeepB.skip
        case rd =>
          intro j hj
          by_cases hj8 : j < 8
          · have hb8 : decide ((j : Int) < 8) = true := by simp; omega
            have hj8' : (j : Int) < 8 := by omega
            have g1 : (valsOf k s y u v x).getD i 0 / 2 ^ (8 * (j : Int)).toNat = (valsOf k s y u v x).getD i 0 / 256 ^ j := by rw [pow8]
            have g2 : IntKind.u8.wrap ((valsOf k s y u v x).getD i 0 / 256 ^ j) = (valsOf k s y u v x).getD i 0 / 256 ^ j % 256 := by simp [IntKind.wrap, IntKind.signed, IntKind.bits]
            have g3 : (encUp k (valsOf k s y u v x) i ++ bytesOf j ((valsOf k s y u v x).getD i 0)).length + [(valsOf k s y u v x).getD i 0 / 256 ^ j % 256].length ≤ 140737488355328 := by
              rw [List.length_append, encUp_len, bytesOf_length, List.length_singleton]
              have : min i (valsOf k s y u v x).length ≤ i := Nat.min_le_left _ _
              omega
            repeat' (first
              | (refine AOps.is ?_; first
                | refine AOps.nil ?_
                | refine AOps.v rfl rfl (by first | exact a_assignP rfl rfl rfl (by decide) | exact a_assignO rfl rfl rfl (by decide) | exact a_assignR rfl rfl rfl (by decide) | exact a_assignPt rfl rfl rfl (by decide) | exact a_assignT rfl rfl rfl (by decide) | exact a_add rfl rfl rfl (by first | exact f1 | exact f2 | exact g1 | exact g2 | exact g3 |  (simp only [Int.reduceAdd, Int.reduceSub, Int.reduceMul]; first | exact wrap_i64 _ (by omega) | exact wrap_u64 _ (by omega) | exact wrap_u8 _ (by omega) | exact wrap_u32 _ (by omega) | exact wrap_i32 _ (by omega) | exact wrap_u16 _ (by omega)) | exact wrap_i64 _ (by omega) | exact wrap_u64 _ (by omega) | exact wrap_u8 _ (by omega) | exact wrap_u32 _ (by omega) | exact wrap_i32 _ (by omega) | exact wrap_u16 _ (by omega) | rfl) rfl (by decide) | exact r_lss rfl rfl rfl (by first | exact f1 | exact f2 | exact g1 | exact g2 | exact g3 | exact bT (by decide) | exact bF (by decide) | exact decide_eq_true (by with_reducible rfl) | (with_reducible exact beq_self_eq_true _) | rfl) rfl (by decide) | exact a_mul rfl rfl rfl (by first | exact f1 | exact f2 | exact g1 | exact g2 | exact g3 |  (simp only [Int.reduceAdd, Int.reduceSub, Int.reduceMul]; first | exact wrap_i64 _ (by omega) | exact wrap_u64 _ (by omega) | exact wrap_u8 _ (by omega) | exact wrap_u32 _ (by omega) | exact wrap_i32 _ (by omega) | exact wrap_u16 _ (by omega)) | exact wrap_i64 _ (by omega) | exact wrap_u64 _ (by omega) | exact wrap_u8 _ (by omega) | exact wrap_u32 _ (by omega) | exact wrap_i32 _ (by omega) | exact wrap_u16 _ (by omega) | rfl) rfl (by decide) | exact a_shr rfl rfl rfl (by first | decide | omega) (by first | decide | (simp only [IntKind.bits]; omega)) (by first | exact f1 | exact f2 | exact g1 | exact g2 | exact g3 |  (simp only [Int.reduceToNat, Int.reducePow]; rfl) | rfl) rfl (by decide) | exact w_lenP rfl rfl rfl (by decide) | exact w_lenS rfl rfl rfl (by decide) | exact w_lenN rfl rfl rfl (by decide) | exact w_lenB rfl rfl rfl rfl (by decide) | exact w_lenO rfl rfl rfl rfl (by decide) | exact w_conv rfl rfl (by first | exact f1 | exact f2 | exact g1 | exact g2 | exact g3 |  (simp only [Int.reduceAdd, Int.reduceSub, Int.reduceMul]; first | exact wrap_i64 _ (by omega) | exact wrap_u64 _ (by omega) | exact wrap_u8 _ (by omega) | exact wrap_u32 _ (by omega) | exact wrap_i32 _ (by omega) | exact wrap_u16 _ (by omega)) | exact wrap_i64 _ (by omega) | exact wrap_u64 _ (by omega) | exact wrap_u8 _ (by omega) | exact wrap_u32 _ (by omega) | exact wrap_i32 _ (by omega) | exact wrap_u16 _ (by omega) | rfl) rfl (by decide) | exact w_str rfl rfl rfl (by decide) | exact w_fieldR rfl rfl rfl (by decide) | exact w_fieldPt rfl rfl rfl (by decide) | exact w_indexB rfl rfl rfl (by first | exact f1 | exact f2 | exact g1 | exact g2 | exact g3 |  (simp only [decide_eq_true_eq, decide_eq_false_iff_not, Bool.not_eq_true', Bool.not_eq_false'] at *; omega)) rfl (by decide) | exact w_indexOB rfl rfl rfl rfl (by first | exact f1 | exact f2 | exact g1 | exact g2 | exact g3 |  (simp only [decide_eq_true_eq, decide_eq_false_iff_not, Bool.not_eq_true', Bool.not_eq_false'] at *; omega)) rfl (by decide) | exact w_indexO rfl rfl rfl rfl (by first | exact f1 | exact f2 | exact g1 | exact g2 | exact g3 |  (simp only [decide_eq_true_eq, decide_eq_false_iff_not, Bool.not_eq_true', Bool.not_eq_false'] at *; omega)) rfl (by decide) | exact w_load1 rfl rfl rfl rfl (by decide) | exact w_loadR1 rfl rfl rfl (by first | exact f1 | exact f2 | exact g1 | exact g2 | exact g3 | rfl) rfl (by decide) | exact w_loadRN rfl rfl rfl (by rfl) (by rfl) rfl (by decide) | exact w_loadN rfl rfl (by exact Nat.le_of_ble_eq_true rfl) rfl (by decide) | exact w_loadO rfl rfl rfl rfl rfl (by decide) | exact w_loadP rfl rfl rfl (by first | exact f1 | exact f2 | exact g1 | exact g2 | exact g3 | rfl) rfl (by decide) | exact a_moveP rfl rfl rfl (by decide) | exact a_moveO rfl rfl rfl (by decide) | exact a_moveR rfl rfl rfl (by decide) | exact a_movePt rfl rfl rfl (by decide) | exact a_moveT rfl rfl rfl (by decide) | exact a_nilR rfl rfl rfl (by decide) | exact a_nilPt rfl rfl rfl (by decide) | exact r_notB rfl rfl (by first | exact f1 | exact f2 | exact g1 | exact g2 | exact g3 | exact bT (by decide) | exact bF (by decide) | exact decide_eq_true (by with_reducible rfl) | (with_reducible exact beq_self_eq_true _) | rfl) rfl (by decide)) ?_
                | refine AOps.m rfl rfl (by first | exact w_boxA rfl rfl rfl (by decide) | exact w_boxV rfl rfl rfl rfl (by decide) | exact w_boxS rfl rfl rfl (by decide) | exact w_build0B rfl rfl (by decide) | exact w_buildB rfl (by decide) (by decide) (by decide) (by decide) (by rfl) (by rfl) (by rfl) (by rfl) rfl (by decide) | exact w_buildSlice rfl (by decide) (by decide) (by decide) (by decide) (by rfl) (by rfl) (by rfl) rfl (by decide)) ?_
                | refine AOps.w rfl (by first | exact w_appB rfl rfl rfl rfl (by first | exact f1 | exact f2 | exact g1 | exact g2 | exact g3 |  (simp only [List.length_append, List.length_cons, List.length_nil, *]; omega)) rfl rfl (by decide) | exact w_appOB rfl rfl rfl rfl rfl (by first | exact f1 | exact f2 | exact g1 | exact g2 | exact g3 |  (simp only [List.length_append, List.length_cons, List.length_nil, *]; omega)) rfl rfl (by decide)) ?_
                | refine AOps.sub (sub_freezeB (d := 1) rfl rfl) ?_
                | refine AOps.sub (sub_freezeB (d := 8) rfl rfl) ?_)
              | (refine ACode.is ?_; first
                | refine ACode.seq ?_
                | (refine ACode.isR (id := 0) ?_; refine ACode.regionK [0] [1, 2, 9, 14, 15, 16, 32, 33] (by repeat' first | exact KeepT.nil | apply KeepT.p rfl | apply KeepT.ptr rfl | apply KeepT.own rfl | apply KeepT.pt rfl | apply KeepT.tup rfl | apply KeepT.skip) (by repeat' first | exact KeepB.nil | apply KeepB.boxP rfl rfl | apply KeepB.rowB rfl | apply KeepB.some rfl | apply KeepB.skip) ?_)
                | (refine ACode.isR (id := 1) ?_; refine ACode.regionK [1, 2, 3] [1, 2, 9, 14, 15, 16, 32, 33] (by repeat' first | exact KeepT.nil | apply KeepT.p rfl | apply KeepT.ptr rfl | apply KeepT.own rfl | apply KeepT.pt rfl | apply KeepT.tup rfl | apply KeepT.skip) (by repeat' first | exact KeepB.nil | apply KeepB.boxP rfl rfl | apply KeepB.rowB rfl | apply KeepB.some rfl | apply KeepB.skip) ?_)
                | (refine ACode.isR (id := 2) ?_; refine ACode.regionK [1, 2, 3] [1, 2, 9, 14, 15, 16, 32, 33] (by repeat' first | exact KeepT.nil | apply KeepT.p rfl | apply KeepT.ptr rfl | apply KeepT.own rfl | apply KeepT.pt rfl | apply KeepT.tup rfl | apply KeepT.skip) (by repeat' first | exact KeepB.nil | apply KeepB.boxP rfl rfl | apply KeepB.rowB rfl | apply KeepB.some rfl | apply KeepB.skip) ?_)
                | (refine ACode.isR (id := 3) ?_; refine ACode.regionK [1, 2, 3] [1, 2, 9, 14, 15, 16, 32, 33] (by repeat' first | exact KeepT.nil | apply KeepT.p rfl | apply KeepT.ptr rfl | apply KeepT.own rfl | apply KeepT.pt rfl | apply KeepT.tup rfl | apply KeepT.skip) (by repeat' first | exact KeepB.nil | apply KeepB.boxP rfl rfl | apply KeepB.rowB rfl | apply KeepB.some rfl | apply KeepB.skip) ?_)
                | (refine ACode.isR (id := 4) ?_; refine ACode.regionK [1, 2, 3, 4] [1, 2, 9, 14, 15, 16, 32, 33] (by repeat' first | exact KeepT.nil | apply KeepT.p rfl | apply KeepT.ptr rfl | apply KeepT.own rfl | apply KeepT.pt rfl | apply KeepT.tup rfl | apply KeepT.skip) (by repeat' first | exact KeepB.nil | apply KeepB.boxP rfl rfl | apply KeepB.rowB rfl | apply KeepB.some rfl | apply KeepB.skip) ?_)
                | (refine ACode.isR (id := 5) ?_; refine ACode.regionK [2, 3, 4, 6, 7, 15, 16, 17, 18, 21, 22] [1, 2, 9, 14, 15, 16, 32, 33] (by repeat' first | exact KeepT.nil | apply KeepT.p rfl | apply KeepT.ptr rfl | apply KeepT.own rfl | apply KeepT.pt rfl | apply KeepT.tup rfl | apply KeepT.skip) (by repeat' first | exact KeepB.nil | apply KeepB.boxP rfl rfl | apply KeepB.rowB rfl | apply KeepB.some rfl | apply KeepB.skip) ?_)
                | (refine ACode.isR (id := 6) ?_; refine ACode.regionK [2, 3, 4, 6, 7, 15, 16, 17, 18, 21, 22] [1, 2, 9, 14, 15, 16, 32, 33] (by repeat' first | exact KeepT.nil | apply KeepT.p rfl | apply KeepT.ptr rfl | apply KeepT.own rfl | apply KeepT.pt rfl | apply KeepT.tup rfl | apply KeepT.skip) (by repeat' first | exact KeepB.nil | apply KeepB.boxP rfl rfl | apply KeepB.rowB rfl | apply KeepB.some rfl | apply KeepB.skip) ?_)
                | (refine ACode.isR (id := 7) ?_; refine ACode.regionK [2, 3, 4, 6, 7, 15, 16, 17, 18, 21, 22] [1, 2, 9, 14, 15, 16, 32, 33] (by repeat' first | exact KeepT.nil | apply KeepT.p rfl | apply KeepT.ptr rfl | apply KeepT.own rfl | apply KeepT.pt rfl | apply KeepT.tup rfl | apply KeepT.skip) (by repeat' first | exact KeepB.nil | apply KeepB.boxP rfl rfl | apply KeepB.rowB rfl | apply KeepB.some rfl | apply KeepB.skip) ?_)
                | (refine ACode.isR (id := 8) ?_; refine ACode.regionK [2, 3, 4, 6, 7, 15, 16, 17, 18, 21, 22] [1, 2, 9, 14, 15, 16, 32, 33] (by repeat' first | exact KeepT.nil | apply KeepT.p rfl | apply KeepT.ptr rfl | apply KeepT.own rfl | apply KeepT.pt rfl | apply KeepT.tup rfl | apply KeepT.skip) (by repeat' first | exact KeepB.nil | apply KeepB.boxP rfl rfl | apply KeepB.rowB rfl | apply KeepB.some rfl | apply KeepB.skip) ?_)
                | (refine ACode.isR (id := 9) ?_; refine ACode.regionK [2, 3, 4, 6, 7, 15, 16, 17, 18, 21, 22] [1, 2, 9, 14, 15, 16, 32, 33] (by repeat' first | exact KeepT.nil | apply KeepT.p rfl | apply KeepT.ptr rfl | apply KeepT.own rfl | apply KeepT.pt rfl | apply KeepT.tup rfl | apply KeepT.skip) (by repeat' first | exact KeepB.nil | apply KeepB.boxP rfl rfl | apply KeepB.rowB rfl | apply KeepB.some rfl | apply KeepB.skip) ?_)
                | (refine ACode.isR (id := 10) ?_; refine ACode.regionK [2, 3, 4, 6, 7, 15, 16, 17, 18, 21, 22] [1, 2, 9, 14, 15, 16, 32, 33] (by repeat' first | exact KeepT.nil | apply KeepT.p rfl | apply KeepT.ptr rfl | apply KeepT.own rfl | apply KeepT.pt rfl | apply KeepT.tup rfl | apply KeepT.skip) (by repeat' first | exact KeepB.nil | apply KeepB.boxP rfl rfl | apply KeepB.rowB rfl | apply KeepB.some rfl | apply KeepB.skip) ?_)
                | (refine ACode.isR (id := 11) ?_; refine ACode.regionK [2, 3, 4, 6, 7, 15, 16, 17, 18, 21, 22] [1, 2, 9, 14, 15, 16, 32, 33] (by repeat' first | exact KeepT.nil | apply KeepT.p rfl | apply KeepT.ptr rfl | apply KeepT.own rfl | apply KeepT.pt rfl | apply KeepT.tup rfl | apply KeepT.skip) (by repeat' first | exact KeepB.nil | apply KeepB.boxP rfl rfl | apply KeepB.rowB rfl | apply KeepB.some rfl | apply KeepB.skip) ?_)
                | (refine ACode.isR (id := 12) ?_; refine ACode.regionK [2, 3, 4, 6, 7, 15, 16, 17, 18, 21, 22] [1, 2, 9, 14, 15, 16, 32, 33] (by repeat' first | exact KeepT.nil | apply KeepT.p rfl | apply KeepT.ptr rfl | apply KeepT.own rfl | apply KeepT.pt rfl | apply KeepT.tup rfl | apply KeepT.skip) (by repeat' first | exact KeepB.nil | apply KeepB.boxP rfl rfl | apply KeepB.rowB rfl | apply KeepB.some rfl | apply KeepB.skip) ?_)
                | (refine ACode.isR (id := 13) ?_; refine ACode.regionK [2, 3, 4] [1, 2, 9, 14, 15, 16, 32, 33] (by repeat' first | exact KeepT.nil | apply KeepT.p rfl | apply KeepT.ptr rfl | apply KeepT.own rfl | apply KeepT.pt rfl | apply KeepT.tup rfl | apply KeepT.skip) (by repeat' first | exact KeepB.nil | apply KeepB.boxP rfl rfl | apply KeepB.rowB rfl | apply KeepB.some rfl | apply KeepB.skip) ?_)
                | refine ACode.condY rfl (by first | assumption | with_reducible rfl) ?_
                | refine ACode.condN rfl (by first | assumption | with_reducible rfl) ?_
                | refine ACode.cond rfl (fun h => ?_) (fun h => ?_)
                | refine ACode.skip ?_
                | refine ACode.block ?_
                | refine ACode.exit ?_
                | refine ACode.ret ?_)
              | refine thenK.n ?_
              | refine thenK.r ?_
              | refine blockK.n ?_
              | refine blockK.r ?_
              | refine blockK.eY ?_
              | refine blockK.eN rfl ?_
              | refine thenK.e ?_)
            refine ⟨j + 1, ?_, by omega, by omega⟩
            have e : encUp k (valsOf k s y u v x) i ++ bytesOf (j + 1) ((valsOf k s y u v x).getD i 0) = encUp k (valsOf k s y u v x) i ++ bytesOf j ((valsOf k s y u v x).getD i 0) ++ [(valsOf k s y u v x).getD i 0 / 256 ^ j % 256] := by rw [bytesOf_snoc, List.append_assoc]
            unfold encI
            rw [e]
            refine sub_keep (is := [2, 3, 4, 6, 15, 16, 17, 21]) (js := [1, 14, 15]) ?_ (.boxP rfl rfl (.rowB rfl (.some (rowF_kill2 k 32 14 (by decide) (by decide)) .nil)))
            repeat' first | exact KeepT.nil | apply KeepT.p rfl | apply KeepT.ptr rfl | apply KeepT.own rfl | apply KeepT.pt rfl | apply KeepT.tup rfl | apply KeepT.skip
          · have hb8 : decide ((j : Int) < 8) = false := by simp; omega
            obtain rfl : j = 8 := by omega
            repeat' (first
              | (refine AOps.is ?_; first
                | refine AOps.nil ?_
                | refine AOps.v rfl rfl (by first | exact a_assignP rfl rfl rfl (by decide) | exact a_assignO rfl rfl rfl (by decide) | exact a_assignR rfl rfl rfl (by decide) | exact a_assignPt rfl rfl rfl (by decide) | exact a_assignT rfl rfl rfl (by decide) | exact a_add rfl rfl rfl (by first |  (simp only [Int.reduceAdd, Int.reduceSub, Int.reduceMul]; first | exact wrap_i64 _ (by omega) | exact wrap_u64 _ (by omega) | exact wrap_u8 _ (by omega) | exact wrap_u32 _ (by omega) | exact wrap_i32 _ (by omega) | exact wrap_u16 _ (by omega)) | exact wrap_i64 _ (by omega) | exact wrap_u64 _ (by omega) | exact wrap_u8 _ (by omega) | exact wrap_u32 _ (by omega) | exact wrap_i32 _ (by omega) | exact wrap_u16 _ (by omega) | rfl) rfl (by decide) | exact r_lss rfl rfl rfl (by first | exact bT (by decide) | exact bF (by decide) | exact decide_eq_true (by with_reducible rfl) | (with_reducible exact beq_self_eq_true _) | rfl) rfl (by decide) | exact a_mul rfl rfl rfl (by first |  (simp only [Int.reduceAdd, Int.reduceSub, Int.reduceMul]; first | exact wrap_i64 _ (by omega) | exact wrap_u64 _ (by omega) | exact wrap_u8 _ (by omega) | exact wrap_u32 _ (by omega) | exact wrap_i32 _ (by omega) | exact wrap_u16 _ (by omega)) | exact wrap_i64 _ (by omega) | exact wrap_u64 _ (by omega) | exact wrap_u8 _ (by omega) | exact wrap_u32 _ (by omega) | exact wrap_i32 _ (by omega) | exact wrap_u16 _ (by omega) | rfl) rfl (by decide) | exact a_shr rfl rfl rfl (by first | decide | omega) (by first | decide | (simp only [IntKind.bits]; omega)) (by first |  (simp only [Int.reduceToNat, Int.reducePow]; rfl) | rfl) rfl (by decide) | exact w_lenP rfl rfl rfl (by decide) | exact w_lenS rfl rfl rfl (by decide) | exact w_lenN rfl rfl rfl (by decide) | exact w_lenB rfl rfl rfl rfl (by decide) | exact w_lenO rfl rfl rfl rfl (by decide) | exact w_conv rfl rfl (by first |  (simp only [Int.reduceAdd, Int.reduceSub, Int.reduceMul]; first | exact wrap_i64 _ (by omega) | exact wrap_u64 _ (by omega) | exact wrap_u8 _ (by omega) | exact wrap_u32 _ (by omega) | exact wrap_i32 _ (by omega) | exact wrap_u16 _ (by omega)) | exact wrap_i64 _ (by omega) | exact wrap_u64 _ (by omega) | exact wrap_u8 _ (by omega) | exact wrap_u32 _ (by omega) | exact wrap_i32 _ (by omega) | exact wrap_u16 _ (by omega) | rfl) rfl (by decide) | exact w_str rfl rfl rfl (by decide) | exact w_fieldR rfl rfl rfl (by decide) | exact w_fieldPt rfl rfl rfl (by decide) | exact w_indexB rfl rfl rfl (by first |  (simp only [decide_eq_true_eq, decide_eq_false_iff_not, Bool.not_eq_true', Bool.not_eq_false'] at *; omega)) rfl (by decide) | exact w_indexOB rfl rfl rfl rfl (by first |  (simp only [decide_eq_true_eq, decide_eq_false_iff_not, Bool.not_eq_true', Bool.not_eq_false'] at *; omega)) rfl (by decide) | exact w_indexO rfl rfl rfl rfl (by first |  (simp only [decide_eq_true_eq, decide_eq_false_iff_not, Bool.not_eq_true', Bool.not_eq_false'] at *; omega)) rfl (by decide) | exact w_load1 rfl rfl rfl rfl (by decide) | exact w_loadR1 rfl rfl rfl rfl rfl (by decide) | exact w_loadRN rfl rfl rfl (by rfl) (by rfl) rfl (by decide) | exact w_loadN rfl rfl (by exact Nat.le_of_ble_eq_true rfl) rfl (by decide) | exact w_loadO rfl rfl rfl rfl rfl (by decide) | exact w_loadP rfl rfl rfl rfl rfl (by decide) | exact a_moveP rfl rfl rfl (by decide) | exact a_moveO rfl rfl rfl (by decide) | exact a_moveR rfl rfl rfl (by decide) | exact a_movePt rfl rfl rfl (by decide) | exact a_moveT rfl rfl rfl (by decide) | exact a_nilR rfl rfl rfl (by decide) | exact a_nilPt rfl rfl rfl (by decide) | exact r_notB rfl rfl (by first | exact bT (by decide) | exact bF (by decide) | exact decide_eq_true (by with_reducible rfl) | (with_reducible exact beq_self_eq_true _) | rfl) rfl (by decide)) ?_
                | refine AOps.m rfl rfl (by first | exact w_boxA rfl rfl rfl (by decide) | exact w_boxV rfl rfl rfl rfl (by decide) | exact w_boxS rfl rfl rfl (by decide) | exact w_build0B rfl rfl (by decide) | exact w_buildB rfl (by decide) (by decide) (by decide) (by decide) (by rfl) (by rfl) (by rfl) (by rfl) rfl (by decide) | exact w_buildSlice rfl (by decide) (by decide) (by decide) (by decide) (by rfl) (by rfl) (by rfl) rfl (by decide)) ?_
                | refine AOps.w rfl (by first | exact w_appB rfl rfl rfl rfl (by first |  (simp only [List.length_append, List.length_cons, List.length_nil, *]; omega)) rfl rfl (by decide) | exact w_appOB rfl rfl rfl rfl rfl (by first |  (simp only [List.length_append, List.length_cons, List.length_nil, *]; omega)) rfl rfl (by decide)) ?_
                | refine AOps.sub (sub_freezeB (d := 1) rfl rfl) ?_
                | refine AOps.sub (sub_freezeB (d := 8) rfl rfl) ?_)
              | (refine ACode.is ?_; first
                | refine ACode.seq ?_
                | (refine ACode.isR (id := 0) ?_; refine ACode.regionK [0] [1, 2, 9, 14, 15, 16, 32, 33] (by repeat' first | exact KeepT.nil | apply KeepT.p rfl | apply KeepT.ptr rfl | apply KeepT.own rfl | apply KeepT.pt rfl | apply KeepT.tup rfl | apply KeepT.skip) (by repeat' first | exact KeepB.nil | apply KeepB.boxP rfl rfl | apply KeepB.rowB rfl | apply KeepB.some rfl | apply KeepB.skip) ?_)
                | (refine ACode.isR (id := 1) ?_; refine ACode.regionK [1, 2, 3] [1, 2, 9, 14, 15, 16, 32, 33] (by repeat' first | exact KeepT.nil | apply KeepT.p rfl | apply KeepT.ptr rfl | apply KeepT.own rfl | apply KeepT.pt rfl | apply KeepT.tup rfl | apply KeepT.skip) (by repeat' first | exact KeepB.nil | apply KeepB.boxP rfl rfl | apply KeepB.rowB rfl | apply KeepB.some rfl | apply KeepB.skip) ?_)
                | (refine ACode.isR (id := 2) ?_; refine ACode.regionK [1, 2, 3] [1, 2, 9, 14, 15, 16, 32, 33] (by repeat' first | exact KeepT.nil | apply KeepT.p rfl | apply KeepT.ptr rfl | apply KeepT.own rfl | apply KeepT.pt rfl | apply KeepT.tup rfl | apply KeepT.skip) (by repeat' first | exact KeepB.nil | apply KeepB.boxP rfl rfl | apply KeepB.rowB rfl | apply KeepB.some rfl | apply KeepB.skip) ?_)
                | (refine ACode.isR (id := 3) ?_; refine ACode.regionK [1, 2, 3] [1, 2, 9, 14, 15, 16, 32, 33] (by repeat' first | exact KeepT.nil | apply KeepT.p rfl | apply KeepT.ptr rfl | apply KeepT.own rfl | apply KeepT.pt rfl | apply KeepT.tup rfl | apply KeepT.skip) (by repeat' first | exact KeepB.nil | apply KeepB.boxP rfl rfl | apply KeepB.rowB rfl | apply KeepB.some rfl | apply KeepB.skip) ?_)
                | (refine ACode.isR (id := 4) ?_; refine ACode.regionK [1, 2, 3, 4] [1, 2, 9, 14, 15, 16, 32, 33] (by repeat' first | exact KeepT.nil | apply KeepT.p rfl | apply KeepT.ptr rfl | apply KeepT.own rfl | apply KeepT.pt rfl | apply KeepT.tup rfl | apply KeepT.skip) (by repeat' first | exact KeepB.nil | apply KeepB.boxP rfl rfl | apply KeepB.rowB rfl | apply KeepB.some rfl | apply KeepB.skip) ?_)
                | (refine ACode.isR (id := 5) ?_; refine ACode.regionK [2, 3, 4, 6, 7, 15, 16, 17, 18, 21, 22] [1, 2, 9, 14, 15, 16, 32, 33] (by repeat' first | exact KeepT.nil | apply KeepT.p rfl | apply KeepT.ptr rfl | apply KeepT.own rfl | apply KeepT.pt rfl | apply KeepT.tup rfl | apply KeepT.skip) (by repeat' first | exact KeepB.nil | apply KeepB.boxP rfl rfl | apply KeepB.rowB rfl | apply KeepB.some rfl | apply KeepB.skip) ?_)
                | (refine ACode.isR (id := 6) ?_; refine ACode.regionK [2, 3, 4, 6, 7, 15, 16, 17, 18, 21, 22] [1, 2, 9, 14, 15, 16, 32, 33] (by repeat' first | exact KeepT.nil | apply KeepT.p rfl | apply KeepT.ptr rfl | apply KeepT.own rfl | apply KeepT.pt rfl | apply KeepT.tup rfl | apply KeepT.skip) (by repeat' first | exact KeepB.nil | apply KeepB.boxP rfl rfl | apply KeepB.rowB rfl | apply KeepB.some rfl | apply KeepB.skip) ?_)
                | (refine ACode.isR (id := 7) ?_; refine ACode.regionK [2, 3, 4, 6, 7, 15, 16, 17, 18, 21, 22] [1, 2, 9, 14, 15, 16, 32, 33] (by repeat' first | exact KeepT.nil | apply KeepT.p rfl | apply KeepT.ptr rfl | apply KeepT.own rfl | apply KeepT.pt rfl | apply KeepT.tup rfl | apply KeepT.skip) (by repeat' first | exact KeepB.nil | apply KeepB.boxP rfl rfl | apply KeepB.rowB rfl | apply KeepB.some rfl | apply KeepB.skip) ?_)
                | (refine ACode.isR (id := 8) ?_; refine ACode.regionK [2, 3, 4, 6, 7, 15, 16, 17, 18, 21, 22] [1, 2, 9, 14, 15, 16, 32, 33] (by repeat' first | exact KeepT.nil | apply KeepT.p rfl | apply KeepT.ptr rfl | apply KeepT.own rfl | apply KeepT.pt rfl | apply KeepT.tup rfl | apply KeepT.skip) (by repeat' first | exact KeepB.nil | apply KeepB.boxP rfl rfl | apply KeepB.rowB rfl | apply KeepB.some rfl | apply KeepB.skip) ?_)
                | (refine ACode.isR (id := 9) ?_; refine ACode.regionK [2, 3, 4, 6, 7, 15, 16, 17, 18, 21, 22] [1, 2, 9, 14, 15, 16, 32, 33] (by repeat' first | exact KeepT.nil | apply KeepT.p rfl | apply KeepT.ptr rfl | apply KeepT.own rfl | apply KeepT.pt rfl | apply KeepT.tup rfl | apply KeepT.skip) (by repeat' first | exact KeepB.nil | apply KeepB.boxP rfl rfl | apply KeepB.rowB rfl | apply KeepB.some rfl | apply KeepB.skip) ?_)
                | (refine ACode.isR (id := 10) ?_; refine ACode.regionK [2, 3, 4, 6, 7, 15, 16, 17, 18, 21, 22] [1, 2, 9, 14, 15, 16, 32, 33] (by repeat' first | exact KeepT.nil | apply KeepT.p rfl | apply KeepT.ptr rfl | apply KeepT.own rfl | apply KeepT.pt rfl | apply KeepT.tup rfl | apply KeepT.skip) (by repeat' first | exact KeepB.nil | apply KeepB.boxP rfl rfl | apply KeepB.rowB rfl | apply KeepB.some rfl | apply KeepB.skip) ?_)
                | (refine ACode.isR (id := 11) ?_; refine ACode.regionK [2, 3, 4, 6, 7, 15, 16, 17, 18, 21, 22] [1, 2, 9, 14, 15, 16, 32, 33] (by repeat' first | exact KeepT.nil | apply KeepT.p rfl | apply KeepT.ptr rfl | apply KeepT.own rfl | apply KeepT.pt rfl | apply KeepT.tup rfl | apply KeepT.skip) (by repeat' first | exact KeepB.nil | apply KeepB.boxP rfl rfl | apply KeepB.rowB rfl | apply KeepB.some rfl | apply KeepB.skip) ?_)
                | (refine ACode.isR (id := 12) ?_; refine ACode.regionK [2, 3, 4, 6, 7, 15, 16, 17, 18, 21, 22] [1, 2, 9, 14, 15, 16, 32, 33] (by repeat' first | exact KeepT.nil | apply KeepT.p rfl | apply KeepT.ptr rfl | apply KeepT.own rfl | apply KeepT.pt rfl | apply KeepT.tup rfl | apply KeepT.skip) (by repeat' first | exact KeepB.nil | apply KeepB.boxP rfl rfl | apply KeepB.rowB rfl | apply KeepB.some rfl | apply KeepB.skip) ?_)
                | (refine ACode.isR (id := 13) ?_; refine ACode.regionK [2, 3, 4] [1, 2, 9, 14, 15, 16, 32, 33] (by repeat' first | exact KeepT.nil | apply KeepT.p rfl | apply KeepT.ptr rfl | apply KeepT.own rfl | apply KeepT.pt rfl | apply KeepT.tup rfl | apply KeepT.skip) (by repeat' first | exact KeepB.nil | apply KeepB.boxP rfl rfl | apply KeepB.rowB rfl | apply KeepB.some rfl | apply KeepB.skip) ?_)
                | refine ACode.condY rfl (by first | assumption | with_reducible rfl) ?_
                | refine ACode.condN rfl (by first | assumption | with_reducible rfl) ?_
                | refine ACode.cond rfl (fun h => ?_) (fun h => ?_)
                | refine ACode.skip ?_
                | refine ACode.block ?_
                | refine ACode.exit ?_
                | refine ACode.ret ?_)
              | refine thenK.n ?_
              | refine thenK.r ?_
              | refine blockK.n ?_
              | refine blockK.r ?_
              | refine blockK.eY ?_
              | refine blockK.eN rfl ?_
              | refine thenK.e ?_)
            refine ⟨i + 1, ?_, by omega, by omega⟩
            unfold encO
            rw [encUp_succ k _ i (fields_len k s y u v x i hc)]
            refine sub_keep (is := [2, 3, 4, 15, 16, 17]) (js := [1, 14, 15]) ?_ ?_
            repeat' first | exact KeepT.nil | apply KeepT.p rfl | apply KeepT.ptr rfl | apply KeepT.own rfl | apply KeepT.pt rfl | apply KeepT.tup rfl | apply KeepT.skip
            repeat' first | exact KeepB.nil | apply KeepB.boxP rfl rfl | apply KeepB.rowB rfl | apply KeepB.some rfl | apply KeepB.skip
      · have hb : decide ((i : Int) < ((fieldsA 1 k).length : Int)) = false := by simpa using hc
        obtain rfl : i = (fieldsA 1 k).length := by omega
        repeat' (first
          | (refine AOps.is ?_; first
            | refine AOps.nil ?_
            | refine AOps.v rfl rfl (by first | exact a_assignP rfl rfl rfl (by decide) | exact a_assignO rfl rfl rfl (by decide) | exact a_assignR rfl rfl rfl (by decide) | exact a_assignPt rfl rfl rfl (by decide) | exact a_assignT rfl rfl rfl (by decide) | exact a_add rfl rfl rfl (by first |  (simp only [Int.reduceAdd, Int.reduceSub, Int.reduceMul]; first | exact wrap_i64 _ (by omega) | exact wrap_u64 _ (by omega) | exact wrap_u8 _ (by omega) | exact wrap_u32 _ (by omega) | exact wrap_i32 _ (by omega) | exact wrap_u16 _ (by omega)) | exact wrap_i64 _ (by omega) | exact wrap_u64 _ (by omega) | exact wrap_u8 _ (by omega) | exact wrap_u32 _ (by omega) | exact wrap_i32 _ (by omega) | exact wrap_u16 _ (by omega) | rfl) rfl (by decide) | exact r_lss rfl rfl rfl (by first | exact bT (by decide) | exact bF (by decide) | exact decide_eq_true (by with_reducible rfl) | (with_reducible exact beq_self_eq_true _) | rfl) rfl (by decide) | exact a_mul rfl rfl rfl (by first |  (simp only [Int.reduceAdd, Int.reduceSub, Int.reduceMul]; first | exact wrap_i64 _ (by omega) | exact wrap_u64 _ (by omega) | exact wrap_u8 _ (by omega) | exact wrap_u32 _ (by omega) | exact wrap_i32 _ (by omega) | exact wrap_u16 _ (by omega)) | exact wrap_i64 _ (by omega) | exact wrap_u64 _ (by omega) | exact wrap_u8 _ (by omega) | exact wrap_u32 _ (by omega) | exact wrap_i32 _ (by omega) | exact wrap_u16 _ (by omega) | rfl) rfl (by decide) | exact a_shr rfl rfl rfl (by first | decide | omega) (by first | decide | (simp only [IntKind.bits]; omega)) (by first |  (simp only [Int.reduceToNat, Int.reducePow]; rfl) | rfl) rfl (by decide) | exact w_lenP rfl rfl rfl (by decide) | exact w_lenS rfl rfl rfl (by decide) | exact w_lenN rfl rfl rfl (by decide) | exact w_lenB rfl rfl rfl rfl (by decide) | exact w_lenO rfl rfl rfl rfl (by decide) | exact w_conv rfl rfl (by first |  (simp only [Int.reduceAdd, Int.reduceSub, Int.reduceMul]; first | exact wrap_i64 _ (by omega) | exact wrap_u64 _ (by omega) | exact wrap_u8 _ (by omega) | exact wrap_u32 _ (by omega) | exact wrap_i32 _ (by omega) | exact wrap_u16 _ (by omega)) | exact wrap_i64 _ (by omega) | exact wrap_u64 _ (by omega) | exact wrap_u8 _ (by omega) | exact wrap_u32 _ (by omega) | exact wrap_i32 _ (by omega) | exact wrap_u16 _ (by omega) | rfl) rfl (by decide) | exact w_str rfl rfl rfl (by decide) | exact w_fieldR rfl rfl rfl (by decide) | exact w_fieldPt rfl rfl rfl (by decide) | exact w_indexB rfl rfl rfl (by first |  (simp only [decide_eq_true_eq, decide_eq_false_iff_not, Bool.not_eq_true', Bool.not_eq_false'] at *; omega)) rfl (by decide) | exact w_indexOB rfl rfl rfl rfl (by first |  (simp only [decide_eq_true_eq, decide_eq_false_iff_not, Bool.not_eq_true', Bool.not_eq_false'] at *; omega)) rfl (by decide) | exact w_indexO rfl rfl rfl rfl (by first |  (simp only [decide_eq_true_eq, decide_eq_false_iff_not, Bool.not_eq_true', Bool.not_eq_false'] at *; omega)) rfl (by decide) | exact w_load1 rfl rfl rfl rfl (by decide) | exact w_loadR1 rfl rfl rfl rfl rfl (by decide) | exact w_loadRN rfl rfl rfl (by rfl) (by rfl) rfl (by decide) | exact w_loadN rfl rfl (by exact Nat.le_of_ble_eq_true rfl) rfl (by decide) | exact w_loadO rfl rfl rfl rfl rfl (by decide) | exact w_loadP rfl rfl rfl rfl rfl (by decide) | exact a_moveP rfl rfl rfl (by decide) | exact a_moveO rfl rfl rfl (by decide) | exact a_moveR rfl rfl rfl (by decide) | exact a_movePt rfl rfl rfl (by decide) | exact a_moveT rfl rfl rfl (by decide) | exact a_nilR rfl rfl rfl (by decide) | exact a_nilPt rfl rfl rfl (by decide) | exact r_notB rfl rfl (by first | exact bT (by decide) | exact bF (by decide) | exact decide_eq_true (by with_reducible rfl) | (with_reducible exact beq_self_eq_true _) | rfl) rfl (by decide)) ?_
            | refine AOps.m rfl rfl (by first | exact w_boxA rfl rfl rfl (by decide) | exact w_boxV rfl rfl rfl rfl (by decide) | exact w_boxS rfl rfl rfl (by decide) | exact w_build0B rfl rfl (by decide) | exact w_buildB rfl (by decide) (by decide) (by decide) (by decide) (by rfl) (by rfl) (by rfl) (by rfl) rfl (by decide) | exact w_buildSlice rfl (by decide) (by decide) (by decide) (by decide) (by rfl) (by rfl) (by rfl) rfl (by decide)) ?_
            | refine AOps.w rfl (by first | exact w_appB rfl rfl rfl rfl (by first |  (simp only [List.length_append, List.length_cons, List.length_nil, *]; omega)) rfl rfl (by decide) | exact w_appOB rfl rfl rfl rfl rfl (by first |  (simp only [List.length_append, List.length_cons, List.length_nil, *]; omega)) rfl rfl (by decide)) ?_
            | refine AOps.sub (sub_freezeB (d := 1) rfl rfl) ?_
            | refine AOps.sub (sub_freezeB (d := 8) rfl rfl) ?_)
          | (refine ACode.is ?_; first
            | refine ACode.seq ?_
            | (refine ACode.isR (id := 0) ?_; refine ACode.regionK [0] [1, 2, 9, 14, 15, 16, 32, 33] (by repeat' first | exact KeepT.nil | apply KeepT.p rfl | apply KeepT.ptr rfl | apply KeepT.own rfl | apply KeepT.pt rfl | apply KeepT.tup rfl | apply KeepT.skip) (by repeat' first | exact KeepB.nil | apply KeepB.boxP rfl rfl | apply KeepB.rowB rfl | apply KeepB.some rfl | apply KeepB.skip) ?_)
            | (refine ACode.isR (id := 1) ?_; refine ACode.regionK [1, 2, 3] [1, 2, 9, 14, 15, 16, 32, 33] (by repeat' first | exact KeepT.nil | apply KeepT.p rfl | apply KeepT.ptr rfl | apply KeepT.own rfl | apply KeepT.pt rfl | apply KeepT.tup rfl | apply KeepT.skip) (by repeat' first | exact KeepB.nil | apply KeepB.boxP rfl rfl | apply KeepB.rowB rfl | apply KeepB.some rfl | apply KeepB.skip) ?_)
            | (refine ACode.isR (id := 2) ?_; refine ACode.regionK [1, 2, 3] [1, 2, 9, 14, 15, 16, 32, 33] (by repeat' first | exact KeepT.nil | apply KeepT.p rfl | apply KeepT.ptr rfl | apply KeepT.own rfl | apply KeepT.pt rfl | apply KeepT.tup rfl | apply KeepT.skip) (by repeat' first | exact KeepB.nil | apply KeepB.boxP rfl rfl | apply KeepB.rowB rfl | apply KeepB.some rfl | apply KeepB.skip) ?_)
            | (refine ACode.isR (id := 3) ?_; refine ACode.regionK [1, 2, 3] [1, 2, 9, 14, 15, 16, 32, 33] (by repeat' first | exact KeepT.nil | apply KeepT.p rfl | apply KeepT.ptr rfl | apply KeepT.own rfl | apply KeepT.pt rfl | apply KeepT.tup rfl | apply KeepT.skip) (by repeat' first | exact KeepB.nil | apply KeepB.boxP rfl rfl | apply KeepB.rowB rfl | apply KeepB.some rfl | apply KeepB.skip) ?_)
            | (refine ACode.isR (id := 4) ?_; refine ACode.regionK [1, 2, 3, 4] [1, 2, 9, 14, 15, 16, 32, 33] (by repeat' first | exact KeepT.nil | apply KeepT.p rfl | apply KeepT.ptr rfl | apply KeepT.own rfl | apply KeepT.pt rfl | apply KeepT.tup rfl | apply KeepT.skip) (by repeat' first | exact KeepB.nil | apply KeepB.boxP rfl rfl | apply KeepB.rowB rfl | apply KeepB.some rfl | apply KeepB.skip) ?_)
            | (refine ACode.isR (id := 5) ?_; refine ACode.regionK [2, 3, 4, 6, 7, 15, 16, 17, 18, 21, 22] [1, 2, 9, 14, 15, 16, 32, 33] (by repeat' first | exact KeepT.nil | apply KeepT.p rfl | apply KeepT.ptr rfl | apply KeepT.own rfl | apply KeepT.pt rfl | apply KeepT.tup rfl | apply KeepT.skip) (by repeat' first | exact KeepB.nil | apply KeepB.boxP rfl rfl | apply KeepB.rowB rfl | apply KeepB.some rfl | apply KeepB.skip) ?_)
            | (refine ACode.isR (id := 6) ?_; refine ACode.regionK [2, 3, 4, 6, 7, 15, 16, 17, 18, 21, 22] [1, 2, 9, 14, 15, 16, 32, 33] (by repeat' first | exact KeepT.nil | apply KeepT.p rfl | apply KeepT.ptr rfl | apply KeepT.own rfl | apply KeepT.pt rfl | apply KeepT.tup rfl | apply KeepT.skip) (by repeat' first | exact KeepB.nil | apply KeepB.boxP rfl rfl | apply KeepB.rowB rfl | apply KeepB.some rfl | apply KeepB.skip) ?_)
            | (refine ACode.isR (id := 7) ?_; refine ACode.regionK [2, 3, 4, 6, 7, 15, 16, 17, 18, 21, 22] [1, 2, 9, 14, 15, 16, 32, 33] (by repeat' first | exact KeepT.nil | apply KeepT.p rfl | apply KeepT.ptr rfl | apply KeepT.own rfl | apply KeepT.pt rfl | apply KeepT.tup rfl | apply KeepT.skip) (by repeat' first | exact KeepB.nil | apply KeepB.boxP rfl rfl | apply KeepB.rowB rfl | apply KeepB.some rfl | apply KeepB.skip) ?_)
            | (refine ACode.isR (id := 8) ?_; refine ACode.regionK [2, 3, 4, 6, 7, 15, 16, 17, 18, 21, 22] [1, 2, 9, 14, 15, 16, 32, 33] (by repeat' first | exact KeepT.nil | apply KeepT.p rfl | apply KeepT.ptr rfl | apply KeepT.own rfl | apply KeepT.pt rfl | apply KeepT.tup rfl | apply KeepT.skip) (by repeat' first | exact KeepB.nil | apply KeepB.boxP rfl rfl | apply KeepB.rowB rfl | apply KeepB.some rfl | apply KeepB.skip) ?_)
            | (refine ACode.isR (id := 9) ?_; refine ACode.regionK [2, 3, 4, 6, 7, 15, 16, 17, 18, 21, 22] [1, 2, 9, 14, 15, 16, 32, 33] (by repeat' first | exact KeepT.nil | apply KeepT.p rfl | apply KeepT.ptr rfl | apply KeepT.own rfl | apply KeepT.pt rfl | apply KeepT.tup rfl | apply KeepT.skip) (by repeat' first | exact KeepB.nil | apply KeepB.boxP rfl rfl | apply KeepB.rowB rfl | apply KeepB.some rfl | apply KeepB.skip) ?_)
            | (refine ACode.isR (id := 10) ?_; refine ACode.regionK [2, 3, 4, 6, 7, 15, 16, 17, 18, 21, 22] [1, 2, 9, 14, 15, 16, 32, 33] (by repeat' first | exact KeepT.nil | apply KeepT.p rfl | apply KeepT.ptr rfl | apply KeepT.own rfl | apply KeepT.pt rfl | apply KeepT.tup rfl | apply KeepT.skip) (by repeat' first | exact KeepB.nil | apply KeepB.boxP rfl rfl | apply KeepB.rowB rfl | apply KeepB.some rfl | apply KeepB.skip) ?_)
            | (refine ACode.isR (id := 11) ?_; refine ACode.regionK [2, 3, 4, 6, 7, 15, 16, 17, 18, 21, 22] [1, 2, 9, 14, 15, 16, 32, 33] (by repeat' first | exact KeepT.nil | apply KeepT.p rfl | apply KeepT.ptr rfl | apply KeepT.own rfl | apply KeepT.pt rfl | apply KeepT.tup rfl | apply KeepT.skip) (by repeat' first | exact KeepB.nil | apply KeepB.boxP rfl rfl | apply KeepB.rowB rfl | apply KeepB.some rfl | apply KeepB.skip) ?_)
            | (refine ACode.isR (id := 12) ?_; refine ACode.regionK [2, 3, 4, 6, 7, 15, 16, 17, 18, 21, 22] [1, 2, 9, 14, 15, 16, 32, 33] (by repeat' first | exact KeepT.nil | apply KeepT.p rfl | apply KeepT.ptr rfl | apply KeepT.own rfl | apply KeepT.pt rfl | apply KeepT.tup rfl | apply KeepT.skip) (by repeat' first | exact KeepB.nil | apply KeepB.boxP rfl rfl | apply KeepB.rowB rfl | apply KeepB.some rfl | apply KeepB.skip) ?_)
            | (refine ACode.isR (id := 13) ?_; refine ACode.regionK [2, 3, 4] [1, 2, 9, 14, 15, 16, 32, 33] (by repeat' first | exact KeepT.nil | apply KeepT.p rfl | apply KeepT.ptr rfl | apply KeepT.own rfl | apply KeepT.pt rfl | apply KeepT.tup rfl | apply KeepT.skip) (by repeat' first | exact KeepB.nil | apply KeepB.boxP rfl rfl | apply KeepB.rowB rfl | apply KeepB.some rfl | apply KeepB.skip) ?_)
            | refine ACode.condY rfl (by first | assumption | with_reducible rfl) ?_
            | refine ACode.condN rfl (by first | assumption | with_reducible rfl) ?_
            | refine ACode.cond rfl (fun h => ?_) (fun h => ?_)
            | refine ACode.skip ?_
            | refine ACode.block ?_
            | refine ACode.exit ?_
            | refine ACode.ret ?_)
          | refine thenK.n ?_
          | refine thenK.r ?_
          | refine blockK.n ?_
          | refine blockK.r ?_
          | refine blockK.eY ?_
          | refine blockK.eN rfl ?_
          | refine thenK.e ?_)
        rw [if_pos hm, ← encUp_all k s y u v x hm]
        exact ⟨.inl rfl, _, sub_freezeB (d := 2) (id := 14) rfl rfl, .tup (rs := [.tmp 2, .tmp 3]) rfl (by decide) (.cons (.tmp rfl) (.cons (.tmp rfl) .nil))⟩

end Go.Proofs.Ytjokcnajopfjhaa
