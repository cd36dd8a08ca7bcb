/- Contracts of eight and number (the reference's). -/
import Derived.Test.YtjokcnajopfjhaaLeaf
namespace Go.Proofs.Ytjokcnajopfjhaa
open Go.RowKit

theorem Try.infoByte : (Try.prog.info? 5).map (fun i => (i.zero, i.size, i.bytes)) = some (some (.int .u8 0), 1, 1) := by kernel_rfl

/-- the k lowest bytes of a number -/
def bytesOf : Nat → Int → List Int
  | 0, _ => []
  | k + 1, n => n % 256 :: bytesOf k (n / 256)

theorem pow256_pos (k : Nat) : (0 : Int) < 256 ^ k := by
  induction k with
  | zero => decide
  | succ k ih => rw [Int.pow_succ]; omega

theorem bytesOf_length (k : Nat) (n : Int) : (bytesOf k n).length = k := by
  induction k generalizing n with
  | zero => rfl
  | succ k ih => simp [bytesOf, ih]

theorem bytesOf_snoc (k : Nat) (n : Int) : bytesOf (k + 1) n = bytesOf k n ++ [n / 256 ^ k % 256] := by
  induction k generalizing n with
  | zero => simp [bytesOf]
  | succ k ih =>
    rw [bytesOf, ih (n / 256)]
    simp only [bytesOf, List.cons_append]
    rw [Int.ediv_ediv_of_nonneg (by omega), Int.pow_succ, Int.mul_comm]

set_option maxRecDepth 100000 in
set_option maxHeartbeats 400000 in
theorem eight_any (n : Int) (w : World) (h0 : 0 ≤ n) (h1 : n < 18446744073709551616) :
    Calls Try.prog 15 #[.int .u64 n] w fun e w' =>
      ∃ v, e = .returned v ∧ w'.ownsRow w.heap.size 5 1 v 8 ((bytesOf 8 n).map (Value.int .u8)) ∧ Below w.heap.size w w' := by
  obtain ⟨i0, hi, hz0, hz1, hz2⟩ := info_parts Try.infoByte
  go_enter Try.func15, Try.ntmps15
  go_wp2_with fail
  go_loopw [0, 3, 4] (fun m v i wr => ∃ k : Nat, k ≤ 8 ∧ i = .int .i64 k ∧ (∃ q : Int, m = .int .u64 q ∧ 0 ≤ q ∧ q < 18446744073709551616 ∧ Hid (q = n / 256 ^ k)) ∧ wr.ownsRow w.heap.size 5 1 v k ((bytesOf k n).map (Value.int .u8)) ∧ Below w.heap.size w wr)
     (fun _ _ i _ => 8 - (intOf i).toNat)
  case atStart => exact ⟨0, by omega, rfl, ⟨n, rfl, h0, h1, by show n = _; simp⟩, World.ownsRow_nil _ _ _ _, Below.refl _ _⟩
  case round =>
    obtain ⟨k, hk, rfl, ⟨q, rfl, hq0, hq1, HQ⟩, hown, hb⟩ := hrel
    by_cases hlt : k < 8
    · have hsz := hb.size
      go_wp2_with (at_builtin; refine wpList_append_own _ rfl _ _ 25 rfl w.heap.size 5 i0 (.int .u8 0) 1 1 Try.underlying25 hi hz0 hz1 hz2 rfl (by decide) _ _ _ rfl (hown.alloc _) ⟨wr.heap.size, 0, none⟩ 1 1 [.int .u8 (q % 256)] rfl rfl cells_new (one_cell rfl) (by unfold maxLen; omega) (by omega) (by simp; omega) ?_)
      intro v' w1 hown' hgrow _
      have hown2 : w1.ownsRow w.heap.size 5 1 v' (k + 1) ((bytesOf (k + 1) n).map (Value.int .u8)) := by
        rw [bytesOf_snoc, List.map_append, ← HQ.out]; exact hown'
      have HQ' : Hid (q / 256 = n / 256 ^ (k + 1)) := by
        show _ = _
        rw [HQ.out, Int.ediv_ediv_of_nonneg (Int.le_of_lt (pow256_pos k)), Int.pow_succ]
      have hb' : Below w.heap.size w w1 := (hb.alloc hsz _).grown hgrow (by simp; omega) (fun j hj => (hown.lt j hj).1)
      clear hown hown' hgrow
      go_wp2
      go_roundw
      case rel => exact ⟨k + 1, by omega, by go_num, ⟨_, rfl, by omega, by omega, HQ'⟩, hown2, hb'⟩
      case measure => simp [intOf]; omega
    · obtain rfl : k = 8 := by omega
      go_wp2
      go_ret
      exact ⟨_, rfl, hown, hb⟩

/-- the number of bytes, the lowest first -/
def numOf : List Int → Int
  | [] => 0
  | b :: l => b + 256 * numOf l

theorem numOf_range (l : List Int) (h : ∀ b ∈ l, 0 ≤ b ∧ b < 256) : 0 ≤ numOf l ∧ numOf l < 256 ^ l.length := by
  induction l with
  | nil => simp [numOf]
  | cons b l ih =>
    have h1 := h b (by simp)
    have h2 := ih fun c hc => h c (by simp [hc])
    simp only [numOf, List.length_cons, Int.pow_succ]
    omega

theorem numOf_small (l : List Int) (k : Nat) (h : ∀ b ∈ l, 0 ≤ b ∧ b < 256) : 0 ≤ numOf (l.take k) ∧ numOf (l.take k) < 256 ^ k := by
  have h1 := numOf_range (l.take k) fun b hb => h b (List.mem_of_mem_take hb)
  have h2 : (l.take k).length ≤ k := List.length_take_le _ _
  have h3 : (256 : Int) ^ (l.take k).length ≤ 256 ^ k := by
    obtain ⟨d, hd⟩ := Nat.exists_eq_add_of_le h2
    have h4 := pow256_pos (l.take k).length
    have h5 := pow256_pos d
    have e : (256 : Int) ^ k = 256 ^ (l.take k).length * 256 ^ d := by rw [← Int.pow_add, ← hd]
    rw [e]
    have h6 := Int.mul_le_mul_of_nonneg_left (show (1 : Int) ≤ 256 ^ d by omega) (Int.le_of_lt h4)
    omega
  omega

theorem numOf_step (b : List Int) (i k : Nat) (h : i < b.length) : numOf ((b.drop i).take (k + 1)) = b.getD i 0 + 256 * numOf ((b.drop (i + 1)).take k) := by
  rw [List.drop_eq_getElem_cons h, List.take_succ_cons, numOf]
  simp [h]

theorem numOf_56 (l : List Int) (k : Nat) (hk : k ≤ 7) (h : ∀ b ∈ l, 0 ≤ b ∧ b < 256) : 0 ≤ numOf (l.take k) ∧ numOf (l.take k) ≤ 72057594037927935 := by
  have h1 := numOf_small l k h
  have h2 : (256 : Int) ^ k ≤ 72057594037927936 := by
    match k, hk with
    | 0, _ => decide
    | 1, _ => decide
    | 2, _ => decide
    | 3, _ => decide
    | 4, _ => decide
    | 5, _ => decide
    | 6, _ => decide
    | 7, _ => decide
  omega

set_option maxRecDepth 100000 in
set_option maxHeartbeats 400000 in
theorem number_any (b : List Int) (B off len cap : Nat) (p : Nat) (w : World) (hlen : p + 8 ≤ len) (hbl : b.length = len) (h64 : len ≤ 9223372036854775807)
    (hr : ∀ x ∈ b, 0 ≤ x ∧ x < 256)
    (hc : ∀ j, j < len → w.cell? ⟨B, off + j, none⟩ = some (.int .u8 (b.getD j 0))) :
    Calls Try.prog 16 #[.slice (some ⟨B, off, none⟩) len cap, .int .i64 p] w fun e w' =>
      e = .returned (.int .u64 (numOf ((b.drop p).take 8))) ∧ w = w' := by
  have HC := Lib.hid hc
  have HL := Lib.hid hbl
  have HR := Lib.hid hr
  clear hc hbl hr
  go_enter Try.func16, Try.ntmps16
  go_wp2_with fail
  go_loop [5, 6] (fun n i => ∃ j q : Int, -1 ≤ j ∧ j ≤ 7 ∧ i = .int .i64 j ∧ n = .int .u64 q ∧ Hid (q = numOf ((b.drop (p + (j + 1).toNat)).take (7 - j).toNat)))
    (fun _ i => (intOf i + 1).toNat)
  case atStart => exact ⟨7, 0, by omega, by omega, rfl, rfl, by show (0 : Int) = _; simp [numOf]⟩
  case round =>
    obtain ⟨j, q, hj0, hj1, rfl, rfl, HQ⟩ := hrel
    by_cases hlt : 0 ≤ j
    · obtain ⟨m, rfl⟩ := Int.eq_ofNat_of_zero_le hlt
      have hqb : 0 ≤ q ∧ q ≤ 72057594037927935 := by
        rw [HQ.out]
        exact numOf_56 _ _ (by omega) fun x hx => HR.out x (List.mem_of_mem_drop hx)
      obtain ⟨hq0, hq1⟩ := hqb
      have hbb : 0 ≤ b[p + m]?.getD 0 ∧ b[p + m]?.getD 0 < 256 := by
        have h1 : p + m < b.length := by rw [HL.out]; omega
        simpa [h1] using HR.out b[p + m] (List.getElem_mem h1)
      obtain ⟨hb0, hb1⟩ := hbb
      have hcell : w.cell? ⟨B, off + (p + m), none⟩ = some (.int .u8 (b[p + m]?.getD 0)) := by
        have := HC.out (p + m) (by omega)
        simpa using this
      have HQ' : Hid (256 * q + b[p + m]?.getD 0 = numOf ((b.drop (p + ((m : Int) - 1 + 1).toNat)).take (7 - ((m : Int) - 1)).toNat)) := by
        show _ = _
        have e1 : ((m : Int) - 1 + 1).toNat = m := by omega
        have e2 : (7 - ((m : Int) - 1)).toNat = (7 - (m : Int)).toNat + 1 := by omega
        have e3 : ((m : Int) + 1).toNat = m + 1 := by omega
        rw [e1, e2, numOf_step b (p + m) _ (by rw [HL.out]; omega), HQ.out, e3]
        simp only [List.getD_eq_getElem?_getD, Nat.add_assoc]
        omega
      go_wp2
      go_round
      case rel => exact ⟨_, _, by omega, by omega, rfl, rfl, HQ'⟩
      case measure => simp [intOf]
    · obtain rfl : j = -1 := by omega
      go_wp2
      go_ret
      exact ⟨ret_int (by rw [HQ.out]; simp), rfl⟩

end Go.Proofs.Ytjokcnajopfjhaa
