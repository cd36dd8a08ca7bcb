/- Entries and bytes, there and back: plain laws. -/
import Derived.Test.YtjokcnajopfjhaaFShown
namespace Go.Proofs.Ytjokcnajopfjhaa
open Go Go.RowKit

theorem numOf_bytes : ∀ (k : Nat) (n : Int), 0 ≤ n → n < 256 ^ k → numOf (bytesOf k n) = n
  | 0, n, h0, h1 => by simp at h1; simp [bytesOf, numOf]; omega
  | k + 1, n, h0, h1 => by
    have h2 : n / 256 < 256 ^ k := by
      rw [Int.pow_succ] at h1
      omega
    rw [bytesOf, numOf, numOf_bytes k (n / 256) (by omega) h2]
    omega
theorem bytes_numOf : ∀ (l : List Int), (∀ x ∈ l, 0 ≤ x ∧ x < 256) → bytesOf l.length (numOf l) = l
  | [], _ => rfl
  | b :: l, h => by
    have hb := h b (by simp)
    have e1 : (b + 256 * numOf l) % 256 = b := by omega
    have e2 : (b + 256 * numOf l) / 256 = numOf l := by omega
    rw [List.length_cons, numOf, bytesOf, e1, e2, bytes_numOf l fun x hx => h x (by simp [hx])]
theorem bytesOf_range : ∀ (k : Nat) (n : Int), ∀ x ∈ bytesOf k n, 0 ≤ x ∧ x < 256
  | 0, n, x, hx => by simp [bytesOf] at hx
  | k + 1, n, x, hx => by
    rw [bytesOf, List.mem_cons] at hx
    rcases hx with rfl | hx
    · omega
    · exact bytesOf_range k (n / 256) x hx
theorem encL_range (k s y u v x : Int) : ∀ c ∈ encL k s y u v x, 0 ≤ c ∧ c < 256 := by
  intro c hc
  unfold encL at hc
  simp only [List.cons_append, List.mem_cons, List.mem_append] at hc
  have r := bytesOf_range 8
  rcases hc with rfl | hc | hc
  · omega
  · exact r s c hc
  · by_cases hk : k = 1
    · rw [if_pos hk] at hc
      simp only [List.mem_append] at hc
      rcases hc with ((hc | hc) | hc) | hc
      · exact r _ c hc
      · exact r _ c hc
      · exact r _ c hc
      · exact r _ c hc
    · rw [if_neg hk] at hc; simp at hc
theorem encL_len (k s y u v x : Int) : (encL k s y u v x).length = if k = 1 then 41 else 9 := by
  unfold encL
  by_cases hk : k = 1
  · rw [if_pos hk, if_pos hk]; simp [bytesOf_length]
  · rw [if_neg hk, if_neg hk]; simp [bytesOf_length]
theorem encL_le (k s y u v x : Int) : (encL k s y u v x).length ≤ 41 := by
  rw [encL_len]
  split <;> decide

theorem numAt_mid (p q : List Int) (n : Int) (a : Nat) (ha : a = p.length) (h0 : 0 ≤ n) (h1 : n < 18446744073709551616) : numAt (p ++ (bytesOf 8 n ++ q)) a = n := by
  subst ha
  have e : (bytesOf 8 n).length = 8 := bytesOf_length 8 n
  unfold numAt
  rw [List.drop_left, List.take_append_of_le_length (by omega), List.take_of_length_le (by omega)]
  exact numOf_bytes 8 n h0 (by simpa using h1)

theorem may_kinds {k s y u v x : Int} (h : mayB k s y u v x = true) : k = 1 ∨ (k = 2 ∨ k = 3) ∧ y = 0 ∧ u = 0 ∧ v = 0 ∧ x = 0 := by
  unfold mayB at h
  by_cases h1 : k = 1
  · exact .inl h1
  · rw [if_neg h1] at h
    by_cases h2 : k = 2
    · rw [if_pos h2] at h
      simp only [Bool.and_eq_true, decide_eq_true_eq] at h
      exact .inr ⟨.inl h2, h.2⟩
    · rw [if_neg h2] at h
      by_cases h3 : k = 3
      · rw [if_pos h3] at h
        simp only [Bool.and_eq_true, decide_eq_true_eq] at h
        exact .inr ⟨.inr h3, h.2⟩
      · rw [if_neg h3] at h; cases h

theorem dec_enc {k s y u v x : Int} (h0 : 0 ≤ s) (h1 : s < 18446744073709551616) (h2 : 0 ≤ y) (h3 : y < 18446744073709551616) (h4 : 0 ≤ u) (h5 : u < 18446744073709551616) (h6 : 0 ≤ v) (h7 : v < 18446744073709551616) (h8 : 0 ≤ x) (h9 : x < 18446744073709551616) (hm : mayB k s y u v x = true) :
    decR (encL k s y u v x) = [entV k s y u v x, .val (.int .i64 0)] := by
  have hl := encL_len k s y u v x
  have l8 : ∀ n, (bytesOf 8 n).length = 8 := bytesOf_length 8
  have hk := may_kinds hm
  have e0 : (encL k s y u v x).getD 0 0 = k := by
    have : (encL k s y u v x).getD 0 0 = k % 256 := by simp [encL]
    rw [this]
    omega
  have n1 : numAt (encL k s y u v x) 1 = s := by
    unfold encL
    exact numAt_mid [k % 256] _ s 1 rfl h0 h1
  unfold decR
  rw [e0, n1]
  by_cases h : k = 1
  · rw [if_pos h] at hl
    have e : encL k s y u v x = k % 256 :: (bytesOf 8 s ++ (bytesOf 8 y ++ (bytesOf 8 u ++ (bytesOf 8 v ++ (bytesOf 8 x ++ []))))) := by
      unfold encL
      rw [if_pos h]
      simp
    have n2 : numAt (encL k s y u v x) 9 = y := by
      rw [e]
      have := numAt_mid (k % 256 :: bytesOf 8 s) (bytesOf 8 u ++ (bytesOf 8 v ++ (bytesOf 8 x ++ []))) y 9 (by simp [l8]) h2 h3
      simpa using this
    have n3 : numAt (encL k s y u v x) 17 = u := by
      rw [e]
      have := numAt_mid (k % 256 :: (bytesOf 8 s ++ bytesOf 8 y)) (bytesOf 8 v ++ (bytesOf 8 x ++ [])) u 17 (by simp [l8]) h4 h5
      simpa using this
    have n4 : numAt (encL k s y u v x) 25 = v := by
      rw [e]
      have := numAt_mid (k % 256 :: (bytesOf 8 s ++ (bytesOf 8 y ++ bytesOf 8 u))) (bytesOf 8 x ++ []) v 25 (by simp [l8]) h6 h7
      simpa using this
    have n5 : numAt (encL k s y u v x) 33 = x := by
      rw [e]
      have := numAt_mid (k % 256 :: (bytesOf 8 s ++ (bytesOf 8 y ++ (bytesOf 8 u ++ bytesOf 8 v)))) [] x 33 (by simp [l8]) h8 h9
      simpa using this
    rw [if_neg (by omega), if_pos hl, if_pos h, n2, n3, n4, n5]
    unfold decPut
    rw [if_pos hm]
  · rw [if_neg h] at hl
    rcases hk with hk | ⟨_, rfl, rfl, rfl, rfl⟩
    · exact absurd hk h
    · rw [if_pos hl, if_neg h]
      unfold decPut
      rw [if_pos hm]

theorem take_bytes (b : List Int) (hb : ∀ x ∈ b, 0 ≤ x ∧ x < 256) (p : Nat) (h : p + 8 ≤ b.length) : bytesOf 8 (numAt b p) = (b.drop p).take 8 := by
  have e : ((b.drop p).take 8).length = 8 := by rw [List.length_take, List.length_drop]; omega
  have := bytes_numOf ((b.drop p).take 8) fun x hx => hb x (List.mem_of_mem_drop (List.mem_of_mem_take hx))
  rw [e] at this
  exact this

/-- what Decode may answer -/
theorem dec_shape (b : List Int) (hb : ∀ x ∈ b, 0 ≤ x ∧ x < 256) : decR b = decBad ∨
    ∃ k s y u v x, decR b = [entV k s y u v x, .val (.int .i64 0)] ∧ mayB k s y u v x = true ∧ (0 ≤ s ∧ s < 18446744073709551616) ∧ (0 ≤ y ∧ y < 18446744073709551616) ∧ (0 ≤ u ∧ u < 18446744073709551616) ∧ (0 ≤ v ∧ v < 18446744073709551616) ∧ (0 ≤ x ∧ x < 18446744073709551616) ∧ b = encL k s y u v x := by
  have r0 := getD_range b hb 0
  have rn := numAt_range b hb
  have z : (0 : Int) ≤ 0 ∧ (0 : Int) < 18446744073709551616 := by decide
  have head : ∀ p, b.length = p + 1 → b = b.getD 0 0 % 256 :: b.drop 1 := by
    intro p hp
    match b, hp with
    | a :: r, _ =>
      have : 0 ≤ a ∧ a < 256 := by simpa using r0
      simp
      omega
  unfold decR
  by_cases h9 : b.length = 9
  · rw [if_pos h9]
    by_cases h1 : b.getD 0 0 = 1
    · rw [if_pos h1]; exact .inl rfl
    · rw [if_neg h1]
      unfold decPut
      by_cases hm : mayB (b.getD 0 0) (numAt b 1) 0 0 0 0 = true
      · rw [if_pos hm]
        refine .inr ⟨_, _, _, _, _, _, rfl, hm, rn 1, z, z, z, z, ?_⟩
        unfold encL
        rw [if_neg h1, take_bytes b hb 1 (by omega)]
        have e := head 8 h9
        rw [List.take_of_length_le (by rw [List.length_drop]; omega), List.append_nil]
        exact e
      · rw [if_neg hm]; exact .inl rfl
  · rw [if_neg h9]
    by_cases h41 : b.length = 41
    · rw [if_pos h41]
      by_cases h1 : b.getD 0 0 = 1
      · rw [if_pos h1]
        unfold decPut
        by_cases hm : mayB (b.getD 0 0) (numAt b 1) (numAt b 9) (numAt b 17) (numAt b 25) (numAt b 33) = true
        · rw [if_pos hm]
          refine .inr ⟨_, _, _, _, _, _, rfl, hm, rn 1, rn 9, rn 17, rn 25, rn 33, ?_⟩
          unfold encL
          rw [if_pos h1, take_bytes b hb 1 (by omega), take_bytes b hb 9 (by omega), take_bytes b hb 17 (by omega), take_bytes b hb 25 (by omega), take_bytes b hb 33 (by omega)]
          have e := head 40 h41
          have parts : b.drop 1 = (b.drop 1).take 8 ++ ((b.drop 9).take 8 ++ (b.drop 17).take 8 ++ (b.drop 25).take 8 ++ (b.drop 33).take 8) := by
            have st : ∀ p, b.drop p = (b.drop p).take 8 ++ b.drop (p + 8) := fun p => by
              conv => lhs; rw [← List.take_append_drop 8 (b.drop p)]
              rw [List.drop_drop]
            have e33 : (b.drop 33).take 8 = b.drop 33 := List.take_of_length_le (by rw [List.length_drop]; omega)
            rw [e33]
            conv => lhs; rw [st 1, st 9, st 17, st 25]
            simp only [List.append_assoc]
          rw [List.cons_append, ← parts]
          exact e
        · rw [if_neg hm]; exact .inl rfl
      · rw [if_neg h1]; exact .inl rfl
    · rw [if_neg h41]; exact .inl rfl

theorem str_beq {a b : List Int} (ha : ∀ x ∈ a, 0 ≤ x ∧ x < 256) (hb : ∀ x ∈ b, 0 ≤ x ∧ x < 256) : ((strOfNums a).toList == (strOfNums b).toList) = decide (a = b) := by
  have key : ∀ (a b : List Int), (∀ x ∈ a, 0 ≤ x ∧ x < 256) → (∀ x ∈ b, 0 ≤ x ∧ x < 256) → a.map (fun n => UInt8.ofNat n.toNat) = b.map (fun n => UInt8.ofNat n.toNat) → a = b := by
    intro a
    induction a with
    | nil => intro b _ _ h; cases b with
      | nil => rfl
      | cons => simp at h
    | cons x r ih =>
      intro b ha hb h
      cases b with
      | nil => simp at h
      | cons y q =>
        simp only [List.map_cons, List.cons.injEq] at h
        have hx := ha x (by simp)
        have hy := hb y (by simp)
        have h1 := congrArg UInt8.toNat h.1
        simp only [UInt8.toNat_ofNat'] at h1
        have h2 : x = y := by omega
        rw [h2, ih q (fun z hz => ha z (by simp [hz])) (fun z hz => hb z (by simp [hz])) h.2]
  rw [ByteArray.toList_eq, ByteArray.toList_eq, strOfNums_data, strOfNums_data]
  by_cases h : a = b
  · subst h
    simp
  · rw [decide_eq_false h]
    exact beq_eq_false_iff_ne.2 fun e => h (key a b ha hb e)

end Go.Proofs.Ytjokcnajopfjhaa
