/- For every input SaveNext returns true, and leaves its argument as it was; tied: Rows.SaveNextCardSaid. Conditions: none beyond the given statement's own. (Part 4 of 8.) -/
import Derived.Test.YtlfkofkdigmnpaaGreatDoorJn3
/- The check of bytes, the program's and the document's: contracts. -/
namespace Go.Proofs.YtlfkofkdigmnpaaGreatDoor
set_option maxRecDepth 100000
set_option maxHeartbeats 16000000
open Go Go.RowKit
set_option linter.unusedSimpArgs false
attribute [local irreducible] zZ zX Step zG Sub zP Fn
theorem wrapU32 (x : Int) (h0 : 0 ≤ x) (h1 : x < 4294967296) : IntKind.u32.wrap x = x := wrap_u32 _ (by omega)
theorem getB {b : List Int} (hb : ∀ x ∈ b, 0 ≤ x ∧ x < 256) (i : Nat) : 0 ≤ b.getD i 0 ∧ b.getD i 0 < 256 := by
  by_cases h : i < b.length
  · simpa [List.getD, h] using hb b[i] (List.getElem_mem h)
  · simp [List.getD, h]
/-- frame of More's loop -/
def moreS (b : List Int) (s : Nat) (i : Nat) : AS :=
  { t := [(4, .p (.val (.int .u32 0))), (5, .p (.val (.int .u32 (s : Int)))), (10, .p (.sl (byts b))), (11, .p (.val (.int .i64 b.length))), (12, .p (.val (.int .i64 i)))], s := [] }
theorem more_fn (sum : Nat) (b : List Int) (hs : sum < 4294967296) (h64 : b.length ≤ 9223372036854775807) (hb : ∀ x ∈ b, 0 ≤ x ∧ x < 256) :
    Fn Tryz.prog 103 [.val (.int .u32 sum), .sl (byts b)] (.p (.val (.int .u32 (vC sum b)))) := by
  have g0 := xor_max sum hs
  refine wJ Tryz.func103 rfl Tryz.ntmps103 (Nat.le_of_ble_eq_true rfl) ?_
  repeat' ((refine zX.is ?_; first | refine zX.seq ?_ | (refine zX.isR (id := 0) ?_; refine zX.zV [0, 1] [] (by repeat' first | exact zY.nil | apply zY.p rfl) (by repeat' exact zW.nil) ?_; (refine zZ.v rfl rfl (zK rfl rfl rfl (by decide)) ?_); refine zZ.nil ?_) | (refine zX.isR (id := 1) ?_; refine zX.zV [0, 1, 4] [] (by repeat' first | exact zY.nil | apply zY.p rfl) (by repeat' exact zW.nil) ?_; (refine zZ.v rfl rfl (zQ rfl rfl rfl (by decide)) ?_); (refine zZ.v rfl rfl (by exact a_cmpl rfl rfl rfl (by exact g0) rfl (by decide)) ?_); (refine zZ.v rfl rfl (zK rfl rfl rfl (by decide)) ?_); refine zZ.nil ?_) | (refine zX.isR (id := 2) ?_; refine zX.zV [1, 4, 5] [] (by repeat' first | exact zY.nil | apply zY.p rfl) (by repeat' exact zW.nil) ?_; (refine zZ.v rfl rfl (zQ rfl rfl rfl (by decide)) ?_); (refine zZ.v rfl rfl (vV rfl rfl rfl (by decide)) ?_); (refine zZ.v rfl rfl (zQ rfl rfl rfl (by decide)) ?_); refine zZ.nil ?_) | refine zX.block ?_))
  refine zX.loop (fun i => moreS b (crcN (4294967295 - sum) (b.take i)) i) (fun i => i ≤ b.length) (fun i => b.length - i) 0 ?h0 (Nat.zero_le _) ?rd
  case h0 =>
    refine yY (is := [4, 5, 10, 11, 12]) (js := []) ?_ ?_
    repeat' first | exact zY.nil | apply zY.p rfl | apply zY.ptr rfl | apply zY.own rfl | apply zY.clo rfl | apply zY.pt rfl | apply zY.tup rfl | apply zY.skip
    repeat' first | exact zW.nil | apply zW.boxP rfl rfl | apply zW.yH rfl | apply zW.some rfl | apply zW.skip
  case rd =>
    intro i hi
    have hlt := crc_lt (b.take i) (fun x hx => hb x (List.mem_of_mem_take hx)) (4294967295 - sum) (by omega)
    generalize hst : crcN (4294967295 - sum) (b.take i) = st at *
    by_cases hc : i < b.length
    · have hdec : decide ((i : Int) < (b.length : Int)) = true := by simpa using hc
      have hB := getB hb i
      have hst2 := crc_take (4294967295 - sum) b i hc
      rw [hst] at hst2
      generalize hcc : b.getD i 0 = c at *
      have hcN : c = ((c.toNat : Nat) : Int) := by omega
      have s1 : st ^^^ c.toNat < 4294967296 := Nat.xor_lt_two_pow (n := 32) hlt (by omega)
      have g1 : IntKind.u32.wrap (b.getD (i : Int).toNat 0) = ((c.toNat : Nat) : Int) := by
        rw [Int.toNat_natCast, hcc, wrapU32 c (by omega) (by omega)]
        exact hcN
      have g2 : bits .xor .u32 (st : Int) ((c.toNat : Nat) : Int) = ((st ^^^ c.toNat : Nat) : Int) := u32_xor_nat st c.toNat hlt (by omega)
      have sh : ∀ s : Nat, (s : Int) / 2 ^ (4 : Int).toNat = ((s / 16 : Nat) : Int) := fun s => by show (s : Int) / 16 = _; omega
      have an : ∀ s : Nat, s < 4294967296 → bits .and .u32 (s : Int) 15 = ((s % 16 : Nat) : Int) := fun s h => by
        rw [show (15 : Int) = ((15 : Nat) : Int) from rfl, u32_and_nat s 15 h (by decide)]
        have : s &&& 15 = s % 16 := Nat.and_two_pow_sub_one_eq_mod s 4
        rw [this]
      have tb : ∀ s : Nat, tbl0[((s % 16 : Nat) : Int).toNat]? = some (.u32, ((tblN (s % 16) : Nat) : Int)) := fun s => by
        rw [Int.toNat_natCast]
        have : ∀ j, j < 16 → tbl0[j]? = some (.u32, ((tblN j : Nat) : Int)) := by decide +kernel
        exact this _ (by omega)
      have xr : ∀ s : Nat, s < 4294967296 → bits .xor .u32 ((s / 16 : Nat) : Int) ((tblN (s % 16) : Nat) : Int) = ((nibN s : Nat) : Int) := fun s h => u32_xor_nat _ _ (by omega) (tblN_lt _ (by omega))
      have g3 := sh (st ^^^ c.toNat)
      have g4 := an _ s1
      have g5 := tb (st ^^^ c.toNat)
      have g6 := xr _ s1
      have s2 := nib_lt s1
      have g7 := sh (nibN (st ^^^ c.toNat))
      have g8 := an _ s2
      have g9 := tb (nibN (st ^^^ c.toNat))
      have g10 := xr _ s2
      clear sh an tb xr
      repeat' (first | (refine zX.is ?_; first | refine zX.seq ?_ | (refine zX.isR (id := 3) ?_; refine zX.zV [4, 5, 7, 10, 11, 12, 13] [] (by repeat' first | exact zY.nil | apply zY.p rfl | apply zY.skip) (by repeat' exact zW.nil) ?_; (refine zZ.v rfl rfl (yL rfl rfl rfl (by rfl) rfl (by decide)) ?_); refine zZ.nil ?_) | (refine zX.isR (id := 4) ?_; refine zX.zV [4, 5, 7, 10, 11, 12, 13] [] (by repeat' first | exact zY.nil | apply zY.p rfl | apply zY.skip) (by repeat' exact zW.nil) ?_; (refine zZ.v rfl rfl (by exact w_indexB rfl rfl rfl (by omega) rfl (by decide)) ?_); (refine zZ.v rfl rfl (wO rfl rfl rfl rfl (by decide)) ?_); (refine zZ.v rfl rfl (zK rfl rfl rfl (by decide)) ?_); refine zZ.nil ?_) | (refine zX.isR (id := 5) ?_; refine zX.zV [4, 5, 7, 10, 11, 12, 13] [] (by repeat' first | exact zY.nil | apply zY.p rfl) (by repeat' exact zW.nil) ?_; (refine zZ.v rfl rfl (zQ rfl rfl rfl (by decide)) ?_); (refine zZ.v rfl rfl (zQ rfl rfl rfl (by decide)) ?_); (refine zZ.v rfl rfl (by exact xQ rfl rfl (by exact g1) rfl (by decide)) ?_); (refine zZ.v rfl rfl (by exact a_xor rfl rfl rfl (by exact g2) rfl (by decide)) ?_); (refine zZ.v rfl rfl (zK rfl rfl rfl (by decide)) ?_); refine zZ.nil ?_) | (refine zX.isR (id := 6) ?_; refine zX.zV [4, 5, 7, 10, 11, 12, 13] [] (by repeat' first | exact zY.nil | apply zY.p rfl) (by repeat' exact zW.nil) ?_; (refine zZ.v rfl rfl (zQ rfl rfl rfl (by decide)) ?_); (refine zZ.v rfl rfl (by exact a_shr rfl rfl rfl (by decide) (by decide) (by exact g3) rfl (by decide)) ?_); (refine zZ.v rfl rfl (zQ rfl rfl rfl (by decide)) ?_); (refine zZ.v rfl rfl (by exact a_and rfl rfl rfl (by exact g4) rfl (by decide)) ?_); (refine zZ.v rfl rfl (by exact w_indexG rfl rfl rfl rfl rfl (by omega) (by exact g5) rfl (by decide)) ?_); (refine zZ.v rfl rfl (wO rfl rfl rfl rfl (by decide)) ?_); (refine zZ.v rfl rfl (by exact a_xor rfl rfl rfl (by exact g6) rfl (by decide)) ?_); (refine zZ.v rfl rfl (zK rfl rfl rfl (by decide)) ?_); refine zZ.nil ?_) | (refine zX.isR (id := 7) ?_; refine zX.zV [4, 5, 7, 10, 11, 12, 13] [] (by repeat' first | exact zY.nil | apply zY.p rfl) (by repeat' exact zW.nil) ?_; (refine zZ.v rfl rfl (zQ rfl rfl rfl (by decide)) ?_); (refine zZ.v rfl rfl (by exact a_shr rfl rfl rfl (by decide) (by decide) (by exact g7) rfl (by decide)) ?_); (refine zZ.v rfl rfl (zQ rfl rfl rfl (by decide)) ?_); (refine zZ.v rfl rfl (by exact a_and rfl rfl rfl (by exact g8) rfl (by decide)) ?_); (refine zZ.v rfl rfl (by exact w_indexG rfl rfl rfl rfl rfl (by omega) (by exact g9) rfl (by decide)) ?_); (refine zZ.v rfl rfl (wO rfl rfl rfl rfl (by decide)) ?_); (refine zZ.v rfl rfl (by exact a_xor rfl rfl rfl (by exact g10) rfl (by decide)) ?_); (refine zZ.v rfl rfl (zK rfl rfl rfl (by decide)) ?_); refine zZ.nil ?_) | (refine zX.isR (id := 8) ?_; refine zX.zV [4, 5, 7, 10, 11, 12, 13] [] (by repeat' first | exact zY.nil | apply zY.p rfl) (by repeat' exact zW.nil) ?_; (refine zZ.v rfl rfl (by exact y7 rfl rfl rfl (by exact wrap_i64 _ (by omega)) rfl (by decide)) ?_); (refine zZ.v rfl rfl (zQ rfl rfl rfl (by decide)) ?_); refine zZ.nil ?_) | refine zX.yE rfl (by assumption) ?_ | refine zX.skip ?_ | refine zX.block ?_) | refine yJ.n ?_)
      refine ⟨i + 1, ?_, by omega, by omega⟩
      show Sub _ (moreS b (crcN (4294967295 - sum) (b.take (i + 1))) (i + 1))
      rw [hst2]
      refine yY (is := [4, 5, 10, 11, 12]) (js := []) ?_ ?_
      repeat' first | exact zY.nil | apply zY.p rfl | apply zY.ptr rfl | apply zY.own rfl | apply zY.clo rfl | apply zY.pt rfl | apply zY.tup rfl | apply zY.skip
      repeat' first | exact zW.nil | apply zW.boxP rfl rfl | apply zW.yH rfl | apply zW.some rfl | apply zW.skip
    · have hdec : decide ((i : Int) < (b.length : Int)) = false := by simpa using hc
      have hl : b.take i = b := List.take_of_length_le (by omega)
      have g1 : bits .xor .u32 (IntKind.max .u32) (st : Int) = ((vC sum b : Nat) : Int) := by
        rw [xor_max st hlt]
        unfold vC
        rw [← hst, hl]
      repeat' ((refine zX.is ?_; first | refine zX.seq ?_ | (refine zX.isR (id := 3) ?_; refine zX.zV [4, 5, 7, 10, 11, 12, 13] [] (by repeat' first | exact zY.nil | apply zY.p rfl | apply zY.skip) (by repeat' exact zW.nil) ?_; (refine zZ.v rfl rfl (yL rfl rfl rfl (by rfl) rfl (by decide)) ?_); refine zZ.nil ?_) | (refine zX.isR (id := 9) ?_; refine zX.zV [4, 5] [] (by repeat' first | exact zY.nil | apply zY.p rfl) (by repeat' exact zW.nil) ?_; (refine zZ.v rfl rfl (zQ rfl rfl rfl (by decide)) ?_); (refine zZ.v rfl rfl (by exact a_cmpl rfl rfl rfl (by exact g1) rfl (by decide)) ?_); (refine zZ.v rfl rfl (zK rfl rfl rfl (by decide)) ?_); refine zZ.nil ?_) | refine zX.yG rfl (by assumption) ?_ | refine zX.exit ?_ | refine zX.ret ?_))
      all_goals exact ⟨.inl rfl, gives1 rfl rfl rfl⟩
theorem sum_fn (b : List Int) (h64 : b.length ≤ 9223372036854775807) (hb : ∀ x ∈ b, 0 ≤ x ∧ x < 256) : Fn Tryz.prog 95 [.sl (byts b)] (.p (.val (.int .u32 (vC 0 b)))) := by
  have c1 := more_fn 0 b (by decide) h64 hb
  refine wJ Tryz.func95 rfl Tryz.ntmps95 (Nat.le_of_ble_eq_true rfl) ?_
  repeat' ((refine zX.is ?_; first | refine zX.seq ?_ | (refine zX.isR (id := 0) ?_; refine zX.zV [0] [] (by repeat' first | exact zY.nil | apply zY.p rfl) (by repeat' exact zW.nil) ?_; (refine zZ.v rfl rfl (zK rfl rfl rfl (by decide)) ?_); refine zZ.nil ?_) | (refine zX.isR (id := 1) ?_; refine zX.zV [0, 2] [] (by repeat' first | exact zY.nil | apply zY.p rfl) (by repeat' exact zW.nil) ?_; (refine zZ.v rfl rfl (zQ rfl rfl rfl (by decide)) ?_); (refine zZ.v rfl rfl (by exact zL (c1) rfl rfl rfl (by decide)) ?_); (refine zZ.v rfl rfl (zK rfl rfl rfl (by decide)) ?_); refine zZ.nil ?_) | refine zX.ret ?_))
  all_goals exact ⟨.inl rfl, gives1 rfl rfl rfl⟩
/-- frames of the reference's loops -/
def moreR (b : List Int) (s : Nat) (i : Nat) : AS :=
  { t := [(1, .p (.sl (byts b))), (4, .p (.val (.int .u32 0))), (5, .p (.val (.int .u32 (s : Int)))), (6, .p (.val (.int .i64 i)))], s := [] }
def moreRI (b : List Int) (s : Nat) (i k : Nat) : AS :=
  { t := [(1, .p (.sl (byts b))), (4, .p (.val (.int .u32 0))), (5, .p (.val (.int .u32 (bitsN k s : Int)))), (6, .p (.val (.int .i64 i))), (7, .p (.val (.int .i64 k)))], s := [] }
theorem moreRef_fn (sum : Nat) (b : List Int) (hs : sum < 4294967296) (h64 : b.length ≤ 9223372036854775807) (hb : ∀ x ∈ b, 0 ≤ x ∧ x < 256) :
    Fn Tryz.prog 77 [.val (.int .u32 sum), .sl (byts b)] (.p (.val (.int .u32 (vC sum b)))) := by
  have g0 : IntKind.u32.wrap (4294967295 - (sum : Int)) = ((4294967295 - sum : Nat) : Int) := by rw [wrapU32 _ (by omega) (by omega)]; omega
  refine wJ Tryz.func77 rfl Tryz.ntmps77 (Nat.le_of_ble_eq_true rfl) ?_
  repeat' ((refine zX.is ?_; first | refine zX.seq ?_ | (refine zX.isR (id := 0) ?_; refine zX.zV [0, 1] [] (by repeat' first | exact zY.nil | apply zY.p rfl) (by repeat' exact zW.nil) ?_; (refine zZ.v rfl rfl (zK rfl rfl rfl (by decide)) ?_); refine zZ.nil ?_) | (refine zX.isR (id := 1) ?_; refine zX.zV [0, 1, 4] [] (by repeat' first | exact zY.nil | apply zY.p rfl) (by repeat' exact zW.nil) ?_; (refine zZ.v rfl rfl (zQ rfl rfl rfl (by decide)) ?_); (refine zZ.v rfl rfl (by exact a_sub rfl rfl rfl (by exact g0) rfl (by decide)) ?_); (refine zZ.v rfl rfl (zK rfl rfl rfl (by decide)) ?_); refine zZ.nil ?_) | (refine zX.isR (id := 2) ?_; refine zX.zV [1, 4, 5] [] (by repeat' first | exact zY.nil | apply zY.p rfl) (by repeat' exact zW.nil) ?_; (refine zZ.v rfl rfl (zK rfl rfl rfl (by decide)) ?_); refine zZ.nil ?_) | refine zX.block ?_))
  refine zX.loop (fun i => moreR b (crcN (4294967295 - sum) (b.take i)) i) (fun i => i ≤ b.length) (fun i => b.length - i) 0 ?h0 (Nat.zero_le _) ?rd
  case h0 =>
    refine yY (is := [1, 4, 5, 6]) (js := []) ?_ ?_
    repeat' first | exact zY.nil | apply zY.p rfl | apply zY.ptr rfl | apply zY.own rfl | apply zY.clo rfl | apply zY.pt rfl | apply zY.tup rfl | apply zY.skip
    repeat' first | exact zW.nil | apply zW.boxP rfl rfl | apply zW.yH rfl | apply zW.some rfl | apply zW.skip
  case rd =>
    intro i hi
    have hlt := crc_lt (b.take i) (fun x hx => hb x (List.mem_of_mem_take hx)) (4294967295 - sum) (by omega)
    generalize hst : crcN (4294967295 - sum) (b.take i) = st at *
    by_cases hc : i < b.length
    · have hdec : decide ((i : Int) < (b.length : Int)) = true := by simpa using hc
      have hB := getB hb i
      have hst2 := crc_take (4294967295 - sum) b i hc
      rw [hst, byte_bits] at hst2
      generalize hcc : b.getD i 0 = c at *
      have hcN : c = ((c.toNat : Nat) : Int) := by omega
      have s1 : st ^^^ c.toNat < 4294967296 := Nat.xor_lt_two_pow (n := 32) hlt (by omega)
      have g1 : IntKind.u32.wrap (b.getD (i : Int).toNat 0) = ((c.toNat : Nat) : Int) := by
        rw [Int.toNat_natCast, hcc, wrapU32 c (by omega) (by omega)]
        exact hcN
      have g2 : bits .xor .u32 (st : Int) ((c.toNat : Nat) : Int) = ((st ^^^ c.toNat : Nat) : Int) := u32_xor_nat st c.toNat hlt (by omega)
      repeat' ((refine zX.is ?_; first | refine zX.seq ?_ | (refine zX.isR (id := 3) ?_; refine zX.zV [1, 4, 5, 6, 7, 8, 14, 25, 33] [] (by repeat' first | exact zY.nil | apply zY.p rfl | apply zY.skip) (by repeat' exact zW.nil) ?_; (refine zZ.v rfl rfl (zQ rfl rfl rfl (by decide)) ?_); (refine zZ.v rfl rfl (zQ rfl rfl rfl (by decide)) ?_); (refine zZ.v rfl rfl (vV rfl rfl rfl (by decide)) ?_); (refine zZ.v rfl rfl (yL rfl rfl rfl (by rfl) rfl (by decide)) ?_); refine zZ.nil ?_) | (refine zX.isR (id := 5) ?_; refine zX.zV [1, 4, 5, 6, 7, 8, 14, 25, 33] [] (by repeat' first | exact zY.nil | apply zY.p rfl | apply zY.skip) (by repeat' exact zW.nil) ?_; (refine zZ.v rfl rfl (zQ rfl rfl rfl (by decide)) ?_); (refine zZ.v rfl rfl (zQ rfl rfl rfl (by decide)) ?_); (refine zZ.v rfl rfl (zQ rfl rfl rfl (by decide)) ?_); (refine zZ.v rfl rfl (by exact w_indexB rfl rfl rfl (by omega) rfl (by decide)) ?_); (refine zZ.v rfl rfl (wO rfl rfl rfl rfl (by decide)) ?_); (refine zZ.v rfl rfl (by exact xQ rfl rfl (by exact g1) rfl (by decide)) ?_); (refine zZ.v rfl rfl (by exact a_xor rfl rfl rfl (by exact g2) rfl (by decide)) ?_); (refine zZ.v rfl rfl (zK rfl rfl rfl (by decide)) ?_); refine zZ.nil ?_) | (refine zX.isR (id := 6) ?_; refine zX.zV [1, 4, 5, 6, 7, 8, 14, 25, 33] [] (by repeat' first | exact zY.nil | apply zY.p rfl | apply zY.skip) (by repeat' exact zW.nil) ?_; (refine zZ.v rfl rfl (zK rfl rfl rfl (by decide)) ?_); refine zZ.nil ?_) | refine zX.yE rfl (by assumption) ?_ | refine zX.skip ?_ | refine zX.block ?_))
      refine zX.loop (fun k => moreRI b (st ^^^ c.toNat) i k) (fun k => k ≤ 8) (fun k => 8 - k) 0 ?h0 (Nat.zero_le _) ?rd
      case h0 =>
        refine yY (is := [1, 4, 5, 6, 7]) (js := []) ?_ ?_
        repeat' first | exact zY.nil | apply zY.p rfl | apply zY.ptr rfl | apply zY.own rfl | apply zY.clo rfl | apply zY.pt rfl | apply zY.tup rfl | apply zY.skip
        repeat' first | exact zW.nil | apply zW.boxP rfl rfl | apply zW.yH rfl | apply zW.some rfl | apply zW.skip
      case rd =>
        intro k hk
        have hlk := bits_lt k s1
        have hsucc : bitsN (k + 1) (st ^^^ c.toNat) = bitN (bitsN k (st ^^^ c.toNat)) := rfl
        by_cases hk8 : k < 8
        · have hd8 : decide ((k : Int) < 8) = true := by simp; omega
          have hk8' : (k : Int) < 8 := by omega
          generalize hsk : bitsN k (st ^^^ c.toNat) = sk at *
          have q1 : ((sk : Nat) : Int).tmod 2 = ((sk % 2 : Nat) : Int) := by rw [Int.tmod_eq_emod_of_nonneg (by omega)]; omega
          have q2 : IntKind.u32.wrap (((sk : Nat) : Int).tdiv 2) = ((sk / 2 : Nat) : Int) := by rw [Int.tdiv_eq_ediv_of_nonneg (by omega), wrapU32 _ (by omega) (by omega)]; omega
          unfold moreRI
          rw [hsk]
          by_cases hp : sk % 2 = 1
          · have q3 : decide (((sk % 2 : Nat) : Int) = 1) = true := decide_eq_true (by omega)
            have q4 : bits .xor .u32 ((sk / 2 : Nat) : Int) 3988292384 = ((bitN sk : Nat) : Int) := by
              have := u32_xor_nat (sk / 2) 3988292384 (by omega) (by decide)
              unfold bitN
              rw [if_pos hp]
              exact this
            repeat' (first | (refine zX.is ?_; first | refine zX.seq ?_ | (refine zX.isR (id := 7) ?_; refine zX.zV [1, 4, 5, 6, 7, 8, 14, 25, 33] [] (by repeat' first | exact zY.nil | apply zY.p rfl | apply zY.skip) (by repeat' exact zW.nil) ?_; (refine zZ.v rfl rfl (zQ rfl rfl rfl (by decide)) ?_); (refine zZ.v rfl rfl (yL rfl rfl rfl (by rfl) rfl (by decide)) ?_); refine zZ.nil ?_) | (refine zX.isR (id := 9) ?_; refine zX.zV [1, 4, 5, 6, 7, 8, 14, 25, 33] [] (by repeat' first | exact zY.nil | apply zY.p rfl | apply zY.skip) (by repeat' exact zW.nil) ?_; (refine zZ.v rfl rfl (zQ rfl rfl rfl (by decide)) ?_); (refine zZ.v rfl rfl (by exact a_rem rfl rfl rfl (by decide) (by exact q1) rfl (by decide)) ?_); (refine zZ.v rfl rfl (zK rfl rfl rfl (by decide)) ?_); refine zZ.nil ?_) | (refine zX.isR (id := 10) ?_; refine zX.zV [1, 4, 5, 6, 7, 8, 14, 25, 33] [] (by repeat' first | exact zY.nil | apply zY.p rfl | apply zY.skip) (by repeat' exact zW.nil) ?_; (refine zZ.v rfl rfl (zQ rfl rfl rfl (by decide)) ?_); (refine zZ.v rfl rfl (by exact a_quo rfl rfl rfl (by decide) (by exact q2) rfl (by decide)) ?_); (refine zZ.v rfl rfl (zK rfl rfl rfl (by decide)) ?_); refine zZ.nil ?_) | (refine zX.isR (id := 11) ?_; refine zX.zV [1, 4, 5, 6, 7, 8, 14, 25, 33] [] (by repeat' first | exact zY.nil | apply zY.p rfl | apply zY.skip) (by repeat' exact zW.nil) ?_; (refine zZ.v rfl rfl (zQ rfl rfl rfl (by decide)) ?_); (refine zZ.v rfl rfl (by exact yQ rfl rfl rfl (by exact q3) rfl (by decide)) ?_); refine zZ.nil ?_) | (refine zX.isR (id := 12) ?_; refine zX.zV [1, 4, 5, 6, 7, 8, 14, 25, 33] [] (by repeat' first | exact zY.nil | apply zY.p rfl | apply zY.skip) (by repeat' exact zW.nil) ?_; (refine zZ.v rfl rfl (zQ rfl rfl rfl (by decide)) ?_); (refine zZ.v rfl rfl (by exact a_xor rfl rfl rfl (by exact q4) rfl (by decide)) ?_); (refine zZ.v rfl rfl (zK rfl rfl rfl (by decide)) ?_); refine zZ.nil ?_) | (refine zX.isR (id := 8) ?_; refine zX.zV [1, 4, 5, 6, 7, 8, 14, 25, 33] [] (by repeat' first | exact zY.nil | apply zY.p rfl | apply zY.skip) (by repeat' exact zW.nil) ?_; (refine zZ.v rfl rfl (zQ rfl rfl rfl (by decide)) ?_); (refine zZ.v rfl rfl (by exact y7 rfl rfl rfl (by exact wrap_i64 _ (by omega)) rfl (by decide)) ?_); (refine zZ.v rfl rfl (zK rfl rfl rfl (by decide)) ?_); refine zZ.nil ?_) | refine zX.yE rfl (by first | assumption | with_reducible rfl) ?_ | refine zX.skip ?_ | refine zX.block ?_) | refine yJ.n ?_)
            refine ⟨k + 1, ?_, by omega, by omega⟩
            rw [hsucc]
            refine yY (is := [1, 4, 5, 6, 7]) (js := []) ?_ ?_
            repeat' first | exact zY.nil | apply zY.p rfl | apply zY.ptr rfl | apply zY.own rfl | apply zY.clo rfl | apply zY.pt rfl | apply zY.tup rfl | apply zY.skip
            repeat' first | exact zW.nil | apply zW.boxP rfl rfl | apply zW.yH rfl | apply zW.some rfl | apply zW.skip
          · have q3 : decide (((sk % 2 : Nat) : Int) = 1) = false := decide_eq_false (by omega)
            have q4 : bitN sk = sk / 2 := if_neg hp
            repeat' (first | (refine zX.is ?_; first | refine zX.seq ?_ | (refine zX.isR (id := 7) ?_; refine zX.zV [1, 4, 5, 6, 7, 8, 14, 25, 33] [] (by repeat' first | exact zY.nil | apply zY.p rfl | apply zY.skip) (by repeat' exact zW.nil) ?_; (refine zZ.v rfl rfl (zQ rfl rfl rfl (by decide)) ?_); (refine zZ.v rfl rfl (yL rfl rfl rfl (by rfl) rfl (by decide)) ?_); refine zZ.nil ?_) | (refine zX.isR (id := 9) ?_; refine zX.zV [1, 4, 5, 6, 7, 8, 14, 25, 33] [] (by repeat' first | exact zY.nil | apply zY.p rfl | apply zY.skip) (by repeat' exact zW.nil) ?_; (refine zZ.v rfl rfl (zQ rfl rfl rfl (by decide)) ?_); (refine zZ.v rfl rfl (by exact a_rem rfl rfl rfl (by decide) (by exact q1) rfl (by decide)) ?_); (refine zZ.v rfl rfl (zK rfl rfl rfl (by decide)) ?_); refine zZ.nil ?_) | (refine zX.isR (id := 10) ?_; refine zX.zV [1, 4, 5, 6, 7, 8, 14, 25, 33] [] (by repeat' first | exact zY.nil | apply zY.p rfl | apply zY.skip) (by repeat' exact zW.nil) ?_; (refine zZ.v rfl rfl (zQ rfl rfl rfl (by decide)) ?_); (refine zZ.v rfl rfl (by exact a_quo rfl rfl rfl (by decide) (by exact q2) rfl (by decide)) ?_); (refine zZ.v rfl rfl (zK rfl rfl rfl (by decide)) ?_); refine zZ.nil ?_) | (refine zX.isR (id := 11) ?_; refine zX.zV [1, 4, 5, 6, 7, 8, 14, 25, 33] [] (by repeat' first | exact zY.nil | apply zY.p rfl | apply zY.skip) (by repeat' exact zW.nil) ?_; (refine zZ.v rfl rfl (zQ rfl rfl rfl (by decide)) ?_); (refine zZ.v rfl rfl (by exact yQ rfl rfl rfl (by exact q3) rfl (by decide)) ?_); refine zZ.nil ?_) | (refine zX.isR (id := 8) ?_; refine zX.zV [1, 4, 5, 6, 7, 8, 14, 25, 33] [] (by repeat' first | exact zY.nil | apply zY.p rfl | apply zY.skip) (by repeat' exact zW.nil) ?_; (refine zZ.v rfl rfl (zQ rfl rfl rfl (by decide)) ?_); (refine zZ.v rfl rfl (by exact y7 rfl rfl rfl (by exact wrap_i64 _ (by omega)) rfl (by decide)) ?_); (refine zZ.v rfl rfl (zK rfl rfl rfl (by decide)) ?_); refine zZ.nil ?_) | refine zX.yE rfl (by assumption) ?_ | refine zX.yG rfl (by first | assumption | with_reducible rfl) ?_ | refine zX.skip ?_ | refine zX.block ?_) | refine yJ.n ?_)
            refine ⟨k + 1, ?_, by omega, by omega⟩
            rw [hsucc, q4]
            refine yY (is := [1, 4, 5, 6, 7]) (js := []) ?_ ?_
            repeat' first | exact zY.nil | apply zY.p rfl | apply zY.ptr rfl | apply zY.own rfl | apply zY.clo rfl | apply zY.pt rfl | apply zY.tup rfl | apply zY.skip
            repeat' first | exact zW.nil | apply zW.boxP rfl rfl | apply zW.yH rfl | apply zW.some rfl | apply zW.skip
        · have hd8 : decide ((k : Int) < 8) = false := by simp; omega
          obtain rfl : k = 8 := by omega
          repeat' (first | (refine zX.is ?_; first | refine zX.seq ?_ | (refine zX.isR (id := 7) ?_; refine zX.zV [1, 4, 5, 6, 7, 8, 14, 25, 33] [] (by repeat' first | exact zY.nil | apply zY.p rfl | apply zY.skip) (by repeat' exact zW.nil) ?_; (refine zZ.v rfl rfl (zQ rfl rfl rfl (by decide)) ?_); (refine zZ.v rfl rfl (by exact yL rfl rfl rfl (by exact bF (by decide)) rfl (by decide)) ?_); refine zZ.nil ?_) | (refine zX.isR (id := 4) ?_; refine zX.zV [1, 4, 5, 6, 7, 8, 14, 25, 33] [] (by repeat' first | exact zY.nil | apply zY.p rfl | apply zY.skip) (by repeat' exact zW.nil) ?_; (refine zZ.v rfl rfl (zQ rfl rfl rfl (by decide)) ?_); (refine zZ.v rfl rfl (by exact y7 rfl rfl rfl (by exact wrap_i64 _ (by omega)) rfl (by decide)) ?_); (refine zZ.v rfl rfl (zK rfl rfl rfl (by decide)) ?_); refine zZ.nil ?_) | refine zX.yG rfl (by assumption) ?_ | refine zX.exit ?_) | refine yJ.n ?_)
          refine ⟨i + 1, ?_, by omega, by omega⟩
          show Sub _ (moreR b (crcN (4294967295 - sum) (b.take (i + 1))) (i + 1))
          rw [hst2]
          refine yY (is := [1, 4, 5, 6]) (js := []) ?_ ?_
          repeat' first | exact zY.nil | apply zY.p rfl | apply zY.ptr rfl | apply zY.own rfl | apply zY.clo rfl | apply zY.pt rfl | apply zY.tup rfl | apply zY.skip
          repeat' first | exact zW.nil | apply zW.boxP rfl rfl | apply zW.yH rfl | apply zW.some rfl | apply zW.skip
    · have hdec : decide ((i : Int) < (b.length : Int)) = false := by simpa using hc
      have hl : b.take i = b := List.take_of_length_le (by omega)
      have g1 : IntKind.u32.wrap (4294967295 - (st : Int)) = ((vC sum b : Nat) : Int) := by
        rw [wrapU32 _ (by omega) (by omega)]
        unfold vC
        rw [← hl, hst]
        omega
      repeat' ((refine zX.is ?_; first | refine zX.seq ?_ | (refine zX.isR (id := 3) ?_; refine zX.zV [1, 4, 5, 6, 7, 8, 14, 25, 33] [] (by repeat' first | exact zY.nil | apply zY.p rfl | apply zY.skip) (by repeat' exact zW.nil) ?_; (refine zZ.v rfl rfl (zQ rfl rfl rfl (by decide)) ?_); (refine zZ.v rfl rfl (zQ rfl rfl rfl (by decide)) ?_); (refine zZ.v rfl rfl (vV rfl rfl rfl (by decide)) ?_); (refine zZ.v rfl rfl (yL rfl rfl rfl (by rfl) rfl (by decide)) ?_); refine zZ.nil ?_) | (refine zX.isR (id := 13) ?_; refine zX.zV [4, 5] [] (by repeat' first | exact zY.nil | apply zY.p rfl) (by repeat' exact zW.nil) ?_; (refine zZ.v rfl rfl (zQ rfl rfl rfl (by decide)) ?_); (refine zZ.v rfl rfl (by exact a_sub rfl rfl rfl (by exact g1) rfl (by decide)) ?_); (refine zZ.v rfl rfl (zK rfl rfl rfl (by decide)) ?_); refine zZ.nil ?_) | refine zX.yG rfl (by assumption) ?_ | refine zX.exit ?_ | refine zX.ret ?_))
      all_goals exact ⟨.inl rfl, gives1 rfl rfl rfl⟩
theorem sumRef_fn (b : List Int) (h64 : b.length ≤ 9223372036854775807) (hb : ∀ x ∈ b, 0 ≤ x ∧ x < 256) : Fn Tryz.prog 61 [.sl (byts b)] (.p (.val (.int .u32 (vC 0 b)))) := by
  have c1 := moreRef_fn 0 b (by decide) h64 hb
  refine wJ Tryz.func61 rfl Tryz.ntmps61 (Nat.le_of_ble_eq_true rfl) ?_
  repeat' ((refine zX.is ?_; first | refine zX.seq ?_ | (refine zX.isR (id := 0) ?_; refine zX.zV [0] [] (by repeat' first | exact zY.nil | apply zY.p rfl) (by repeat' exact zW.nil) ?_; (refine zZ.v rfl rfl (zK rfl rfl rfl (by decide)) ?_); refine zZ.nil ?_) | (refine zX.isR (id := 1) ?_; refine zX.zV [0, 2] [] (by repeat' first | exact zY.nil | apply zY.p rfl) (by repeat' exact zW.nil) ?_; (refine zZ.v rfl rfl (zQ rfl rfl rfl (by decide)) ?_); (refine zZ.v rfl rfl (by exact zL (c1) rfl rfl rfl (by decide)) ?_); (refine zZ.v rfl rfl (zK rfl rfl rfl (by decide)) ?_); refine zZ.nil ?_) | refine zX.ret ?_))
  all_goals exact ⟨.inl rfl, gives1 rfl rfl rfl⟩
end Go.Proofs.YtlfkofkdigmnpaaGreatDoor
/- Contracts of the leaf functions: keys and stamps. -/
namespace Go.Proofs.YtlfkofkdigmnpaaGreatDoor
set_option maxRecDepth 100000
set_option maxHeartbeats 16000000
open Go.RowKit
def stampB (n : Int) : Bool := decide (0 < n ∧ n < 4611686018427387904)
def rightB (k : Int) : Bool := decide (k / 2147483648 < 1073741824 ∧ k % 2147483648 ≤ 1073741824)
theorem and_mask31 (n : Int) (h0 : 0 ≤ n) (h1 : n < 18446744073709551616) : bits .and .u64 n 2147483647 = n % 2147483648 := by
  obtain ⟨k, rfl⟩ := Int.eq_ofNat_of_zero_le h0
  have h := bits_and_u64_nat k 2147483647 (by omega) (by omega)
  have e : k &&& 2147483647 = k % 2147483648 := Nat.and_two_pow_sub_one_eq_mod k 31
  rw [e] at h
  exact h
theorem stampB_yes {n : Int} (h : 0 < n) : stampB n = decide (n < 4611686018427387904) := by simp [stampB, h]
theorem stampB_yes' {n : Int} (h : 1 ≤ n) : stampB n = decide (n ≤ 4611686018427387903) := by
  unfold stampB
  rw [decide_eq_decide]
  omega
theorem stampB_no {n : Int} (h : n ≤ 0) : stampB n = false := by
  unfold stampB
  rw [decide_eq_false_iff_not]
  omega
theorem rightB_yes {n : Int} (h : n / 2147483648 < 1073741824) : rightB n = decide (n % 2147483648 ≤ 1073741824) := by simp [rightB, h]
theorem rightB_no {n : Int} (h : 1073741824 ≤ n / 2147483648) : rightB n = false := by
  unfold rightB
  rw [decide_eq_false_iff_not]
  omega
end Go.Proofs.YtlfkofkdigmnpaaGreatDoor
/- trial -/
namespace Go.Proofs.YtlfkofkdigmnpaaGreatDoor
set_option maxRecDepth 100000
set_option maxHeartbeats 16000000
open Go Go.RowKit
attribute [local irreducible] zZ zX Step zG Sub zP Fn
theorem eqB {a b : Bool} (h : a = b) : PV.val (.bool a) = PV.val (.bool b) := by rw [h]
theorem stamp_fn (n : Int) : Fn Tryz.prog 99 [.val (.int .u64 n)] (.p (.val (.bool (stampB n)))) := by
  refine wJ Tryz.func99 rfl Tryz.ntmps99 (Nat.le_of_ble_eq_true rfl) ?_
  repeat' ((refine zX.is ?_; first | refine zX.seq ?_ | (refine zX.isR (id := 0) ?_; refine zX.zV [0] [] (by repeat' first | exact zY.nil | apply zY.p rfl) (by repeat' exact zW.nil) ?_; (refine zZ.v rfl rfl (zK rfl rfl rfl (by decide)) ?_); refine zZ.nil ?_) | (refine zX.isR (id := 1) ?_; refine zX.zV [0, 2] [] (by repeat' first | exact zY.nil | apply zY.p rfl) (by repeat' exact zW.nil) ?_; all_goals (refine zZ.v rfl rfl (zQ rfl rfl rfl (by decide)) ?_); all_goals (refine zZ.v rfl rfl (r_gtr rfl rfl rfl (by rfl) rfl (by decide)) ?_); all_goals (refine zZ.v rfl rfl (zQ rfl rfl rfl (by decide)) ?_); all_goals (((fail_if_success refine zZ.known rfl rfl rfl (by fail) ?_); refine zZ.split rfl rfl rfl (fun h => ?_) (fun h => ?_) <;> first | refine zZ.gY rfl rfl (by decide) rfl (by assumption) rfl (by decide) (zQ rfl rfl rfl (by decide)) ?_ | refine zZ.gnT rfl rfl (by decide) rfl (by assumption) rfl (by decide) ?_)); all_goals (first | refine zZ.gY rfl rfl (by decide) rfl (by assumption) rfl (by decide) (yL rfl rfl rfl (by rfl) rfl (by decide)) ?_ | refine zZ.gnT rfl rfl (by decide) rfl (by assumption) rfl (by decide) ?_); all_goals (refine zZ.v rfl rfl (by first | exact zT rfl rfl (by assumption) rfl rfl (by decide) | exact zR rfl rfl (by assumption) rfl rfl (by decide)) ?_); all_goals (refine zZ.v rfl rfl (zK rfl rfl rfl (by decide)) ?_); all_goals (refine zZ.nil ?_)) | refine zX.ret ?_))
  all_goals refine ⟨.inl rfl, gives1 rfl rfl (eqB ?_)⟩
  all_goals simp only [decide_eq_true_eq, decide_eq_false_iff_not] at *
  · exact (stampB_yes (by omega)).symm
  · exact (stampB_no (by omega)).symm
theorem stampRef_fn (n : Int) : Fn Tryz.prog 105 [.val (.int .u64 n)] (.p (.val (.bool (stampB n)))) := by
  refine wJ Tryz.func105 rfl Tryz.ntmps105 (Nat.le_of_ble_eq_true rfl) ?_
  repeat' ((refine zX.is ?_; first | refine zX.seq ?_ | (refine zX.isR (id := 0) ?_; refine zX.zV [0] [] (by repeat' first | exact zY.nil | apply zY.p rfl) (by repeat' exact zW.nil) ?_; (refine zZ.v rfl rfl (zK rfl rfl rfl (by decide)) ?_); refine zZ.nil ?_) | (refine zX.isR (id := 1) ?_; refine zX.zV [0, 2] [] (by repeat' first | exact zY.nil | apply zY.p rfl) (by repeat' exact zW.nil) ?_; all_goals (refine zZ.v rfl rfl (zQ rfl rfl rfl (by decide)) ?_); all_goals (refine zZ.v rfl rfl (r_geq rfl rfl rfl (by rfl) rfl (by decide)) ?_); all_goals (refine zZ.v rfl rfl (zQ rfl rfl rfl (by decide)) ?_); all_goals (((fail_if_success refine zZ.known rfl rfl rfl (by fail) ?_); refine zZ.split rfl rfl rfl (fun h => ?_) (fun h => ?_) <;> first | refine zZ.gY rfl rfl (by decide) rfl (by assumption) rfl (by decide) (zQ rfl rfl rfl (by decide)) ?_ | refine zZ.gnT rfl rfl (by decide) rfl (by assumption) rfl (by decide) ?_)); all_goals (first | refine zZ.gY rfl rfl (by decide) rfl (by assumption) rfl (by decide) (r_leq rfl rfl rfl (by rfl) rfl (by decide)) ?_ | refine zZ.gnT rfl rfl (by decide) rfl (by assumption) rfl (by decide) ?_); all_goals (refine zZ.v rfl rfl (by first | exact zT rfl rfl (by assumption) rfl rfl (by decide) | exact zR rfl rfl (by assumption) rfl rfl (by decide)) ?_); all_goals (refine zZ.v rfl rfl (zK rfl rfl rfl (by decide)) ?_); all_goals (refine zZ.nil ?_)) | refine zX.ret ?_))
  all_goals refine ⟨.inl rfl, gives1 rfl rfl (eqB ?_)⟩
  all_goals simp only [decide_eq_true_eq, decide_eq_false_iff_not] at *
  · exact (stampB_yes' (by omega)).symm
  · exact (stampB_no (by omega)).symm
theorem right_fn (n : Int) (h0 : 0 ≤ n) (h1 : n < 18446744073709551616) : Fn Tryz.prog 100 [.val (.int .u64 n)] (.p (.val (.bool (rightB n)))) := by
  have hm := and_mask31 n h0 h1
  refine wJ Tryz.func100 rfl Tryz.ntmps100 (Nat.le_of_ble_eq_true rfl) ?_
  repeat' ((refine zX.is ?_; first | refine zX.seq ?_ | (refine zX.isR (id := 0) ?_; refine zX.zV [0] [] (by repeat' first | exact zY.nil | apply zY.p rfl) (by repeat' exact zW.nil) ?_; (refine zZ.v rfl rfl (zK rfl rfl rfl (by decide)) ?_); refine zZ.nil ?_) | (refine zX.isR (id := 1) ?_; refine zX.zV [0, 2] [] (by repeat' first | exact zY.nil | apply zY.p rfl) (by repeat' exact zW.nil) ?_; all_goals (refine zZ.v rfl rfl (zQ rfl rfl rfl (by decide)) ?_); all_goals (refine zZ.v rfl rfl (by exact a_shr rfl rfl rfl (by decide) (by decide) (by (simp only [Int.reduceToNat, Int.reducePow]; rfl)) rfl (by decide)) ?_); all_goals (refine zZ.v rfl rfl (yL rfl rfl rfl (by rfl) rfl (by decide)) ?_); all_goals (refine zZ.v rfl rfl (zQ rfl rfl rfl (by decide)) ?_); all_goals (((fail_if_success refine zZ.known rfl rfl rfl (by fail) ?_); refine zZ.split rfl rfl rfl (fun h => ?_) (fun h => ?_) <;> first | refine zZ.gY rfl rfl (by decide) rfl (by assumption) rfl (by decide) (zQ rfl rfl rfl (by decide)) ?_ | refine zZ.gnT rfl rfl (by decide) rfl (by assumption) rfl (by decide) ?_)); all_goals (first | refine zZ.gY rfl rfl (by decide) rfl (by assumption) rfl (by decide) (by exact a_and rfl rfl rfl (by exact hm) rfl (by decide)) ?_ | refine zZ.gnT rfl rfl (by decide) rfl (by assumption) rfl (by decide) ?_); all_goals (first | refine zZ.gY rfl rfl (by decide) rfl (by assumption) rfl (by decide) (r_leq rfl rfl rfl (by rfl) rfl (by decide)) ?_ | refine zZ.gnT rfl rfl (by decide) rfl (by assumption) rfl (by decide) ?_); all_goals (refine zZ.v rfl rfl (by first | exact zT rfl rfl (by assumption) rfl rfl (by decide) | exact zR rfl rfl (by assumption) rfl rfl (by decide)) ?_); all_goals (refine zZ.v rfl rfl (zK rfl rfl rfl (by decide)) ?_); all_goals (refine zZ.nil ?_)) | refine zX.ret ?_))
  all_goals refine ⟨.inl rfl, gives1 rfl rfl (eqB ?_)⟩
  all_goals simp only [decide_eq_true_eq, decide_eq_false_iff_not] at *
  · exact (rightB_yes (by omega)).symm
  · exact (rightB_no (by omega)).symm
theorem split_fn (n : Int) (h0 : 0 ≤ n) (h1 : n < 18446744073709551616) : Fn Tryz.prog 101 [.val (.int .u64 n)] (.tup [.val (.int .i64 (n / 2147483648)), .val (.int .i64 (n % 2147483648 - 1))]) := by
  have hm := and_mask31 n h0 h1
  refine wJ Tryz.func101 rfl Tryz.ntmps101 (Nat.le_of_ble_eq_true rfl) ?_
  repeat' ((refine zX.is ?_; first | refine zX.seq ?_ | (refine zX.isR (id := 0) ?_; refine zX.zV [0] [] (by repeat' first | exact zY.nil | apply zY.p rfl) (by repeat' exact zW.nil) ?_; (refine zZ.v rfl rfl (zK rfl rfl rfl (by decide)) ?_); (refine zZ.v rfl rfl (zK rfl rfl rfl (by decide)) ?_); refine zZ.nil ?_) | (refine zX.isR (id := 1) ?_; refine zX.zV [0, 2, 3] [] (by repeat' first | exact zY.nil | apply zY.p rfl) (by repeat' exact zW.nil) ?_; (refine zZ.v rfl rfl (zQ rfl rfl rfl (by decide)) ?_); (refine zZ.v rfl rfl (by exact a_shr rfl rfl rfl (by decide) (by decide) (by (simp only [Int.reduceToNat, Int.reducePow]; rfl)) rfl (by decide)) ?_); (refine zZ.v rfl rfl (by exact xQ rfl rfl (by exact wrap_i64 _ (by omega)) rfl (by decide)) ?_); (refine zZ.v rfl rfl (zQ rfl rfl rfl (by decide)) ?_); (refine zZ.v rfl rfl (by exact a_and rfl rfl rfl (by exact hm) rfl (by decide)) ?_); (refine zZ.v rfl rfl (by exact xQ rfl rfl (by exact wrap_i64 _ (by omega)) rfl (by decide)) ?_); (refine zZ.v rfl rfl (by exact a_sub rfl rfl rfl (by exact wrap_i64 _ (by omega)) rfl (by decide)) ?_); (refine zZ.v rfl rfl (zK rfl rfl rfl (by decide)) ?_); (refine zZ.v rfl rfl (zK rfl rfl rfl (by decide)) ?_); refine zZ.nil ?_) | refine zX.ret ?_))
  all_goals refine ⟨.inl rfl, givesT (ts := [2, 3]) rfl (by decide) rfl⟩
theorem rightRef_fn (n : Int) (h0 : 0 ≤ n) (h1 : n < 18446744073709551616) : Fn Tryz.prog 104 [.val (.int .u64 n)] (.p (.val (.bool (rightB n)))) := by
  have hq : n.tdiv 2147483648 = n / 2147483648 := Int.tdiv_eq_ediv_of_nonneg h0
  have hr : n.tmod 2147483648 = n % 2147483648 := Int.tmod_eq_emod_of_nonneg h0
  have hw : IntKind.u64.wrap (n.tdiv 2147483648) = n / 2147483648 := by rw [hq]; exact wrap_u64 _ (by omega)
  refine wJ Tryz.func104 rfl Tryz.ntmps104 (Nat.le_of_ble_eq_true rfl) ?_
  repeat' ((refine zX.is ?_; first | refine zX.seq ?_ | (refine zX.isR (id := 0) ?_; refine zX.zV [0] [] (by repeat' first | exact zY.nil | apply zY.p rfl) (by repeat' exact zW.nil) ?_; (refine zZ.v rfl rfl (zK rfl rfl rfl (by decide)) ?_); refine zZ.nil ?_) | (refine zX.isR (id := 1) ?_; refine zX.zV [0, 2] [] (by repeat' first | exact zY.nil | apply zY.p rfl) (by repeat' exact zW.nil) ?_; all_goals (refine zZ.v rfl rfl (zQ rfl rfl rfl (by decide)) ?_); all_goals (refine zZ.v rfl rfl (by exact a_quo rfl rfl rfl (by decide) (by exact hw) rfl (by decide)) ?_); all_goals (refine zZ.v rfl rfl (r_leq rfl rfl rfl (by rfl) rfl (by decide)) ?_); all_goals (refine zZ.v rfl rfl (zQ rfl rfl rfl (by decide)) ?_); all_goals (((fail_if_success refine zZ.known rfl rfl rfl (by fail) ?_); refine zZ.split rfl rfl rfl (fun h => ?_) (fun h => ?_) <;> first | refine zZ.gY rfl rfl (by decide) rfl (by assumption) rfl (by decide) (zQ rfl rfl rfl (by decide)) ?_ | refine zZ.gnT rfl rfl (by decide) rfl (by assumption) rfl (by decide) ?_)); all_goals (first | refine zZ.gY rfl rfl (by decide) rfl (by assumption) rfl (by decide) (by exact a_rem rfl rfl rfl (by decide) (by exact hr) rfl (by decide)) ?_ | refine zZ.gnT rfl rfl (by decide) rfl (by assumption) rfl (by decide) ?_); all_goals (first | refine zZ.gY rfl rfl (by decide) rfl (by assumption) rfl (by decide) (r_leq rfl rfl rfl (by rfl) rfl (by decide)) ?_ | refine zZ.gnT rfl rfl (by decide) rfl (by assumption) rfl (by decide) ?_); all_goals (refine zZ.v rfl rfl (by first | exact zT rfl rfl (by assumption) rfl rfl (by decide) | exact zR rfl rfl (by assumption) rfl rfl (by decide)) ?_); all_goals (refine zZ.v rfl rfl (zK rfl rfl rfl (by decide)) ?_); all_goals (refine zZ.nil ?_)) | refine zX.ret ?_))
  all_goals refine ⟨.inl rfl, gives1 rfl rfl (eqB ?_)⟩
  all_goals simp only [decide_eq_true_eq, decide_eq_false_iff_not] at *
  · exact (rightB_yes (by omega)).symm
  · exact (rightB_no (by omega)).symm
end Go.Proofs.YtlfkofkdigmnpaaGreatDoor
/- Contracts of May, both: which entries may be. -/
namespace Go.Proofs.YtlfkofkdigmnpaaGreatDoor
set_option maxRecDepth 100000
set_option maxHeartbeats 16000000
open Go.RowKit
def mayB (k s y u v x : Int) : Bool :=
  if k = 1 then stampB s && rightB y && (if y % 2147483648 = 0 then decide (u = 0 ∧ v = 0) else stampB u && stampB v)
  else if k = 2 then stampB s && decide (y = 0 ∧ u = 0 ∧ v = 0 ∧ x = 0)
  else if k = 3 then decide (s ≤ 65536) && decide (y = 0 ∧ u = 0 ∧ v = 0 ∧ x = 0)
  else false
end Go.Proofs.YtlfkofkdigmnpaaGreatDoor
/- May, both, as contracts. -/
namespace Go.Proofs.YtlfkofkdigmnpaaGreatDoor
set_option maxRecDepth 100000
set_option maxHeartbeats 16000000
open Go Go.RowKit
attribute [local irreducible] zZ zX Step zG Sub zP Fn
/-- an entry, as it is passed -/
def entV (k s y u v x : Int) : PV := .agg [.val (.int .i64 k), .val (.int .u64 s), .val (.int .u64 y), .val (.int .u64 u), .val (.int .u64 v), .val (.int .u64 x)]
theorem may_fn (k s y u v x : Int) (h0 : 0 ≤ y) (h1 : y < 18446744073709551616) : Fn Tryz.prog 92 [entV k s y u v x] (.p (.val (.bool (mayB k s y u v x)))) := by
  refine wJ Tryz.func92 rfl Tryz.ntmps92 (Nat.le_of_ble_eq_true rfl) ?_
  repeat' (first | (refine zX.is ?_; first | refine zX.seq ?_ | (refine zX.isR (id := 0) ?_; refine zX.zV [0] [1] (by repeat' first | exact zY.nil | apply zY.p rfl) (by repeat' first | exact zW.nil | apply zW.skip) ?_; (refine zZ.m rfl rfl (z8 rfl rfl rfl (by decide)) ?_); (refine zZ.v rfl rfl (zK rfl rfl rfl (by decide)) ?_); refine zZ.nil ?_) | (refine zX.isR (id := 1) ?_; refine zX.zV [1, 2] [1] (by repeat' first | exact zY.nil | apply zY.p rfl | apply zY.ptr rfl) (by repeat' first | exact zW.nil | apply zW.boxP rfl rfl) ?_; (refine zZ.v rfl rfl (zJ rfl rfl rfl (by decide)) ?_); (refine zZ.v rfl rfl (zA rfl rfl rfl rfl rfl (by decide)) ?_); refine zZ.nil ?_) | (refine zX.isR (id := 2) ?_; refine zX.zV [1, 2, 6] [1] (by repeat' first | exact zY.nil | apply zY.p rfl | apply zY.ptr rfl) (by repeat' first | exact zW.nil | apply zW.boxP rfl rfl) ?_; (refine zZ.v rfl rfl (yQ rfl rfl rfl (by rfl) rfl (by decide)) ?_); (refine zZ.v rfl rfl (zK rfl rfl rfl (by decide)) ?_); refine zZ.nil ?_) | (refine zX.isR (id := 3) ?_; refine zX.zV [1, 2, 6] [1] (by repeat' first | exact zY.nil | apply zY.p rfl | apply zY.ptr rfl) (by repeat' first | exact zW.nil | apply zW.boxP rfl rfl) ?_; all_goals (refine zZ.v rfl rfl (zJ rfl rfl rfl (by decide)) ?_); all_goals (refine zZ.v rfl rfl (zA rfl rfl rfl rfl rfl (by decide)) ?_); all_goals (refine zZ.v rfl rfl (by exact zL (stamp_fn _) rfl rfl rfl (by decide)) ?_); all_goals (refine zZ.v rfl rfl (xL rfl rfl (by rfl) rfl (by decide)) ?_); all_goals (refine zZ.v rfl rfl (zQ rfl rfl rfl (by decide)) ?_); all_goals (((fail_if_success refine zZ.known rfl rfl rfl (by fail) ?_); refine zZ.split rfl rfl rfl (fun h => ?_) (fun h => ?_) <;> first | refine zZ.gY rfl rfl (by decide) rfl (by assumption) rfl (by decide) (zJ rfl rfl rfl (by decide)) ?_ | refine zZ.gnF rfl rfl (by decide) rfl (by assumption) rfl (by decide) ?_)); all_goals (first | refine zZ.gY rfl rfl (by decide) rfl (by assumption) rfl (by decide) (zA rfl rfl rfl rfl rfl (by decide)) ?_ | refine zZ.gnF rfl rfl (by decide) rfl (by assumption) rfl (by decide) ?_); all_goals (first | refine zZ.gY rfl rfl (by decide) rfl (by assumption) rfl (by decide) (by exact zL (right_fn _ h0 h1) rfl rfl rfl (by decide)) ?_ | refine zZ.gnF rfl rfl (by decide) rfl (by assumption) rfl (by decide) ?_); all_goals (first | refine zZ.gY rfl rfl (by decide) rfl (by assumption) rfl (by decide) (xL rfl rfl (by rfl) rfl (by decide)) ?_ | refine zZ.gnF rfl rfl (by decide) rfl (by assumption) rfl (by decide) ?_); all_goals (refine zZ.v rfl rfl (by first | exact zT rfl rfl (by assumption) rfl rfl (by decide) | exact zR rfl rfl (by assumption) rfl rfl (by decide)) ?_); all_goals (refine zZ.nil ?_)) | (refine zX.isR (id := 4) ?_; refine zX.zV [1, 2, 6] [1] (by repeat' first | exact zY.nil | apply zY.p rfl | apply zY.ptr rfl) (by repeat' first | exact zW.nil | apply zW.boxP rfl rfl) ?_; (refine zZ.v rfl rfl (zK rfl rfl rfl (by decide)) ?_); refine zZ.nil ?_) | (refine zX.isR (id := 5) ?_; refine zX.zV [1, 2, 6] [1] (by repeat' first | exact zY.nil | apply zY.p rfl | apply zY.ptr rfl) (by repeat' first | exact zW.nil | apply zW.boxP rfl rfl) ?_; (refine zZ.v rfl rfl (zJ rfl rfl rfl (by decide)) ?_); (refine zZ.v rfl rfl (zA rfl rfl rfl rfl rfl (by decide)) ?_); (refine zZ.v rfl rfl (by exact yU (split_fn _ h0 h1) rfl rfl rfl (by decide)) ?_); (refine zZ.v rfl rfl (yO rfl rfl rfl (by decide)) ?_); (refine zZ.v rfl rfl (zF rfl rfl rfl rfl (by decide)) ?_); (refine zZ.v rfl rfl (zF rfl rfl rfl rfl (by decide)) ?_); (refine zZ.v rfl rfl (zK rfl rfl rfl (by decide)) ?_); (refine zZ.v rfl rfl (zK rfl rfl rfl (by decide)) ?_); refine zZ.nil ?_) | (refine zX.isR (id := 6) ?_; refine zX.zV [1, 2, 4, 6] [1] (by repeat' first | exact zY.nil | apply zY.p rfl | apply zY.ptr rfl) (by repeat' first | exact zW.nil | apply zW.boxP rfl rfl) ?_; (refine zZ.v rfl rfl (zQ rfl rfl rfl (by decide)) ?_); (refine zZ.v rfl rfl (yL rfl rfl rfl (by rfl) rfl (by decide)) ?_); refine zZ.nil ?_) | (refine zX.isR (id := 7) ?_; refine zX.zV [1, 2, 6] [1] (by repeat' first | exact zY.nil | apply zY.p rfl | apply zY.ptr rfl) (by repeat' first | exact zW.nil | apply zW.boxP rfl rfl) ?_; all_goals (refine zZ.v rfl rfl (zJ rfl rfl rfl (by decide)) ?_); all_goals (refine zZ.v rfl rfl (zA rfl rfl rfl rfl rfl (by decide)) ?_); all_goals (refine zZ.v rfl rfl (yQ rfl rfl rfl (by rfl) rfl (by decide)) ?_); all_goals (refine zZ.v rfl rfl (zQ rfl rfl rfl (by decide)) ?_); all_goals (((fail_if_success refine zZ.known rfl rfl rfl (by fail) ?_); refine zZ.split rfl rfl rfl (fun h => ?_) (fun h => ?_) <;> first | refine zZ.gY rfl rfl (by decide) rfl (by assumption) rfl (by decide) (zJ rfl rfl rfl (by decide)) ?_ | refine zZ.gnT rfl rfl (by decide) rfl (by assumption) rfl (by decide) ?_)); all_goals (first | refine zZ.gY rfl rfl (by decide) rfl (by assumption) rfl (by decide) (zA rfl rfl rfl rfl rfl (by decide)) ?_ | refine zZ.gnT rfl rfl (by decide) rfl (by assumption) rfl (by decide) ?_); all_goals (first | refine zZ.gY rfl rfl (by decide) rfl (by assumption) rfl (by decide) (yQ rfl rfl rfl (by rfl) rfl (by decide)) ?_ | refine zZ.gnT rfl rfl (by decide) rfl (by assumption) rfl (by decide) ?_); all_goals (refine zZ.v rfl rfl (by first | exact zT rfl rfl (by assumption) rfl rfl (by decide) | exact zR rfl rfl (by assumption) rfl rfl (by decide)) ?_); all_goals (refine zZ.v rfl rfl (zK rfl rfl rfl (by decide)) ?_); all_goals (refine zZ.nil ?_)) | (refine zX.isR (id := 8) ?_; refine zX.zV [1, 2, 6] [1] (by repeat' first | exact zY.nil | apply zY.p rfl | apply zY.ptr rfl) (by repeat' first | exact zW.nil | apply zW.boxP rfl rfl) ?_; all_goals (refine zZ.v rfl rfl (zJ rfl rfl rfl (by decide)) ?_); all_goals (refine zZ.v rfl rfl (zA rfl rfl rfl rfl rfl (by decide)) ?_); all_goals (refine zZ.v rfl rfl (by exact zL (stamp_fn _) rfl rfl rfl (by decide)) ?_); all_goals (refine zZ.v rfl rfl (zQ rfl rfl rfl (by decide)) ?_); all_goals (((fail_if_success refine zZ.known rfl rfl rfl (by fail) ?_); refine zZ.split rfl rfl rfl (fun h => ?_) (fun h => ?_) <;> first | refine zZ.gY rfl rfl (by decide) rfl (by assumption) rfl (by decide) (zJ rfl rfl rfl (by decide)) ?_ | refine zZ.gnT rfl rfl (by decide) rfl (by assumption) rfl (by decide) ?_)); all_goals (first | refine zZ.gY rfl rfl (by decide) rfl (by assumption) rfl (by decide) (zA rfl rfl rfl rfl rfl (by decide)) ?_ | refine zZ.gnT rfl rfl (by decide) rfl (by assumption) rfl (by decide) ?_); all_goals (first | refine zZ.gY rfl rfl (by decide) rfl (by assumption) rfl (by decide) (by exact zL (stamp_fn _) rfl rfl rfl (by decide)) ?_ | refine zZ.gnT rfl rfl (by decide) rfl (by assumption) rfl (by decide) ?_); all_goals (refine zZ.v rfl rfl (by first | exact zT rfl rfl (by assumption) rfl rfl (by decide) | exact zR rfl rfl (by assumption) rfl rfl (by decide)) ?_); all_goals (refine zZ.v rfl rfl (zK rfl rfl rfl (by decide)) ?_); all_goals (refine zZ.nil ?_)) | (refine zX.isR (id := 9) ?_; refine zX.zV [1, 2, 6] [1] (by repeat' first | exact zY.nil | apply zY.p rfl | apply zY.ptr rfl) (by repeat' first | exact zW.nil | apply zW.boxP rfl rfl) ?_; (refine zZ.v rfl rfl (yQ rfl rfl rfl (by rfl) rfl (by decide)) ?_); (refine zZ.v rfl rfl (zK rfl rfl rfl (by decide)) ?_); refine zZ.nil ?_) | (refine zX.isR (id := 10) ?_; refine zX.zV [1, 2, 6] [1] (by repeat' first | exact zY.nil | apply zY.p rfl | apply zY.ptr rfl) (by repeat' first | exact zW.nil | apply zW.boxP rfl rfl) ?_; all_goals (refine zZ.v rfl rfl (zJ rfl rfl rfl (by decide)) ?_); all_goals (refine zZ.v rfl rfl (zA rfl rfl rfl rfl rfl (by decide)) ?_); all_goals (refine zZ.v rfl rfl (by exact zL (stamp_fn _) rfl rfl rfl (by decide)) ?_); all_goals (refine zZ.v rfl rfl (zQ rfl rfl rfl (by decide)) ?_); all_goals (((fail_if_success refine zZ.known rfl rfl rfl (by fail) ?_); refine zZ.split rfl rfl rfl (fun h => ?_) (fun h => ?_) <;> first | refine zZ.gY rfl rfl (by decide) rfl (by assumption) rfl (by decide) (zI rfl rfl rfl (by rfl) (by rfl) rfl (by decide)) ?_ | refine zZ.gnT rfl rfl (by decide) rfl (by assumption) rfl (by decide) ?_)); all_goals (first | refine zZ.gY rfl rfl (by decide) rfl (by assumption) rfl (by decide) (zJ rfl rfl rfl (by decide)) ?_ | refine zZ.gnT rfl rfl (by decide) rfl (by assumption) rfl (by decide) ?_); all_goals (first | refine zZ.gY rfl rfl (by decide) rfl (by assumption) rfl (by decide) (zA rfl rfl rfl rfl rfl (by decide)) ?_ | refine zZ.gnT rfl rfl (by decide) rfl (by assumption) rfl (by decide) ?_); all_goals (first | refine zZ.gY rfl rfl (by decide) rfl (by assumption) rfl (by decide) (zJ rfl rfl rfl (by decide)) ?_ | refine zZ.gnT rfl rfl (by decide) rfl (by assumption) rfl (by decide) ?_); all_goals (first | refine zZ.gY rfl rfl (by decide) rfl (by assumption) rfl (by decide) (zA rfl rfl rfl rfl rfl (by decide)) ?_ | refine zZ.gnT rfl rfl (by decide) rfl (by assumption) rfl (by decide) ?_); all_goals (first | refine zZ.gY rfl rfl (by decide) rfl (by assumption) rfl (by decide) (zS rfl (by rfl) (by rfl) (by rfl) (by rfl) rfl (by decide)) ?_ | refine zZ.gnT rfl rfl (by decide) rfl (by assumption) rfl (by decide) ?_); all_goals (first | refine zZ.gY rfl rfl (by decide) rfl (by assumption) rfl (by decide) (r_eqlT rfl rfl rfl rfl rfl rfl (by rfl) (by rfl) rfl (by decide)) ?_ | refine zZ.gnT rfl rfl (by decide) rfl (by assumption) rfl (by decide) ?_); all_goals (refine zZ.v rfl rfl (by first | exact zT rfl rfl (by assumption) rfl rfl (by decide) | exact zR rfl rfl (by assumption) rfl rfl (by decide)) ?_); all_goals (refine zZ.v rfl rfl (zK rfl rfl rfl (by decide)) ?_); all_goals (refine zZ.nil ?_)) | (refine zX.isR (id := 11) ?_; refine zX.zV [1, 2, 6] [1] (by repeat' first | exact zY.nil | apply zY.p rfl | apply zY.ptr rfl) (by repeat' first | exact zW.nil | apply zW.boxP rfl rfl) ?_; (refine zZ.v rfl rfl (yQ rfl rfl rfl (by rfl) rfl (by decide)) ?_); (refine zZ.v rfl rfl (zK rfl rfl rfl (by decide)) ?_); refine zZ.nil ?_) | (refine zX.isR (id := 12) ?_; refine zX.zV [1, 2] [1] (by repeat' first | exact zY.nil | apply zY.p rfl | apply zY.ptr rfl) (by repeat' first | exact zW.nil | apply zW.boxP rfl rfl) ?_; all_goals (refine zZ.v rfl rfl (zJ rfl rfl rfl (by decide)) ?_); all_goals (refine zZ.v rfl rfl (zA rfl rfl rfl rfl rfl (by decide)) ?_); all_goals (refine zZ.v rfl rfl (r_leq rfl rfl rfl (by rfl) rfl (by decide)) ?_); all_goals (refine zZ.v rfl rfl (zQ rfl rfl rfl (by decide)) ?_); all_goals (((fail_if_success refine zZ.known rfl rfl rfl (by fail) ?_); refine zZ.split rfl rfl rfl (fun h => ?_) (fun h => ?_) <;> first | refine zZ.gY rfl rfl (by decide) rfl (by assumption) rfl (by decide) (zI rfl rfl rfl (by rfl) (by rfl) rfl (by decide)) ?_ | refine zZ.gnT rfl rfl (by decide) rfl (by assumption) rfl (by decide) ?_)); all_goals (first | refine zZ.gY rfl rfl (by decide) rfl (by assumption) rfl (by decide) (zJ rfl rfl rfl (by decide)) ?_ | refine zZ.gnT rfl rfl (by decide) rfl (by assumption) rfl (by decide) ?_); all_goals (first | refine zZ.gY rfl rfl (by decide) rfl (by assumption) rfl (by decide) (zA rfl rfl rfl rfl rfl (by decide)) ?_ | refine zZ.gnT rfl rfl (by decide) rfl (by assumption) rfl (by decide) ?_); all_goals (first | refine zZ.gY rfl rfl (by decide) rfl (by assumption) rfl (by decide) (zJ rfl rfl rfl (by decide)) ?_ | refine zZ.gnT rfl rfl (by decide) rfl (by assumption) rfl (by decide) ?_); all_goals (first | refine zZ.gY rfl rfl (by decide) rfl (by assumption) rfl (by decide) (zA rfl rfl rfl rfl rfl (by decide)) ?_ | refine zZ.gnT rfl rfl (by decide) rfl (by assumption) rfl (by decide) ?_); all_goals (first | refine zZ.gY rfl rfl (by decide) rfl (by assumption) rfl (by decide) (zS rfl (by rfl) (by rfl) (by rfl) (by rfl) rfl (by decide)) ?_ | refine zZ.gnT rfl rfl (by decide) rfl (by assumption) rfl (by decide) ?_); all_goals (first | refine zZ.gY rfl rfl (by decide) rfl (by assumption) rfl (by decide) (r_eqlT rfl rfl rfl rfl rfl rfl (by rfl) (by rfl) rfl (by decide)) ?_ | refine zZ.gnT rfl rfl (by decide) rfl (by assumption) rfl (by decide) ?_); all_goals (refine zZ.v rfl rfl (by first | exact zT rfl rfl (by assumption) rfl rfl (by decide) | exact zR rfl rfl (by assumption) rfl rfl (by decide)) ?_); all_goals (refine zZ.v rfl rfl (zK rfl rfl rfl (by decide)) ?_); all_goals (refine zZ.nil ?_)) | (refine zX.isR (id := 13) ?_; refine zX.zV [2] [1] (by repeat' first | exact zY.nil | apply zY.p rfl) (by repeat' first | exact zW.nil | apply zW.boxP rfl rfl) ?_; (refine zZ.v rfl rfl (zK rfl rfl rfl (by decide)) ?_); refine zZ.nil ?_) | refine zX.yE rfl (by first | assumption | with_reducible rfl) ?_ | refine zX.cond rfl (fun h => ?_) (fun h => ?_) | refine zX.skip ?_ | refine zX.block ?_ | refine zX.ret ?_) | refine yJ.r ?_ | refine xV.r ?_)
  all_goals refine ⟨.inl rfl, gives1 rfl rfl (eqB ?_)⟩
  all_goals simp only [decide_eq_true_eq, decide_eq_false_iff_not, Bool.not_eq_true', Bool.not_eq_false'] at *
  all_goals try subst k
  all_goals try (have hq : y % 2147483648 = 0 := by omega)
  all_goals try (have hq : ¬ y % 2147483648 = 0 := by omega)
  all_goals (unfold mayB; (simp [*]; done))
theorem mayRef_fn (k s y u v x : Int) (h0 : 0 ≤ y) (h1 : y < 18446744073709551616) : Fn Tryz.prog 96 [entV k s y u v x] (.p (.val (.bool (mayB k s y u v x)))) := by
  refine wJ Tryz.func96 rfl Tryz.ntmps96 (Nat.le_of_ble_eq_true rfl) ?_
  have hr : y.tmod 2147483648 = y % 2147483648 := Int.tmod_eq_emod_of_nonneg h0
  repeat' (first | (refine zX.is ?_; first | refine zX.seq ?_ | (refine zX.isR (id := 0) ?_; refine zX.zV [0] [1] (by repeat' first | exact zY.nil | apply zY.p rfl) (by repeat' first | exact zW.nil | apply zW.skip) ?_; (refine zZ.m rfl rfl (z8 rfl rfl rfl (by decide)) ?_); (refine zZ.v rfl rfl (zK rfl rfl rfl (by decide)) ?_); refine zZ.nil ?_) | (refine zX.isR (id := 1) ?_; refine zX.zV [1, 2] [1] (by repeat' first | exact zY.nil | apply zY.p rfl | apply zY.ptr rfl) (by repeat' first | exact zW.nil | apply zW.boxP rfl rfl) ?_; (refine zZ.v rfl rfl (zJ rfl rfl rfl (by decide)) ?_); (refine zZ.v rfl rfl (zA rfl rfl rfl (by rfl) rfl (by decide)) ?_); (refine zZ.v rfl rfl (yQ rfl rfl rfl (by rfl) rfl (by decide)) ?_); refine zZ.nil ?_) | (refine zX.isR (id := 2) ?_; refine zX.zV [1, 2] [1] (by repeat' first | exact zY.nil | apply zY.p rfl | apply zY.ptr rfl) (by repeat' first | exact zW.nil | apply zW.boxP rfl rfl) ?_; (refine zZ.v rfl rfl (zJ rfl rfl rfl (by decide)) ?_); (refine zZ.v rfl rfl (zA rfl rfl rfl (by rfl) rfl (by decide)) ?_); (refine zZ.v rfl rfl (by exact zL (rightRef_fn _ h0 h1) rfl rfl rfl (by decide)) ?_); (refine zZ.v rfl rfl (zK rfl rfl rfl (by decide)) ?_); refine zZ.nil ?_) | (refine zX.isR (id := 3) ?_; refine zX.zV [1, 2, 3] [1] (by repeat' first | exact zY.nil | apply zY.p rfl | apply zY.ptr rfl) (by repeat' first | exact zW.nil | apply zW.boxP rfl rfl) ?_; all_goals (refine zZ.v rfl rfl (zQ rfl rfl rfl (by decide)) ?_); all_goals (refine zZ.v rfl rfl (xL rfl rfl (by rfl) rfl (by decide)) ?_); all_goals (refine zZ.v rfl rfl (zQ rfl rfl rfl (by decide)) ?_); all_goals (((fail_if_success refine zZ.known rfl rfl rfl (by fail) ?_); refine zZ.split rfl rfl rfl (fun h => ?_) (fun h => ?_) <;> first | refine zZ.gY rfl rfl (by decide) rfl (by assumption) rfl (by decide) (zJ rfl rfl rfl (by decide)) ?_ | refine zZ.gnF rfl rfl (by decide) rfl (by assumption) rfl (by decide) ?_)); all_goals (first | refine zZ.gY rfl rfl (by decide) rfl (by assumption) rfl (by decide) (zA rfl rfl rfl (by rfl) rfl (by decide)) ?_ | refine zZ.gnF rfl rfl (by decide) rfl (by assumption) rfl (by decide) ?_); all_goals (first | refine zZ.gY rfl rfl (by decide) rfl (by assumption) rfl (by decide) (by exact zL (stampRef_fn _) rfl rfl rfl (by decide)) ?_ | refine zZ.gnF rfl rfl (by decide) rfl (by assumption) rfl (by decide) ?_); all_goals (first | refine zZ.gY rfl rfl (by decide) rfl (by assumption) rfl (by decide) (xL rfl rfl (by rfl) rfl (by decide)) ?_ | refine zZ.gnF rfl rfl (by decide) rfl (by assumption) rfl (by decide) ?_); all_goals (refine zZ.v rfl rfl (by first | exact zT rfl rfl (by assumption) rfl rfl (by decide) | exact zR rfl rfl (by assumption) rfl rfl (by decide)) ?_); all_goals (refine zZ.nil ?_)) | (refine zX.isR (id := 4) ?_; refine zX.zV [1, 2] [1] (by repeat' first | exact zY.nil | apply zY.p rfl | apply zY.ptr rfl) (by repeat' first | exact zW.nil | apply zW.boxP rfl rfl) ?_; (refine zZ.v rfl rfl (zK rfl rfl rfl (by decide)) ?_); refine zZ.nil ?_) | (refine zX.isR (id := 5) ?_; refine zX.zV [1, 2] [1] (by repeat' first | exact zY.nil | apply zY.p rfl | apply zY.ptr rfl) (by repeat' first | exact zW.nil | apply zW.boxP rfl rfl) ?_; (refine zZ.v rfl rfl (zJ rfl rfl rfl (by decide)) ?_); (refine zZ.v rfl rfl (zA rfl rfl rfl (by rfl) rfl (by decide)) ?_); (refine zZ.v rfl rfl (by exact a_rem rfl rfl rfl (by decide) (by exact hr) rfl (by decide)) ?_); (refine zZ.v rfl rfl (yQ rfl rfl rfl (by rfl) rfl (by decide)) ?_); refine zZ.nil ?_) | (refine zX.isR (id := 6) ?_; refine zX.zV [1, 2] [1] (by repeat' first | exact zY.nil | apply zY.p rfl | apply zY.ptr rfl) (by repeat' first | exact zW.nil | apply zW.boxP rfl rfl) ?_; all_goals (refine zZ.v rfl rfl (zJ rfl rfl rfl (by decide)) ?_); all_goals (refine zZ.v rfl rfl (zA rfl rfl rfl (by rfl) rfl (by decide)) ?_); all_goals (refine zZ.v rfl rfl (yQ rfl rfl rfl (by rfl) rfl (by decide)) ?_); all_goals (refine zZ.v rfl rfl (zQ rfl rfl rfl (by decide)) ?_); all_goals (((fail_if_success refine zZ.known rfl rfl rfl (by fail) ?_); refine zZ.split rfl rfl rfl (fun h => ?_) (fun h => ?_) <;> first | refine zZ.gY rfl rfl (by decide) rfl (by assumption) rfl (by decide) (zJ rfl rfl rfl (by decide)) ?_ | refine zZ.gnT rfl rfl (by decide) rfl (by assumption) rfl (by decide) ?_)); all_goals (first | refine zZ.gY rfl rfl (by decide) rfl (by assumption) rfl (by decide) (zA rfl rfl rfl (by rfl) rfl (by decide)) ?_ | refine zZ.gnT rfl rfl (by decide) rfl (by assumption) rfl (by decide) ?_); all_goals (first | refine zZ.gY rfl rfl (by decide) rfl (by assumption) rfl (by decide) (yQ rfl rfl rfl (by rfl) rfl (by decide)) ?_ | refine zZ.gnT rfl rfl (by decide) rfl (by assumption) rfl (by decide) ?_); all_goals (refine zZ.v rfl rfl (by first | exact zT rfl rfl (by assumption) rfl rfl (by decide) | exact zR rfl rfl (by assumption) rfl rfl (by decide)) ?_); all_goals (refine zZ.v rfl rfl (zK rfl rfl rfl (by decide)) ?_); all_goals (refine zZ.nil ?_)) | (refine zX.isR (id := 7) ?_; refine zX.zV [1, 2] [1] (by repeat' first | exact zY.nil | apply zY.p rfl | apply zY.ptr rfl) (by repeat' first | exact zW.nil | apply zW.boxP rfl rfl) ?_; all_goals (refine zZ.v rfl rfl (zJ rfl rfl rfl (by decide)) ?_); all_goals (refine zZ.v rfl rfl (zA rfl rfl rfl (by rfl) rfl (by decide)) ?_); all_goals (refine zZ.v rfl rfl (by exact zL (stampRef_fn _) rfl rfl rfl (by decide)) ?_); all_goals (refine zZ.v rfl rfl (zQ rfl rfl rfl (by decide)) ?_); all_goals (((fail_if_success refine zZ.known rfl rfl rfl (by fail) ?_); refine zZ.split rfl rfl rfl (fun h => ?_) (fun h => ?_) <;> first | refine zZ.gY rfl rfl (by decide) rfl (by assumption) rfl (by decide) (zJ rfl rfl rfl (by decide)) ?_ | refine zZ.gnT rfl rfl (by decide) rfl (by assumption) rfl (by decide) ?_)); all_goals (first | refine zZ.gY rfl rfl (by decide) rfl (by assumption) rfl (by decide) (zA rfl rfl rfl (by rfl) rfl (by decide)) ?_ | refine zZ.gnT rfl rfl (by decide) rfl (by assumption) rfl (by decide) ?_); all_goals (first | refine zZ.gY rfl rfl (by decide) rfl (by assumption) rfl (by decide) (by exact zL (stampRef_fn _) rfl rfl rfl (by decide)) ?_ | refine zZ.gnT rfl rfl (by decide) rfl (by assumption) rfl (by decide) ?_); all_goals (refine zZ.v rfl rfl (by first | exact zT rfl rfl (by assumption) rfl rfl (by decide) | exact zR rfl rfl (by assumption) rfl rfl (by decide)) ?_); all_goals (refine zZ.v rfl rfl (zK rfl rfl rfl (by decide)) ?_); all_goals (refine zZ.nil ?_)) | (refine zX.isR (id := 8) ?_; refine zX.zV [1, 2] [1] (by repeat' first | exact zY.nil | apply zY.p rfl | apply zY.ptr rfl) (by repeat' first | exact zW.nil | apply zW.boxP rfl rfl) ?_; all_goals (refine zZ.v rfl rfl (zJ rfl rfl rfl (by decide)) ?_); all_goals (refine zZ.v rfl rfl (zA rfl rfl rfl (by rfl) rfl (by decide)) ?_); all_goals (refine zZ.v rfl rfl (xW rfl rfl rfl (by rfl) rfl (by decide)) ?_); all_goals (refine zZ.v rfl rfl (zQ rfl rfl rfl (by decide)) ?_); all_goals (((fail_if_success refine zZ.known rfl rfl rfl (by fail) ?_); refine zZ.split rfl rfl rfl (fun h => ?_) (fun h => ?_) <;> first | refine zZ.gY rfl rfl (by decide) rfl (by assumption) rfl (by decide) (zJ rfl rfl rfl (by decide)) ?_ | refine zZ.gnF rfl rfl (by decide) rfl (by assumption) rfl (by decide) ?_)); all_goals (first | refine zZ.gY rfl rfl (by decide) rfl (by assumption) rfl (by decide) (zA rfl rfl rfl (by rfl) rfl (by decide)) ?_ | refine zZ.gnF rfl rfl (by decide) rfl (by assumption) rfl (by decide) ?_); all_goals (first | refine zZ.gY rfl rfl (by decide) rfl (by assumption) rfl (by decide) (xW rfl rfl rfl (by rfl) rfl (by decide)) ?_ | refine zZ.gnF rfl rfl (by decide) rfl (by assumption) rfl (by decide) ?_); all_goals (refine zZ.v rfl rfl (by first | exact zT rfl rfl (by assumption) rfl rfl (by decide) | exact zR rfl rfl (by assumption) rfl rfl (by decide)) ?_); all_goals (refine zZ.v rfl rfl (zQ rfl rfl rfl (by decide)) ?_); all_goals (first | refine zZ.gnF rfl rfl (by decide) rfl (by with_reducible rfl) rfl (by decide) ?_ | ((fail_if_success refine zZ.known rfl rfl rfl (by fail) ?_); refine zZ.split rfl rfl rfl (fun h => ?_) (fun h => ?_) <;> first | refine zZ.gY rfl rfl (by decide) rfl (by assumption) rfl (by decide) (zJ rfl rfl rfl (by decide)) ?_ | refine zZ.gnF rfl rfl (by decide) rfl (by assumption) rfl (by decide) ?_)); all_goals (first | refine zZ.gY rfl rfl (by decide) rfl (by assumption) rfl (by decide) (zA rfl rfl rfl (by rfl) rfl (by decide)) ?_ | refine zZ.gnF rfl rfl (by decide) rfl (by first | assumption | with_reducible rfl) rfl (by decide) ?_); all_goals (first | refine zZ.gY rfl rfl (by decide) rfl (by assumption) rfl (by decide) (xW rfl rfl rfl (by rfl) rfl (by decide)) ?_ | refine zZ.gnF rfl rfl (by decide) rfl (by first | assumption | with_reducible rfl) rfl (by decide) ?_); all_goals (refine zZ.v rfl rfl (by first | exact zT rfl rfl (by first | assumption | with_reducible rfl) rfl rfl (by decide) | exact zR rfl rfl (by assumption) rfl rfl (by decide)) ?_); all_goals (refine zZ.v rfl rfl (zQ rfl rfl rfl (by decide)) ?_); all_goals (first | refine zZ.gnF rfl rfl (by decide) rfl (by with_reducible rfl) rfl (by decide) ?_ | ((fail_if_success refine zZ.known rfl rfl rfl (by fail) ?_); refine zZ.split rfl rfl rfl (fun h => ?_) (fun h => ?_) <;> first | refine zZ.gY rfl rfl (by decide) rfl (by assumption) rfl (by decide) (zJ rfl rfl rfl (by decide)) ?_ | refine zZ.gnF rfl rfl (by decide) rfl (by assumption) rfl (by decide) ?_)); all_goals (first | refine zZ.gY rfl rfl (by decide) rfl (by assumption) rfl (by decide) (zA rfl rfl rfl (by rfl) rfl (by decide)) ?_ | refine zZ.gnF rfl rfl (by decide) rfl (by first | assumption | with_reducible rfl) rfl (by decide) ?_); all_goals (first | refine zZ.gY rfl rfl (by decide) rfl (by assumption) rfl (by decide) (xW rfl rfl rfl (by rfl) rfl (by decide)) ?_ | refine zZ.gnF rfl rfl (by decide) rfl (by first | assumption | with_reducible rfl) rfl (by decide) ?_); all_goals (refine zZ.v rfl rfl (by first | exact zT rfl rfl (by first | assumption | with_reducible rfl) rfl rfl (by decide) | exact zR rfl rfl (by assumption) rfl rfl (by decide)) ?_); all_goals (refine zZ.nil ?_)) | (refine zX.isR (id := 9) ?_; refine zX.zV [1, 2] [1] (by repeat' first | exact zY.nil | apply zY.p rfl | apply zY.ptr rfl) (by repeat' first | exact zW.nil | apply zW.boxP rfl rfl) ?_; (refine zZ.v rfl rfl (zK rfl rfl rfl (by decide)) ?_); refine zZ.nil ?_) | (refine zX.isR (id := 10) ?_; refine zX.zV [1, 2] [1] (by repeat' first | exact zY.nil | apply zY.p rfl | apply zY.ptr rfl) (by repeat' first | exact zW.nil | apply zW.boxP rfl rfl) ?_; all_goals (refine zZ.v rfl rfl (zJ rfl rfl rfl (by decide)) ?_); all_goals (refine zZ.v rfl rfl (zA rfl rfl rfl (by rfl) rfl (by decide)) ?_); all_goals (refine zZ.v rfl rfl (yQ rfl rfl rfl (by rfl) rfl (by decide)) ?_); all_goals (refine zZ.v rfl rfl (zQ rfl rfl rfl (by decide)) ?_); all_goals (((fail_if_success refine zZ.known rfl rfl rfl (by fail) ?_); refine zZ.split rfl rfl rfl (fun h => ?_) (fun h => ?_) <;> first | refine zZ.gY rfl rfl (by decide) rfl (by assumption) rfl (by decide) (zJ rfl rfl rfl (by decide)) ?_ | refine zZ.gnT rfl rfl (by decide) rfl (by assumption) rfl (by decide) ?_)); all_goals (first | refine zZ.gY rfl rfl (by decide) rfl (by assumption) rfl (by decide) (zA rfl rfl rfl (by rfl) rfl (by decide)) ?_ | refine zZ.gnT rfl rfl (by decide) rfl (by assumption) rfl (by decide) ?_); all_goals (first | refine zZ.gY rfl rfl (by decide) rfl (by assumption) rfl (by decide) (by exact zL (stampRef_fn _) rfl rfl rfl (by decide)) ?_ | refine zZ.gnT rfl rfl (by decide) rfl (by assumption) rfl (by decide) ?_); all_goals (refine zZ.v rfl rfl (by first | exact zT rfl rfl (by assumption) rfl rfl (by decide) | exact zR rfl rfl (by assumption) rfl rfl (by decide)) ?_); all_goals (refine zZ.v rfl rfl (zQ rfl rfl rfl (by decide)) ?_); all_goals (first | refine zZ.gY rfl rfl (by decide) rfl (by with_reducible rfl) rfl (by decide) (zJ rfl rfl rfl (by decide)) ?_ | ((fail_if_success refine zZ.known rfl rfl rfl (by fail) ?_); refine zZ.split rfl rfl rfl (fun h => ?_) (fun h => ?_) <;> first | refine zZ.gY rfl rfl (by decide) rfl (by assumption) rfl (by decide) (zJ rfl rfl rfl (by decide)) ?_ | refine zZ.gnF rfl rfl (by decide) rfl (by assumption) rfl (by decide) ?_)); all_goals (first | refine zZ.gY rfl rfl (by decide) rfl (by first | assumption | with_reducible rfl) rfl (by decide) (zA rfl rfl rfl (by rfl) rfl (by decide)) ?_ | refine zZ.gnF rfl rfl (by decide) rfl (by assumption) rfl (by decide) ?_); all_goals (first | refine zZ.gY rfl rfl (by decide) rfl (by first | assumption | with_reducible rfl) rfl (by decide) (yQ rfl rfl rfl (by rfl) rfl (by decide)) ?_ | refine zZ.gnF rfl rfl (by decide) rfl (by assumption) rfl (by decide) ?_); all_goals (first | refine zZ.gY rfl rfl (by decide) rfl (by first | assumption | with_reducible rfl) rfl (by decide) (zQ rfl rfl rfl (by decide)) ?_ | refine zZ.gnF rfl rfl (by decide) rfl (by assumption) rfl (by decide) ?_); all_goals (first | refine zZ.gU rfl rfl (by decide) (by rfl) rfl (by decide) ?_ | ((fail_if_success refine zZ.known rfl rfl rfl (by fail) ?_); refine zZ.split rfl rfl rfl (fun h => ?_) (fun h => ?_) <;> first | refine zZ.gY rfl rfl (by decide) rfl (by assumption) rfl (by decide) (zJ rfl rfl rfl (by decide)) ?_ | refine zZ.gnT rfl rfl (by decide) rfl (by assumption) rfl (by decide) ?_)); all_goals (first | refine zZ.gU rfl rfl (by decide) (by rfl) rfl (by decide) ?_ | refine zZ.gY rfl rfl (by decide) rfl (by assumption) rfl (by decide) (zA rfl rfl rfl (by rfl) rfl (by decide)) ?_ | refine zZ.gnT rfl rfl (by decide) rfl (by assumption) rfl (by decide) ?_); all_goals (first | refine zZ.gU rfl rfl (by decide) (by rfl) rfl (by decide) ?_ | refine zZ.gY rfl rfl (by decide) rfl (by assumption) rfl (by decide) (r_leq rfl rfl rfl (by rfl) rfl (by decide)) ?_ | refine zZ.gnT rfl rfl (by decide) rfl (by assumption) rfl (by decide) ?_); all_goals (first | refine zZ.gY rfl rfl (by decide) rfl (by first | assumption | with_reducible rfl) rfl (by decide) (by first | exact zT rfl rfl (by assumption) rfl rfl (by decide) | exact zR rfl rfl (by assumption) rfl rfl (by decide)) ?_ | refine zZ.gnF rfl rfl (by decide) rfl (by assumption) rfl (by decide) ?_); all_goals (refine zZ.v rfl rfl (by first | exact zT rfl rfl (by assumption) rfl rfl (by decide) | exact zR rfl rfl (by first | assumption | with_reducible rfl) rfl rfl (by decide)) ?_); all_goals (refine zZ.v rfl rfl (zK rfl rfl rfl (by decide)) ?_); all_goals (refine zZ.nil ?_)) | refine zX.yE rfl (by first | assumption | with_reducible rfl) ?_ | refine zX.cond rfl (fun h => ?_) (fun h => ?_) | refine zX.skip ?_ | refine zX.ret ?_) | refine yJ.r ?_)
  all_goals refine ⟨.inl rfl, gives1 rfl rfl (eqB ?_)⟩
  all_goals simp only [decide_eq_true_eq, decide_eq_false_iff_not, Bool.not_eq_true', Bool.not_eq_false'] at *
  all_goals try subst k
  all_goals (unfold mayB; first | (simp [*]; done) | (simp [*]; omega))
end Go.Proofs.YtlfkofkdigmnpaaGreatDoor
/- Contracts of eight and number (the reference's). -/
namespace Go.Proofs.YtlfkofkdigmnpaaGreatDoor
set_option maxRecDepth 100000
set_option maxHeartbeats 16000000
open Go.RowKit
theorem Tryz.infoByte : (Tryz.prog.info? 5).map (fun i => (i.zero, i.size, i.bytes)) = some (some (.int .u8 0), 1, 1) := by kernel_rfl
/-- the k lowest bytes of a number -/
def bytesOf : Nat → Int → List Int
  | 0, _ => []
  | k + 1, n => n % 256 :: bytesOf k (n / 256)
theorem pow256_pos (k : Nat) : (0 : Int) < 256 ^ k := by
  induction k with
  | zero => decide
  | succ k ih => rw [Int.pow_succ]; omega
theorem bytesOf_length (k : Nat) (n : Int) : (bytesOf k n).length = k := by
  induction k generalizing n with
  | zero => rfl
  | succ k ih => simp [bytesOf, ih]
theorem bytesOf_snoc (k : Nat) (n : Int) : bytesOf (k + 1) n = bytesOf k n ++ [n / 256 ^ k % 256] := by
  induction k generalizing n with
  | zero => simp [bytesOf]
  | succ k ih =>
    rw [bytesOf, ih (n / 256)]
    simp only [bytesOf, List.cons_append]
    rw [Int.ediv_ediv_of_nonneg (by omega), Int.pow_succ, Int.mul_comm]
theorem eight_any (n : Int) (w : World) (h0 : 0 ≤ n) (h1 : n < 18446744073709551616) :
    Calls Tryz.prog 97 #[.int .u64 n] w fun e w' =>
      ∃ v, e = .returned v ∧ w'.ownsRow w.heap.size 5 1 v 8 ((bytesOf 8 n).map (Value.int .u8)) ∧ Below w.heap.size w w' := by
  obtain ⟨i0, hi, hz0, hz1, hz2⟩ := info_parts Tryz.infoByte
  go_enter Tryz.func97, Tryz.ntmps97
  go_wp2_with fail
  go_loopw [0, 3, 4] (fun m v i wr => ∃ k : Nat, k ≤ 8 ∧ i = .int .i64 k ∧ (∃ q : Int, m = .int .u64 q ∧ 0 ≤ q ∧ q < 18446744073709551616 ∧ Hid (q = n / 256 ^ k)) ∧ wr.ownsRow w.heap.size 5 1 v k ((bytesOf k n).map (Value.int .u8)) ∧ Below w.heap.size w wr)
     (fun _ _ i _ => 8 - (intOf i).toNat)
  case atStart => exact ⟨0, by omega, rfl, ⟨n, rfl, h0, h1, by show n = _; simp⟩, World.ownsRow_nil _ _ _ _, Below.refl _ _⟩
  case round =>
    obtain ⟨k, hk, rfl, ⟨q, rfl, hq0, hq1, HQ⟩, hown, hb⟩ := hrel
    by_cases hlt : k < 8
    · have hsz := hb.size
      go_wp2_with (at_builtin; refine wpList_append_own _ rfl _ _ 31 rfl w.heap.size 5 i0 (.int .u8 0) 1 1 Tryz.underlying31 hi hz0 hz1 hz2 rfl (by decide) _ _ _ rfl (hown.alloc _) ⟨wr.heap.size, 0, none⟩ 1 1 [.int .u8 (q % 256)] rfl rfl cells_new (one_cell rfl) (by unfold maxLen; omega) (by omega) (by simp; omega) ?_)
      intro v' w1 hown' hgrow _
      have hown2 : w1.ownsRow w.heap.size 5 1 v' (k + 1) ((bytesOf (k + 1) n).map (Value.int .u8)) := by
        rw [bytesOf_snoc, List.map_append, ← HQ.out]; exact hown'
      have HQ' : Hid (q / 256 = n / 256 ^ (k + 1)) := by
        show _ = _
        rw [HQ.out, Int.ediv_ediv_of_nonneg (Int.le_of_lt (pow256_pos k)), Int.pow_succ]
      have hb' : Below w.heap.size w w1 := (hb.alloc hsz _).grown hgrow (by simp; omega) (fun j hj => (hown.lt j hj).1)
      clear hown hown' hgrow
      go_wp2
      go_roundw
      case rel => exact ⟨k + 1, by omega, by go_num, ⟨_, rfl, by omega, by omega, HQ'⟩, hown2, hb'⟩
      case measure => simp [intOf]; omega
    · obtain rfl : k = 8 := by omega
      go_wp2
      go_ret
      exact ⟨_, rfl, hown, hb⟩
end Go.Proofs.YtlfkofkdigmnpaaGreatDoor
/- eight and number, as contracts over abstract frames. -/
namespace Go.Proofs.YtlfkofkdigmnpaaGreatDoor
set_option maxRecDepth 100000
set_option maxHeartbeats 16000000
open Go Go.RowKit
theorem rep_owned {M : Nat → Nat → Prop} {w w' : World} {e : Nat} {v : Value} {k : Nat} {bs : List Int} (hM : ∀ k c, M k c → k < w.heap.size) (h : w'.ownsRow w.heap.size e 1 v k (bs.map (Value.int .u8))) : Rep M w' (.sl (byts bs)) v := by
  obtain ⟨hl, h⟩ := h
  have hk : bs.length = k := by simpa using hl
  rcases h with ⟨rfl, rfl⟩ | ⟨g, cap, cur, rfl, hg, hh, hn, hcm, hs, ht⟩
  · have : bs = [] := List.eq_nil_of_length_eq_zero hk
    subst this
    exact .nil
  · refine .sl (byts bs) g 0 k cap (bs.map (Value.int .u8)) (by rw [wM, hk]) (by rw [byts_flat, wM, List.length_map]) (fun j y hy => ?_) (fun j c y hc hy => ?_) (fun v hv => ?_) (fun _ _ hm => ?_) (Array.getElem?_eq_some_iff.1 hh).1 hn hcm
    · rw [Nat.zero_add, cell_of_row w' g j cur e (0, 0) hh]
      rw [← ht, List.getElem?_take] at hy
      split at hy
      · simpa using hy
      · cases hy
    · rw [byts_flat, byts, List.getElem?_map, Option.map_eq_some_iff] at hc
      obtain ⟨b, hb, rfl⟩ := hc
      rw [List.getElem?_map, hb] at hy
      obtain rfl := Option.some.inj hy
      exact .val _
    · obtain ⟨b, _, rfl⟩ := List.mem_map.1 hv
      rfl
    · have := hM g _ hm; omega
theorem eight_fn (n : Int) (h0 : 0 ≤ n) (h1 : n < 18446744073709551616) : Fn Tryz.prog 97 [.val (.int .u64 n)] (.p (.sl (byts (bytesOf 8 n)))) := by
  intro M w vs _ hM hl hr
  match vs, hl with
  | [v], _ =>
    have hv := rep_val (hr 0 _ v rfl rfl)
    subst hv
    refine (eight_any n w h0 h1).mono ?_
    rintro e w' ⟨v, rfl, hown, hb⟩
    exact ⟨v, rfl, rep_owned hM hown, hb⟩
end Go.Proofs.YtlfkofkdigmnpaaGreatDoor
/- Encode, the reference's, as a contract. -/
namespace Go.Proofs.YtlfkofkdigmnpaaGreatDoor
set_option maxRecDepth 100000
set_option maxHeartbeats 16000000
open Go Go.RowKit
set_option linter.unusedSimpArgs false
attribute [local irreducible] zZ zX Step zG Sub zP Fn
/-- an entry's bytes -/
def encL (k s y u v x : Int) : List Int := (k % 256 :: bytesOf 8 s) ++ (if k = 1 then bytesOf 8 y ++ bytesOf 8 u ++ bytesOf 8 v ++ bytesOf 8 x else [])
theorem encRef_fn (k s y u v x : Int) (h0 : 0 ≤ s) (h1 : s < 18446744073709551616) (h2 : 0 ≤ y) (h3 : y < 18446744073709551616) (h4 : 0 ≤ u) (h5 : u < 18446744073709551616) (h6 : 0 ≤ v) (h7 : v < 18446744073709551616) (h8 : 0 ≤ x) (h9 : x < 18446744073709551616) :
    Fn Tryz.prog 80 [entV k s y u v x] (.tup (if mayB k s y u v x then [.sl (byts (encL k s y u v x)), .val (.int .i64 0)] else [.sl [], .val (.int .i64 1)])) := by
  have hl : ∀ n, (bytesOf 8 n).length = 8 := bytesOf_length 8
  have hw : IntKind.u8.wrap k = k % 256 := by simp [IntKind.wrap, IntKind.signed, IntKind.bits]
  refine yI Tryz.func80 rfl Tryz.ntmps80 (Nat.le_of_ble_eq_true rfl) ?_
  repeat' (first | (refine zX.is ?_; first | refine zX.seq ?_ | (refine zX.isR (id := 0) ?_; refine zX.zV [0] [1, 2, 13] (by repeat' first | exact zY.nil | apply zY.p rfl) (by repeat' first | exact zW.nil | apply zW.skip) ?_; (refine zZ.m rfl rfl (z8 rfl rfl rfl (by decide)) ?_); (refine zZ.v rfl rfl (zK rfl rfl rfl (by decide)) ?_); (refine zZ.v rfl rfl (zK rfl rfl rfl (by decide)) ?_); refine zZ.nil ?_) | (refine zX.isR (id := 1) ?_; refine zX.zV [1, 2, 3] [1, 2, 13] (by repeat' first | exact zY.nil | apply zY.p rfl | apply zY.ptr rfl) (by repeat' first | exact zW.nil | apply zW.boxP rfl rfl | apply zW.skip) ?_; (refine zZ.v rfl rfl (zI rfl rfl rfl (by rfl) (by rfl) rfl (by decide)) ?_); (refine zZ.v rfl rfl (by exact zL (mayRef_fn _ _ _ _ _ _ h2 h3) rfl rfl rfl (by decide)) ?_); (refine zZ.v rfl rfl (zK rfl rfl rfl (by decide)) ?_); refine zZ.nil ?_) | (refine zX.isR (id := 2) ?_; refine zX.zV [1, 2, 3, 4] [1, 2, 13] (by repeat' first | exact zY.nil | apply zY.p rfl | apply zY.ptr rfl) (by repeat' first | exact zW.nil | apply zW.boxP rfl rfl | apply zW.skip) ?_; (refine zZ.v rfl rfl (zQ rfl rfl rfl (by decide)) ?_); (refine zZ.v rfl rfl (xL rfl rfl (by rfl) rfl (by decide)) ?_); refine zZ.nil ?_) | (refine zX.isR (id := 3) ?_; refine zX.zV [1, 2, 3] [1, 2, 13] (by repeat' first | exact zY.nil | apply zY.p rfl | apply zY.ptr rfl) (by repeat' first | exact zW.nil | apply zW.boxP rfl rfl | apply zW.skip) ?_; (refine zZ.v rfl rfl (zK rfl rfl rfl (by decide)) ?_); (refine zZ.v rfl rfl (zK rfl rfl rfl (by decide)) ?_); refine zZ.nil ?_) | (refine zX.isR (id := 4) ?_; refine zX.yA [1, 2, 3] [1, 2, 13] (by repeat' first | exact zY.nil | apply zY.p rfl | apply zY.ptr rfl) (by repeat' first | exact zW.nil | apply zW.boxP rfl rfl | apply zW.skip) (zX.draws ?_); all_goals (refine Draws.v rfl rfl (zJ rfl rfl rfl (by decide)) ?_); all_goals (refine Draws.v rfl rfl (zA rfl rfl rfl (by rfl) rfl (by decide)) ?_); all_goals (refine Draws.v rfl rfl (by exact xQ rfl rfl (by exact hw) rfl (by decide)) ?_); all_goals (refine Draws.m rfl rfl (w_buildB rfl (by decide) (by decide) (by decide) (by decide) (by rfl) (by rfl) (by rfl) (by rfl) rfl (by decide)) ?_); all_goals (refine Draws.v rfl rfl (zJ rfl rfl rfl (by decide)) ?_); all_goals (refine Draws.v rfl rfl (zA rfl rfl rfl (by rfl) rfl (by decide)) ?_); all_goals (refine Draws.v rfl rfl (by exact zL (eight_fn _ h0 h1) rfl rfl rfl (by decide)) ?_); all_goals ((refine Draws.done (by kernel_rfl) (by kernel_rfl) (by kernel_rfl) ?_; refine zP.w rfl (by exact w_appB rfl rfl rfl rfl (by (simp only [List.length_append, List.length_cons, List.length_nil, *]; omega)) rfl rfl (by decide)) ?_)); all_goals (refine zP.v rfl rfl (y5 rfl rfl rfl (by decide)) ?_); all_goals (refine zP.nil ?_)) | (refine zX.isR (id := 5) ?_; refine zX.zV [1, 2, 3, 5] [1, 2, 13] (by repeat' first | exact zY.nil | apply zY.p rfl | apply zY.ptr rfl | apply zY.own rfl) (by repeat' first | exact zW.nil | apply zW.boxP rfl rfl | apply zW.yH rfl | apply zW.skip) ?_; (refine zZ.v rfl rfl (zJ rfl rfl rfl (by decide)) ?_); (refine zZ.v rfl rfl (zA rfl rfl rfl (by rfl) rfl (by decide)) ?_); (refine zZ.v rfl rfl (yQ rfl rfl rfl (by rfl) rfl (by decide)) ?_); refine zZ.nil ?_) | (refine zX.isR (id := 6) ?_; refine zX.zV [1, 2, 3, 5] [1, 2, 13] (by repeat' first | exact zY.nil | apply zY.p rfl | apply zY.ptr rfl | apply zY.own rfl) (by repeat' first | exact zW.nil | apply zW.boxP rfl rfl | apply zW.yH rfl | apply zW.skip) ?_; (refine zZ.v rfl rfl (wH rfl rfl rfl (by decide)) ?_); (refine zZ.v rfl rfl (zJ rfl rfl rfl (by decide)) ?_); (refine zZ.v rfl rfl (zA rfl rfl rfl (by rfl) rfl (by decide)) ?_); (refine zZ.v rfl rfl (by exact zL (eight_fn _ h2 h3) rfl rfl rfl (by decide)) ?_); (refine zZ.w rfl (by exact w_appB rfl rfl rfl rfl (by (simp only [List.length_append, List.length_cons, List.length_nil, *]; omega)) rfl rfl (by decide)) ?_); (refine zZ.v rfl rfl (y5 rfl rfl rfl (by decide)) ?_); refine zZ.nil ?_) | (refine zX.isR (id := 7) ?_; refine zX.zV [1, 2, 3, 5] [1, 2, 13] (by repeat' first | exact zY.nil | apply zY.p rfl | apply zY.ptr rfl | apply zY.own rfl) (by repeat' first | exact zW.nil | apply zW.boxP rfl rfl | apply zW.yH rfl | apply zW.skip) ?_; (refine zZ.v rfl rfl (wH rfl rfl rfl (by decide)) ?_); (refine zZ.v rfl rfl (zJ rfl rfl rfl (by decide)) ?_); (refine zZ.v rfl rfl (zA rfl rfl rfl (by rfl) rfl (by decide)) ?_); (refine zZ.v rfl rfl (by exact zL (eight_fn _ h4 h5) rfl rfl rfl (by decide)) ?_); (refine zZ.w rfl (by exact w_appB rfl rfl rfl rfl (by (simp only [List.length_append, List.length_cons, List.length_nil, *]; omega)) rfl rfl (by decide)) ?_); (refine zZ.v rfl rfl (y5 rfl rfl rfl (by decide)) ?_); refine zZ.nil ?_) | (refine zX.isR (id := 8) ?_; refine zX.zV [1, 2, 3, 5] [1, 2, 13] (by repeat' first | exact zY.nil | apply zY.p rfl | apply zY.ptr rfl | apply zY.own rfl) (by repeat' first | exact zW.nil | apply zW.boxP rfl rfl | apply zW.yH rfl | apply zW.skip) ?_; (refine zZ.v rfl rfl (wH rfl rfl rfl (by decide)) ?_); (refine zZ.v rfl rfl (zJ rfl rfl rfl (by decide)) ?_); (refine zZ.v rfl rfl (zA rfl rfl rfl (by rfl) rfl (by decide)) ?_); (refine zZ.v rfl rfl (by exact zL (eight_fn _ h6 h7) rfl rfl rfl (by decide)) ?_); (refine zZ.w rfl (by exact w_appB rfl rfl rfl rfl (by (simp only [List.length_append, List.length_cons, List.length_nil, *]; omega)) rfl rfl (by decide)) ?_); (refine zZ.v rfl rfl (y5 rfl rfl rfl (by decide)) ?_); refine zZ.nil ?_) | (refine zX.isR (id := 9) ?_; refine zX.zV [1, 2, 3, 5] [1, 2, 13] (by repeat' first | exact zY.nil | apply zY.p rfl | apply zY.ptr rfl | apply zY.own rfl) (by repeat' first | exact zW.nil | apply zW.boxP rfl rfl | apply zW.yH rfl | apply zW.skip) ?_; (refine zZ.v rfl rfl (wH rfl rfl rfl (by decide)) ?_); (refine zZ.v rfl rfl (zJ rfl rfl rfl (by decide)) ?_); (refine zZ.v rfl rfl (zA rfl rfl rfl (by rfl) rfl (by decide)) ?_); (refine zZ.v rfl rfl (by exact zL (eight_fn _ h8 h9) rfl rfl rfl (by decide)) ?_); (refine zZ.w rfl (by exact w_appB rfl rfl rfl rfl (by (simp only [List.length_append, List.length_cons, List.length_nil, *]; omega)) rfl rfl (by decide)) ?_); (refine zZ.v rfl rfl (y5 rfl rfl rfl (by decide)) ?_); refine zZ.nil ?_) | (refine zX.isR (id := 10) ?_; refine zX.zV [2, 3, 5] [1, 2, 13] (by repeat' first | exact zY.nil | apply zY.p rfl | apply zY.own rfl) (by repeat' first | exact zW.nil | apply zW.boxP rfl rfl | apply zW.yH rfl | apply zW.skip) ?_; (refine zZ.v rfl rfl (wH rfl rfl rfl (by decide)) ?_); (refine zZ.v rfl rfl (y5 rfl rfl rfl (by decide)) ?_); (refine zZ.v rfl rfl (zK rfl rfl rfl (by decide)) ?_); refine zZ.nil ?_) | refine zX.cond rfl (fun h => ?_) (fun h => ?_) | refine zX.skip ?_ | refine zX.ret ?_) | refine yJ.r ?_)
  · have hm : mayB k s y u v x = false := by simpa using h
    rw [if_neg (by simp [hm])]
    exact ⟨.inl rfl, _, sub_nil (d := 2) rfl, .tup (rs := [.tmp 2, .tmp 3]) rfl (by decide) (.cons (.tmp rfl) (.cons (.tmp rfl) .nil))⟩
  · have hm : mayB k s y u v x = true := by rename_i h'; simpa using h'
    have hk : k = 1 := by simpa using h
    have e : encL k s y u v x = [IntKind.u8.wrap k] ++ bytesOf 8 s ++ bytesOf 8 y ++ bytesOf 8 u ++ bytesOf 8 v ++ bytesOf 8 x := by rw [hw]; simp [encL, hk]
    rw [if_pos hm, e]
    exact ⟨.inl rfl, _, sub_freezeB (d := 2) (id := 13) rfl rfl, .tup (rs := [.tmp 2, .tmp 3]) rfl (by decide) (.cons (.tmp rfl) (.cons (.tmp rfl) .nil))⟩
  · have hm : mayB k s y u v x = true := by rename_i h'; simpa using h'
    have hk : ¬ k = 1 := by simpa using h
    have e : encL k s y u v x = [IntKind.u8.wrap k] ++ bytesOf 8 s := by simp [encL, hk, hw]
    rw [if_pos hm, e]
    exact ⟨.inl rfl, _, sub_freezeB (d := 2) (id := 13) rfl rfl, .tup (rs := [.tmp 2, .tmp 3]) rfl (by decide) (.cons (.tmp rfl) (.cons (.tmp rfl) .nil))⟩
end Go.Proofs.YtlfkofkdigmnpaaGreatDoor
/- Contracts of slices.Insert at the two places where it is used, and of fields. -/
namespace Go.Proofs.YtlfkofkdigmnpaaGreatDoor
set_option maxRecDepth 100000
set_option maxHeartbeats 16000000
open Go.RowKit
theorem Tryz.infoPtr : (Tryz.prog.info? 152).map (fun i => (i.zero, i.size, i.bytes)) = some (some (.pointer none), 1, 8) := by kernel_rfl
theorem Tryz.sizePtr : (Tryz.prog.info? 152).map (·.size) = some 1 := by kernel_rfl
/-- A row that is known whole is owned. -/
theorem ownsRow_of_heap {w : World} {base g n cap : Nat} {e : TypeId} {cur : List Value} {xs : List Value} (hg : w.heap[g]? = some (.cells cur.toArray e (0, 0))) (hb : base ≤ g)
    (hc : cur.length = cap) (hn : n ≤ cap) (hm : cap ≤ maxLen) (ht : cur.take n = xs) (hx : xs.length = n) : w.ownsRow base e 1 (.slice (some ⟨g, 0, none⟩) n cap) n xs :=
  ⟨by simpa using hx, .inr ⟨g, cap, cur.toArray, rfl, hb, hg, hn, hm, by simpa using hc, by simpa using ht⟩⟩
theorem cells_four {w : World} {b : Nat} {q0 q1 q2 q3 : Value} (h0 : w.cell? ⟨b, 0, none⟩ = some q0) (h1 : w.cell? ⟨b, 1, none⟩ = some q1) (h2 : w.cell? ⟨b, 2, none⟩ = some q2) (h3 : w.cell? ⟨b, 3, none⟩ = some q3) :
    ∀ (j : Nat) v, [q0, q1, q2, q3][j]? = some v → w.cell? ((⟨b, 0, none⟩ : Addr).add j) = some v := by
  intro j v hv
  match j, hv with
  | 0, hv => simp at hv; subst hv; exact h0
  | 1, hv => simp at hv; subst hv; exact h1
  | 2, hv => simp at hv; subst hv; exact h2
  | 3, hv => simp at hv; subst hv; exact h3
  | j + 4, hv => simp at hv
theorem insert_nil (g : Nat) (p : Value) (w : World) (hp : w.cell? ⟨g, 0, none⟩ = some p) (h1 : p.oneCell' = true) :
    Calls Tryz.prog 102 #[.slice none 0 0, .int .i64 0, .slice (some ⟨g, 0, none⟩) 1 1] w fun e w' =>
      ∃ v, e = .returned v ∧ w'.ownsRow w.heap.size 152 1 v 1 [p] ∧ Below w.heap.size w w' := by
  obtain ⟨i0, hi, hz0, hz1, hz2⟩ := info_parts Tryz.infoPtr
  go_enter Tryz.func102, Tryz.ntmps102
  go_wp2_with (at_builtin; refine wpList_append_own _ rfl _ _ 149 rfl w.heap.size 152 i0 (.pointer none) 1 8 Tryz.underlying149 hi hz0 hz1 hz2 rfl (by decide) _ _ _ rfl (World.ownsRow_nil _ _ _ _) ⟨g, 0, none⟩ 1 1 [p] rfl rfl ?c1 ?c2 ?c3 ?c4 ?c5 ?_)
  case c1 => exact cells_one hp
  case c2 => simpa using h1
  case c3 => simp [maxLen]
  case c4 => decide
  case c5 => exact Nat.le_refl _
  intro v' w1 hown' hgrow _
  go_wp2
  go_ret
  exact ⟨_, rfl, hown', (Below.refl _ _).grown hgrow (Nat.le_refl _) (by simp [Value.ownBlock])⟩
theorem insert_four (b g : Nat) (p q0 q1 q2 q3 : Value) (w : World) (hp : w.cell? ⟨g, 0, none⟩ = some p) (h1 : p.oneCell' = true)
   (hq0 : w.cell? ⟨b, 0, none⟩ = some q0) (hq1 : w.cell? ⟨b, 1, none⟩ = some q1) (hq2 : w.cell? ⟨b, 2, none⟩ = some q2) (hq3 : w.cell? ⟨b, 3, none⟩ = some q3)
   (hq : ∀ v ∈ [q0, q1, q2, q3], v.oneCell' = true) (hbw : b < w.heap.size) (hgw : g < w.heap.size) :
    Calls Tryz.prog 102 #[.slice (some ⟨b, 0, none⟩) 4 4, .int .i64 0, .slice (some ⟨g, 0, none⟩) 1 1] w fun e w' =>
      ∃ v, e = .returned v ∧ w'.ownsRow w.heap.size 152 1 v 5 [p, q0, q1, q2, q3] ∧ Below w.heap.size w w' := by
  obtain ⟨i0, hi, hz0, hz1, hz2⟩ := info_parts Tryz.infoPtr
  go_enter Tryz.func102, Tryz.ntmps102
  go_wp2_with (at_builtin; refine wpList_append_zeros rfl (.tmp 34) (.tmp 39) 149 3 rfl 152 i0 (.pointer none) (.pointer none) Tryz.underlying149 Tryz.underlying3 hi hz0 rfl hz1 ⟨b, 0, none⟩ 4 5 rfl rfl (by decide) (by simp [maxLen]) (by rw [hz2]; decide) (by rw [hz2]; decide) ?_)
  intro cap Z w1 HZ H1 hb1 hc1 hc2
  have hp1 : w1.cell? ⟨g, 0, none⟩ = some p := (hb1.cell (p := ⟨g, 0, none⟩) hgw).trans hp
  have hc1' : ¬ cap = 1 := by omega
  have hc1'' : ¬ cap = 0 := by omega
  have hl : Hid (Z.length = cap) := by show Z.length = cap; rw [HZ.out]; simp
  have D1 : 0 < [p].length → some (⟨w.heap.size, 0, none⟩ : Addr) = some ⟨w.heap.size, 0, none⟩ ∧ ∃ ad, some (⟨g, 0, none⟩ : Addr) = some ad ∧ ∀ (j : Nat) v, [p][j]? = some v → w1.cell? (ad.add j) = some v :=
    fun _ => ⟨rfl, _, rfl, cells_one hp1⟩
  have D2 : 0 + [p].length ≤ Z.length := by rw [hl.out]; simp; omega
  have D3 : ∀ v ∈ [p], v.oneCell' = true := by simpa using h1
  have H1' := Lib.hid D1
  have H2' := Lib.hid D2
  have H3' := Lib.hid D3
  clear D1 D2 D3
  go_wp2_with (with_reducible refine wpList_copy_splice rfl (.tmp 43) (.tmp 44) 149 149 rfl 152 Tryz.underlying149 Tryz.sizePtr (some ⟨w.heap.size, 0, none⟩) (some ⟨g, 0, none⟩) 5 cap 1 1 rfl rfl w.heap.size 0 Z 152 H1.out [p] rfl H1'.out H2'.out H3'.out w.heap.size w hb1 (Nat.le_refl _) ?_)
  intro w2 H2 hb2
  have hr0 : w2.cell? ⟨b, 0, none⟩ = some q0 := (hb2.cell (p := ⟨b, 0, none⟩) hbw).trans hq0
  have hr1 : w2.cell? ⟨b, 1, none⟩ = some q1 := (hb2.cell (p := ⟨b, 1, none⟩) hbw).trans hq1
  have hr2 : w2.cell? ⟨b, 2, none⟩ = some q2 := (hb2.cell (p := ⟨b, 2, none⟩) hbw).trans hq2
  have hr3 : w2.cell? ⟨b, 3, none⟩ = some q3 := (hb2.cell (p := ⟨b, 3, none⟩) hbw).trans hq3
  have hw1 : IntKind.i64.wrap 1 = 1 := by decide
  go_wp2
  go_still_tail 8, (by kernel_rfl)
  change wpList _ _ _ _ _ w2.drew
  refine wpList_copy_splice rfl (.tmp 50) (.tmp 53) 149 149 rfl 152 Tryz.underlying149 Tryz.sizePtr (some ⟨w.heap.size, 1, none⟩) (some ⟨b, 0, none⟩) 4 (cap - 1) 4 4 rfl rfl w.heap.size 1 (Go.splice Z 0 [p]) 152 H2.out [q0, q1, q2, q3] rfl ?e1 ?e2 hq w.heap.size w hb2.drew (Nat.le_refl _) ?_
  case e1 => exact fun _ => ⟨rfl, _, rfl, cells_four hr0 hr1 hr2 hr3⟩
  case e2 => have := hl.out; simp [Go.splice]; omega
  intro w3 H3 hb3
  go_wp2
  go_ret
  refine ⟨_, rfl, ownsRow_of_heap H3.out (Nat.le_refl _) ?_ hc1 hc2 ?_ rfl, hb3⟩
  · have := hl.out; simp [Go.splice]; omega
  · simp [Go.splice]
/-- What fields hands back, of an entry of kind k in block b. -/
def fieldsOf (b : Nat) (k : Int) : List Value :=
  if k = 1 then [.pointer (some ⟨b, 1, none⟩), .pointer (some ⟨b, 2, none⟩), .pointer (some ⟨b, 3, none⟩), .pointer (some ⟨b, 4, none⟩), .pointer (some ⟨b, 5, none⟩)]
  else if k = 2 ∨ k = 3 then [.pointer (some ⟨b, 1, none⟩)] else []
theorem fields_any (b : Nat) (k : Int) (w : World) (hp : w.cell? ⟨b, 0, none⟩ = some (.int .i64 k)) :
    Calls Tryz.prog 93 #[.pointer (some ⟨b, 0, none⟩)] w fun e w' =>
      ∃ v, e = .returned v ∧ w'.ownsRow w.heap.size 152 1 v (fieldsOf b k).length (fieldsOf b k) ∧ Below w.heap.size w w' := by
  by_cases h1 : k = 1
  · subst h1
    go_enter Tryz.func93, Tryz.ntmps93
    go_wp2_with fail
    go_still_tail 12, (by kernel_rfl)
    change wpList _ _ _ _ _ w.drew
    go_wp2_with fail
    refine (insert_four w.heap.size (w.heap.size + 1) (.pointer (some ⟨b, 1, none⟩)) (.pointer (some ⟨b, 2, none⟩)) (.pointer (some ⟨b, 3, none⟩)) (.pointer (some ⟨b, 4, none⟩)) (.pointer (some ⟨b, 5, none⟩)) _ (by go_simp) rfl (by go_simp) (by go_simp) (by go_simp) (by go_simp) (by simp [Value.oneCell']) (by simp <;> omega) (by simp <;> omega)).mono ?_
    rintro e w' ⟨v, rfl, hown, hb⟩
    go_wp2
    go_ret
    exact ⟨_, rfl, ownsRow_base hown (by simp <;> omega), ((((Below.refl _ _).alloc (Nat.le_refl _) _).alloc (by simp) _).drew).trans (hb.mono (by simp <;> omega))⟩
  by_cases h2 : k = 2
  · subst h2
    go_enter Tryz.func93, Tryz.ntmps93
    go_wp2_with fail
    refine (insert_nil w.heap.size (.pointer (some ⟨b, 1, none⟩)) _ (by simp) rfl).mono ?_
    rintro e w' ⟨v, rfl, hown, hb⟩
    go_wp2
    go_ret
    exact ⟨_, rfl, ownsRow_base hown (by simp <;> omega), ((Below.refl _ _).alloc (Nat.le_refl _) _).trans (hb.mono (by simp <;> omega))⟩
  by_cases h3 : k = 3
  · subst h3
    go_enter Tryz.func93, Tryz.ntmps93
    go_wp2_with fail
    refine (insert_nil w.heap.size (.pointer (some ⟨b, 1, none⟩)) _ (by simp) rfl).mono ?_
    rintro e w' ⟨v, rfl, hown, hb⟩
    go_wp2
    go_ret
    exact ⟨_, rfl, ownsRow_base hown (by simp <;> omega), ((Below.refl _ _).alloc (Nat.le_refl _) _).trans (hb.mono (by simp <;> omega))⟩
  have e2 : (k == 1) = false := by simpa using h1
  have e3 : (k == 2) = false := by simpa using h2
  have e4 : (k == 3) = false := by simpa using h3
  have hf : Hid (fieldsOf b k = []) := by show fieldsOf b k = []; simp [fieldsOf, h1, h2, h3]
  go_enter Tryz.func93, Tryz.ntmps93
  go_wp2_with fail
  go_ret
  exact ⟨_, rfl, by rw [hf.out]; exact World.ownsRow_nil _ _ _ _, Below.refl _ _⟩
end Go.Proofs.YtlfkofkdigmnpaaGreatDoor
/- A call of fields, whose argument is a pointer to an own variable. -/
namespace Go.Proofs.YtlfkofkdigmnpaaGreatDoor
set_option maxRecDepth 100000
set_option maxHeartbeats 16000000
open Go Go.RowKit
/-- what fields hands back: pointers into the variable -/
def yB (id : Nat) (k : Int) : List AV :=
  if k = 1 then [.ptr id 1, .ptr id 2, .ptr id 3, .ptr id 4, .ptr id 5] else if k = 2 ∨ k = 3 then [.ptr id 1] else []
theorem fieldsA_cells {M : Nat → Nat → Prop} {ρ : Nat → Value} {w : World} {id g : Nat} (k : Int) (hg : yK (ρ id) = some g) : yM M ρ w (yB id k) (fieldsOf g k) := by
  have one : ∀ j, yN M ρ w (.ptr id j) (.pointer (some ⟨g, j, none⟩)) := fun j => .ptr id j g hg
  unfold yB fieldsOf
  by_cases h1 : k = 1
  · rw [if_pos h1, if_pos h1]
    refine ⟨rfl, fun i c v hc hv => ?_, fun v hv => ?_⟩
    · match i with
      | 0 | 1 | 2 | 3 | 4 => simp at hc hv; subst hc; subst hv; exact one _
      | i + 5 => simp at hc
    · simp at hv
      rcases hv with rfl | rfl | rfl | rfl | rfl <;> rfl
  · rw [if_neg h1, if_neg h1]
    by_cases h2 : k = 2 ∨ k = 3
    · rw [if_pos h2, if_pos h2]
      refine ⟨rfl, fun i c v hc hv => ?_, fun v hv => ?_⟩
      · match i with
        | 0 => simp at hc hv; subst hc; subst hv; exact one _
        | i + 1 => simp at hc
      · simp at hv
        subst hv
        rfl
    · rw [if_neg h2, if_neg h2]
      exact ⟨rfl, fun i c v hc => by simp at hc, fun v hv => by simp at hv⟩
theorem fieldsA_len (id g : Nat) (k : Int) : (yB id k).length = (fieldsOf g k).length := by
  unfold yB fieldsOf
  split
  · rfl
  · split <;> rfl
theorem w_fields {n : Nat} {o : Oper} {S : AS} {d id ty : Nat} {x : Operand} {k : Int} {cs : List AV} {ts : Array TypeId} (ho : o.op = .call { callee := .value (.func 93), args := #[x], argTypes := ts }) (hx : S.get x = .ptr id 0)
    (hb : S.blk id = some (.box ty cs)) (hk : cs[0]? = some (.p (.val (.int .i64 k)))) (hd : o.dst = some d) (hn : d < n) :
    zG Tryz.prog n o S [id] (.own d) (some (.row 152 1 (yB id k).length (yB id k))) := by
  intro S2 hg hbl M w0 ρ a w K Q hs hK
  have hx2 : S2.get x = .ptr id 0 := (hg x (by rw [ho]; simp [Op.operands, Call.operands])).trans hx
  have hb2 : S2.blk id = some (.box ty cs) := (hbl id (by simp)).trans hb
  have h1 := hs.rep x
  rw [hx2] at h1
  obtain ⟨g, hgv, hv⟩ := vO h1
  obtain ⟨ys, hcs, hcell⟩ := (hs.blks id _ hb2).cells hgv
  have h0 : 0 < cs.length := (List.getElem?_eq_some_iff.1 hk).1
  have hy : ys[0]? = some (ys[0]'(by rw [hcs.len]; exact h0)) := List.getElem?_eq_getElem _
  have hkv := rep_val (rep_p (hcs.each 0 _ _ hk hy))
  have hc0 := (hcell 0 _ hy).1
  rw [hkv] at hc0
  have he : (execOp a.eval o).run Tryz.prog w = .ok (.enter 93 (#[x].map a.eval)) w := by
    unfold execOp
    rw [ho]
    simp [resolve, Deferred.ofValue, Act.eval, invoke, HasFn.h]
  unfold Oper.wp
  rw [he, Oper.upon_enter]
  have e : #[x].map a.eval = #[.pointer (some ⟨g, 0, none⟩)] := by simp [hv]
  rw [e]
  refine (fields_any g k w hc0).mono ?_
  rintro en w' ⟨v, rfl, hown, hbw⟩
  show K (a.put o.dst v) w'
  rw [hd] at hK ⊢
  have hbk : ∀ k', yK v = some k' → w.heap.size ≤ k' := fun k' hk' => (hown.lt k' (by rw [← own_slice hown]; exact hk')).1
  have h2 := hs.change d (.row 152 1 (yB id k).length (yB id k)) v none (hs.free d hn) ⟨hbw.os, hbw.tape, hbw.output, hbw.size, fun k' hk' _ => hbw.block k' hk'⟩ (fun k' h => by cases h) (fun k' hk' => .inl (hbk k' hk'))
    ⟨fieldsOf g k, by rw [fieldsA_len id g k]; exact ownsRow_base hown (Nat.zero_le _), fieldsA_cells k hgv⟩
  refine hK (upd ρ d v) _ w' (h2.put hn ?_)
  have := yN.own (M := Mut M (S2.create d (.row 152 1 (yB id k).length (yB id k))) (upd ρ d v)) (ρ := upd ρ d v) (w := w') d
  simpa [upd] using this
end Go.Proofs.YtlfkofkdigmnpaaGreatDoor
/- Encode, the program's, as a contract. -/
namespace Go.Proofs.YtlfkofkdigmnpaaGreatDoor
set_option maxRecDepth 100000
set_option maxHeartbeats 16000000
open Go Go.RowKit
set_option linter.unusedSimpArgs false
attribute [local irreducible] zZ zX Step zG Sub zP Fn
/-- the values that fields tells, of an entry of kind k -/
def xC (k s y u v x : Int) : List Int := if k = 1 then [s, y, u, v, x] else [s]
/-- the bytes so far: the kind's, and the first i values' -/
def encUp (k : Int) (vals : List Int) (i : Nat) : List Int := IntKind.u8.wrap k :: (vals.take i).flatMap (bytesOf 8)
def cellsOf (k s y u v x : Int) : List PV := [.val (.int .i64 k), .val (.int .u64 s), .val (.int .u64 y), .val (.int .u64 u), .val (.int .u64 v), .val (.int .u64 x)]
theorem encUp_succ (k : Int) (vals : List Int) (i : Nat) (h : i < vals.length) : encUp k vals (i + 1) = encUp k vals i ++ bytesOf 8 (vals.getD i 0) := by
  have e : vals.take (i + 1) = vals.take i ++ [vals.getD i 0] := by
    rw [List.take_add_one, List.getElem?_eq_getElem h]
    simp [List.getD, h]
  unfold encUp
  rw [e, List.flatMap_append, List.cons_append]
  simp
def encO (k s y u v x : Int) (i : Nat) : AS :=
  ⟨[(2, .p (.val (.slice none 0 0))), (3, .p (.val (.int .i64 0))), (4, .own 14), (15, .own 15), (16, .p (.val (.int .i64 (yB 1 k).length))), (17, .p (.val (.int .i64 i)))],
   [(1, .box 66 ((cellsOf k s y u v x).map AV.p)), (14, yH 5 (encUp k (xC k s y u v x) i)), (15, .row 152 1 (yB 1 k).length (yB 1 k))], .any⟩
def encI (k s y u v x : Int) (i j : Nat) : AS :=
  ⟨[(2, .p (.val (.slice none 0 0))), (3, .p (.val (.int .i64 0))), (4, .own 14), (6, .ptr 1 (i + 1)), (15, .own 15), (16, .p (.val (.int .i64 (yB 1 k).length))), (17, .p (.val (.int .i64 i))), (21, .p (.val (.int .i64 j)))],
   [(1, .box 66 ((cellsOf k s y u v x).map AV.p)), (14, yH 5 (encUp k (xC k s y u v x) i ++ bytesOf j ((xC k s y u v x).getD i 0))), (15, .row 152 1 (yB 1 k).length (yB 1 k))], .any⟩
theorem fieldsA_kill (k : Int) (id : Nat) (h : id ≠ 1) : (yB 1 k).map (AV.kill id) = yB 1 k := by
  have e : ∀ j, AV.kill id (.ptr 1 j) = .ptr 1 j := fun j => by
    show (if 1 = id then AV.any else AV.ptr 1 j) = _
    rw [if_neg (fun h' => h h'.symm)]
  unfold yB
  split
  · simp only [List.map_cons, List.map_nil, e]
  · split
    · simp only [List.map_cons, List.map_nil, e]
    · rfl
/-- the row of the fields, whatever is made anew -/
theorem rowF_kill (k : Int) (id : Nat) (h : id ≠ 1) : (some (Blk.row 152 1 (yB 1 k).length ((yB 1 k).map (AV.kill id))) : Option Blk) = some (.row 152 1 (yB 1 k).length (yB 1 k)) := by
  rw [fieldsA_kill k id h]
theorem rowF_kill2 (k : Int) (id id2 : Nat) (h : id ≠ 1) (h2 : id2 ≠ 1) : (some (Blk.row 152 1 (yB 1 k).length (((yB 1 k).map (AV.kill id)).map (AV.kill id2))) : Option Blk) = some (.row 152 1 (yB 1 k).length (yB 1 k)) := by
  rw [fieldsA_kill k id h, fieldsA_kill k id2 h2]
theorem fieldsA_get (k : Int) (i : Nat) (hi : i < (yB 1 k).length) : (yB 1 k)[((i : Int)).toNat * 1]? = some (.ptr 1 (i + 1)) := by
  rw [Nat.mul_one, Int.toNat_natCast]
  unfold yB at hi ⊢
  by_cases h1 : k = 1
  · rw [if_pos h1] at hi ⊢
    match i with
    | 0 | 1 | 2 | 3 | 4 => rfl
    | i + 5 => exact absurd hi (by simp)
  · rw [if_neg h1] at hi ⊢
    by_cases h2 : k = 2 ∨ k = 3
    · rw [if_pos h2] at hi ⊢
      match i with
      | 0 => rfl
      | i + 1 => simp at hi
    · rw [if_neg h2] at hi; simp at hi
theorem fields_len (k s y u v x : Int) (i : Nat) (hi : i < (yB 1 k).length) : i < (xC k s y u v x).length := by
  unfold yB at hi
  unfold xC
  by_cases h1 : k = 1
  · rw [if_pos h1] at hi ⊢; exact hi
  · rw [if_neg h1] at hi ⊢
    by_cases h2 : k = 2 ∨ k = 3
    · rw [if_pos h2] at hi; exact hi
    · rw [if_neg h2] at hi; simp at hi
theorem cells_get (k s y u v x : Int) (i : Nat) (hi : i < (yB 1 k).length) : ((cellsOf k s y u v x).map AV.p)[i + 1]? = some (.p (.val (.int .u64 ((xC k s y u v x).getD i 0)))) := by
  unfold yB at hi
  unfold xC
  by_cases h1 : k = 1
  · rw [if_pos h1] at hi ⊢
    match i with
    | 0 | 1 | 2 | 3 | 4 => rfl
    | i + 5 => exact absurd hi (by simp)
  · rw [if_neg h1] at hi ⊢
    by_cases h2 : k = 2 ∨ k = 3
    · rw [if_pos h2] at hi
      match i with
      | 0 => rfl
      | i + 1 => simp at hi
    · rw [if_neg h2] at hi; simp at hi
theorem valsOf_range (k s y u v x : Int) (h0 : 0 ≤ s) (h1 : s < 18446744073709551616) (h2 : 0 ≤ y) (h3 : y < 18446744073709551616) (h4 : 0 ≤ u) (h5 : u < 18446744073709551616) (h6 : 0 ≤ v) (h7 : v < 18446744073709551616) (h8 : 0 ≤ x) (h9 : x < 18446744073709551616) (i : Nat) :
    0 ≤ (xC k s y u v x).getD i 0 ∧ (xC k s y u v x).getD i 0 < 18446744073709551616 := by
  unfold xC
  by_cases hk : k = 1
  · rw [if_pos hk]
    match i with
    | 0 => exact ⟨h0, h1⟩
    | 1 => exact ⟨h2, h3⟩
    | 2 => exact ⟨h4, h5⟩
    | 3 => exact ⟨h6, h7⟩
    | 4 => exact ⟨h8, h9⟩
    | i + 5 => exact ⟨Int.le_refl 0, (by decide : (0 : Int) < 18446744073709551616)⟩
  · rw [if_neg hk]
    match i with
    | 0 => exact ⟨h0, h1⟩
    | i + 1 => exact ⟨Int.le_refl 0, (by decide : (0 : Int) < 18446744073709551616)⟩
theorem encUp_len (k : Int) (vals : List Int) (i : Nat) : (encUp k vals i).length = 1 + 8 * min i vals.length := by
  unfold encUp
  rw [List.length_cons]
  have : ∀ l : List Int, (l.flatMap (bytesOf 8)).length = 8 * l.length := by
    intro l
    induction l with
    | nil => rfl
    | cons a r ih => simp only [List.flatMap_cons, List.length_append, List.length_cons, bytesOf_length, ih]; omega
  rw [this, List.length_take]
  omega
theorem fieldsA_le (k : Int) : (yB 1 k).length ≤ 5 := by
  unfold yB
  split
  · decide
  · split <;> decide
theorem pow8 (j : Nat) : (2 : Int) ^ (8 * (j : Int)).toNat = 256 ^ j := by
  have : (8 * (j : Int)).toNat = 8 * j := by omega
  rw [this, Int.pow_mul]
  rfl
theorem encUp_all (k s y u v x : Int) (hm : mayB k s y u v x = true) : encUp k (xC k s y u v x) (yB 1 k).length = encL k s y u v x := by
  have hw : IntKind.u8.wrap k = k % 256 := by simp [IntKind.wrap, IntKind.signed, IntKind.bits]
  have hk : k = 1 ∨ k = 2 ∨ k = 3 := by
    unfold mayB at hm
    by_cases h1 : k = 1
    · exact .inl h1
    · by_cases h2 : k = 2
      · exact .inr (.inl h2)
      · by_cases h3 : k = 3
        · exact .inr (.inr h3)
        · simp [h1, h2, h3] at hm
  unfold encUp encL xC yB
  rw [hw]
  rcases hk with rfl | rfl | rfl <;> simp
theorem enc_fn (k s y u v x : Int) (h0 : 0 ≤ s) (h1 : s < 18446744073709551616) (h2 : 0 ≤ y) (h3 : y < 18446744073709551616) (h4 : 0 ≤ u) (h5 : u < 18446744073709551616) (h6 : 0 ≤ v) (h7 : v < 18446744073709551616) (h8 : 0 ≤ x) (h9 : x < 18446744073709551616) :
    Fn Tryz.prog 78 [entV k s y u v x] (.tup (if mayB k s y u v x then [.sl (byts (encL k s y u v x)), .val (.int .i64 0)] else [.sl [], .val (.int .i64 1)])) := by
  refine yI Tryz.func78 rfl Tryz.ntmps78 (Nat.le_of_ble_eq_true rfl) ?_
  repeat' (first | (refine zX.is ?_; first | refine zX.seq ?_ | (refine zX.isR (id := 0) ?_; refine zX.zV [0] [1, 2, 9, 14, 15, 16, 32, 33] (by repeat' first | exact zY.nil | apply zY.p rfl) (by repeat' first | exact zW.nil | apply zW.skip) ?_; (refine zZ.m rfl rfl (z8 rfl rfl rfl (by decide)) ?_); (refine zZ.v rfl rfl (zK rfl rfl rfl (by decide)) ?_); (refine zZ.v rfl rfl (zK rfl rfl rfl (by decide)) ?_); refine zZ.nil ?_) | (refine zX.isR (id := 1) ?_; refine zX.zV [1, 2, 3] [1, 2, 9, 14, 15, 16, 32, 33] (by repeat' first | exact zY.nil | apply zY.p rfl | apply zY.ptr rfl) (by repeat' first | exact zW.nil | apply zW.boxP rfl rfl | apply zW.skip) ?_; (refine zZ.v rfl rfl (zI rfl rfl rfl (by rfl) (by rfl) rfl (by decide)) ?_); (refine zZ.v rfl rfl (by exact zL (may_fn _ _ _ _ _ _ h2 h3) rfl rfl rfl (by decide)) ?_); (refine zZ.v rfl rfl (xL rfl rfl (by rfl) rfl (by decide)) ?_); refine zZ.nil ?_) | (refine zX.isR (id := 2) ?_; refine zX.zV [1, 2, 3] [1, 2, 9, 14, 15, 16, 32, 33] (by repeat' first | exact zY.nil | apply zY.p rfl | apply zY.ptr rfl) (by repeat' first | exact zW.nil | apply zW.boxP rfl rfl | apply zW.skip) ?_; (refine zZ.v rfl rfl (zK rfl rfl rfl (by decide)) ?_); (refine zZ.v rfl rfl (zK rfl rfl rfl (by decide)) ?_); refine zZ.nil ?_) | (refine zX.isR (id := 3) ?_; refine zX.zV [1, 2, 3] [1, 2, 9, 14, 15, 16, 32, 33] (by repeat' first | exact zY.nil | apply zY.p rfl | apply zY.ptr rfl) (by repeat' first | exact zW.nil | apply zW.boxP rfl rfl | apply zW.skip) ?_; (refine zZ.v rfl rfl (zJ rfl rfl rfl (by decide)) ?_); (refine zZ.v rfl rfl (zA rfl rfl rfl rfl rfl (by decide)) ?_); (refine zZ.v rfl rfl (xQ rfl rfl (by rfl) rfl (by decide)) ?_); (refine zZ.m rfl rfl (w_buildB rfl (by decide) (by decide) (by decide) (by decide) (by rfl) (by rfl) (by rfl) (by rfl) rfl (by decide)) ?_); (refine zZ.v rfl rfl (y5 rfl rfl rfl (by decide)) ?_); refine zZ.nil ?_) | (refine zX.isR (id := 4) ?_; refine zX.zV [1, 2, 3, 4] [1, 2, 9, 14, 15, 16, 32, 33] (by repeat' first | exact zY.nil | apply zY.p rfl | apply zY.ptr rfl | apply zY.own rfl) (by repeat' first | exact zW.nil | apply zW.boxP rfl rfl | apply zW.yH rfl | apply zW.skip) ?_; (refine zZ.m rfl rfl (w_fields rfl rfl rfl rfl rfl (by decide)) ?_); (refine zZ.v rfl rfl (w_lenO rfl rfl rfl rfl (by decide)) ?_); (refine zZ.v rfl rfl (zQ rfl rfl rfl (by decide)) ?_); refine zZ.nil ?_) | refine zX.cond rfl (fun h => ?_) (fun h => ?_) | refine zX.skip ?_ | refine zX.block ?_ | refine zX.ret ?_) | refine yJ.r ?_)
  · have hm : mayB k s y u v x = false := by simpa using h
    rw [if_neg (by simp [hm])]
    exact ⟨.inl rfl, _, sub_nil (d := 2) rfl, .tup (rs := [.tmp 2, .tmp 3]) rfl (by decide) (.cons (.tmp rfl) (.cons (.tmp rfl) .nil))⟩
  · have hm : mayB k s y u v x = true := by simpa using h
    have h5l := fieldsA_le k
    refine zX.loop (encO k s y u v x) (fun i => i ≤ (yB 1 k).length) (fun i => (yB 1 k).length - i) 0 ?h0 (Nat.zero_le _) ?rd
    case h0 =>
      refine yY (is := [2, 3, 4, 15, 16, 17]) (js := [1, 14, 15]) ?_ (.boxP rfl rfl (.yH rfl (.some (rowF_kill k 15 (by decide)) .nil)))
      repeat' first | exact zY.nil | apply zY.p rfl | apply zY.ptr rfl | apply zY.own rfl | apply zY.clo rfl | apply zY.pt rfl | apply zY.tup rfl | apply zY.skip
    case rd =>
      intro i hi
      have hV := valsOf_range k s y u v x h0 h1 h2 h3 h4 h5 h6 h7 h8 h9 i
      by_cases hc : i < (yB 1 k).length
      · have hb : decide ((i : Int) < ((yB 1 k).length : Int)) = true := by simpa using hc
        have f1 := fieldsA_get k i hc
        have f2 := cells_get k s y u v x i hc
        have f3 : (0 : Int) ≤ (i : Int) ∧ ((i : Int)).toNat < (yB 1 k).length := by omega
        repeat' ((refine zX.is ?_; first | refine zX.seq ?_ | (refine zX.isR (id := 5) ?_; refine zX.zV [2, 3, 4, 6, 7, 15, 16, 17, 18, 21, 22] [1, 2, 9, 14, 15, 16, 32, 33] (by repeat' first | exact zY.nil | apply zY.p rfl | apply zY.own rfl | apply zY.skip) (by repeat' first | exact zW.nil | apply zW.boxP rfl rfl | apply zW.yH rfl | apply zW.some rfl | apply zW.skip) ?_; (refine zZ.v rfl rfl (yL rfl rfl rfl (by rfl) rfl (by decide)) ?_); refine zZ.nil ?_) | (refine zX.isR (id := 6) ?_; refine zX.zV [2, 3, 4, 6, 7, 15, 16, 17, 18, 21, 22] [1, 2, 9, 14, 15, 16, 32, 33] (by repeat' first | exact zY.nil | apply zY.p rfl | apply zY.own rfl | apply zY.skip) (by repeat' first | exact zW.nil | apply zW.boxP rfl rfl | apply zW.yH rfl | apply zW.some rfl | apply zW.skip) ?_; (refine zZ.v rfl rfl (by exact w_indexO rfl rfl rfl rfl (by omega) rfl (by decide)) ?_); (refine zZ.v rfl rfl (by exact w_loadP rfl rfl rfl (by exact f1) rfl (by decide)) ?_); (refine zZ.v rfl rfl (a_assignR rfl rfl rfl (by decide)) ?_); refine zZ.nil ?_) | (refine zX.isR (id := 7) ?_; refine zX.zV [2, 3, 4, 6, 7, 15, 16, 17, 18, 21, 22] [1, 2, 9, 14, 15, 16, 32, 33] (by repeat' first | exact zY.nil | apply zY.p rfl | apply zY.ptr rfl | apply zY.own rfl | apply zY.skip) (by repeat' first | exact zW.nil | apply zW.boxP rfl rfl | apply zW.yH rfl | apply zW.some rfl | apply zW.skip) ?_; (refine zZ.v rfl rfl (zQ rfl rfl rfl (by decide)) ?_); refine zZ.nil ?_) | refine zX.yE rfl (by assumption) ?_ | refine zX.skip ?_ | refine zX.block ?_))
        refine zX.loop (encI k s y u v x i) (fun j => j ≤ 8) (fun j => 8 - j) 0 ?h0 (Nat.zero_le _) ?rd
        case h0 =>
          have e : encUp k (xC k s y u v x) i = encUp k (xC k s y u v x) i ++ bytesOf 0 ((xC k s y u v x).getD i 0) := by simp [bytesOf]
          unfold encI
          rw [← e]
          refine yY (is := [2, 3, 4, 6, 15, 16, 17, 21]) (js := [1, 14, 15]) ?_ ?_
          repeat' first | exact zY.nil | apply zY.p rfl | apply zY.ptr rfl | apply zY.own rfl | apply zY.clo rfl | apply zY.pt rfl | apply zY.tup rfl | apply zY.skip
          repeat' first | exact zW.nil | apply zW.boxP rfl rfl | apply zW.yH rfl | apply zW.some rfl | apply zW.skip
        case rd =>
          intro j hj
          by_cases hj8 : j < 8
          · have hb8 : decide ((j : Int) < 8) = true := by simp; omega
            have hj8' : (j : Int) < 8 := by omega
            have g1 : (xC k s y u v x).getD i 0 / 2 ^ (8 * (j : Int)).toNat = (xC k s y u v x).getD i 0 / 256 ^ j := by rw [pow8]
            have g2 : IntKind.u8.wrap ((xC k s y u v x).getD i 0 / 256 ^ j) = (xC k s y u v x).getD i 0 / 256 ^ j % 256 := by simp [IntKind.wrap, IntKind.signed, IntKind.bits]
            have g3 : (encUp k (xC k s y u v x) i ++ bytesOf j ((xC k s y u v x).getD i 0)).length + [(xC k s y u v x).getD i 0 / 256 ^ j % 256].length ≤ 140737488355328 := by
              rw [List.length_append, encUp_len, bytesOf_length, List.length_singleton]
              have : min i (xC k s y u v x).length ≤ i := Nat.min_le_left _ _
              omega
            repeat' (first | (refine zX.is ?_; first | refine zX.seq ?_ | (refine zX.isR (id := 8) ?_; refine zX.zV [2, 3, 4, 6, 7, 15, 16, 17, 18, 21, 22] [1, 2, 9, 14, 15, 16, 32, 33] (by repeat' first | exact zY.nil | apply zY.p rfl | apply zY.ptr rfl | apply zY.own rfl | apply zY.skip) (by repeat' first | exact zW.nil | apply zW.boxP rfl rfl | apply zW.yH rfl | apply zW.some rfl | apply zW.skip) ?_; (refine zZ.v rfl rfl (yL rfl rfl rfl (by rfl) rfl (by decide)) ?_); refine zZ.nil ?_) | (refine zX.isR (id := 9) ?_; refine zX.zV [2, 3, 4, 6, 7, 15, 16, 17, 18, 21, 22] [1, 2, 9, 14, 15, 16, 32, 33] (by repeat' first | exact zY.nil | apply zY.p rfl | apply zY.ptr rfl | apply zY.own rfl | apply zY.skip) (by repeat' first | exact zW.nil | apply zW.boxP rfl rfl | apply zW.yH rfl | apply zW.some rfl | apply zW.skip) ?_; (refine zZ.v rfl rfl (zQ rfl rfl rfl (by decide)) ?_); (refine zZ.v rfl rfl (zK rfl rfl rfl (by decide)) ?_); refine zZ.nil ?_) | (refine zX.isR (id := 10) ?_; refine zX.zV [2, 3, 4, 6, 7, 15, 16, 17, 18, 21, 22] [1, 2, 9, 14, 15, 16, 32, 33] (by repeat' first | exact zY.nil | apply zY.p rfl | apply zY.ptr rfl | apply zY.own rfl | apply zY.skip) (by repeat' first | exact zW.nil | apply zW.boxP rfl rfl | apply zW.yH rfl | apply zW.some rfl | apply zW.skip) ?_; (refine zZ.v rfl rfl (wH rfl rfl rfl (by decide)) ?_); (refine zZ.v rfl rfl (yZ rfl rfl rfl (by decide)) ?_); (refine zZ.v rfl rfl (wY rfl rfl rfl (by decide)) ?_); (refine zZ.v rfl rfl (by exact zA rfl rfl rfl (by exact f2) rfl (by decide)) ?_); (refine zZ.v rfl rfl (zQ rfl rfl rfl (by decide)) ?_); (refine zZ.v rfl rfl (by exact a_mul rfl rfl rfl (by exact wrap_i64 _ (by omega)) rfl (by decide)) ?_); (refine zZ.v rfl rfl (by exact a_shr rfl rfl rfl (by omega) (by (simp only [IntKind.bits]; omega)) (by exact g1) rfl (by decide)) ?_); (refine zZ.v rfl rfl (by exact xQ rfl rfl (by exact g2) rfl (by decide)) ?_); (refine zZ.m rfl rfl (w_buildB rfl (by decide) (by decide) (by decide) (by decide) (by rfl) (by rfl) (by rfl) (by rfl) rfl (by decide)) ?_); (refine zZ.w rfl (by exact w_appOB rfl rfl rfl rfl rfl (by exact g3) rfl rfl (by decide)) ?_); (refine zZ.v rfl rfl (y5 rfl rfl rfl (by decide)) ?_); refine zZ.nil ?_) | (refine zX.isR (id := 11) ?_; refine zX.zV [2, 3, 4, 6, 7, 15, 16, 17, 18, 21, 22] [1, 2, 9, 14, 15, 16, 32, 33] (by repeat' first | exact zY.nil | apply zY.p rfl | apply zY.ptr rfl | apply zY.own rfl | apply zY.skip) (by repeat' first | exact zW.nil | apply zW.boxP rfl rfl | apply zW.yH rfl | apply zW.some rfl | apply zW.skip) ?_; (refine zZ.v rfl rfl (by exact y7 rfl rfl rfl (by exact wrap_i64 _ (by omega)) rfl (by decide)) ?_); (refine zZ.v rfl rfl (zQ rfl rfl rfl (by decide)) ?_); refine zZ.nil ?_) | refine zX.yE rfl (by assumption) ?_ | refine zX.skip ?_ | refine zX.block ?_) | refine yJ.n ?_)
            refine ⟨j + 1, ?_, by omega, by omega⟩
            have e : encUp k (xC k s y u v x) i ++ bytesOf (j + 1) ((xC k s y u v x).getD i 0) = encUp k (xC k s y u v x) i ++ bytesOf j ((xC k s y u v x).getD i 0) ++ [(xC k s y u v x).getD i 0 / 256 ^ j % 256] := by rw [bytesOf_snoc, List.append_assoc]
            unfold encI
            rw [e]
            refine yY (is := [2, 3, 4, 6, 15, 16, 17, 21]) (js := [1, 14, 15]) ?_ (.boxP rfl rfl (.yH rfl (.some (rowF_kill2 k 32 14 (by decide) (by decide)) .nil)))
            repeat' first | exact zY.nil | apply zY.p rfl | apply zY.ptr rfl | apply zY.own rfl | apply zY.clo rfl | apply zY.pt rfl | apply zY.tup rfl | apply zY.skip
          · have hb8 : decide ((j : Int) < 8) = false := by simp; omega
            obtain rfl : j = 8 := by omega
            repeat' (first | (refine zX.is ?_; first | refine zX.seq ?_ | (refine zX.isR (id := 8) ?_; refine zX.zV [2, 3, 4, 6, 7, 15, 16, 17, 18, 21, 22] [1, 2, 9, 14, 15, 16, 32, 33] (by repeat' first | exact zY.nil | apply zY.p rfl | apply zY.ptr rfl | apply zY.own rfl | apply zY.skip) (by repeat' first | exact zW.nil | apply zW.boxP rfl rfl | apply zW.yH rfl | apply zW.some rfl | apply zW.skip) ?_; (refine zZ.v rfl rfl (by exact yL rfl rfl rfl (by exact bF (by decide)) rfl (by decide)) ?_); refine zZ.nil ?_) | (refine zX.isR (id := 12) ?_; refine zX.zV [2, 3, 4, 6, 7, 15, 16, 17, 18, 21, 22] [1, 2, 9, 14, 15, 16, 32, 33] (by repeat' first | exact zY.nil | apply zY.p rfl | apply zY.ptr rfl | apply zY.own rfl | apply zY.skip) (by repeat' first | exact zW.nil | apply zW.boxP rfl rfl | apply zW.yH rfl | apply zW.some rfl | apply zW.skip) ?_; (refine zZ.v rfl rfl (by exact y7 rfl rfl rfl (by exact wrap_i64 _ (by omega)) rfl (by decide)) ?_); (refine zZ.v rfl rfl (zQ rfl rfl rfl (by decide)) ?_); refine zZ.nil ?_) | refine zX.yG rfl (by assumption) ?_ | refine zX.exit ?_) | refine yJ.n ?_)
            refine ⟨i + 1, ?_, by omega, by omega⟩
            unfold encO
            rw [encUp_succ k _ i (fields_len k s y u v x i hc)]
            refine yY (is := [2, 3, 4, 15, 16, 17]) (js := [1, 14, 15]) ?_ ?_
            repeat' first | exact zY.nil | apply zY.p rfl | apply zY.ptr rfl | apply zY.own rfl | apply zY.clo rfl | apply zY.pt rfl | apply zY.tup rfl | apply zY.skip
            repeat' first | exact zW.nil | apply zW.boxP rfl rfl | apply zW.yH rfl | apply zW.some rfl | apply zW.skip
      · have hb : decide ((i : Int) < ((yB 1 k).length : Int)) = false := by simpa using hc
        obtain rfl : i = (yB 1 k).length := by omega
        repeat' ((refine zX.is ?_; first | refine zX.seq ?_ | (refine zX.isR (id := 5) ?_; refine zX.zV [2, 3, 4, 6, 7, 15, 16, 17, 18, 21, 22] [1, 2, 9, 14, 15, 16, 32, 33] (by repeat' first | exact zY.nil | apply zY.p rfl | apply zY.own rfl | apply zY.skip) (by repeat' first | exact zW.nil | apply zW.boxP rfl rfl | apply zW.yH rfl | apply zW.some rfl | apply zW.skip) ?_; (refine zZ.v rfl rfl (yL rfl rfl rfl (by rfl) rfl (by decide)) ?_); refine zZ.nil ?_) | (refine zX.isR (id := 13) ?_; refine zX.zV [2, 3, 4] [1, 2, 9, 14, 15, 16, 32, 33] (by repeat' first | exact zY.nil | apply zY.p rfl | apply zY.own rfl) (by repeat' first | exact zW.nil | apply zW.boxP rfl rfl | apply zW.yH rfl | apply zW.some rfl | apply zW.skip) ?_; (refine zZ.v rfl rfl (wH rfl rfl rfl (by decide)) ?_); (refine zZ.v rfl rfl (y5 rfl rfl rfl (by decide)) ?_); (refine zZ.v rfl rfl (zK rfl rfl rfl (by decide)) ?_); refine zZ.nil ?_) | refine zX.yG rfl (by assumption) ?_ | refine zX.exit ?_ | refine zX.ret ?_))
        rw [if_pos hm, ← encUp_all k s y u v x hm]
        exact ⟨.inl rfl, _, sub_freezeB (d := 2) (id := 14) rfl rfl, .tup (rs := [.tmp 2, .tmp 3]) rfl (by decide) (.cons (.tmp rfl) (.cons (.tmp rfl) .nil))⟩
end Go.Proofs.YtlfkofkdigmnpaaGreatDoor
/- Frames of bytes, the program's and the document's: contracts of Put. -/
namespace Go.Proofs.YtlfkofkdigmnpaaGreatDoor
set_option maxRecDepth 100000
set_option maxHeartbeats 16000000
open Go Go.RowKit
set_option linter.unusedSimpArgs false
attribute [local irreducible] zZ zX Step zG Sub zP Fn
theorem byts_vals (bs : List Int) : ∀ c ∈ byts bs, ∃ v, c = .val v := fun c hc => by
  simp only [byts, List.mem_map] at hc
  obtain ⟨b, _, rfl⟩ := hc
  exact ⟨_, rfl⟩
def laidS (cs : List Int) (n : Int) (many i : Nat) : AS :=
  { t := [(0, .own 1000), (1, .p (.val (.int .u64 n))), (6, .p (.val (.slice none 0 0))), (8, .p (.val (.int .i64 many))), (9, .p (.val (.int .i64 i)))], s := [(1000, yH 5 (cs ++ bytesOf i n))] }
theorem laid_fn (cs : List Int) (n : Int) (many : Nat) (hm : many ≤ 8) (hc : cs.length ≤ 1000000) :
    FnR Tryz.prog 94 [.val (.int .u64 n), .val (.int .i64 many)] (yH 5 cs) (yH 5 (cs ++ bytesOf many n)) := by
  refine fn_ofR (t := 6) Tryz.func94 rfl Tryz.ntmps94 (Nat.le_of_ble_eq_true rfl) rfl ?_
  repeat' ((refine zX.is ?_; first | refine zX.seq ?_ | (refine zX.isR (id := 0) ?_; refine zX.zV [0, 1, 2] [6, 18, 1000] (by repeat' first | exact zY.nil | apply zY.p rfl | apply zY.own rfl) (by repeat' first | exact zW.nil | apply zW.yH rfl | apply zW.skip) ?_; (refine zZ.v rfl rfl (zK rfl rfl rfl (by decide)) ?_); refine zZ.nil ?_) | (refine zX.isR (id := 1) ?_; refine zX.zV [0, 1, 2, 6] [6, 18, 1000] (by repeat' first | exact zY.nil | apply zY.p rfl | apply zY.own rfl) (by repeat' first | exact zW.nil | apply zW.yH rfl | apply zW.skip) ?_; (refine zZ.v rfl rfl (zQ rfl rfl rfl (by decide)) ?_); (refine zZ.v rfl rfl (zQ rfl rfl rfl (by decide)) ?_); refine zZ.nil ?_) | refine zX.block ?_))
  refine zX.loop (laidS cs n many) (fun i => i ≤ many) (fun i => many - i) 0 ?h0 (Nat.zero_le _) ?rd
  case h0 =>
    have e : cs = cs ++ bytesOf 0 n := by simp [bytesOf]
    unfold laidS
    rw [← e]
    refine yY (is := [0, 1, 6, 8, 9]) (js := [1000]) ?_ ?_
    repeat' first | exact zY.nil | apply zY.p rfl | apply zY.ptr rfl | apply zY.own rfl | apply zY.clo rfl | apply zY.pt rfl | apply zY.tup rfl | apply zY.skip
    repeat' first | exact zW.nil | apply zW.boxP rfl rfl | apply zW.yH rfl | apply zW.some rfl | apply zW.skip
  case rd =>
    intro i hi
    by_cases hlt : i < many
    · have hd : decide ((i : Int) < (many : Int)) = true := by simp; omega
      have g1 : n / 2 ^ (8 * (i : Int)).toNat = n / 256 ^ i := by rw [pow8]
      have g2 : IntKind.u8.wrap (n / 256 ^ i) = n / 256 ^ i % 256 := by simp [IntKind.wrap, IntKind.signed, IntKind.bits]
      have g3 : (cs ++ bytesOf i n).length + [n / 256 ^ i % 256].length ≤ 140737488355328 := by
        rw [List.length_append, bytesOf_length, List.length_singleton]
        omega
      repeat' (first | (refine zX.is ?_; first | refine zX.seq ?_ | (refine zX.isR (id := 2) ?_; refine zX.zV [0, 1, 6, 7, 8, 9, 10] [6, 18, 1000] (by repeat' first | exact zY.nil | apply zY.p rfl | apply zY.own rfl | apply zY.skip) (by repeat' first | exact zW.nil | apply zW.yH rfl | apply zW.skip) ?_; (refine zZ.v rfl rfl (yL rfl rfl rfl (by rfl) rfl (by decide)) ?_); refine zZ.nil ?_) | (refine zX.isR (id := 3) ?_; refine zX.zV [0, 1, 6, 7, 8, 9, 10] [6, 18, 1000] (by repeat' first | exact zY.nil | apply zY.p rfl | apply zY.own rfl | apply zY.skip) (by repeat' first | exact zW.nil | apply zW.yH rfl | apply zW.skip) ?_; (refine zZ.v rfl rfl (zQ rfl rfl rfl (by decide)) ?_); (refine zZ.v rfl rfl (zK rfl rfl rfl (by decide)) ?_); refine zZ.nil ?_) | (refine zX.isR (id := 4) ?_; refine zX.zV [0, 1, 6, 7, 8, 9, 10] [6, 18, 1000] (by repeat' first | exact zY.nil | apply zY.p rfl | apply zY.own rfl) (by repeat' first | exact zW.nil | apply zW.yH rfl | apply zW.skip) ?_; (refine zZ.v rfl rfl (wH rfl rfl rfl (by decide)) ?_); (refine zZ.v rfl rfl (zQ rfl rfl rfl (by decide)) ?_); (refine zZ.v rfl rfl (zQ rfl rfl rfl (by decide)) ?_); (refine zZ.v rfl rfl (by exact a_mul rfl rfl rfl (by exact wrap_i64 _ (by omega)) rfl (by decide)) ?_); (refine zZ.v rfl rfl (by exact a_shr rfl rfl rfl (by omega) (by (simp only [IntKind.bits]; omega)) (by exact g1) rfl (by decide)) ?_); (refine zZ.v rfl rfl (by exact xQ rfl rfl (by exact g2) rfl (by decide)) ?_); (refine zZ.m rfl rfl (w_buildB rfl (by decide) (by decide) (by decide) (by decide) (by rfl) (by rfl) (by rfl) (by rfl) rfl (by decide)) ?_); (refine zZ.w rfl (by exact w_appOB rfl rfl rfl rfl rfl (by exact g3) rfl rfl (by decide)) ?_); (refine zZ.v rfl rfl (y5 rfl rfl rfl (by decide)) ?_); refine zZ.nil ?_) | (refine zX.isR (id := 5) ?_; refine zX.zV [0, 1, 6, 7, 8, 9, 10] [6, 18, 1000] (by repeat' first | exact zY.nil | apply zY.p rfl | apply zY.own rfl) (by repeat' first | exact zW.nil | apply zW.yH rfl | apply zW.skip) ?_; (refine zZ.v rfl rfl (by exact y7 rfl rfl rfl (by exact wrap_i64 _ (by omega)) rfl (by decide)) ?_); (refine zZ.v rfl rfl (zQ rfl rfl rfl (by decide)) ?_); refine zZ.nil ?_) | refine zX.yE rfl (by assumption) ?_ | refine zX.skip ?_ | refine zX.block ?_) | refine yJ.n ?_)
      refine ⟨i + 1, ?_, by omega, by omega⟩
      have e : cs ++ bytesOf (i + 1) n = cs ++ bytesOf i n ++ [n / 256 ^ i % 256] := by rw [bytesOf_snoc, List.append_assoc]
      unfold laidS
      rw [e]
      refine yY (is := [0, 1, 6, 8, 9]) (js := [1000]) ?_ ?_
      repeat' first | exact zY.nil | apply zY.p rfl | apply zY.ptr rfl | apply zY.own rfl | apply zY.clo rfl | apply zY.pt rfl | apply zY.tup rfl | apply zY.skip
      repeat' first | exact zW.nil | apply zW.boxP rfl rfl | apply zW.yH rfl | apply zW.some rfl | apply zW.skip
    · have hd : decide ((i : Int) < (many : Int)) = false := by simp; omega
      obtain rfl : i = many := by omega
      repeat' ((refine zX.is ?_; first | refine zX.seq ?_ | (refine zX.isR (id := 2) ?_; refine zX.zV [0, 1, 6, 7, 8, 9, 10] [6, 18, 1000] (by repeat' first | exact zY.nil | apply zY.p rfl | apply zY.own rfl | apply zY.skip) (by repeat' first | exact zW.nil | apply zW.yH rfl | apply zW.skip) ?_; (refine zZ.v rfl rfl (yL rfl rfl rfl (by rfl) rfl (by decide)) ?_); refine zZ.nil ?_) | (refine zX.isR (id := 6) ?_; refine zX.zV [0, 6] [6, 18, 1000] (by repeat' first | exact zY.nil | apply zY.p rfl | apply zY.own rfl) (by repeat' first | exact zW.nil | apply zW.yH rfl | apply zW.skip) ?_; (refine zZ.v rfl rfl (wH rfl rfl rfl (by decide)) ?_); (refine zZ.v rfl rfl (y5 rfl rfl rfl (by decide)) ?_); refine zZ.nil ?_) | refine zX.yG rfl (by assumption) ?_ | refine zX.exit ?_ | refine zX.ret ?_))
      exact ⟨.inl rfl, _, Sub.refl _, rfl, rfl⟩
/-- a frame's bytes -/
def wQ (b : List Int) : List Int := bytesOf 2 b.length ++ bytesOf 4 (vC 0 b : Nat) ++ b
def putOk (b : List Int) : Prop := 1 ≤ b.length ∧ b.length ≤ 65535
theorem moreF_lt (sum : Nat) (b : List Int) : vC sum b < 4294967296 := by unfold vC; omega
theorem put_fn (b : List Int) (hb : ∀ x ∈ b, 0 ≤ x ∧ x < 256) (hl : putOk b) : Fn Tryz.prog 79 [.sl (byts b)] (.tup [.sl (byts (wQ b)), .val (.int .i64 0)]) := by
  obtain ⟨hl0, hl1⟩ := hl
  have hm := moreF_lt 0 b
  have c1 := sum_fn b (by omega) hb
  have c2 := laid_fn [] (b.length : Int) 2 (by decide) (by decide)
  have c3 := laid_fn ([] ++ bytesOf 2 (b.length : Int)) ((vC 0 b : Nat) : Int) 4 (by decide) (by rw [List.nil_append, bytesOf_length]; decide)
  have g1 : decide ((b.length : Int) < 1) = false := decide_eq_false (by omega)
  have g2 : decide ((65535 : Int) < (b.length : Int)) = false := decide_eq_false (by omega)
  have g3 : IntKind.u64.wrap (b.length : Int) = (b.length : Int) := wrap_u64 _ (by omega)
  have g4 : IntKind.u64.wrap ((vC 0 b : Nat) : Int) = ((vC 0 b : Nat) : Int) := wrap_u64 _ (by omega)
  have g5 : ([] ++ bytesOf 2 (b.length : Int) ++ bytesOf 4 ((vC 0 b : Nat) : Int)).length + b.length ≤ 140737488355328 := by
    rw [List.nil_append, List.length_append, bytesOf_length, bytesOf_length]
    omega
  refine yI Tryz.func79 rfl Tryz.ntmps79 (Nat.le_of_ble_eq_true rfl) ?_
  repeat' ((refine zX.is ?_; first | refine zX.seq ?_ | (refine zX.isR (id := 0) ?_; refine zX.zV [0] [2, 6, 10, 14, 16, 19, 21, 24] (by repeat' first | exact zY.nil | apply zY.p rfl) (by repeat' first | exact zW.nil | apply zW.skip) ?_; (refine zZ.v rfl rfl (zK rfl rfl rfl (by decide)) ?_); (refine zZ.v rfl rfl (zK rfl rfl rfl (by decide)) ?_); refine zZ.nil ?_) | (refine zX.isR (id := 1) ?_; refine zX.zV [0, 2, 3] [2, 6, 10, 14, 16, 19, 21, 24] (by repeat' first | exact zY.nil | apply zY.p rfl) (by repeat' first | exact zW.nil | apply zW.skip) ?_; all_goals (refine zZ.v rfl rfl (zQ rfl rfl rfl (by decide)) ?_); all_goals (refine zZ.v rfl rfl (vV rfl rfl rfl (by decide)) ?_); all_goals (refine zZ.v rfl rfl (by exact yL rfl rfl rfl (by exact g1) rfl (by decide)) ?_); all_goals (refine zZ.v rfl rfl (zQ rfl rfl rfl (by decide)) ?_); all_goals (refine zZ.gY rfl rfl (by decide) rfl (by with_reducible rfl) rfl (by decide) (zQ rfl rfl rfl (by decide)) ?_); all_goals (refine zZ.gY rfl rfl (by decide) rfl (by with_reducible rfl) rfl (by decide) (vV rfl rfl rfl (by decide)) ?_); all_goals (refine zZ.gY rfl rfl (by decide) rfl (by with_reducible rfl) rfl (by decide) (by exact r_gtr rfl rfl rfl (by exact g2) rfl (by decide)) ?_); all_goals (refine zZ.v rfl rfl (by exact zR rfl rfl (by with_reducible rfl) rfl rfl (by decide)) ?_); all_goals (refine zZ.nil ?_)) | (refine zX.isR (id := 3) ?_; refine zX.zV [0, 2, 3] [2, 6, 10, 14, 16, 19, 21, 24] (by repeat' first | exact zY.nil | apply zY.p rfl) (by repeat' first | exact zW.nil | apply zW.skip) ?_; (refine zZ.v rfl rfl (zQ rfl rfl rfl (by decide)) ?_); (refine zZ.v rfl rfl (vV rfl rfl rfl (by decide)) ?_); (refine zZ.v rfl rfl (by exact xQ rfl rfl (by exact g3) rfl (by decide)) ?_); (refine zZ.w rfl (by exact s_callRnil (c2) (byts_vals _) rfl ⟨_, rfl, rfl⟩ rfl rfl (by decide)) ?_); (refine zZ.v rfl rfl (y5 rfl rfl rfl (by decide)) ?_); refine zZ.nil ?_) | (refine zX.isR (id := 4) ?_; refine zX.zV [0, 2, 3, 4] [2, 6, 10, 14, 16, 19, 21, 24] (by repeat' first | exact zY.nil | apply zY.p rfl | apply zY.own rfl) (by repeat' first | exact zW.nil | apply zW.yH rfl | apply zW.skip) ?_; (refine zZ.v rfl rfl (wH rfl rfl rfl (by decide)) ?_); (refine zZ.v rfl rfl (zQ rfl rfl rfl (by decide)) ?_); (refine zZ.v rfl rfl (by exact zL (c1) rfl rfl rfl (by decide)) ?_); (refine zZ.v rfl rfl (by exact xQ rfl rfl (by exact g4) rfl (by decide)) ?_); (refine zZ.w rfl (by exact s_callR (c3) (byts_vals _) rfl ⟨_, rfl, rfl⟩ rfl rfl rfl (by decide)) ?_); (refine zZ.v rfl rfl (y5 rfl rfl rfl (by decide)) ?_); refine zZ.nil ?_) | (refine zX.isR (id := 5) ?_; refine zX.zV [0, 2, 3, 4] [2, 6, 10, 14, 16, 19, 21, 24] (by repeat' first | exact zY.nil | apply zY.p rfl | apply zY.own rfl) (by repeat' first | exact zW.nil | apply zW.yH rfl | apply zW.skip) ?_; (refine zZ.v rfl rfl (wH rfl rfl rfl (by decide)) ?_); (refine zZ.v rfl rfl (zQ rfl rfl rfl (by decide)) ?_); (refine zZ.w rfl (by exact w_appB rfl rfl rfl rfl (by exact g5) rfl rfl (by decide)) ?_); (refine zZ.v rfl rfl (y5 rfl rfl rfl (by decide)) ?_); (refine zZ.v rfl rfl (zK rfl rfl rfl (by decide)) ?_); refine zZ.nil ?_) | refine zX.yG rfl (by first | assumption | with_reducible rfl) ?_ | refine zX.skip ?_ | refine zX.ret ?_))
  all_goals exact ⟨.inl rfl, _, sub_freezeB (d := 2) (id := 16) rfl rfl, .tup (rs := [.tmp 2, .tmp 3]) rfl (by decide) (.cons (.tmp rfl) (.cons (.tmp rfl) .nil))⟩
theorem put_nil : Fn Tryz.prog 79 [.sl (byts [])] (.tup [.sl (byts []), .val (.int .i64 1)]) := by
  refine yI Tryz.func79 rfl Tryz.ntmps79 (Nat.le_of_ble_eq_true rfl) ?_
  repeat' (first | (refine zX.is ?_; first | refine zX.seq ?_ | (refine zX.isR (id := 0) ?_; refine zX.zV [0] [2, 6, 10, 14, 16, 19, 21, 24] (by repeat' first | exact zY.nil | apply zY.p rfl) (by repeat' first | exact zW.nil | apply zW.skip) ?_; (refine zZ.v rfl rfl (zK rfl rfl rfl (by decide)) ?_); (refine zZ.v rfl rfl (zK rfl rfl rfl (by decide)) ?_); refine zZ.nil ?_) | (refine zX.isR (id := 1) ?_; refine zX.zV [0, 2, 3] [2, 6, 10, 14, 16, 19, 21, 24] (by repeat' first | exact zY.nil | apply zY.p rfl) (by repeat' first | exact zW.nil | apply zW.skip) ?_; all_goals (refine zZ.v rfl rfl (zQ rfl rfl rfl (by decide)) ?_); all_goals (refine zZ.v rfl rfl (vV rfl rfl rfl (by decide)) ?_); all_goals (refine zZ.v rfl rfl (by exact yL rfl rfl rfl (by exact bT (by decide)) rfl (by decide)) ?_); all_goals (refine zZ.v rfl rfl (zQ rfl rfl rfl (by decide)) ?_); all_goals (refine zZ.gnF rfl rfl (by decide) rfl (by with_reducible rfl) rfl (by decide) ?_); all_goals (refine zZ.gnF rfl rfl (by decide) rfl (by with_reducible rfl) rfl (by decide) ?_); all_goals (refine zZ.gnF rfl rfl (by decide) rfl (by with_reducible rfl) rfl (by decide) ?_); all_goals (refine zZ.v rfl rfl (by exact zT rfl rfl (by with_reducible rfl) rfl rfl (by decide)) ?_); all_goals (refine zZ.nil ?_)) | (refine zX.isR (id := 2) ?_; refine zX.zV [0, 2, 3] [2, 6, 10, 14, 16, 19, 21, 24] (by repeat' first | exact zY.nil | apply zY.p rfl) (by repeat' first | exact zW.nil | apply zW.skip) ?_; (refine zZ.v rfl rfl (zK rfl rfl rfl (by decide)) ?_); (refine zZ.v rfl rfl (zK rfl rfl rfl (by decide)) ?_); refine zZ.nil ?_) | refine zX.yE rfl (by with_reducible rfl) ?_ | refine zX.ret ?_) | refine yJ.r ?_)
  all_goals exact ⟨.inl rfl, _, sub_nil (d := 2) rfl, .tup (rs := [.tmp 2, .tmp 3]) rfl (by decide) (.cons (.tmp rfl) (.cons (.tmp rfl) .nil))⟩
theorem putF_ref (b : List Int) (hl : putOk b) : wQ b = [((b.length : Int) % 256), ((b.length : Int) / 256), ((vC 0 b : Nat) : Int) % 256, ((vC 0 b : Nat) : Int) / 256 % 256, ((vC 0 b : Nat) : Int) / 65536 % 256, ((vC 0 b : Nat) : Int) / 16777216] ++ b := by
  obtain ⟨hl0, hl1⟩ := hl
  have hm := moreF_lt 0 b
  unfold wQ
  generalize vC 0 b = m at *
  simp only [bytesOf, List.cons_append, List.nil_append, List.cons.injEq, true_and, and_true]
  refine ⟨by omega, by omega, by omega⟩
theorem putRef_fn (b : List Int) (hb : ∀ x ∈ b, 0 ≤ x ∧ x < 256) (hl : putOk b) : Fn Tryz.prog 30 [.sl (byts b)] (.tup [.sl (byts (wQ b)), .val (.int .i64 0)]) := by
  rw [putF_ref b hl]
  obtain ⟨hl0, hl1⟩ := hl
  have hm := moreF_lt 0 b
  have c1 := sumRef_fn b (by omega) hb
  generalize vC 0 b = m at *
  have td : ∀ (x : Int) (k : Int), 0 ≤ x → x.tdiv k = x / k := fun x k h => Int.tdiv_eq_ediv_of_nonneg h
  have tm : ∀ (x : Int) (k : Int), 0 ≤ x → x.tmod k = x % k := fun x k h => Int.tmod_eq_emod_of_nonneg h
  have wb : ∀ x : Int, 0 ≤ x → x < 256 → IntKind.u8.wrap x = x := fun x h h' => wrap_u8 _ (by omega)
  have g1 : decide ((b.length : Int) < 1) = false := decide_eq_false (by omega)
  have g2 : decide ((65535 : Int) < (b.length : Int)) = false := decide_eq_false (by omega)
  have n1 : (b.length : Int).tmod 256 = (b.length : Int) % 256 := tm _ _ (by omega)
  have n2 : IntKind.u8.wrap ((b.length : Int) % 256) = (b.length : Int) % 256 := wb _ (by omega) (by omega)
  have n3 : IntKind.i64.wrap ((b.length : Int).tdiv 256) = (b.length : Int) / 256 := by rw [td _ _ (by omega)]; exact wrap_i64 _ (by omega)
  have n4 : IntKind.u8.wrap ((b.length : Int) / 256) = (b.length : Int) / 256 := wb _ (by omega) (by omega)
  have m1 : ((m : Nat) : Int).tmod 256 = (m : Int) % 256 := tm _ _ (by omega)
  have m2 : IntKind.u8.wrap ((m : Int) % 256) = (m : Int) % 256 := wb _ (by omega) (by omega)
  have m3 : IntKind.u32.wrap (((m : Nat) : Int).tdiv 256) = (m : Int) / 256 := by rw [td _ _ (by omega)]; exact wrapU32 _ (by omega) (by omega)
  have m4 : ((m : Int) / 256).tmod 256 = (m : Int) / 256 % 256 := tm _ _ (by omega)
  have m5 : IntKind.u8.wrap ((m : Int) / 256 % 256) = (m : Int) / 256 % 256 := wb _ (by omega) (by omega)
  have m6 : IntKind.u32.wrap (((m : Nat) : Int).tdiv 65536) = (m : Int) / 65536 := by rw [td _ _ (by omega)]; exact wrapU32 _ (by omega) (by omega)
  have m7 : ((m : Int) / 65536).tmod 256 = (m : Int) / 65536 % 256 := tm _ _ (by omega)
  have m8 : IntKind.u8.wrap ((m : Int) / 65536 % 256) = (m : Int) / 65536 % 256 := wb _ (by omega) (by omega)
  have m9 : IntKind.u32.wrap (((m : Nat) : Int).tdiv 16777216) = (m : Int) / 16777216 := by rw [td _ _ (by omega)]; exact wrapU32 _ (by omega) (by omega)
  have m10 : IntKind.u8.wrap ((m : Int) / 16777216) = (m : Int) / 16777216 := wb _ (by omega) (by omega)
  have g5 : [((b.length : Int) % 256), ((b.length : Int) / 256), (m : Int) % 256, (m : Int) / 256 % 256, (m : Int) / 65536 % 256, (m : Int) / 16777216].length + b.length ≤ 140737488355328 := by
    simp only [List.length_cons, List.length_nil]
    omega
  clear td tm wb
  refine yI Tryz.func30 rfl Tryz.ntmps30 (Nat.le_of_ble_eq_true rfl) ?_
  repeat' ((refine zX.is ?_; first | refine zX.seq ?_ | (refine zX.isR (id := 0) ?_; refine zX.zV [0] [2, 37] (by repeat' first | exact zY.nil | apply zY.p rfl) (by repeat' first | exact zW.nil | apply zW.skip) ?_; (refine zZ.v rfl rfl (zK rfl rfl rfl (by decide)) ?_); (refine zZ.v rfl rfl (zK rfl rfl rfl (by decide)) ?_); refine zZ.nil ?_) | (refine zX.isR (id := 1) ?_; refine zX.zV [0, 2, 3] [2, 37] (by repeat' first | exact zY.nil | apply zY.p rfl) (by repeat' first | exact zW.nil | apply zW.skip) ?_; (refine zZ.v rfl rfl (zQ rfl rfl rfl (by decide)) ?_); (refine zZ.v rfl rfl (vV rfl rfl rfl (by decide)) ?_); (refine zZ.v rfl rfl (zK rfl rfl rfl (by decide)) ?_); refine zZ.nil ?_) | (refine zX.isR (id := 2) ?_; refine zX.zV [0, 2, 3, 4] [2, 37] (by repeat' first | exact zY.nil | apply zY.p rfl) (by repeat' first | exact zW.nil | apply zW.skip) ?_; all_goals (refine zZ.v rfl rfl (zQ rfl rfl rfl (by decide)) ?_); all_goals (refine zZ.v rfl rfl (by exact yL rfl rfl rfl (by exact g1) rfl (by decide)) ?_); all_goals (refine zZ.v rfl rfl (zQ rfl rfl rfl (by decide)) ?_); all_goals (refine zZ.gY rfl rfl (by decide) rfl (by with_reducible rfl) rfl (by decide) (zQ rfl rfl rfl (by decide)) ?_); all_goals (refine zZ.gY rfl rfl (by decide) rfl (by with_reducible rfl) rfl (by decide) (by exact r_gtr rfl rfl rfl (by exact g2) rfl (by decide)) ?_); all_goals (refine zZ.v rfl rfl (by exact zR rfl rfl (by with_reducible rfl) rfl rfl (by decide)) ?_); all_goals (refine zZ.nil ?_)) | (refine zX.isR (id := 4) ?_; refine zX.zV [0, 2, 3, 4] [2, 37] (by repeat' first | exact zY.nil | apply zY.p rfl) (by repeat' first | exact zW.nil | apply zW.skip) ?_; (refine zZ.v rfl rfl (zQ rfl rfl rfl (by decide)) ?_); (refine zZ.v rfl rfl (by exact zL (c1) rfl rfl rfl (by decide)) ?_); (refine zZ.v rfl rfl (zK rfl rfl rfl (by decide)) ?_); refine zZ.nil ?_) | (refine zX.isR (id := 5) ?_; refine zX.zV [0, 2, 3, 4, 5] [2, 37] (by repeat' first | exact zY.nil | apply zY.p rfl) (by repeat' first | exact zW.nil | apply zW.skip) ?_; (refine zZ.v rfl rfl (zQ rfl rfl rfl (by decide)) ?_); (refine zZ.v rfl rfl (by exact a_rem rfl rfl rfl (by decide) (by exact n1) rfl (by decide)) ?_); (refine zZ.v rfl rfl (by exact xQ rfl rfl (by exact n2) rfl (by decide)) ?_); (refine zZ.v rfl rfl (zQ rfl rfl rfl (by decide)) ?_); (refine zZ.v rfl rfl (by exact a_quo rfl rfl rfl (by decide) (by exact n3) rfl (by decide)) ?_); (refine zZ.v rfl rfl (by exact xQ rfl rfl (by exact n4) rfl (by decide)) ?_); (refine zZ.v rfl rfl (zQ rfl rfl rfl (by decide)) ?_); (refine zZ.v rfl rfl (by exact a_rem rfl rfl rfl (by decide) (by exact m1) rfl (by decide)) ?_); (refine zZ.v rfl rfl (by exact xQ rfl rfl (by exact m2) rfl (by decide)) ?_); (refine zZ.v rfl rfl (zQ rfl rfl rfl (by decide)) ?_); (refine zZ.v rfl rfl (by exact a_quo rfl rfl rfl (by decide) (by exact m3) rfl (by decide)) ?_); (refine zZ.v rfl rfl (by exact a_rem rfl rfl rfl (by decide) (by exact m4) rfl (by decide)) ?_); (refine zZ.v rfl rfl (by exact xQ rfl rfl (by exact m5) rfl (by decide)) ?_); (refine zZ.v rfl rfl (zQ rfl rfl rfl (by decide)) ?_); (refine zZ.v rfl rfl (by exact a_quo rfl rfl rfl (by decide) (by exact m6) rfl (by decide)) ?_); (refine zZ.v rfl rfl (by exact a_rem rfl rfl rfl (by decide) (by exact m7) rfl (by decide)) ?_); (refine zZ.v rfl rfl (by exact xQ rfl rfl (by exact m8) rfl (by decide)) ?_); (refine zZ.v rfl rfl (zQ rfl rfl rfl (by decide)) ?_); (refine zZ.v rfl rfl (by exact a_quo rfl rfl rfl (by decide) (by exact m9) rfl (by decide)) ?_); (refine zZ.v rfl rfl (by exact xQ rfl rfl (by exact m10) rfl (by decide)) ?_); (refine zZ.m rfl rfl (w_buildB rfl (by decide) (by decide) (by decide) (by decide) (by rfl) (by rfl) (by rfl) (by rfl) rfl (by decide)) ?_); (refine zZ.v rfl rfl (y5 rfl rfl rfl (by decide)) ?_); refine zZ.nil ?_) | (refine zX.isR (id := 6) ?_; refine zX.zV [0, 2, 3, 6] [2, 37] (by repeat' first | exact zY.nil | apply zY.p rfl | apply zY.own rfl) (by repeat' first | exact zW.nil | apply zW.yH rfl | apply zW.skip) ?_; (refine zZ.v rfl rfl (wH rfl rfl rfl (by decide)) ?_); (refine zZ.v rfl rfl (zQ rfl rfl rfl (by decide)) ?_); (refine zZ.w rfl (by exact w_appB rfl rfl rfl rfl (by exact g5) rfl rfl (by decide)) ?_); (refine zZ.v rfl rfl (y5 rfl rfl rfl (by decide)) ?_); (refine zZ.v rfl rfl (zK rfl rfl rfl (by decide)) ?_); refine zZ.nil ?_) | refine zX.yG rfl (by first | assumption | with_reducible rfl) ?_ | refine zX.skip ?_ | refine zX.ret ?_))
  all_goals exact ⟨.inl rfl, _, sub_freezeB (d := 2) (id := 37) rfl rfl, .tup (rs := [.tmp 2, .tmp 3]) rfl (by decide) (.cons (.tmp rfl) (.cons (.tmp rfl) .nil))⟩
/-- an entry's bytes, as a frame; none, if it may not be -/
def bytesE (k s y u v x : Int) : List Int := if mayB k s y u v x then wQ (encL k s y u v x) else []
theorem encL_le2 (k s y u v x : Int) : putOk (encL k s y u v x) := by
  have : (encL k s y u v x).length = if k = 1 then 41 else 9 := by
    unfold encL
    by_cases hk : k = 1
    · rw [if_pos hk, if_pos hk]; simp [bytesOf_length]
    · rw [if_neg hk, if_neg hk]; simp [bytesOf_length]
  unfold putOk
  rw [this]
  split <;> decide
theorem bytesOf_range' : ∀ (k : Nat) (n : Int), ∀ x ∈ bytesOf k n, 0 ≤ x ∧ x < 256
  | 0, n, x, hx => by simp [bytesOf] at hx
  | k + 1, n, x, hx => by
    rw [bytesOf, List.mem_cons] at hx
    rcases hx with rfl | hx
    · omega
    · exact bytesOf_range' k (n / 256) x hx
theorem encL_range' (k s y u v x : Int) : ∀ c ∈ encL k s y u v x, 0 ≤ c ∧ c < 256 := by
  intro c hc
  unfold encL at hc
  simp only [List.cons_append, List.mem_cons, List.mem_append] at hc
  have r := bytesOf_range' 8
  rcases hc with rfl | hc | hc
  · omega
  · exact r s c hc
  · by_cases hk : k = 1
    · rw [if_pos hk] at hc
      simp only [List.mem_append] at hc
      rcases hc with ((hc | hc) | hc) | hc
      · exact r _ c hc
      · exact r _ c hc
      · exact r _ c hc
      · exact r _ c hc
    · rw [if_neg hk] at hc; simp at hc
def U (x : Int) : Prop := 0 ≤ x ∧ x < 18446744073709551616
theorem bytes_fn (k s y u v x : Int) (h0 : U s) (h2 : U y) (h4 : U u) (h6 : U v) (h8 : U x) : Fn Tryz.prog 66 [entV k s y u v x] (.p (.sl (byts (bytesE k s y u v x)))) := by
  have c1 := enc_fn k s y u v x h0.1 h0.2 h2.1 h2.2 h4.1 h4.2 h6.1 h6.2 h8.1 h8.2
  refine wJ Tryz.func66 rfl Tryz.ntmps66 (Nat.le_of_ble_eq_true rfl) ?_
  unfold bytesE
  by_cases hm : mayB k s y u v x = true
  · rw [if_pos hm] at c1 ⊢
    have c2 := put_fn (encL k s y u v x) (encL_range' k s y u v x) (encL_le2 k s y u v x)
    repeat' ((refine zX.is ?_; first | refine zX.seq ?_ | (refine zX.isR (id := 0) ?_; refine zX.zV [0] [1, 2] (by repeat' first | exact zY.nil | apply zY.p rfl) (by repeat' first | exact zW.nil | apply zW.skip) ?_; (refine zZ.m rfl rfl (z8 rfl rfl rfl (by decide)) ?_); (refine zZ.v rfl rfl (zK rfl rfl rfl (by decide)) ?_); refine zZ.nil ?_) | (refine zX.isR (id := 1) ?_; refine zX.zV [1, 2] [1, 2] (by repeat' first | exact zY.nil | apply zY.p rfl | apply zY.ptr rfl) (by repeat' first | exact zW.nil | apply zW.boxP rfl rfl | apply zW.skip) ?_; (refine zZ.v rfl rfl (zI rfl rfl rfl (by rfl) (by rfl) rfl (by decide)) ?_); (refine zZ.v rfl rfl (by exact yU (c1) rfl rfl rfl (by decide)) ?_); (refine zZ.v rfl rfl (yO rfl rfl rfl (by decide)) ?_); (refine zZ.v rfl rfl (zF rfl rfl rfl rfl (by decide)) ?_); (refine zZ.v rfl rfl (zF rfl rfl rfl rfl (by decide)) ?_); (refine zZ.v rfl rfl (zK rfl rfl rfl (by decide)) ?_); (refine zZ.v rfl rfl (zK rfl rfl rfl (by decide)) ?_); refine zZ.nil ?_) | (refine zX.isR (id := 2) ?_; refine zX.zV [2, 3] [1, 2] (by repeat' first | exact zY.nil | apply zY.p rfl) (by repeat' first | exact zW.nil | apply zW.boxP rfl rfl | apply zW.skip) ?_; (refine zZ.v rfl rfl (zQ rfl rfl rfl (by decide)) ?_); (refine zZ.v rfl rfl (by exact yU (c2) rfl rfl rfl (by decide)) ?_); (refine zZ.v rfl rfl (yO rfl rfl rfl (by decide)) ?_); (refine zZ.v rfl rfl (zF rfl rfl rfl rfl (by decide)) ?_); (refine zZ.v rfl rfl (zF rfl rfl rfl rfl (by decide)) ?_); (refine zZ.v rfl rfl (zK rfl rfl rfl (by decide)) ?_); (refine zZ.v rfl rfl (zK rfl rfl rfl (by decide)) ?_); refine zZ.nil ?_) | (refine zX.isR (id := 3) ?_; refine zX.zV [2, 5] [1, 2] (by repeat' first | exact zY.nil | apply zY.p rfl) (by repeat' first | exact zW.nil | apply zW.boxP rfl rfl | apply zW.skip) ?_; (refine zZ.v rfl rfl (zQ rfl rfl rfl (by decide)) ?_); (refine zZ.v rfl rfl (zK rfl rfl rfl (by decide)) ?_); refine zZ.nil ?_) | refine zX.ret ?_))
    all_goals exact ⟨.inl rfl, gives1 rfl rfl rfl⟩
  · rw [if_neg hm] at c1 ⊢
    have c1' : Fn Tryz.prog 78 [entV k s y u v x] (.tup [.sl (byts []), .val (.int .i64 1)]) := c1
    have c2 := put_nil
    repeat' ((refine zX.is ?_; first | refine zX.seq ?_ | (refine zX.isR (id := 0) ?_; refine zX.zV [0] [1, 2] (by repeat' first | exact zY.nil | apply zY.p rfl) (by repeat' first | exact zW.nil | apply zW.skip) ?_; (refine zZ.m rfl rfl (z8 rfl rfl rfl (by decide)) ?_); (refine zZ.v rfl rfl (zK rfl rfl rfl (by decide)) ?_); refine zZ.nil ?_) | (refine zX.isR (id := 1) ?_; refine zX.zV [1, 2] [1, 2] (by repeat' first | exact zY.nil | apply zY.p rfl | apply zY.ptr rfl) (by repeat' first | exact zW.nil | apply zW.boxP rfl rfl | apply zW.skip) ?_; (refine zZ.v rfl rfl (zI rfl rfl rfl (by rfl) (by rfl) rfl (by decide)) ?_); (refine zZ.v rfl rfl (by exact yU (c1') rfl rfl rfl (by decide)) ?_); (refine zZ.v rfl rfl (yO rfl rfl rfl (by decide)) ?_); (refine zZ.v rfl rfl (zF rfl rfl rfl rfl (by decide)) ?_); (refine zZ.v rfl rfl (zF rfl rfl rfl rfl (by decide)) ?_); (refine zZ.v rfl rfl (zK rfl rfl rfl (by decide)) ?_); (refine zZ.v rfl rfl (zK rfl rfl rfl (by decide)) ?_); refine zZ.nil ?_) | (refine zX.isR (id := 2) ?_; refine zX.zV [2, 3] [1, 2] (by repeat' first | exact zY.nil | apply zY.p rfl) (by repeat' first | exact zW.nil | apply zW.boxP rfl rfl | apply zW.skip) ?_; (refine zZ.v rfl rfl (zQ rfl rfl rfl (by decide)) ?_); (refine zZ.v rfl rfl (by exact yU (c2) rfl rfl rfl (by decide)) ?_); (refine zZ.v rfl rfl (yO rfl rfl rfl (by decide)) ?_); (refine zZ.v rfl rfl (zF rfl rfl rfl rfl (by decide)) ?_); (refine zZ.v rfl rfl (zF rfl rfl rfl rfl (by decide)) ?_); (refine zZ.v rfl rfl (zK rfl rfl rfl (by decide)) ?_); (refine zZ.v rfl rfl (zK rfl rfl rfl (by decide)) ?_); refine zZ.nil ?_) | (refine zX.isR (id := 3) ?_; refine zX.zV [2, 5] [1, 2] (by repeat' first | exact zY.nil | apply zY.p rfl) (by repeat' first | exact zW.nil | apply zW.boxP rfl rfl | apply zW.skip) ?_; (refine zZ.v rfl rfl (zQ rfl rfl rfl (by decide)) ?_); (refine zZ.v rfl rfl (zK rfl rfl rfl (by decide)) ?_); refine zZ.nil ?_) | refine zX.ret ?_))
    all_goals exact ⟨.inl rfl, gives1 rfl rfl rfl⟩
theorem bytesRef_fn (k s y u v x : Int) (h0 : U s) (h2 : U y) (h4 : U u) (h6 : U v) (h8 : U x) : Fn Tryz.prog 69 [entV k s y u v x] (.p (.sl (byts (bytesE k s y u v x)))) := by
  have c1 := encRef_fn k s y u v x h0.1 h0.2 h2.1 h2.2 h4.1 h4.2 h6.1 h6.2 h8.1 h8.2
  refine yI Tryz.func69 rfl Tryz.ntmps69 (Nat.le_of_ble_eq_true rfl) ?_
  unfold bytesE
  by_cases hm : mayB k s y u v x = true
  · rw [if_pos hm] at c1 ⊢
    have c2 := putRef_fn (encL k s y u v x) (encL_range' k s y u v x) (encL_le2 k s y u v x)
    repeat' ((refine zX.is ?_; first | refine zX.seq ?_ | (refine zX.isR (id := 0) ?_; refine zX.zV [0] [1, 2] (by repeat' first | exact zY.nil | apply zY.p rfl) (by repeat' first | exact zW.nil | apply zW.skip) ?_; (refine zZ.m rfl rfl (z8 rfl rfl rfl (by decide)) ?_); (refine zZ.v rfl rfl (zK rfl rfl rfl (by decide)) ?_); refine zZ.nil ?_) | (refine zX.isR (id := 1) ?_; refine zX.zV [1, 2] [1, 2] (by repeat' first | exact zY.nil | apply zY.p rfl | apply zY.ptr rfl) (by repeat' first | exact zW.nil | apply zW.boxP rfl rfl | apply zW.skip) ?_; (refine zZ.v rfl rfl (zI rfl rfl rfl (by rfl) (by rfl) rfl (by decide)) ?_); (refine zZ.v rfl rfl (by exact yU (c1) rfl rfl rfl (by decide)) ?_); (refine zZ.v rfl rfl (yO rfl rfl rfl (by decide)) ?_); (refine zZ.v rfl rfl (zF rfl rfl rfl rfl (by decide)) ?_); (refine zZ.v rfl rfl (zF rfl rfl rfl rfl (by decide)) ?_); (refine zZ.v rfl rfl (zK rfl rfl rfl (by decide)) ?_); (refine zZ.v rfl rfl (zK rfl rfl rfl (by decide)) ?_); refine zZ.nil ?_) | (refine zX.isR (id := 2) ?_; refine zX.zV [2, 3, 4] [1, 2] (by repeat' first | exact zY.nil | apply zY.p rfl) (by repeat' first | exact zW.nil | apply zW.boxP rfl rfl | apply zW.skip) ?_; (refine zZ.v rfl rfl (zQ rfl rfl rfl (by decide)) ?_); (refine zZ.v rfl rfl (by exact xW rfl rfl rfl (by exact bF (by decide)) rfl (by decide)) ?_); refine zZ.nil ?_) | (refine zX.isR (id := 4) ?_; refine zX.zV [2, 3] [1, 2] (by repeat' first | exact zY.nil | apply zY.p rfl) (by repeat' first | exact zW.nil | apply zW.boxP rfl rfl | apply zW.skip) ?_; (refine zZ.v rfl rfl (zQ rfl rfl rfl (by decide)) ?_); (refine zZ.v rfl rfl (by exact yU (c2) rfl rfl rfl (by decide)) ?_); (refine zZ.v rfl rfl (yO rfl rfl rfl (by decide)) ?_); (refine zZ.v rfl rfl (zF rfl rfl rfl rfl (by decide)) ?_); (refine zZ.v rfl rfl (zF rfl rfl rfl rfl (by decide)) ?_); (refine zZ.v rfl rfl (zK rfl rfl rfl (by decide)) ?_); (refine zZ.v rfl rfl (zK rfl rfl rfl (by decide)) ?_); refine zZ.nil ?_) | (refine zX.isR (id := 5) ?_; refine zX.zV [2, 5] [1, 2] (by repeat' first | exact zY.nil | apply zY.p rfl) (by repeat' first | exact zW.nil | apply zW.boxP rfl rfl | apply zW.skip) ?_; (refine zZ.v rfl rfl (zQ rfl rfl rfl (by decide)) ?_); (refine zZ.v rfl rfl (zK rfl rfl rfl (by decide)) ?_); refine zZ.nil ?_) | refine zX.yG rfl (by with_reducible rfl) ?_ | refine zX.skip ?_ | refine zX.ret ?_))
    all_goals exact ⟨.inl rfl, _, Sub.refl _, .p rfl (.tmp rfl)⟩
  · rw [if_neg hm] at c1 ⊢
    repeat' (first | (refine zX.is ?_; first | refine zX.seq ?_ | (refine zX.isR (id := 0) ?_; refine zX.zV [0] [1, 2] (by repeat' first | exact zY.nil | apply zY.p rfl) (by repeat' first | exact zW.nil | apply zW.skip) ?_; (refine zZ.m rfl rfl (z8 rfl rfl rfl (by decide)) ?_); (refine zZ.v rfl rfl (zK rfl rfl rfl (by decide)) ?_); refine zZ.nil ?_) | (refine zX.isR (id := 1) ?_; refine zX.zV [1, 2] [1, 2] (by repeat' first | exact zY.nil | apply zY.p rfl | apply zY.ptr rfl) (by repeat' first | exact zW.nil | apply zW.boxP rfl rfl | apply zW.skip) ?_; (refine zZ.v rfl rfl (zI rfl rfl rfl (by rfl) (by rfl) rfl (by decide)) ?_); (refine zZ.v rfl rfl (by exact yU (c1) rfl rfl rfl (by decide)) ?_); (refine zZ.v rfl rfl (yO rfl rfl rfl (by decide)) ?_); (refine zZ.v rfl rfl (zF rfl rfl rfl rfl (by decide)) ?_); (refine zZ.v rfl rfl (zF rfl rfl rfl rfl (by decide)) ?_); (refine zZ.v rfl rfl (zK rfl rfl rfl (by decide)) ?_); (refine zZ.v rfl rfl (zK rfl rfl rfl (by decide)) ?_); refine zZ.nil ?_) | (refine zX.isR (id := 2) ?_; refine zX.zV [2, 3, 4] [1, 2] (by repeat' first | exact zY.nil | apply zY.p rfl) (by repeat' first | exact zW.nil | apply zW.boxP rfl rfl | apply zW.skip) ?_; (refine zZ.v rfl rfl (zQ rfl rfl rfl (by decide)) ?_); (refine zZ.v rfl rfl (by exact xW rfl rfl rfl (by exact bT (by decide)) rfl (by decide)) ?_); refine zZ.nil ?_) | (refine zX.isR (id := 3) ?_; refine zX.zV [2, 3] [1, 2] (by repeat' first | exact zY.nil | apply zY.p rfl) (by repeat' first | exact zW.nil | apply zW.boxP rfl rfl | apply zW.skip) ?_; (refine zZ.v rfl rfl (zK rfl rfl rfl (by decide)) ?_); refine zZ.nil ?_) | refine zX.yE rfl (by with_reducible rfl) ?_ | refine zX.ret ?_) | refine yJ.r ?_)
    all_goals exact ⟨.inl rfl, _, sub_nil (d := 2) rfl, .p rfl (.tmp rfl)⟩
end Go.Proofs.YtlfkofkdigmnpaaGreatDoor
/- Set, the loads of rest, the accesses of a disk: the program's, over a log: contracts. -/
namespace Go.Proofs.YtlfkofkdigmnpaaGreatDoor
set_option maxRecDepth 100000
set_option maxHeartbeats 16000000
open Go Go.RowKit
set_option linter.unusedSimpArgs false
attribute [local irreducible] zZ zX Step zG Sub zP zM Fn
/-- a function of the program over a log: how it goes on -/
def FnT {α : Type} (f : FuncId) (args : List AV) (BK : List Blk) (res : α → AV) (L : List zO) (i : Nat) (o : Told α) : Prop := match o with
  | .done x j => FnE Tryz.prog f args (DoB L i ++ BK) (.ret (res x)) (DoB L j ++ BK)
  | .need q => FnE Tryz.prog f args (DoB L i ++ BK) (.pan (needA (xP q.kind q.cell q.a q.b q.d))) (DoB L L.length ++ BK)
theorem setOp_fn (L : List zO) (hL : yC L) (t r b : Int) (h : Rec t r) (hb : b = 1 ∨ b = 2) (i : Nat) (hi : i ≤ L.length) :
    FnT 18 [doA, .p (.val (.int .i64 t)), .p (.val (.int .i64 r)), .p (.val (.int .i64 b))] [] (fun _ => .any) L i (xU (ov1 b) (yX t r 2) b (L.drop i) i) := by
  have c := set1_fn L hL t r b h hb i hi
  cases ho : xU (ov1 b) (yX t r 2) b (L.drop i) i with
  | done x j =>
    rw [ho] at c
    have c' : FnE Tryz.prog 42 [doA, .p (.val (.int .i64 t)), .p (.val (.int .i64 r)), .p (.val (.int .i64 b)), .clo 43 [1002]] [atB i, xM L, xG b] (.ret .any) [atB j, xM L, xG b] := c
    refine yS (B' := [atB j, xM L]) Tryz.func18 rfl Tryz.ntmps18 (Nat.le_of_ble_eq_true rfl) (by decide) ?_
    repeat' ((refine zX.is ?_; first | refine zX.seq ?_ | (refine zX.isR (id := 0) ?_; refine zX.zV [0, 1, 2, 3] [7, 1000, 1001] (by repeat' first | exact zY.nil | apply zY.p rfl | apply zY.clo rfl) (by repeat' first | exact zW.nil | apply zW.boxP rfl rfl | apply zW.skip) ?_; (refine zZ.m rfl rfl (w_boxV rfl rfl rfl rfl (by decide)) ?_); refine zZ.nil ?_) | (refine zX.isR (id := 1) ?_; refine zX.zV [0, 1, 2, 7] [7, 1000, 1001] (by repeat' first | exact zY.nil | apply zY.p rfl | apply zY.ptr rfl | apply zY.clo rfl) (by repeat' first | exact zW.nil | apply zW.boxP rfl rfl) ?_; (refine zZ.v rfl rfl (zU rfl rfl rfl (by decide)) ?_); (refine zZ.v rfl rfl (zQ rfl rfl rfl (by decide)) ?_); (refine zZ.v rfl rfl (zQ rfl rfl rfl (by decide)) ?_); (refine zZ.v rfl rfl (zA rfl rfl rfl rfl rfl (by decide)) ?_); (refine zZ.v rfl rfl (vJ rfl (by rfl) rfl (by decide)) ?_); (refine zZ.ofT rfl (zM.xA [1000, 1001, 7] (c') rfl (by decide) (zH rfl) (by rfl) (zD (by decide) rfl (by repeat' first | exact trivial | rfl | constructor)) rfl rfl rfl rfl ?_)); refine zZ.nil ?_)))
    all_goals exact ⟨(by exact .inr rfl), _, Sub.refl _, .none rfl, yV (by repeat' first | exact trivial | rfl | constructor)⟩
  | need q =>
    rw [ho] at c
    have c' : FnE Tryz.prog 42 [doA, .p (.val (.int .i64 t)), .p (.val (.int .i64 r)), .p (.val (.int .i64 b)), .clo 43 [1002]] [atB i, xM L, xG b] (.pan (needA (xP q.kind q.cell q.a q.b q.d))) [atB L.length, xM L, xG b] := c
    refine yS (B' := [atB L.length, xM L]) Tryz.func18 rfl Tryz.ntmps18 (Nat.le_of_ble_eq_true rfl) (by decide) ?_
    repeat' (first | (refine zZ.is ?_; first | refine zZ.v rfl rfl (by first | exact zA rfl rfl rfl rfl rfl (by decide) | exact vJ rfl (by rfl) rfl (by decide) | exact zQ rfl rfl rfl (by decide) | exact zU rfl rfl rfl (by decide)) ?_ | refine zZ.ofT rfl (zM.ePan [1000, 1001, 7] (c') (zH rfl) (by rfl) (zD (by decide) rfl (by repeat' first | exact trivial | rfl | constructor)) rfl rfl rfl rfl ?_)) | (refine zX.is ?_; first | refine zX.seq ?_ | (refine zX.isR (id := 0) ?_; refine zX.zV [0, 1, 2, 3] [7, 1000, 1001] (by repeat' first | exact zY.nil | apply zY.p rfl | apply zY.clo rfl) (by repeat' first | exact zW.nil | apply zW.boxP rfl rfl | apply zW.skip) ?_; (refine zZ.m rfl rfl (w_boxV rfl rfl rfl rfl (by decide)) ?_); refine zZ.nil ?_) | (refine zX.isR (id := 1) ?_; refine zX.zV [0, 1, 2, 7] [7, 1000, 1001] (by repeat' first | exact zY.nil | apply zY.p rfl | apply zY.ptr rfl | apply zY.clo rfl) (by repeat' first | exact zW.nil | apply zW.boxP rfl rfl) ?_)))
    all_goals exact ⟨rfl, rfl, yV (by repeat' first | exact trivial | rfl | constructor)⟩
def doB : Blk := .box 63 [doA]
theorem ld_ret (L : List zO) (i : Nat) (r0 : zO) (hr : L[i]? = some r0) (hL : yC L) (t r f : Int) (h : Rec t r) (hf : 0 ≤ f ∧ f ≤ 7) :
    FnE Tryz.prog 64 [.p (.val (.int .i64 f)), .ptr 1002 0, .ptr 1003 0, .ptr 1004 0] [atB i, xM L, doB, xG t, xG r] (.ret (.p (.val (.int .u64 r0.n)))) [atB (i + 1), xM L, doB, xG t, xG r] := by
  have c1 := field_fn t r f h.1 ⟨by have := h.2.1; omega, h.2.2⟩ (by unfold Small; omega)
  refine yS Tryz.func64 rfl Tryz.ntmps64 (Nat.le_of_ble_eq_true rfl) (by decide) ?_
  repeat' ((refine zX.is ?_; first | refine zX.seq ?_ | (refine zX.isR (id := 0) ?_; refine zX.zV [0, 1, 2, 3] [1000, 1001, 1002, 1003, 1004] (by repeat' first | exact zY.nil | apply zY.p rfl | apply zY.ptr rfl) (by repeat' first | exact zW.nil | apply zW.boxP rfl rfl | apply zW.some rfl) ?_; (refine zZ.v rfl rfl (zK rfl rfl rfl (by decide)) ?_); refine zZ.nil ?_) | (refine zX.isR (id := 1) ?_; refine zX.yA [0, 1, 2, 3, 5] [1000, 1001, 1002, 1003, 1004] (by repeat' first | exact zY.nil | apply zY.p rfl | apply zY.ptr rfl) (by repeat' first | exact zW.nil | apply zW.boxP rfl rfl | apply zW.some rfl) (zX.draws ?_); all_goals (refine Draws.v rfl rfl (w_loadC rfl rfl rfl rfl rfl (by decide)) ?_); all_goals (refine Draws.v rfl rfl (zA rfl rfl rfl rfl rfl (by decide)) ?_); all_goals (refine Draws.v rfl rfl (zA rfl rfl rfl rfl rfl (by decide)) ?_); all_goals (refine Draws.v rfl rfl (zQ rfl rfl rfl (by decide)) ?_); all_goals (refine Draws.v rfl rfl (by exact zL (c1) rfl rfl rfl (by decide)) ?_); all_goals ((refine Draws.done (by kernel_rfl) (by kernel_rfl) (by kernel_rfl) ?_; refine zP.ofT rfl (zM.xA [1000, 1001] (load_ret L i r0 hr hL.1 (yX t r f)) rfl (by decide) (zH rfl) (by rfl) (zD (by decide) rfl (by repeat' first | exact trivial | rfl | constructor)) rfl rfl rfl rfl ?_))); all_goals (refine zP.v rfl rfl (zK rfl rfl rfl (by decide)) ?_); all_goals (refine zP.nil ?_)) | refine zX.ret ?_))
  all_goals exact ⟨(by exact .inl rfl), _, Sub.refl _, .one rfl rfl, yV (by repeat' first | exact trivial | rfl | constructor)⟩
theorem ld_pan (L : List zO) (hL : yC L) (t r f : Int) (h : Rec t r) (hf : 0 ≤ f ∧ f ≤ 7) :
    FnE Tryz.prog 64 [.p (.val (.int .i64 f)), .ptr 1002 0, .ptr 1003 0, .ptr 1004 0] [atB L.length, xM L, doB, xG t, xG r] (.pan (needA (xP 0 (yX t r f) 0 0 yD))) [atB L.length, xM L, doB, xG t, xG r] := by
  have c1 := field_fn t r f h.1 ⟨by have := h.2.1; omega, h.2.2⟩ (by unfold Small; omega)
  refine yS Tryz.func64 rfl Tryz.ntmps64 (Nat.le_of_ble_eq_true rfl) (by decide) ?_
  repeat' ((refine zX.is ?_; first | refine zX.seq ?_ | (refine zX.isR (id := 0) ?_; refine zX.zV [0, 1, 2, 3] [1000, 1001, 1002, 1003, 1004] (by repeat' first | exact zY.nil | apply zY.p rfl | apply zY.ptr rfl) (by repeat' first | exact zW.nil | apply zW.boxP rfl rfl | apply zW.some rfl) ?_; (refine zZ.v rfl rfl (zK rfl rfl rfl (by decide)) ?_); refine zZ.nil ?_) | (refine zX.isR (id := 1) ?_; refine zX.yA [0, 1, 2, 3, 5] [1000, 1001, 1002, 1003, 1004] (by repeat' first | exact zY.nil | apply zY.p rfl | apply zY.ptr rfl) (by repeat' first | exact zW.nil | apply zW.boxP rfl rfl | apply zW.some rfl) (zX.draws ?_); all_goals (refine Draws.v rfl rfl (w_loadC rfl rfl rfl rfl rfl (by decide)) ?_); all_goals (refine Draws.v rfl rfl (zA rfl rfl rfl rfl rfl (by decide)) ?_); all_goals (refine Draws.v rfl rfl (zA rfl rfl rfl rfl rfl (by decide)) ?_); all_goals (refine Draws.v rfl rfl (zQ rfl rfl rfl (by decide)) ?_); all_goals (refine Draws.v rfl rfl (by exact zL (c1) rfl rfl rfl (by decide)) ?_); all_goals ((refine Draws.done (by kernel_rfl) (by kernel_rfl) (by kernel_rfl) ?_; refine zP.ofT rfl (zM.ePan [1000, 1001] (load_pan L hL.1 (yX t r f)) (zH rfl) (by rfl) (zD (by decide) rfl (by repeat' first | exact trivial | rfl | constructor)) rfl rfl rfl rfl ?_))); all_goals (skip); all_goals (skip))))
  all_goals exact ⟨rfl, rfl, yV (by repeat' first | exact trivial | rfl | constructor)⟩
end Go.Proofs.YtlfkofkdigmnpaaGreatDoor
/- Accesses of a disk, up to the first that fails: the program's, over a log: a contract. -/
namespace Go.Proofs.YtlfkofkdigmnpaaGreatDoor
set_option maxRecDepth 100000
set_option maxHeartbeats 16000000
open Go Go.RowKit
set_option linter.unusedSimpArgs false
attribute [local irreducible] zZ zX Step zG Sub zP zM Fn
def accQ (q : Ned) : PV := xP q.kind q.cell q.a q.b q.d
def vD : List Ned → List zO → Nat → Told Bool
  | [], _, i => .done true i
  | q :: _, [], _ => .need q
  | _ :: qs, r :: l, i => if r.fail then .done false (i + 1) else vD qs l (i + 1)
theorem accQ_cells (qs : List Ned) : ∀ e ∈ qs.map accQ, e.cells.length = 6 := fun e he => by
  obtain ⟨r, _, rfl⟩ := List.mem_map.1 he
  rfl
theorem drop_cons' {α : Type} {l : List α} {k : Nat} (h : k < l.length) : l.drop k = l[k] :: l.drop (k + 1) := List.drop_eq_getElem_cons h
def diskS (L : List zO) (qs : List Ned) (i k : Nat) : AS :=
  { t := [(0, doA), (4, .p (.val (.bool false))), (7, .p (.sl (qs.map accQ))), (8, .p (.val (.int .i64 (qs.map accQ).length))), (9, .p (.val (.int .i64 k)))], s := [(1000, atB (i + k)), (1001, xM L)] }
theorem disk_fn (L : List zO) (hL : yC L) (qs : List Ned) (hq : qs.length ≤ 1000) (i : Nat) (hi : i ≤ L.length) :
    FnT 65 [doA, .p (.sl (qs.map accQ))] [] (fun b => .p (.val (.bool b))) L i (vD qs (L.drop i) i) := by
  have g4 := accQ_cells qs
  have main : ∀ (ev : EV) (B' : List Blk), (∀ b j, vD qs (L.drop i) i = .done b j → ev = .ret (.p (.val (.bool b))) ∧ B' = [atB j, xM L]) → (∀ q, vD qs (L.drop i) i = .need q → ev = .pan (needA (xP q.kind q.cell q.a q.b q.d)) ∧ B' = [atB L.length, xM L]) →
      FnE Tryz.prog 65 [doA, .p (.sl (qs.map accQ))] [atB i, xM L] ev B' := by
    intro ev B' h1 h2
    refine yS Tryz.func65 rfl Tryz.ntmps65 (Nat.le_of_ble_eq_true rfl) (by decide) ?_
    repeat' ((refine zX.is ?_; first | refine zX.seq ?_ | (refine zX.isR (id := 0) ?_; refine zX.zV [0, 1] [6, 1000, 1001] (by repeat' first | exact zY.nil | apply zY.p rfl | apply zY.clo rfl) (by repeat' first | exact zW.nil | apply zW.boxP rfl rfl | apply zW.skip) ?_; (refine zZ.v rfl rfl (zK rfl rfl rfl (by decide)) ?_); refine zZ.nil ?_) | (refine zX.isR (id := 1) ?_; refine zX.zV [0, 1, 4] [6, 1000, 1001] (by repeat' first | exact zY.nil | apply zY.p rfl | apply zY.clo rfl) (by repeat' first | exact zW.nil | apply zW.boxP rfl rfl | apply zW.skip) ?_; (refine zZ.v rfl rfl (zQ rfl rfl rfl (by decide)) ?_); (refine zZ.v rfl rfl (xE rfl rfl rfl (by decide)) ?_); (refine zZ.v rfl rfl (zQ rfl rfl rfl (by decide)) ?_); refine zZ.nil ?_) | refine zX.block ?_))
    refine zX.loop (diskS L qs i) (fun k => k ≤ qs.length ∧ i + k ≤ L.length ∧ vD (qs.drop k) (L.drop (i + k)) (i + k) = vD qs (L.drop i) i) (fun k => qs.length - k) 0 ?h0 ⟨Nat.zero_le _, hi, rfl⟩ ?rd
    case h0 =>
      refine yY (is := [0, 4, 7, 8, 9]) (js := [1000, 1001]) ?_ ?_
      repeat' first | exact zY.nil | apply zY.p rfl | apply zY.ptr rfl | apply zY.own rfl | apply zY.clo rfl | apply zY.pt rfl | apply zY.tup rfl | apply zY.skip
      repeat' first | exact zW.nil | apply zW.boxP rfl rfl | apply zW.yH rfl | apply zW.some rfl | apply zW.skip
    case rd =>
      rintro k ⟨hk, hik, hko⟩
      by_cases hlt : k < qs.length
      · have hdec : decide ((k : Int) < ((qs.map accQ).length : Int)) = true := decide_eq_true (by simp; omega)
        have g5 : (qs.map accQ)[k]? = some (accQ qs[k]) := by rw [List.getElem?_map, List.getElem?_eq_getElem hlt]; rfl
        rw [drop_cons' hlt] at hko
        generalize qs[k] = q at *
        have g6 : IntKind.i64.wrap ((k : Int) + 1) = ((k + 1 : Nat) : Int) := by rw [wrap_i64 _ (by omega)]; omega
        cases hd : L.drop (i + k) with
        | nil =>
          have he := vB hik hd
          rw [hd, vD] at hko
          obtain ⟨rfl, rfl⟩ := h2 _ hko.symm
          have c1 := do_pan L hL.1 q.kind q.cell q.a q.b q.d
          rw [← he] at c1 ⊢
          repeat' (first | (refine zZ.is ?_; first | refine zZ.v rfl rfl (by first | exact zI rfl rfl rfl (by rfl) (by rfl) rfl (by decide) | exact zU rfl rfl rfl (by decide)) ?_ | refine zZ.ofT rfl (zM.ePan [1000, 1001] (c1) (yF rfl rfl) (by rfl) (zD (by decide) rfl (by repeat' first | exact trivial | rfl | constructor)) rfl rfl rfl rfl ?_)) | (refine zX.is ?_; first | refine zX.seq ?_ | (refine zX.isR (id := 2) ?_; refine zX.zV [0, 4, 6, 7, 8, 9, 10, 16] [6, 1000, 1001] (by repeat' first | exact zY.nil | apply zY.p rfl | apply zY.clo rfl | apply zY.skip) (by repeat' first | exact zW.nil | apply zW.boxP rfl rfl | apply zW.skip) ?_; (refine zZ.v rfl rfl (by exact yL rfl rfl rfl (by exact hdec) rfl (by decide)) ?_); refine zZ.nil ?_) | (refine zX.isR (id := 3) ?_; refine zX.zV [0, 4, 6, 7, 8, 9, 10, 16] [6, 1000, 1001] (by repeat' first | exact zY.nil | apply zY.p rfl | apply zY.clo rfl | apply zY.skip) (by repeat' first | exact zW.nil | apply zW.boxP rfl rfl | apply zW.skip) ?_; (refine zZ.v rfl rfl (by exact y8 rfl rfl rfl (by exact g4) (by exact g5) rfl (by decide)) ?_); (refine zZ.v rfl rfl (by exact wE rfl rfl (by exact Nat.le_of_ble_eq_true rfl) rfl (by decide)) ?_); (refine zZ.m rfl rfl (zC rfl (by decide) rfl (by decide)) ?_); (refine zZ.w rfl (by exact zB rfl rfl rfl rfl rfl (by rfl) (by exact Nat.le_of_ble_eq_true rfl) rfl rfl) ?_); refine zZ.nil ?_) | (refine zX.isR (id := 4) ?_; refine zX.zV [0, 4, 6, 7, 8, 9, 10, 16] [6, 1000, 1001] (by repeat' first | exact zY.nil | apply zY.p rfl | apply zY.ptr rfl | apply zY.clo rfl | apply zY.skip) (by repeat' first | exact zW.nil | apply zW.boxP rfl rfl) ?_) | refine zX.yE rfl (by first | assumption | with_reducible rfl) ?_ | refine zX.skip ?_ | refine zX.block ?_))
          all_goals exact ⟨rfl, rfl, yV (by repeat' first | exact trivial | rfl | constructor)⟩
        | cons r l =>
          obtain ⟨hr0, hl⟩ := drop_at hd
          have hlt2 : i + k < L.length := (List.getElem?_eq_some_iff.1 hr0).1
          have c1 := do_ret L (i + k) r hr0 hL.1 q.kind q.cell q.a q.b q.d
          rw [hd, vD] at hko
          by_cases hf : r.fail = true
          · rw [if_pos hf] at hko
            obtain ⟨rfl, rfl⟩ := h1 _ _ hko.symm
            repeat' (first | (refine zX.is ?_; first | refine zX.seq ?_ | (refine zX.isR (id := 2) ?_; refine zX.zV [0, 4, 6, 7, 8, 9, 10, 16] [6, 1000, 1001] (by repeat' first | exact zY.nil | apply zY.p rfl | apply zY.clo rfl | apply zY.skip) (by repeat' first | exact zW.nil | apply zW.boxP rfl rfl | apply zW.skip) ?_; (refine zZ.v rfl rfl (by exact yL rfl rfl rfl (by exact hdec) rfl (by decide)) ?_); refine zZ.nil ?_) | (refine zX.isR (id := 3) ?_; refine zX.zV [0, 4, 6, 7, 8, 9, 10, 16] [6, 1000, 1001] (by repeat' first | exact zY.nil | apply zY.p rfl | apply zY.clo rfl | apply zY.skip) (by repeat' first | exact zW.nil | apply zW.boxP rfl rfl | apply zW.skip) ?_; (refine zZ.v rfl rfl (by exact y8 rfl rfl rfl (by exact g4) (by exact g5) rfl (by decide)) ?_); (refine zZ.v rfl rfl (by exact wE rfl rfl (by exact Nat.le_of_ble_eq_true rfl) rfl (by decide)) ?_); (refine zZ.m rfl rfl (zC rfl (by decide) rfl (by decide)) ?_); (refine zZ.w rfl (by exact zB rfl rfl rfl rfl rfl (by rfl) (by exact Nat.le_of_ble_eq_true rfl) rfl rfl) ?_); refine zZ.nil ?_) | (refine zX.isR (id := 4) ?_; refine zX.zV [0, 4, 6, 7, 8, 9, 10, 16] [6, 1000, 1001] (by repeat' first | exact zY.nil | apply zY.p rfl | apply zY.ptr rfl | apply zY.clo rfl | apply zY.skip) (by repeat' first | exact zW.nil | apply zW.boxP rfl rfl) ?_; (refine zZ.v rfl rfl (zU rfl rfl rfl (by decide)) ?_); (refine zZ.v rfl rfl (zI rfl rfl rfl (by rfl) (by rfl) rfl (by decide)) ?_); (refine zZ.ofT rfl (zM.xA [1000, 1001] (c1) rfl (by decide) (yF rfl rfl) (by rfl) (zD (by decide) rfl (by repeat' first | exact trivial | rfl | constructor)) rfl rfl rfl rfl ?_)); (refine zZ.v rfl rfl (w_field1 rfl rfl rfl rfl (by decide)) ?_); refine zZ.nil ?_) | (refine zX.isR (id := 5) ?_; refine zX.zV [0, 4, 6, 7, 8, 9, 10, 16] [6, 1000, 1001] (by repeat' first | exact zY.nil | apply zY.p rfl | apply zY.ptr rfl | apply zY.clo rfl) (by repeat' first | exact zW.nil | apply zW.boxP rfl rfl) ?_; (refine zZ.v rfl rfl (zK rfl rfl rfl (by decide)) ?_); refine zZ.nil ?_) | refine zX.yE rfl (by first | assumption | with_reducible rfl) ?_ | refine zX.skip ?_ | refine zX.block ?_ | refine zX.ret ?_) | refine yJ.r ?_ | refine xV.r ?_)
            all_goals exact ⟨(by exact .inl rfl), _, Sub.refl _, .one rfl rfl, yV (by repeat' first | exact trivial | rfl | constructor)⟩
          · have hf0 : r.fail = false := by simpa using hf
            rw [if_neg hf] at hko
            repeat' (first | (refine zX.is ?_; first | refine zX.seq ?_ | (refine zX.isR (id := 2) ?_; refine zX.zV [0, 4, 6, 7, 8, 9, 10, 16] [6, 1000, 1001] (by repeat' first | exact zY.nil | apply zY.p rfl | apply zY.clo rfl | apply zY.skip) (by repeat' first | exact zW.nil | apply zW.boxP rfl rfl | apply zW.skip) ?_; (refine zZ.v rfl rfl (by exact yL rfl rfl rfl (by exact hdec) rfl (by decide)) ?_); refine zZ.nil ?_) | (refine zX.isR (id := 3) ?_; refine zX.zV [0, 4, 6, 7, 8, 9, 10, 16] [6, 1000, 1001] (by repeat' first | exact zY.nil | apply zY.p rfl | apply zY.clo rfl | apply zY.skip) (by repeat' first | exact zW.nil | apply zW.boxP rfl rfl | apply zW.skip) ?_; (refine zZ.v rfl rfl (by exact y8 rfl rfl rfl (by exact g4) (by exact g5) rfl (by decide)) ?_); (refine zZ.v rfl rfl (by exact wE rfl rfl (by exact Nat.le_of_ble_eq_true rfl) rfl (by decide)) ?_); (refine zZ.m rfl rfl (zC rfl (by decide) rfl (by decide)) ?_); (refine zZ.w rfl (by exact zB rfl rfl rfl rfl rfl (by rfl) (by exact Nat.le_of_ble_eq_true rfl) rfl rfl) ?_); refine zZ.nil ?_) | (refine zX.isR (id := 4) ?_; refine zX.zV [0, 4, 6, 7, 8, 9, 10, 16] [6, 1000, 1001] (by repeat' first | exact zY.nil | apply zY.p rfl | apply zY.ptr rfl | apply zY.clo rfl | apply zY.skip) (by repeat' first | exact zW.nil | apply zW.boxP rfl rfl) ?_; (refine zZ.v rfl rfl (zU rfl rfl rfl (by decide)) ?_); (refine zZ.v rfl rfl (zI rfl rfl rfl (by rfl) (by rfl) rfl (by decide)) ?_); (refine zZ.ofT rfl (zM.xA [1000, 1001] (c1) rfl (by decide) (yF rfl rfl) (by rfl) (zD (by decide) rfl (by repeat' first | exact trivial | rfl | constructor)) rfl rfl rfl rfl ?_)); (refine zZ.v rfl rfl (w_field1 rfl rfl rfl rfl (by decide)) ?_); refine zZ.nil ?_) | (refine zX.isR (id := 6) ?_; refine zX.zV [0, 4, 6, 7, 8, 9, 10, 16] [6, 1000, 1001] (by repeat' first | exact zY.nil | apply zY.p rfl | apply zY.ptr rfl | apply zY.clo rfl) (by repeat' first | exact zW.nil | apply zW.boxP rfl rfl) ?_; (refine zZ.v rfl rfl (by exact y7 rfl rfl rfl (by exact g6) rfl (by decide)) ?_); (refine zZ.v rfl rfl (zQ rfl rfl rfl (by decide)) ?_); refine zZ.nil ?_) | refine zX.yE rfl (by first | assumption | with_reducible rfl) ?_ | refine zX.yG rfl (by assumption) ?_ | refine zX.skip ?_ | refine zX.block ?_) | refine yJ.n ?_)
            refine ⟨k + 1, ?_, ⟨by omega, by omega, by rw [← Nat.add_assoc, hl]; exact hko⟩, by omega⟩
            refine yY (is := [0, 4, 7, 8, 9]) (js := [1000, 1001]) ?_ ?_
            repeat' first | exact zY.nil | apply zY.p rfl | apply zY.ptr rfl | apply zY.own rfl | apply zY.clo rfl | apply zY.pt rfl | apply zY.tup rfl | apply zY.skip
            repeat' first | exact zW.nil | apply zW.boxP rfl rfl | apply zW.yH rfl | apply zW.some rfl | apply zW.skip
      · have hdec : decide ((k : Int) < ((qs.map accQ).length : Int)) = false := decide_eq_false (by simp; omega)
        obtain rfl : k = qs.length := by omega
        rw [List.drop_length, vD] at hko
        obtain ⟨rfl, rfl⟩ := h1 _ _ hko.symm
        repeat' ((refine zX.is ?_; first | refine zX.seq ?_ | (refine zX.isR (id := 2) ?_; refine zX.zV [0, 4, 6, 7, 8, 9, 10, 16] [6, 1000, 1001] (by repeat' first | exact zY.nil | apply zY.p rfl | apply zY.clo rfl | apply zY.skip) (by repeat' first | exact zW.nil | apply zW.boxP rfl rfl | apply zW.skip) ?_; (refine zZ.v rfl rfl (by exact yL rfl rfl rfl (by exact hdec) rfl (by decide)) ?_); refine zZ.nil ?_) | (refine zX.isR (id := 7) ?_; refine zX.zV [4] [6, 1000, 1001] (by repeat' first | exact zY.nil | apply zY.p rfl) (by repeat' first | exact zW.nil | apply zW.boxP rfl rfl | apply zW.skip) ?_; (refine zZ.v rfl rfl (zK rfl rfl rfl (by decide)) ?_); refine zZ.nil ?_) | refine zX.yG rfl (by first | assumption | with_reducible rfl) ?_ | refine zX.exit ?_ | refine zX.ret ?_))
        all_goals exact ⟨(by exact .inl rfl), _, Sub.refl _, .one rfl rfl, yV (by repeat' first | exact trivial | rfl | constructor)⟩
  cases ho : vD qs (L.drop i) i with
  | done x j => exact main _ _ (fun b j' h' => by rw [ho] at h'; cases h'; exact ⟨rfl, rfl⟩) (fun q h' => by rw [ho] at h'; cases h')
  | need q => exact main _ _ (fun b j' h' => by rw [ho] at h'; cases h') (fun q' h' => by rw [ho] at h'; cases h'; exact ⟨rfl, rfl⟩)
end Go.Proofs.YtlfkofkdigmnpaaGreatDoor
/- Programs over a log: contracts that say what is told; the accesses. -/
namespace Go.Proofs.YtlfkofkdigmnpaaGreatDoor
set_option maxRecDepth 100000
set_option maxHeartbeats 16000000
open Go Go.RowKit
set_option linter.unusedSimpArgs false
def Told.Ok {α : Type} (good : α → Prop) (n : Nat) (o : Told α) : Prop := ∀ x j, o = .done x j → good x ∧ j ≤ n
theorem Told.Ok.done {α : Type} {good : α → Prop} {n : Nat} {x : α} {j : Nat} (h : good x) (hj : j ≤ n) : Told.Ok good n (.done x j) := fun _ _ e => by cases e; exact ⟨h, hj⟩
theorem Told.Ok.need {α : Type} {good : α → Prop} {n : Nat} {q : Ned} : Told.Ok good n (.need q) := fun _ _ e => by cases e
theorem Told.Ok.bind {α β : Type} {g1 : α → Prop} {g2 : β → Prop} {n : Nat} {m : Told α} {f : α → Nat → Told β} (h : m.Ok g1 n) (hf : ∀ x j, g1 x → j ≤ n → (f x j).Ok g2 n) : (m.bind f).Ok g2 n := by
  cases m with
  | done x i => obtain ⟨h1, h2⟩ := h x i rfl; exact hf x i h1 h2
  | need q => exact .need
theorem Told.Ok.cond {α : Type} {good : α → Prop} {n : Nat} {c : Bool} {x y : Told α} (hx : x.Ok good n) (hy : y.Ok good n) : Told.Ok good n (bif c then x else y) := by cases c <;> assumption
/-- What function f does, told by a log from place i on: its answer, or what it asks next. -/
def FnG {α : Type} (f : FuncId) (args : List AV) (BK : List Blk) (res : α → AV) (good : α → Prop) (L : List zO) (i : Nat) (o : Told α) : Prop :=
  i ≤ L.length → match o with
  | .done x j => good x ∧ j ≤ L.length ∧ FnE Tryz.prog f args (atB i :: xM L :: BK) (.ret (res x)) (atB j :: xM L :: BK)
  | .need q => FnE Tryz.prog f args (atB i :: xM L :: BK) (.pan (needA (xP q.kind q.cell q.a q.b q.d))) (atB L.length :: xM L :: BK)
theorem zM.told {α : Type} {o : Oper} {S : AS} {K : Exit → AS → Prop} {n d : Nat} {f : FuncId} {avs xs : List AV} {BK : List Blk} {res : α → AV} {good : α → Prop} {L : List zO} {i : Nat} {m : Told α} {N : AS → Prop} (ids : List Nat) (hd : o.dst = some d) (hn : d < n) (he : Enters Tryz.prog o S f avs)
    (hx : avs = xs.map (AV.ren (sig ids))) (hh : Hands S ids (atB i :: xM L :: BK)) (hBK : BK.all (Blk.okE (BK.length + 2)) = true) (hxs : xs.all (AV.okE (BK.length + 2)) = true) (hrx : ∀ x, (res x).okE (BK.length + 2) = true) (hi : i ≤ L.length)
    (hf : FnG f xs BK res good L i m) (hr : ∀ x j, m = .done x j → good x → j ≤ L.length → N ((S.after ids (atB j :: xM L :: BK)).put d ((res x).ren (sig ids))))
    (hp : ∀ q, m = .need q → K (.panic []) { S.after ids (atB L.length :: xM L :: BK) with x := needA (xP q.kind q.cell q.a q.b q.d) }) : zM Tryz.prog n o S K N := by
  cases m with
  | done x j =>
    obtain ⟨h1, h2, h3⟩ := hf hi
    exact zM.xA ids h3 hd hn he hx hh rfl hBK hxs (hrx x) (hr x j rfl h1 h2)
  | need q => exact zM.ePan ids (hf hi) he hx hh rfl hBK hxs rfl (hp q rfl)
/-- how its body ends -/
inductive EndG {α : Type} (fn : Func) (res : α → AV) (BK : List Blk) (L : List zO) (m : Told α) : Exit → AS → Prop
  | pan {S : AS} {q : Ned} (h : m = .need q) (hx : S.x = needA (xP q.kind q.cell q.a q.b q.d)) (hB : hasL S 1000 (atB L.length :: xM L :: BK)) : EndG fn res BK L m (.panic []) S
  | ret {e : Exit} {S : AS} {x : α} {j : Nat} (he : e = .ret ∨ e = .normal) (hg : GivesA Tryz.prog fn S (res x)) (hB : hasL S 1000 (atB j :: xM L :: BK)) (h : m = .done x j) : EndG fn res BK L m e S
theorem fn_ofG {α : Type} {n : Nat} {f : FuncId} {fn : Func} {c : Code} {args : List AV} {BK : List Blk} {res : α → AV} {good : α → Prop} {L : List zO} {i : Nat} {m : Told α} (hf : Tryz.prog.funcs[f]? = some fn) (hb : fn.body = some c) (hn : fn.ntmps = n) (hle : args.length ≤ n) (h1000 : n ≤ 1000)
    (hok : i ≤ L.length → m.Ok good L.length) (h : i ≤ L.length → zX Tryz.prog n c { t := zipA 0 args, s := numB 1000 (atB i :: xM L :: BK) } (EndG fn res BK L m)) : FnG f args BK res good L i m := by
  intro hi
  cases m with
  | done x j =>
    obtain ⟨h1, h2⟩ := hok hi x j rfl
    refine ⟨h1, h2, yS hf hb hn hle h1000 ((h hi).mono fun e S he => ?_)⟩
    cases he with
    | pan h => cases h
    | ret he hg hB h => cases h; exact ⟨he, _, Sub.refl _, hg, yV hB⟩
  | need q =>
    refine yS hf hb hn hle h1000 ((h hi).mono fun e S he => ?_)
    cases he with
    | pan h hx hB => cases h; exact ⟨rfl, hx, yV hB⟩
    | ret he hg hB h => cases h
theorem U.lo {x : Int} (h : U x) : 0 ≤ x := h.1
theorem U.hi {x : Int} (h : U x) : x < 18446744073709551616 := h.2
/-! ### The accesses -/
def vM (L : List zO) (i : Nat) (q : Ned) : Told Int := match L[i]? with
  | some r => .done r.n (i + 1)
  | none => .need q
def yes {α : Type} (_ : α) : Prop := True
theorem wN {L : List zO} {i : Nat} (hi : i ≤ L.length) (h : L[i]? = none) : i = L.length := by
  have := List.getElem?_eq_none_iff.1 h
  omega
theorem askN_ok {L : List zO} (hL : yC L) (i : Nat) (q : Ned) : (vM L i q).Ok U L.length := by
  unfold vM
  cases e : L[i]? with
  | some r => exact .done (hL.at e) (List.getElem?_eq_some_iff.1 e).1
  | none => exact .need
theorem bind_ok {α : Type} {L : List zO} (hL : yC L) {i : Nat} {q : Ned} {f : Int → Nat → Told α} {good : α → Prop} (h : ∀ n j, U n → j ≤ L.length → (f n j).Ok good L.length) : ((vM L i q).bind f).Ok good L.length := (askN_ok hL i q).bind h
theorem load_g (L : List zO) (hL : yC L) (c : Int) (i : Nat) : FnG 37 [doA, .p (.val (.int .i64 c))] [] (fun x => .p (.val (.int .u64 x))) U L i (vM L i (xB 0 c 0 0 yD)) := fun hi => by
  unfold vM
  cases e : L[i]? with
  | some r => exact ⟨hL.at e, (List.getElem?_eq_some_iff.1 e).1, load_ret L i r e hL.1 c⟩
  | none => obtain rfl := wN hi e; exact load_pan L hL.1 c
theorem store_g (L : List zO) (hL : yC L) (c v : Int) (i : Nat) : FnG 35 [doA, .p (.val (.int .i64 c)), .p (.val (.int .u64 v))] [] (fun _ => .any) U L i (vM L i (xB 1 c v 0 yD)) := fun hi => by
  unfold vM
  cases e : L[i]? with
  | some r => exact ⟨hL.at e, (List.getElem?_eq_some_iff.1 e).1, store_ret L i r e hL.1 c v⟩
  | none => obtain rfl := wN hi e; exact store_pan L hL.1 c v
theorem add_g (L : List zO) (hL : yC L) (c v : Int) (i : Nat) : FnG 33 [doA, .p (.val (.int .i64 c)), .p (.val (.int .u64 v))] [] (fun x => .p (.val (.int .u64 x))) U L i (vM L i (xB 3 c v 0 yD)) := fun hi => by
  unfold vM
  cases e : L[i]? with
  | some r => exact ⟨hL.at e, (List.getElem?_eq_some_iff.1 e).1, add_ret L i r e hL.1 c v⟩
  | none => obtain rfl := wN hi e; exact add_pan L hL.1 c v
theorem flagD_g (L : List zO) (hL : yC L) (t r : Int) (h : Rec t r) (i : Nat) : FnG 40 [doA, .p (.val (.int .i64 t)), .p (.val (.int .i64 r))] [] (fun x => .p (.val (.int .u64 x))) U L i (vM L i (xB 0 (yX t r 2) 0 0 yD)) := fun hi => by
  unfold vM
  cases e : L[i]? with
  | some r' => exact ⟨hL.at e, (List.getElem?_eq_some_iff.1 e).1, vY L i r' e hL t r h⟩
  | none => obtain rfl := wN hi e; exact flagD_pan L hL t r h
theorem ld_g (L : List zO) (hL : yC L) (t r f : Int) (h : Rec t r) (hf : 0 ≤ f ∧ f ≤ 7) (i : Nat) : FnG 64 [.p (.val (.int .i64 f)), .ptr 1002 0, .ptr 1003 0, .ptr 1004 0] [doB, xG t, xG r] (fun x => .p (.val (.int .u64 x))) U L i (vM L i (xB 0 (yX t r f) 0 0 yD)) := fun hi => by
  unfold vM
  cases e : L[i]? with
  | some r' => exact ⟨hL.at e, (List.getElem?_eq_some_iff.1 e).1, ld_ret L i r' e hL t r f h hf⟩
  | none => obtain rfl := wN hi e; exact ld_pan L hL t r f h hf
/-! ### The loops that are done -/
theorem setL_le {over : Int → Bool} {c bit : Int} : ∀ {n : Nat} {l : List zO} {i : Nat} {N : Nat}, l.length ≤ n → i + l.length ≤ N → (xU over c bit l i).Ok yes N
  | _, [], i, N, _, h => by unfold xU; exact .need
  | _, [r], i, N, _, h => by
    unfold xU
    split
    · exact .done trivial (by simpa using h)
    · exact .need
  | 0, _ :: _ :: _, _, _, h, _ => by simp at h
  | n + 1, r :: r2 :: l2, i, N, hn, h => by
    simp only [List.length_cons] at h hn
    unfold xU
    split
    · exact .done trivial (by omega)
    · split
      · exact .done trivial (by omega)
      · exact setL_le (n := n) (by omega) (by omega)
theorem setL_ok (over : Int → Bool) (c bit : Int) (L : List zO) (i : Nat) (hi : i ≤ L.length) : (xU over c bit (L.drop i) i).Ok yes L.length := setL_le (Nat.le_refl _) (by simp; omega)
theorem set2_g (L : List zO) (hL : yC L) (t r b : Int) (h : Rec t r) (hb : b = 1 ∨ b = 2) (k s y u v x : Int) (i : Nat) :
    FnG 42 [doA, .p (.val (.int .i64 t)), .p (.val (.int .i64 r)), .p (.val (.int .i64 b)), .clo 67 [1002, 1003]] [entB k s y u v x, xG b] (fun _ => .any) yes L i (xU (over2 s b) (yX t r 2) b (L.drop i) i) := fun hi => by
  have c := set2_fn L hL t r b h hb k s y u v x i hi
  have ho := setL_ok (over2 s b) (yX t r 2) b L i hi
  cases e : xU (over2 s b) (yX t r 2) b (L.drop i) i with
  | done z j => rw [e] at c; exact ⟨trivial, (ho z j e).2, c⟩
  | need q => rw [e] at c; exact c
theorem setOp_g (L : List zO) (hL : yC L) (t r b : Int) (h : Rec t r) (hb : b = 1 ∨ b = 2) (i : Nat) :
    FnG 18 [doA, .p (.val (.int .i64 t)), .p (.val (.int .i64 r)), .p (.val (.int .i64 b))] [] (fun _ => .any) yes L i (xU (ov1 b) (yX t r 2) b (L.drop i) i) := fun hi => by
  have c := setOp_fn L hL t r b h hb i hi
  have ho := setL_ok (ov1 b) (yX t r 2) b L i hi
  cases e : xU (ov1 b) (yX t r 2) b (L.drop i) i with
  | done z j => rw [e] at c; exact ⟨trivial, (ho z j e).2, c⟩
  | need q => rw [e] at c; exact c
theorem diskL_le : ∀ {qs : List Ned} {l : List zO} {i n : Nat}, i + l.length ≤ n → (vD qs l i).Ok yes n
  | [], _, i, n, hn => by rw [vD]; exact .done trivial (by omega)
  | q :: _, [], i, n, hn => by rw [vD]; exact .need
  | q :: qs, r :: l, i, n, hn => by
    simp only [List.length_cons] at hn
    rw [vD]
    split
    · exact .done trivial (by omega)
    · exact diskL_le (by omega)
def disk2 (bs : List Int) (L : List zO) (i : Nat) : Told Bool := vD [xB 5 0 0 0 (.sl (byts bs)), xB 6 0 0 0 yD] (L.drop i) i
theorem disk2_ok (bs : List Int) (L : List zO) (i : Nat) (hi : i ≤ L.length) : (disk2 bs L i).Ok yes L.length := diskL_le (by simp; omega)
theorem disk2_g (L : List zO) (hL : yC L) (bs : List Int) (i : Nat) :
    FnG 65 [doA, .p (.sl [xP 5 0 0 0 (.sl (byts bs)), xP 6 0 0 0 yD])] [] (fun b => .p (.val (.bool b))) yes L i (disk2 bs L i) := fun hi => by
  have c : FnT 65 [doA, .p (.sl [xP 5 0 0 0 (.sl (byts bs)), xP 6 0 0 0 yD])] [] (fun b => .p (.val (.bool b))) L i (disk2 bs L i) := disk_fn L hL [xB 5 0 0 0 (.sl (byts bs)), xB 6 0 0 0 yD] (Nat.le_of_ble_eq_true rfl) i hi
  have ho := disk2_ok bs L i hi
  cases e : disk2 bs L i with
  | done z j => rw [e] at c; exact ⟨trivial, (ho z j e).2, c⟩
  | need q => rw [e] at c; exact c
end Go.Proofs.YtlfkofkdigmnpaaGreatDoor
/- What a flag hasn't is made durable, and an operation's saves: the program's, over a log: contracts. -/
namespace Go.Proofs.YtlfkofkdigmnpaaGreatDoor
set_option maxRecDepth 100000
set_option maxHeartbeats 16000000
open Go Go.RowKit
set_option linter.unusedSimpArgs false
attribute [local irreducible] zZ zX Step zG Sub zP zM Fn
def wrT (t r b : Int) (k s y u v x : Int) (L : List zO) (i : Nat) : Told Bool :=
  (disk2 (bytesE k s y u v x) L i).bind fun ok j => bif ok then (xU (over2 s b) (yX t r 2) b (L.drop j) j).bind fun _ j2 => .done true j2 else .done false j
def restT (t r b f : Int) (L : List zO) (i : Nat) : Told Bool :=
  bif hasF f b then .done true i else bif decide (b = 1) then
    (vM L i (xB 0 (yX t r 1) 0 0 yD)).bind fun n1 i1 => (vM L i1 (xB 0 (yX t r 4) 0 0 yD)).bind fun n2 i2 => (vM L i2 (xB 0 (yX t r 5) 0 0 yD)).bind fun n3 i3 => (vM L i3 (xB 0 (yX t r 6) 0 0 yD)).bind fun n4 i4 => wrT t r b 1 (f / 4) n1 n2 n3 n4 L i4
  else wrT t r b 2 (f / 4) 0 0 0 0 L i
theorem wrT_ok (t r b k s y u v x : Int) (L : List zO) (i : Nat) (hi : i ≤ L.length) : (wrT t r b k s y u v x L i).Ok yes L.length :=
  (disk2_ok _ L i hi).bind fun _ j _ hj => .cond ((setL_ok _ _ _ L j hj).bind fun _ _ _ hj2 => .done trivial hj2) (.done trivial hj)
theorem restT_ok (t r b f : Int) {L : List zO} (hL : yC L) (i : Nat) (hi : i ≤ L.length) : (restT t r b f L i).Ok yes L.length :=
  .cond (.done trivial hi) (.cond (bind_ok hL fun _ _ _ _ => bind_ok hL fun _ _ _ _ => bind_ok hL fun _ _ _ _ => bind_ok hL fun _ j _ hj => wrT_ok _ _ _ _ _ _ _ _ _ L j hj) (wrT_ok _ _ _ _ _ _ _ _ _ L i hi))
theorem rest_g (L : List zO) (hL : yC L) (t r b f : Int) (hR : Rec t r) (hb : b = 1 ∨ b = 2) (hf : U f) (i : Nat) :
    FnG 45 [doA, .p (.val (.int .i64 t)), .p (.val (.int .i64 r)), .p (.val (.int .i64 b)), .p (.val (.int .u64 f))] [] (fun x => .p (.val (.bool x))) yes L i (restT t r b f L i) := by
  have ch := has_fn f b hf.1 hf.2
  have cs0 := wstamp_fn f
  have hs : U (f / 4) := ⟨by have := hf.1; omega, by have := hf.2; omega⟩
  have z : U 0 := by unfold U; decide
  refine fn_ofG Tryz.func45 rfl Tryz.ntmps45 (Nat.le_of_ble_eq_true rfl) (by decide) (restT_ok t r b f hL i) fun hi => ?_
  cases hh : hasF f b <;> rw [hh] at ch
  case true =>
    repeat' (first | (refine zX.is ?_; first | refine zX.seq ?_ | (refine zX.isR (id := 0) ?_; refine zX.zV [0, 1, 2, 3, 4] [5, 6, 7, 8, 11, 40, 1000, 1001] (by repeat' first | exact zY.nil | apply zY.p rfl | apply zY.clo rfl) (by repeat' first | exact zW.nil | apply zW.boxP rfl rfl | apply zW.skip) ?_; (refine zZ.m rfl rfl (w_boxC rfl rfl rfl (by decide)) ?_); (refine zZ.m rfl rfl (w_boxV rfl rfl rfl rfl (by decide)) ?_); (refine zZ.m rfl rfl (w_boxV rfl rfl rfl rfl (by decide)) ?_); (refine zZ.m rfl rfl (w_boxV rfl rfl rfl rfl (by decide)) ?_); (refine zZ.v rfl rfl (zK rfl rfl rfl (by decide)) ?_); refine zZ.nil ?_) | (refine zX.isR (id := 1) ?_; refine zX.zV [4, 5, 6, 7, 8, 10] [5, 6, 7, 8, 11, 40, 1000, 1001] (by repeat' first | exact zY.nil | apply zY.p rfl | apply zY.ptr rfl) (by repeat' first | exact zW.nil | apply zW.boxP rfl rfl | apply zW.some rfl | apply zW.skip) ?_; (refine zZ.v rfl rfl (zQ rfl rfl rfl (by decide)) ?_); (refine zZ.v rfl rfl (zA rfl rfl rfl rfl rfl (by decide)) ?_); (refine zZ.v rfl rfl (by exact zL (ch) rfl rfl rfl (by decide)) ?_); refine zZ.nil ?_) | (refine zX.isR (id := 2) ?_; refine zX.zV [4, 5, 6, 7, 8, 10] [5, 6, 7, 8, 11, 40, 1000, 1001] (by repeat' first | exact zY.nil | apply zY.p rfl | apply zY.ptr rfl) (by repeat' first | exact zW.nil | apply zW.boxP rfl rfl | apply zW.some rfl | apply zW.skip) ?_; (refine zZ.v rfl rfl (zK rfl rfl rfl (by decide)) ?_); refine zZ.nil ?_) | refine zX.yE rfl (by first | assumption | with_reducible rfl) ?_ | refine zX.ret ?_) | refine yJ.r ?_)
    all_goals exact .ret (by exact .inl rfl) (.one rfl rfl) (by repeat' first | exact trivial | rfl | constructor) (by simp only [restT, cond_true, *])
  case false =>
    repeat' (first | (refine zX.is ?_; first | refine zX.seq ?_ | (refine zX.isR (id := 0) ?_; refine zX.zV [0, 1, 2, 3, 4] [5, 6, 7, 8, 11, 40, 1000, 1001] (by repeat' first | exact zY.nil | apply zY.p rfl | apply zY.clo rfl) (by repeat' first | exact zW.nil | apply zW.boxP rfl rfl | apply zW.skip) ?_; (refine zZ.m rfl rfl (w_boxC rfl rfl rfl (by decide)) ?_); (refine zZ.m rfl rfl (w_boxV rfl rfl rfl rfl (by decide)) ?_); (refine zZ.m rfl rfl (w_boxV rfl rfl rfl rfl (by decide)) ?_); (refine zZ.m rfl rfl (w_boxV rfl rfl rfl rfl (by decide)) ?_); (refine zZ.v rfl rfl (zK rfl rfl rfl (by decide)) ?_); refine zZ.nil ?_) | (refine zX.isR (id := 1) ?_; refine zX.zV [4, 5, 6, 7, 8, 10] [5, 6, 7, 8, 11, 40, 1000, 1001] (by repeat' first | exact zY.nil | apply zY.p rfl | apply zY.ptr rfl) (by repeat' first | exact zW.nil | apply zW.boxP rfl rfl | apply zW.some rfl | apply zW.skip) ?_; (refine zZ.v rfl rfl (zQ rfl rfl rfl (by decide)) ?_); (refine zZ.v rfl rfl (zA rfl rfl rfl rfl rfl (by decide)) ?_); (refine zZ.v rfl rfl (by exact zL (ch) rfl rfl rfl (by decide)) ?_); refine zZ.nil ?_) | (refine zX.isR (id := 3) ?_; refine zX.zV [4, 5, 6, 7, 8, 10] [5, 6, 7, 8, 11, 40, 1000, 1001] (by repeat' first | exact zY.nil | apply zY.p rfl | apply zY.ptr rfl) (by repeat' first | exact zW.nil | apply zW.boxP rfl rfl | apply zW.some rfl | apply zW.skip) ?_; (refine zZ.v rfl rfl (zQ rfl rfl rfl (by decide)) ?_); (refine zZ.v rfl rfl (by exact zL (cs0) rfl rfl rfl (by decide)) ?_); (refine zZ.v rfl rfl (zS rfl (by rfl) (by rfl) (by rfl) (by rfl) rfl (by decide)) ?_); (refine zZ.m rfl rfl (zC rfl (by decide) rfl (by decide)) ?_); (refine zZ.w rfl (by exact zB rfl rfl rfl rfl rfl (by rfl) (by exact Nat.le_of_ble_eq_true rfl) rfl rfl) ?_); refine zZ.nil ?_) | (refine zX.isR (id := 4) ?_; refine zX.zV [5, 6, 7, 8, 10, 11] [5, 6, 7, 8, 11, 40, 1000, 1001] (by repeat' first | exact zY.nil | apply zY.p rfl | apply zY.ptr rfl) (by repeat' first | exact zW.nil | apply zW.boxP rfl rfl | apply zW.some rfl | apply zW.skip) ?_; (refine zZ.v rfl rfl (zA rfl rfl rfl rfl rfl (by decide)) ?_); (refine zZ.v rfl rfl (yQ rfl rfl rfl (by rfl) rfl (by decide)) ?_); refine zZ.nil ?_) | (refine zX.isR (id := 5) ?_; refine zX.zV [5, 6, 7, 8, 10, 11] [5, 6, 7, 8, 11, 40, 1000, 1001] (by repeat' first | exact zY.nil | apply zY.p rfl | apply zY.ptr rfl) (by repeat' first | exact zW.nil | apply zW.boxP rfl rfl | apply zW.some rfl | apply zW.skip) ?_; (refine zZ.v rfl rfl (vJ rfl (by rfl) rfl (by decide)) ?_); (refine zZ.v rfl rfl (a_assignC rfl rfl rfl (by decide)) ?_); refine zZ.nil ?_) | (refine zX.isR (id := 6) ?_; refine zX.zV [5, 6, 7, 8, 10, 11, 12] [5, 6, 7, 8, 11, 40, 1000, 1001] (by repeat' first | exact zY.nil | apply zY.p rfl | apply zY.ptr rfl | apply zY.clo rfl) (by repeat' first | exact zW.nil | apply zW.boxP rfl rfl | apply zW.some rfl | apply zW.skip) ?_; (refine zZ.v rfl rfl (zJ rfl rfl rfl (by decide)) ?_); (refine zZ.w rfl (by exact zB rfl rfl rfl rfl rfl (by rfl) (by exact Nat.le_of_ble_eq_true rfl) rfl rfl) ?_); refine zZ.nil ?_) | (refine zX.isR (id := 7) ?_; refine zX.zV [5, 6, 7, 8, 10, 11, 12] [5, 6, 7, 8, 11, 40, 1000, 1001] (by repeat' first | exact zY.nil | apply zY.p rfl | apply zY.ptr rfl | apply zY.clo rfl) (by repeat' first | exact zW.nil | apply zW.boxP rfl rfl | apply zW.some rfl | apply zW.skip) ?_; (refine zZ.v rfl rfl (zU rfl rfl rfl (by decide)) ?_); (refine zZ.ofT rfl (zM.told [1000, 1001, 5, 6, 7] rfl (by decide) (yF rfl rfl) (by rfl) (zD (by decide) rfl (by repeat' first | exact trivial | rfl | constructor)) rfl rfl (fun _ => rfl) (by assumption) (ld_g L hL t r _ hR (by decide) _) (fun x j e g hj => ?_) (fun q e => ?_))); (refine zZ.v rfl rfl (zJ rfl rfl rfl (by decide)) ?_); (refine zZ.w rfl (by exact zB rfl rfl rfl rfl rfl (by rfl) (by exact Nat.le_of_ble_eq_true rfl) rfl rfl) ?_); refine zZ.nil ?_) | (refine zX.isR (id := 8) ?_; refine zX.zV [5, 6, 7, 8, 10, 11, 12] [5, 6, 7, 8, 11, 40, 1000, 1001] (by repeat' first | exact zY.nil | apply zY.p rfl | apply zY.ptr rfl | apply zY.clo rfl) (by repeat' first | exact zW.nil | apply zW.boxP rfl rfl | apply zW.some rfl | apply zW.skip) ?_; (refine zZ.v rfl rfl (zU rfl rfl rfl (by decide)) ?_); (refine zZ.ofT rfl (zM.told [1000, 1001, 5, 6, 7] rfl (by decide) (yF rfl rfl) (by rfl) (zD (by decide) rfl (by repeat' first | exact trivial | rfl | constructor)) rfl rfl (fun _ => rfl) (by assumption) (ld_g L hL t r _ hR (by decide) _) (fun x j e g hj => ?_) (fun q e => ?_))); (refine zZ.v rfl rfl (zJ rfl rfl rfl (by decide)) ?_); (refine zZ.w rfl (by exact zB rfl rfl rfl rfl rfl (by rfl) (by exact Nat.le_of_ble_eq_true rfl) rfl rfl) ?_); refine zZ.nil ?_) | (refine zX.isR (id := 9) ?_; refine zX.zV [5, 6, 7, 8, 10, 11, 12] [5, 6, 7, 8, 11, 40, 1000, 1001] (by repeat' first | exact zY.nil | apply zY.p rfl | apply zY.ptr rfl | apply zY.clo rfl) (by repeat' first | exact zW.nil | apply zW.boxP rfl rfl | apply zW.some rfl | apply zW.skip) ?_; (refine zZ.v rfl rfl (zU rfl rfl rfl (by decide)) ?_); (refine zZ.ofT rfl (zM.told [1000, 1001, 5, 6, 7] rfl (by decide) (yF rfl rfl) (by rfl) (zD (by decide) rfl (by repeat' first | exact trivial | rfl | constructor)) rfl rfl (fun _ => rfl) (by assumption) (ld_g L hL t r _ hR (by decide) _) (fun x j e g hj => ?_) (fun q e => ?_))); (refine zZ.v rfl rfl (zJ rfl rfl rfl (by decide)) ?_); (refine zZ.w rfl (by exact zB rfl rfl rfl rfl rfl (by rfl) (by exact Nat.le_of_ble_eq_true rfl) rfl rfl) ?_); refine zZ.nil ?_) | (refine zX.isR (id := 10) ?_; refine zX.zV [5, 6, 7, 8, 10, 11, 12] [5, 6, 7, 8, 11, 40, 1000, 1001] (by repeat' first | exact zY.nil | apply zY.p rfl | apply zY.ptr rfl | apply zY.clo rfl) (by repeat' first | exact zW.nil | apply zW.boxP rfl rfl | apply zW.some rfl | apply zW.skip) ?_; (refine zZ.v rfl rfl (zU rfl rfl rfl (by decide)) ?_); (refine zZ.ofT rfl (zM.told [1000, 1001, 5, 6, 7] rfl (by decide) (yF rfl rfl) (by rfl) (zD (by decide) rfl (by repeat' first | exact trivial | rfl | constructor)) rfl rfl (fun _ => rfl) (by assumption) (ld_g L hL t r _ hR (by decide) _) (fun x j e g hj => ?_) (fun q e => ?_))); (refine zZ.v rfl rfl (zJ rfl rfl rfl (by decide)) ?_); (refine zZ.w rfl (by exact zB rfl rfl rfl rfl rfl (by rfl) (by exact Nat.le_of_ble_eq_true rfl) rfl rfl) ?_); refine zZ.nil ?_) | (refine zX.isR (id := 11) ?_; refine zX.yA [5, 6, 7, 8, 10, 11] [5, 6, 7, 8, 11, 40, 1000, 1001] (by repeat' first | exact zY.nil | apply zY.p rfl | apply zY.ptr rfl) (by repeat' first | exact zW.nil | apply zW.boxP rfl rfl | apply zW.some rfl | apply zW.skip) (zX.draws ?_); all_goals (refine Draws.v rfl rfl (w_loadC rfl rfl rfl rfl rfl (by decide)) ?_); all_goals (refine Draws.v rfl rfl (zI rfl rfl rfl (by rfl) (by rfl) rfl (by decide)) ?_); all_goals (refine Draws.v rfl rfl (by exact zL (bytes_fn _ _ _ _ _ _ (by assumption) (by assumption) (by assumption) (by assumption) (by assumption)) rfl rfl rfl (by decide)) ?_); all_goals (refine Draws.v rfl rfl (zS rfl (by rfl) (by rfl) (by rfl) (by rfl) rfl (by decide)) ?_); all_goals (refine Draws.v rfl rfl (zS rfl (by rfl) (by rfl) (by rfl) (by rfl) rfl (by decide)) ?_); all_goals (refine Draws.v rfl rfl (w_buildSl rfl (by decide) (by decide) (by decide) (by decide) (by rfl) (by rfl) (by rfl) (by rfl) (by rfl) (by rfl) (by rfl) rfl (by decide)) ?_); all_goals ((refine Draws.done (by kernel_rfl) (by kernel_rfl) (by kernel_rfl) ?_; refine zP.ofT rfl (zM.told [1000, 1001] rfl (by decide) (zH rfl) (by rfl) (zD (by decide) rfl (by repeat' first | exact trivial | rfl | constructor)) rfl rfl (fun _ => rfl) (by assumption) (disk2_g L hL _ _) (fun x j e g hj => ?_) (fun q e => ?_)))); all_goals (first | refine zP.v rfl rfl (xL rfl rfl (by rfl) rfl (by decide)) ?_ | skip); all_goals (first | refine zP.nil ?_ | skip)) | (refine zX.isR (id := 12) ?_; refine zX.zV [5, 6, 7, 8, 10, 11] [5, 6, 7, 8, 11, 40, 1000, 1001] (by repeat' first | exact zY.nil | apply zY.p rfl | apply zY.ptr rfl) (by repeat' first | exact zW.nil | apply zW.boxP rfl rfl | apply zW.some rfl | apply zW.skip) ?_; (refine zZ.v rfl rfl (zK rfl rfl rfl (by decide)) ?_); refine zZ.nil ?_) | (refine zX.isR (id := 13) ?_; refine zX.zV [5, 6, 7, 8, 10, 11] [5, 6, 7, 8, 11, 40, 1000, 1001] (by repeat' first | exact zY.nil | apply zY.p rfl | apply zY.ptr rfl) (by repeat' first | exact zW.nil | apply zW.boxP rfl rfl | apply zW.some rfl | apply zW.skip) ?_; (refine zZ.v rfl rfl (w_loadC rfl rfl rfl rfl rfl (by decide)) ?_); (refine zZ.v rfl rfl (zA rfl rfl rfl rfl rfl (by decide)) ?_); (refine zZ.v rfl rfl (zA rfl rfl rfl rfl rfl (by decide)) ?_); (refine zZ.v rfl rfl (zA rfl rfl rfl rfl rfl (by decide)) ?_); (refine zZ.v rfl rfl (vJ rfl (by rfl) rfl (by decide)) ?_); (refine zZ.ofT rfl (zM.told [1000, 1001, 11, 8] rfl (by decide) (zH rfl) (by rfl) (zD (by decide) rfl (by repeat' first | exact trivial | rfl | constructor)) rfl rfl (fun _ => rfl) (by assumption) (set2_g L hL t r b hR hb _ _ _ _ _ _ _) (fun x j e g hj => ?_) (fun q e => ?_))); refine zZ.nil ?_) | (refine zX.isR (id := 14) ?_; refine zX.zV [10] [5, 6, 7, 8, 11, 40, 1000, 1001] (by repeat' first | exact zY.nil | apply zY.p rfl) (by repeat' first | exact zW.nil | apply zW.boxP rfl rfl | apply zW.some rfl | apply zW.skip) ?_; (refine zZ.v rfl rfl (zK rfl rfl rfl (by decide)) ?_); refine zZ.nil ?_) | refine zX.yG rfl (by first | assumption | with_reducible rfl) ?_ | refine zX.cond rfl (fun h => ?_) (fun h => ?_) | refine zX.skip ?_ | refine zX.ret ?_) | refine yJ.r ?_)
    all_goals try simp only [Bool.not_eq_true', Bool.not_eq_false'] at *
    all_goals first
      | exact .pan (q := q) (by simp only [restT, wrT, Told.bind, cond_true, cond_false, *]) rfl (by repeat' first | exact trivial | rfl | constructor)
      | exact .ret (by exact .inl rfl) (.one rfl rfl) (by repeat' first | exact trivial | rfl | constructor) (by simp only [restT, wrT, Told.bind, cond_true, cond_false, *])
end Go.Proofs.YtlfkofkdigmnpaaGreatDoor
