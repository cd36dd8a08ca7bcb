/- eight and number, as contracts over abstract frames. -/
import Derived.Test.YtjokcnajopfjhaaFMay
import Derived.Test.YtjokcnajopfjhaaEight
namespace Go.Proofs.Ytjokcnajopfjhaa
open Go Go.RowKit

theorem rep_owned {M : Nat → Prop} {w w' : World} {e : Nat} {v : Value} {k : Nat} {bs : List Int} (hM : ∀ k, M k → k < w.heap.size) (h : w'.ownsRow w.heap.size e 1 v k (bs.map (Value.int .u8))) : Rep M w' (.sl (byts bs)) v := by
  obtain ⟨hl, h⟩ := h
  have hk : bs.length = k := by simpa using hl
  rcases h with ⟨rfl, rfl⟩ | ⟨g, cap, cur, rfl, hg, hh, hn, hcm, hs, ht⟩
  · have : bs = [] := List.eq_nil_of_length_eq_zero hk
    subst this
    exact .nil
  · refine .sl (byts bs) g 0 k cap (bs.map (Value.int .u8)) (by rw [byts_len, hk]) (by rw [byts_flat, byts_len, List.length_map]) (fun j y hy => ?_) (fun j c y hc hy => ?_) (fun v hv => ?_) (fun hm => ?_) (Array.getElem?_eq_some_iff.1 hh).1 hn hcm
    · rw [Nat.zero_add, cell_of_row w' g j cur e (0, 0) hh]
      rw [← ht, List.getElem?_take] at hy
      split at hy
      · simpa using hy
      · cases hy
    · rw [byts_flat, byts, List.getElem?_map, Option.map_eq_some_iff] at hc
      obtain ⟨b, hb, rfl⟩ := hc
      rw [List.getElem?_map, hb] at hy
      obtain rfl := Option.some.inj hy
      exact .val _
    · obtain ⟨b, _, rfl⟩ := List.mem_map.1 hv
      rfl
    · have := hM g hm; omega

theorem eight_fn (n : Int) (h0 : 0 ≤ n) (h1 : n < 18446744073709551616) : Fn Try.prog 15 [.val (.int .u64 n)] (.p (.sl (byts (bytesOf 8 n)))) := by
  intro M w vs hM hl hr
  match vs, hl with
  | [v], _ =>
    have hv := rep_val (hr 0 _ v rfl rfl)
    subst hv
    refine (eight_any n w h0 h1).mono ?_
    rintro e w' ⟨v, rfl, hown, hb⟩
    exact ⟨v, rfl, rep_owned hM hown, hb⟩

/-- the number that stands at place p -/
def numAt (b : List Int) (p : Nat) : Int := numOf ((b.drop p).take 8)

theorem number_fn (b : List Int) (p : Nat) (hlen : p + 8 ≤ b.length) (h64 : b.length ≤ 9223372036854775807) (hb : ∀ x ∈ b, 0 ≤ x ∧ x < 256) : Fn Try.prog 16 [.sl (byts b), .val (.int .i64 p)] (.p (.val (.int .u64 (numAt b p)))) := by
  intro M w vs hM hl hr
  match vs, hl with
  | [v, u], _ =>
    have hu := rep_val (hr 1 _ u rfl rfl)
    subst hu
    have h1 := hr 0 _ v rfl rfl
    rcases rep_sl h1 with ⟨_, h⟩ | ⟨g, off, cap, ys, rfl, hl, hcell, _⟩
    · have : b = [] := by simpa [byts] using h
      subst this
      simp at hlen
    · rw [byts_flat] at hl
      have hys := rep_byts hl
      have h2 := number_any b g off b.length cap p w hlen rfl h64 hb (fun j hj => hcell j _ (by rw [hys, List.getElem?_map, List.getElem?_eq_getElem hj]; simp [List.getD, hj]))
      rw [byts_len]
      refine h2.mono ?_
      rintro e w' ⟨rfl, rfl⟩
      exact ⟨_, rfl, .val _, Below.refl _ _⟩

end Go.Proofs.Ytjokcnajopfjhaa
