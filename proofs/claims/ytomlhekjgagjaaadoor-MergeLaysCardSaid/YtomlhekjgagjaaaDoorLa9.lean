/- For every input MergeLays returns true, and leaves its arguments as they were. Conditions: none beyond the given statement. (Part 9 of 9.) -/
import Derived.Test.YtomlhekjgagjaaaDoorLa8
import Derived.ProofKit
import Derived.OpenShut
import Derived.Below
import Derived.LaidMore
import Derived.Deep.Fields
import Derived.Deep.Slices
import Derived.Test.YtomlhekjgagjaaaDoorRows
import Derived.LaidLaws
import Derived.ChangeSame
import Derived.ChangeVars
import Derived.JoinedOf
import Derived.Stop.Joined
import Derived.RowKitTokens
import Derived.Test.YtomlhekjgagjaaaDoorCards
import Derived.Test.YtomlhekjgagjaaaDoorTie
import Derived.SevenTiedAt
namespace Go.Proofs.YtomlhekjgagjaaaDoor
set_option maxRecDepth 100000
set_option maxHeartbeats 16000000
open Go Go.RowKit
theorem placeF_none : ∀ (L : List zQ) (i : Nat) (j : Int), (∀ e ∈ L, e.s ≠ j) → vD i L j = 0
  | [], _, _, _ => rfl
  | e :: r, i, j, h => by
    unfold vD
    rw [if_neg (h e (by simp)), placeF_none r (i + 1) j fun x hx => h x (by simp [hx])]
theorem placeF_at : ∀ (L : List zQ) (i k : Nat) (e : zQ), (L.map (·.s)).Nodup → L[k]? = some e → vD i L e.s = ((i + k + 1 : Nat) : Int)
  | [], i, k, e, _, h => by simp at h
  | x :: r, i, 0, e, hn, h => by
    obtain rfl : x = e := by simpa using h
    unfold vD
    rw [if_pos rfl]
  | x :: r, i, k + 1, e, hn, h => by
    have hn' := List.nodup_cons.1 (show (x.s :: r.map (·.s)).Nodup from hn)
    have h' : r[k]? = some e := by simpa using h
    unfold vD
    rw [if_neg (fun h2 => hn'.1 (by rw [h2]; exact List.mem_map.2 ⟨e, List.mem_of_getElem? h', rfl⟩)), placeF_at r (i + 1) k e hn'.2 h']
    congr 1
    omega
theorem placeF_new {L : List zQ} (hn : (L.map (·.s)).Nodup) (j : Int) : vD 0 L j = xR (xX L) j := by
  by_cases h : ∃ e ∈ L, e.s = j
  · obtain ⟨e, he, rfl⟩ := h
    obtain ⟨k, hk, rfl⟩ := List.mem_iff_getElem.1 he
    have h1 := List.getElem?_eq_getElem (l := L) hk
    rw [placeF_at L 0 k _ hn h1, stampsL_at hn h1]
    congr 1
    omega
  · rw [placeF_none L 0 j fun e he e2 => h ⟨e, he, e2⟩, stampsL_none fun e he e2 => h ⟨e, he, e2⟩]
theorem may_birth {e : zQ} (hm : e.may = true) (h1 : e.k = 1) : (0 < e.s) ∧ e.y / 2147483648 < 1073741824 ∧ e.y % 2147483648 ≤ 1073741824 ∧ (e.y % 2147483648 = 0 → e.u = 0 ∧ e.v = 0) ∧ (e.y % 2147483648 ≠ 0 → 0 < e.u ∧ 0 < e.v) := by
  unfold zQ.may vW qX rightB at hm
  rw [if_pos h1] at hm
  simp only [Bool.and_eq_true, decide_eq_true_eq] at hm
  obtain ⟨⟨h2, h3⟩, h4⟩ := hm
  refine ⟨h2.1, h3.1, h3.2, fun h => ?_, fun h => ?_⟩
  · rw [if_pos h] at h4
    exact of_decide_eq_true h4
  · rw [if_neg h, Bool.and_eq_true, decide_eq_true_eq, decide_eq_true_eq] at h4
    exact ⟨h4.1.1, h4.2.1⟩
structure RowE (L : List zQ) (e : zQ) : Prop where
  k : e.k = 1
  s : 0 < e.s
  u : e.y / 2147483648 < 1073741824
  v : e.y % 2147483648 ≤ 1073741824
  vert : e.y % 2147483648 = 0 → e.u = 0 ∧ e.v = 0
  edge : e.y % 2147483648 ≠ 0 → 0 < e.u ∧ 0 < e.v ∧ (∃ x ∈ L, x.s = e.u ∧ x.y = e.y / 2147483648 * 2147483648) ∧ ∃ x ∈ L, x.s = e.v ∧ x.y = (e.y % 2147483648 - 1) * 2147483648
theorem vert_at {L : List zQ} {j u : Int} (h : vertR L j u = true) (hk : isKey u = true) : ∃ x ∈ L, x.s = j ∧ x.y = u * 2147483648 := by
  unfold vertR at h
  rw [Bool.and_eq_true] at h
  obtain ⟨x, hx, _, h2, h3⟩ := (vfind_iff L j _).1 h.2
  refine ⟨x, hx, h2, ?_⟩
  rw [h3]
  unfold vkey
  rw [if_pos hk]
theorem row_of {L : List zQ} (hR : RowsOK L) (hok : ∀ e ∈ L, e.ok) {e : zQ} (he : e ∈ L) : RowE L e := by
  obtain ⟨hm, hl⟩ := hR.each e he
  have ho := (hok e he).y.1
  have hk : e.k = 1 := by
    unfold qC at hl
    rw [Bool.and_eq_true, Bool.and_eq_true, decide_eq_true_eq] at hl
    exact hl.1.1
  obtain ⟨h1, h2, h3, h4, h5⟩ := may_birth hm hk
  refine ⟨hk, h1, h2, h3, h4, fun h => ⟨(h5 h).1, (h5 h).2, ?_, ?_⟩⟩
  all_goals
    unfold qC at hl
    rw [Bool.and_eq_true, decide_eq_false (show ¬ e.y % 2147483648 - 1 < 0 by omega), Bool.false_or] at hl
    simp only [Bool.and_eq_true] at hl
  · exact vert_at hl.2.1 (isKey_yes (by omega) h2)
  · exact vert_at hl.2.2 (isKey_yes (by omega) (by omega))
theorem anew_ref {L : List zQ} (hR : RowsOK L) (hok : ∀ e ∈ L, e.ok) (i : Nat) (e : zQ) (he : L[i]? = some e) : (xV L)[i]? = some (aRef L i e) := by
  have hn := hR.once
  have hr := row_of hR hok (List.mem_of_getElem? he)
  have hz : xR (xX L) 0 = 0 := stampsL_none fun x hx e0 => by have := (row_of hR hok hx).s; omega
  rw [anewL_at hn he]
  unfold aRef
  rw [placeF_new hn, placeF_new hn]
  by_cases h : e.y % 2147483648 = 0
  · obtain ⟨h1, h2⟩ := hr.vert h
    rw [h1, h2, hz]
    first | rfl | simp
  · have h1 := (hr.edge h).1
    rw [if_pos h1, if_pos h1]
theorem hasG_of : ∀ (G : List xH) (u v : Int), (∃ a ∈ G, a.u = u ∧ a.v = v) → (hasG G u v).2 = true
  | [], _, _, h => by obtain ⟨a, ha, _⟩ := h; cases ha
  | a :: r, u, v, h => by
    unfold hasG
    by_cases hc : a.u = u ∧ a.v = v
    · rw [if_pos hc]
    · rw [if_neg hc]
      refine hasG_of r u v ?_
      obtain ⟨x, hx, h1⟩ := h
      rcases List.mem_cons.1 hx with rfl | hx
      · exact absurd h1 hc
      · exact ⟨x, hx, h1⟩
theorem graph_ok {L : List zQ} (hR : RowsOK L) (hok : ∀ e ∈ L, e.ok) : GOK (L.map xS) := by
  have hv : ∀ (u : Int), (∃ x ∈ L, x.y = u * 2147483648) → (hasG (L.map xS) u (-1)).2 = true := fun u ⟨x, hx, hy⟩ => by
    refine hasG_of _ _ _ ⟨xS x, List.mem_map.2 ⟨x, hx, rfl⟩, ?_, ?_⟩
    · show x.y / 2147483648 = u
      omega
    · show x.y % 2147483648 - 1 = -1
      omega
  refine ⟨fun i p a hp ha => ?_, fun a ha => ?_⟩
  · rw [List.getElem?_map, Option.map_eq_some_iff] at hp ha
    obtain ⟨x, hx, rfl⟩ := hp
    obtain ⟨z, hz, rfl⟩ := ha
    obtain ⟨h1, h2⟩ := List.getElem?_eq_some_iff.1 hx
    obtain ⟨h3, h4⟩ := List.getElem?_eq_some_iff.1 hz
    have := List.pairwise_iff_getElem.1 hR.sort i (i + 1) h1 h3 (by omega)
    rw [h2, h4] at this
    show ¬ x.y / 2147483648 > z.y / 2147483648 ∧ ¬ (x.y / 2147483648 = z.y / 2147483648 ∧ x.y % 2147483648 - 1 ≥ z.y % 2147483648 - 1)
    omega
  · obtain ⟨e, he, rfl⟩ := List.mem_map.1 ha
    have hr := row_of hR hok he
    have hy := (hok e he).y.1
    have hu := hr.u
    have hvv := hr.v
    have ku : isKey (xS e).u = true := isKey_yes (by show 0 ≤ e.y / 2147483648; omega) hr.u
    by_cases h : e.y % 2147483648 = 0
    · refine ⟨ku, hv _ ⟨e, he, by show e.y = e.y / 2147483648 * 2147483648; omega⟩, .inl ⟨by show e.y % 2147483648 - 1 = -1; omega, ?_⟩⟩
      show (if 0 ≤ e.y % 2147483648 - 1 then e.x else 0) = 0
      rw [if_neg (by omega)]
    · obtain ⟨_, _, ⟨x, hx, _, h1⟩, z, hz, _, h2⟩ := hr.edge h
      exact ⟨ku, hv _ ⟨x, hx, h1⟩, .inr ⟨by show e.y % 2147483648 - 1 ≠ -1; omega, isKey_yes (by show 0 ≤ e.y % 2147483648 - 1; omega) (by show e.y % 2147483648 - 1 < 1073741824; omega), hv _ ⟨z, hz, h2⟩⟩⟩
theorem no_deaths {P : List zQ} (h : ∀ e ∈ P, e.k = 1) (j : Int) : w9 P j = false := by
  cases hd : w9 P j
  · rfl
  · obtain ⟨x, hx, h2, _⟩ := (deadR_iff P j).1 hd
    have := h x hx
    omega
theorem rows_anew {L : List zQ} (hR : RowsOK L) (hok : ∀ e ∈ L, e.ok) (hl : L.length ≤ 1000000) : RowsOK (xV L) ∧ (∀ e ∈ xV L, e.k = 1) := by
  have hn := hR.once
  have hz : xR (xX L) 0 = 0 := stampsL_none fun x hx e0 => by have := (row_of hR hok hx).s; omega
  have hA : ∀ e' ∈ xV L, ∃ (k : Nat) (e : zQ), L[k]? = some e ∧ e' = ⟨e.k, ((k + 1 : Nat) : Int), e.y, xR (xX L) e.u, xR (xX L) e.v, e.x⟩ := fun e' he' => by
    obtain ⟨k, hk, rfl⟩ := List.mem_iff_getElem.1 he'
    have hkL : k < L.length := by rw [← anewL_len]; exact hk
    have h1 := anewL_at hn (List.getElem?_eq_getElem (l := L) hkL)
    rw [List.getElem?_eq_getElem hk] at h1
    exact ⟨k, _, List.getElem?_eq_getElem hkL, Option.some.inj h1⟩
  have hk1 : ∀ e ∈ xV L, e.k = 1 := fun e' he' => by
    obtain ⟨k, e, he, rfl⟩ := hA e' he'
    exact (row_of hR hok (List.mem_of_getElem? he)).k
  have hat : ∀ x ∈ L, ∃ k : Nat, xR (xX L) x.s = ((k + 1 : Nat) : Int) ∧ ∃ z ∈ xV L, z.k = 1 ∧ z.s = xR (xX L) x.s ∧ z.y = x.y := fun x hx => by
    obtain ⟨k, hk, rfl⟩ := List.mem_iff_getElem.1 hx
    have h1 := List.getElem?_eq_getElem (l := L) hk
    have h2 := anewL_at hn h1
    have h3 := List.mem_of_getElem? h2
    exact ⟨k, stampsL_at hn h1, _, h3, hk1 _ h3, (stampsL_at hn h1).symm, rfl⟩
  have hvert : ∀ (j u : Int), isKey u = true → (∃ x ∈ L, x.s = j ∧ x.y = u * 2147483648) → vertR (xV L) (xR (xX L) j) u = true ∧ 0 < xR (xX L) j ∧ xR (xX L) j ≤ 1000001 := fun j u hk ⟨x, hx, hs, hy⟩ => by
    subst hs
    obtain ⟨k, h1, z, hz1, hz2, hz3, hz4⟩ := hat x hx
    refine ⟨?_, by omega, ?_⟩
    · unfold vertR
      rw [no_deaths hk1, (vfind_iff _ _ _).2 ⟨z, hz1, hz2, hz3, by rw [hz4, hy]; unfold vkey; rw [if_pos hk]⟩]
      rfl
    · rcases newOf_any hn x.s with h | ⟨k2, e2, hk2, _, h⟩
      · omega
      · have := (List.getElem?_eq_some_iff.1 hk2).1
        omega
  refine ⟨⟨fun e' he' => ?_, ?_, anewL_nodup hn⟩, hk1⟩
  · obtain ⟨k, e, he, rfl⟩ := hA e' he'
    have hr := row_of hR hok (List.mem_of_getElem? he)
    have hy := (hok e (List.mem_of_getElem? he)).y.1
    have hklt := (List.getElem?_eq_some_iff.1 he).1
    have hu := hr.u
    have hvv := hr.v
    have hkk := hr.k
    have hs : qX ((k + 1 : Nat) : Int) = true := decide_eq_true (by omega)
    have hrt : rightB e.y = true := decide_eq_true ⟨hu, hvv⟩
    by_cases h : e.y % 2147483648 = 0
    · obtain ⟨h1, h2⟩ := hr.vert h
      rw [h1, h2, hz]
      constructor
      · show vW e.k ((k + 1 : Nat) : Int) e.y 0 0 e.x = true
        unfold vW
        rw [if_pos hkk, hs, hrt, if_pos h]
        rfl
      · unfold qC
        rw [no_deaths hk1, decide_eq_true hkk, decide_eq_true (show e.y % 2147483648 - 1 < 0 by omega)]
        rfl
    · obtain ⟨_, _, hx, hw⟩ := hr.edge h
      obtain ⟨v1, v2, v3⟩ := hvert _ _ (isKey_yes (by omega) hu) hx
      obtain ⟨w1, w2, w3⟩ := hvert _ _ (isKey_yes (by omega) (by omega)) hw
      constructor
      · show vW e.k ((k + 1 : Nat) : Int) e.y (xR (xX L) e.u) (xR (xX L) e.v) e.x = true
        unfold vW
        have s1 : qX (xR (xX L) e.u) = true := decide_eq_true ⟨v2, by omega⟩
        have s2 : qX (xR (xX L) e.v) = true := decide_eq_true ⟨w2, by omega⟩
        rw [if_pos hkk, hs, hrt, if_neg h, s1, s2]
        rfl
      · unfold qC
        rw [no_deaths hk1, decide_eq_true hkk, v1, w1]
        simp
  · have hm : (xV L).map (·.y) = L.map (·.y) := by
      unfold xV
      rw [List.map_map]
      rfl
    have h1 : (L.map (·.y)).Pairwise (fun a b => a < b) := List.pairwise_map.2 hR.sort
    rw [← hm] at h1
    exact List.pairwise_map.1 h1
theorem headN_may (n : Nat) (h : n ≤ 65536) : (xK n).ok ∧ (xK n).may = true := by
  have z : U 0 := ⟨by decide, by decide⟩
  refine ⟨⟨⟨by show (0 : Int) ≤ ((n : Nat) : Int); omega, by show ((n : Nat) : Int) < 18446744073709551616; omega⟩, z, z, z, z⟩, ?_⟩
  show vW 3 ((n : Nat) : Int) 0 0 0 0 = true
  unfold vW
  rw [if_neg (by decide), if_neg (by decide), if_pos rfl, decide_eq_true (by omega)]
  rfl
theorem read_back {A : List zQ} (hR : RowsOK A) (hok : ∀ e ∈ A, e.ok) (hk : ∀ e ∈ A, e.k = 1) (hl : A.length ≤ 65536) (c : Int) :
    liveL [wE (xK A.length :: A), []] c = qO A c ∧ liveL [wE (xK A.length :: A)] c = qO A c ∧ xP (wE (xK A.length :: A)) := by
  have hH := headN_may A.length hl
  have hBD : BD A := fun e he => ⟨hok e he, (hR.each e he).1, by have := hk e he; omega⟩
  have hX : ∀ e ∈ xK A.length :: A, e.ok ∧ e.may = true := fun e he => by
    rcases List.mem_cons.1 he with rfl | he
    · exact hH
    · exact hBD.may e he
  have hb : xP (wE (xK A.length :: A)) := catE_range fun e he => (hX e he).1
  have s0 : streamR 0 (wE (xK A.length :: A)) = some A := by
    rw [stream_eq _ hb, stream0 _ hX]
    have e1 : headOf (xK A.length :: A) = (A, true) := by
      show (if (3 : Int) = 3 then if (A.length : Int) < ((A.length : Nat) : Int) then (([] : List zQ), false) else (A, (A.take (((A.length : Nat) : Int)).toNat).all fun e => decide (e.k = 1)) else ([], false)) = _
      rw [if_pos rfl, if_neg (by omega)]
      congr 1
      exact List.all_eq_true.2 fun e he => decide_eq_true (hk e (List.mem_of_mem_take he))
    rw [e1, hBD.no3]
    rfl
  have s1 : streamR 1 [] = some [] := stream_one (L := []) 0 (fun e he => by cases he)
  have a1 : allR [wE (xK A.length :: A), []] = some A := by
    unfold allR
    rw [if_neg (by simp), allL_stream, s0]
    show (allL (0 + 1) [[]]).map (A ++ ·) = _
    rw [allL_stream, s1]
    show some (A ++ ([] ++ [])) = some A
    rw [List.append_nil, List.append_nil]
  have a2 : allR [wE (xK A.length :: A)] = some A := by
    unfold allR
    rw [if_neg (by simp), allL_stream, s0]
    show some (A ++ []) = some A
    rw [List.append_nil]
  have hN : NoClash A := fun a ha b hb _ _ hs => by
    obtain ⟨i, hi, rfl⟩ := List.mem_iff_getElem.1 ha
    obtain ⟨j, hj, rfl⟩ := List.mem_iff_getElem.1 hb
    have key : ∀ (i j : Nat) (hi : i < A.length) (hj : j < A.length), i < j → A[i].s ≠ A[j].s := fun i j hi hj hij => List.pairwise_iff_getElem.1 (List.pairwise_map.1 hR.once) i j hi hj hij
    have : i = j := by
      rcases Nat.lt_trichotomy i j with h1 | h1 | h1
      · exact absurd hs (key i j hi hj h1)
      · exact h1
      · exact absurd hs.symm (key j i hj hi h1)
    subst this
    rfl
  obtain ⟨B, hB, e1⟩ := liveM_spec hBD.kinds hN c
  have hp : B.Perm A := by
    have n1 : B.Nodup := (List.pairwise_map.1 hB.once).imp fun h e => h (by rw [e])
    have n2 : A.Nodup := (List.pairwise_map.1 hR.once).imp fun h e => h (by rw [e])
    exact (List.perm_ext_iff_of_nodup n1 n2).2 fun e => by
      rw [hB.mem]
      exact ⟨fun h => h.1, fun h => ⟨h, hk e h⟩⟩
  have hf : A.filter (qC A) = A := List.filter_eq_self.2 fun e he => (hR.each e he).2
  rw [liveF_perm (hp.filter _), hf] at e1
  refine ⟨?_, ?_, hb⟩
  · rw [liveL_all c (fun s hs => ?_) a1, e1]
    simp only [List.mem_cons, List.not_mem_nil, or_false] at hs
    rcases hs with rfl | rfl
    · exact hb
    · exact fun x hx => by cases hx
  · rw [liveL_all c (fun s hs => ?_) a2, e1]
    rw [List.mem_singleton] at hs
    subst hs
    exact hb
theorem liveF_rows {A : List zQ} (hR : RowsOK A) : qO A (A.length : Int) = (A, 0) ∧ qO A ((A.length : Int) - 1) = ([], 8) := by
  unfold qO
  constructor
  · rw [if_pos ⟨by omega, Int.le_refl _, hR.sort.nodup⟩, sort_uniq hR.sort (.refl _)]
  · rw [if_neg (fun h => by have := h.2.1; omega)]
theorem anewL_ok' {L : List zQ} (hR : RowsOK L) (hok : ∀ e ∈ L, e.ok) (hl : L.length ≤ 1000000) : ∀ e ∈ xV L, e.ok := fun e he => by
  obtain ⟨x, hx, rfl⟩ := List.mem_map.1 he
  have hU : ∀ j, U (xR (xX L) j) := fun j => by
    rcases newOf_any hR.once j with h | ⟨k, e, hk, _, h⟩
    · rw [h]
      exact ⟨by decide, by decide⟩
    · have := (List.getElem?_eq_some_iff.1 hk).1
      rw [h]
      exact ⟨by omega, by omega⟩
  exact ⟨hU _, (hok x hx).y, hU _, hU _, (hok x hx).x⟩
end Go.Proofs.YtomlhekjgagjaaaDoor
namespace Go.Proofs.YtomlhekjgagjaaaDoor
set_option maxRecDepth 100000
set_option maxHeartbeats 16000000
open Go Go.RowKit
def FnRow2 (P : Program) (f : FuncId) (args : List PV) (t size : Nat) (es : List PV) (c0 : Value) : Prop :=
  ∀ (M : Nat → Nat → Prop) (w : World) (vs : List Value), Lays w ∧ (∀ g c, Tabs g → ¬ M g c) → (∀ k c, M k c → k < w.heap.size) → vs.length = args.length → (∀ (i : Nat) x v, args[i]? = some x → vs[i]? = some v → Rep M w x v) →
    Calls P f vs.toArray w fun e w' => ∃ v, e = .returned (.tuple #[v, c0]) ∧ (∃ ys, w'.ownsRow w.heap.size t size v es.length ys ∧ RepL (fun k c => M k c ∨ z8 v = some k) w' (flat es) ys) ∧ Below w.heap.size w w'
theorem fn_ofRow2 {P : Program} {f : FuncId} {fn : Func} {c : Code} {args : List PV} {t size : Nat} {es : List PV} {c0 : Value} {n : Nat} (a b : Nat) (hf : P.funcs[f]? = some fn) (hb : fn.body = some c) (hn : fn.ntmps = n) (hle : args.length ≤ n) (hr : fn.results = #[.tmp a, .tmp b])
    (h : zZ P n c (AS.entry args) (fun e S => (e = .ret ∨ e = .normal) ∧ ∃ S' id, Sub S S' ∧ S'.tmp a = .own id ∧ S'.blk id = some (xD t size es) ∧ S'.tmp b = .p (.val c0))) : FnRow2 P f args t size es c0 := by
  intro M w vs hT hM hvl hvs
  refine calls_of_wp hf hb ?_
  have hsat : Sat M n (Home.plain w hT.1) (AS.entry args) (fun _ => undef) { tmps := vs.toArray ++ Array.replicate (fn.ntmps - vs.toArray.size) undef, defers := [] } w := by
    refine ⟨xB.refl (Home.plain w hT.1), (fun k c hk hh => by rcases hh with hh | hh; exact absurd (hM k c hk) (Nat.not_lt.2 hh); exact hh), hT.2, by simp; omega, rfl, fun i => ?_, (fun id b hb => by cases hb), (fun id b k hb => by cases hb), (fun k v hk => by cases hk), (fun _ _ => rfl), (fun i j bi bj k hi => by cases hi)⟩
    show yK _ _ _ ((look (zipArgs 0 args) i).getD .any) _
    rw [look_zipArgs]
    simp only [Nat.zero_le, if_true, Nat.sub_zero]
    cases hx : args[i]? with
    | none => exact .any _
    | some x =>
      have hi : i < vs.length := by rw [hvl]; exact (List.getElem?_eq_some_iff.1 hx).1
      have e : ({ tmps := vs.toArray ++ Array.replicate (fn.ntmps - vs.toArray.size) undef, defers := [] } : Act).tmps.getD i undef = vs[i] := by
        simp [Array.getD_eq_getD_getElem?, Array.getElem?_append, hi]
      rw [e]
      refine .p ((hvs i x vs[i] hx (List.getElem?_eq_getElem hi)).mono ?_)
      rintro k c _ (hk | ⟨id, b, hb, _⟩)
      · exact hk
      · cases hb
  refine h M (Home.plain w hT.1) _ _ w _ hsat ?_
  rintro e S0 ρ0 a' w' ⟨he, S', id, hsub, h1, h2, h3⟩ hs0
  obtain ⟨ρ', hs'⟩ := hsub M n (Home.plain w hT.1) ρ0 a' w' hs0
  have fin : a'.defers = [] ∧ ∃ v, (results fn a'.tmps).run P w' = .ok v w' ∧ (∃ v1, Ending.returned v = .returned (.tuple #[v1, c0]) ∧ (∃ ys, w'.ownsRow w.heap.size t size v1 es.length ys ∧ RepL (fun k c => M k c ∨ z8 v1 = some k) w' (flat es) ys) ∧ Below w.heap.size w w') := by
    have e3 : a'.tmps.getD b undef = c0 := by
      have g1 := hs'.tmps b
      rw [h3] at g1
      generalize a'.tmps.getD b undef = u at g1
      cases g1 with
      | p g2 => cases g2; rfl
    refine ⟨hs'.defers, .tuple #[a'.tmps.getD a undef, a'.tmps.getD b undef], results_tmps fn [a, b] a'.tmps hr (by simp), a'.tmps.getD a undef, by rw [e3], ?_, hs'.below.plain⟩
    · have g1 := hs'.tmps a
      rw [h1] at g1
      have g2 := hs'.blks id _ h2
      have e : a'.tmps.getD a undef = ρ' id := vZ g1
      obtain ⟨ys, ho, hc⟩ := g2
      rw [e]
      refine ⟨ys, vG ho (fun k hk => (hs'.mine id _ k h2 hk).elim (fun h => h) (fun h => h.elim)), by simpa using hc.len, fun i c v h3 h4 => ?_, hc.one⟩
      have h5 := hc.each i (.p c) v (by rw [List.getElem?_map, h3]; rfl) h4
      cases h5 with
      | p h6 =>
        refine h6.mono ?_
        rintro k c _ (hk | hk)
        · exact Or.inl hk
        · exact Or.inr ⟨id, _, h2, hk, trivial⟩
  intro _
  cases e with
  | ret => exact fin
  | normal => exact fin
  | exit id => rcases he with h | h <;> cases h
  | goto l => rcases he with h | h <;> cases h
  | panic c => rcases he with h | h <;> cases h
  | outgrown => rcases he with h | h <;> cases h
section
variable {P : Program} {n : Nat} {o : Oper} {S : AS} {d : Nat}
theorem w_callRowT {f : Nat} {args : Array Operand} {ts : Array TypeId} {xs : List PV} {e sz : Nat} {es : List PV} {z : Value} [hc : HasFn P f] (hf : FnRow2 P f xs e sz es z) (ho : o.op = .call { callee := .value (.func f), args := args, argTypes := ts })
    (hx : args.toList.map S.get = xs.map AV.p) (hd : o.dst = some d) (hn : d < n) : zA P n o S [] (.tup [.own d, .p (.val z)]) (some (xD e sz es)) := by
  intro S2 hg _ M w0 ρ a w K Q hs hK
  have hargs : ∀ x ∈ args.toList, S2.get x = S.get x := fun x hx => hg x (by rw [ho]; simp [Op.operands, Call.operands]; exact .inr (by simpa using hx))
  have he : (execOp a.eval o).run P w = .ok (.enter f (args.map a.eval)) w := by
    unfold execOp
    rw [ho]
    simp [resolve, Deferred.ofValue, Act.eval, invoke, hc.h]
  unfold Oper.wp
  rw [he, Oper.upon_enter]
  have hlen : (args.toList.map a.eval).length = xs.length := by
    have := congrArg List.length hx
    simpa using this
  have := hf (Mut M S2 ρ) w (args.toList.map a.eval) ⟨hs.lays, hs.tabs⟩ (fun k c hk => Mut.lt hs hk) hlen (fun i x v h1 h2 => by
    rw [List.getElem?_map, Option.map_eq_some_iff] at h2
    obtain ⟨y, hy, rfl⟩ := h2
    have h3 : S.get y = .p x := by
      have h4 : (args.toList.map S.get)[i]? = (xs.map AV.p)[i]? := by rw [hx]
      rw [List.getElem?_map, List.getElem?_map, hy, h1] at h4
      simpa using h4
    exact y5 hs ((hargs y (List.mem_of_getElem? hy)).trans h3))
  have e1 : (args.toList.map a.eval).toArray = args.map a.eval := by apply Array.ext'; simp
  rw [e1] at this
  refine this.mono ?_
  rintro en w' ⟨v, rfl, ⟨ys, hown, hl⟩, hb⟩
  show K (a.put o.dst (.tuple #[v, z])) w'
  rw [hd] at hK ⊢
  have hnew : ∀ k, z8 v = some k → w.heap.size ≤ k := fun k hk => by
    rcases hown.2 with ⟨rfl, _⟩ | ⟨g, cap, cur, rfl, hg2, _⟩
    · cases hk
    · simp only [z8, Option.some.injEq] at hk; omega
  have hbk : yP (fun k c => Mut M S2 ρ k c ∨ (z8 v = some k ∧ (xD e sz es).turns c)) 0 ρ w' v (xD e sz es) := 
    ⟨ys, vG hown (fun _ _ => Nat.zero_le _), ⟨by simpa using hl.len, fun i c u h1 h2 => by
      rw [List.getElem?_map, Option.map_eq_some_iff] at h1
      obtain ⟨y, hy, rfl⟩ := h1
      exact .p ((hl.each i y u hy h2).mono fun k c _ hk => hk.elim .inl fun h => .inr h.1), hl.one⟩⟩
  have hs' := hs.change d (xD e sz es) v none (hs.free d hn) (w' := w') ⟨hb.os, hb.tape, hb.output, hb.size, fun k hk _ => hb.block k hk⟩ (fun k hk => by cases hk) (fun k hk => .inl (hnew k hk)) hbk
  refine hK _ _ w' (hs'.put hn ?_)
  have h1 := yK.own (M := Mut M (S2.create d (xD e sz es)) (upd ρ d v)) (ρ := upd ρ d v) (w := w') d
  have h2 : yK (Mut M (S2.create d (xD e sz es)) (upd ρ d v)) (upd ρ d v) w' (.own d) v := by simpa [upd] using h1
  refine .tup [.own d, .p (.val z)] [v, z] rfl fun i c x hc hx => ?_
  match i with
  | 0 => cases hc; cases hx; exact h2
  | 1 => cases hc; cases hx; exact .p (.val _)
  | i + 2 => simp at hc
theorem w_extractO {x : Operand} {avs : List AV} {i id : Nat} (ho : o.op = .extract x i) (hx : S.get x = .tup avs) (hi : avs[i]? = some (.own id)) (hd : o.dst = some d) (hn : d < n) : zA P n o S [] (.own id) none :=
  zA.pure hd hn fun S2 hg _ M w0 ρ a w hs => by
    have h1 := hs.rep x
    rw [hg x (by rw [ho]; simp [Op.operands]), hx] at h1
    generalize hev : a.eval x = ev at h1
    cases h1 with
    | tup _ vs hl h =>
      have hlt : i < vs.length := by rw [hl]; exact (List.getElem?_eq_some_iff.1 hi).1
      refine ⟨vs[i], w, ?_, Below.refl _ _, h i _ _ hi (List.getElem?_eq_getElem hlt)⟩
      unfold execOp
      rw [ho]
      simp [hev, Instr.extract, hlt]
end
end Go.Proofs.YtomlhekjgagjaaaDoor
namespace Go.Proofs.YtomlhekjgagjaaaDoor
set_option maxRecDepth 100000
set_option maxHeartbeats 16000000
open Go Go.RowKit
attribute [local irreducible] zY zZ Step zA Sub zN yY Fn zF zM
theorem putT_fn (b : List Int) (hb : ∀ x ∈ b, 0 ≤ x ∧ x < 256) (hl : putOk b) : FnRow2 Tryd.prog 45 [.sl (byts b)] 5 1 (byts (putF b)) (.int .i64 0) := by
  rw [putF_ref b hl]
  obtain ⟨hl0, hl1⟩ := hl
  have hm := moreF_lt 0 b
  have c1 := sumRef_fn b (by omega) hb
  generalize xI 0 b = m at *
  have td : ∀ (x : Int) (k : Int), 0 ≤ x → x.tdiv k = x / k := fun x k h => Int.tdiv_eq_ediv_of_nonneg h
  have tm : ∀ (x : Int) (k : Int), 0 ≤ x → x.tmod k = x % k := fun x k h => Int.tmod_eq_emod_of_nonneg h
  have wb : ∀ x : Int, 0 ≤ x → x < 256 → IntKind.u8.wrap x = x := fun x h h' => wrap_u8 _ (by omega)
  have g1 : decide ((b.length : Int) < 1) = false := decide_eq_false (by omega)
  have g2 : decide ((65535 : Int) < (b.length : Int)) = false := decide_eq_false (by omega)
  have n1 : (b.length : Int).tmod 256 = (b.length : Int) % 256 := tm _ _ (by omega)
  have n2 : IntKind.u8.wrap ((b.length : Int) % 256) = (b.length : Int) % 256 := wb _ (by omega) (by omega)
  have n3 : IntKind.i64.wrap ((b.length : Int).tdiv 256) = (b.length : Int) / 256 := by rw [td _ _ (by omega)]; exact wrap_i64 _ (by omega)
  have n4 : IntKind.u8.wrap ((b.length : Int) / 256) = (b.length : Int) / 256 := wb _ (by omega) (by omega)
  have m1 : ((m : Nat) : Int).tmod 256 = (m : Int) % 256 := tm _ _ (by omega)
  have m2 : IntKind.u8.wrap ((m : Int) % 256) = (m : Int) % 256 := wb _ (by omega) (by omega)
  have m3 : IntKind.u32.wrap (((m : Nat) : Int).tdiv 256) = (m : Int) / 256 := by rw [td _ _ (by omega)]; exact qL _ (by omega) (by omega)
  have m4 : ((m : Int) / 256).tmod 256 = (m : Int) / 256 % 256 := tm _ _ (by omega)
  have m5 : IntKind.u8.wrap ((m : Int) / 256 % 256) = (m : Int) / 256 % 256 := wb _ (by omega) (by omega)
  have m6 : IntKind.u32.wrap (((m : Nat) : Int).tdiv 65536) = (m : Int) / 65536 := by rw [td _ _ (by omega)]; exact qL _ (by omega) (by omega)
  have m7 : ((m : Int) / 65536).tmod 256 = (m : Int) / 65536 % 256 := tm _ _ (by omega)
  have m8 : IntKind.u8.wrap ((m : Int) / 65536 % 256) = (m : Int) / 65536 % 256 := wb _ (by omega) (by omega)
  have m9 : IntKind.u32.wrap (((m : Nat) : Int).tdiv 16777216) = (m : Int) / 16777216 := by rw [td _ _ (by omega)]; exact qL _ (by omega) (by omega)
  have m10 : IntKind.u8.wrap ((m : Int) / 16777216) = (m : Int) / 16777216 := wb _ (by omega) (by omega)
  have g5 : [((b.length : Int) % 256), ((b.length : Int) / 256), (m : Int) % 256, (m : Int) / 256 % 256, (m : Int) / 65536 % 256, (m : Int) / 16777216].length + b.length ≤ 140737488355328 := by
    simp only [List.length_cons, List.length_nil]
    omega
  clear td tm wb
  refine fn_ofRow2 2 3 Tryd.func45 rfl Tryd.ntmps45 (Nat.le_of_ble_eq_true rfl) rfl ?_
  repeat' (first | (refine zZ.is ?_; first | refine zZ.seq ?_ | (refine zZ.iq 0 ?_; refine zZ.rqa _ K_2 K_x ?_; refine zY.va rfl rfl rfl rfl (by decide) ?_; refine zY.va rfl rfl rfl rfl (by decide) ?_; refine zY.nil ?_) | (refine zZ.iq 1 ?_; refine zZ.rqa _ K_3 K_x ?_; refine zY.vm rfl rfl rfl rfl (by decide) ?_; refine zY.v rfl rfl (wM rfl rfl rfl (by decide)) ?_; refine zY.va rfl rfl rfl rfl (by decide) ?_; refine zY.nil ?_) | (refine zZ.iq 2 ?_; refine zZ.rqa _ K_m K_x ?_; all_goals (refine zY.vm rfl rfl rfl rfl (by decide) ?_); all_goals (refine zY.v rfl rfl (zR rfl rfl rfl g1 rfl (by decide)) ?_); all_goals (refine zY.vm rfl rfl rfl rfl (by decide) ?_); all_goals (refine zY.gY rfl rfl (by decide) rfl (by rfl) rfl (by decide) (zK rfl rfl rfl (by decide)) ?_); all_goals (refine zY.gY rfl rfl (by decide) rfl (by rfl) rfl (by decide) (wW rfl rfl rfl g2 rfl (by decide)) ?_); all_goals (refine zY.v rfl rfl (zI rfl rfl (by rfl) rfl rfl (by decide)) ?_); all_goals (refine zY.nil ?_)) | (refine zZ.iq 4 ?_; refine zZ.rqa _ K_m K_x ?_; refine zY.vm rfl rfl rfl rfl (by decide) ?_; refine zY.v rfl rfl (by exact zU (c1) rfl rfl rfl (by decide)) ?_; refine zY.va rfl rfl rfl rfl (by decide) ?_; refine zY.nil ?_) | (refine zZ.iq 5 ?_; refine zZ.rqa _ K_1w K_x ?_; refine zY.vm rfl rfl rfl rfl (by decide) ?_; refine zY.v rfl rfl (a_rem rfl rfl rfl (by decide) n1 rfl (by decide)) ?_; refine zY.v rfl rfl (yO rfl rfl n2 rfl (by decide)) ?_; refine zY.vm rfl rfl rfl rfl (by decide) ?_; refine zY.v rfl rfl (a_quo rfl rfl rfl (by decide) n3 rfl (by decide)) ?_; refine zY.v rfl rfl (yO rfl rfl n4 rfl (by decide)) ?_; refine zY.vm rfl rfl rfl rfl (by decide) ?_; refine zY.v rfl rfl (a_rem rfl rfl rfl (by decide) m1 rfl (by decide)) ?_; refine zY.v rfl rfl (yO rfl rfl m2 rfl (by decide)) ?_; refine zY.vm rfl rfl rfl rfl (by decide) ?_; refine zY.v rfl rfl (a_quo rfl rfl rfl (by decide) m3 rfl (by decide)) ?_; refine zY.v rfl rfl (a_rem rfl rfl rfl (by decide) m4 rfl (by decide)) ?_; refine zY.v rfl rfl (yO rfl rfl m5 rfl (by decide)) ?_; refine zY.vm rfl rfl rfl rfl (by decide) ?_; refine zY.v rfl rfl (a_quo rfl rfl rfl (by decide) m6 rfl (by decide)) ?_; refine zY.v rfl rfl (a_rem rfl rfl rfl (by decide) m7 rfl (by decide)) ?_; refine zY.v rfl rfl (yO rfl rfl m8 rfl (by decide)) ?_; refine zY.vm rfl rfl rfl rfl (by decide) ?_; refine zY.v rfl rfl (a_quo rfl rfl rfl (by decide) m9 rfl (by decide)) ?_; refine zY.v rfl rfl (yO rfl rfl m10 rfl (by decide)) ?_; refine zY.m rfl rfl (w_buildB rfl (by decide) (by decide) (by decide) (by decide) (by rfl) (by rfl) (by rfl) (by rfl) rfl (by decide)) ?_; refine zY.v rfl rfl (zP rfl rfl rfl (by decide)) ?_; refine zY.nil ?_) | (refine zZ.iq 6 ?_; refine zZ.rqn _ K_2e K_x ?_; refine zY.v rfl rfl (yA rfl rfl rfl (by decide)) ?_; refine zY.vm rfl rfl rfl rfl (by decide) ?_; refine zY.w rfl (w_appB rfl rfl rfl rfl g5 rfl rfl (by decide)) ?_; refine zY.v rfl rfl (zP rfl rfl rfl (by decide)) ?_; refine zY.va rfl rfl rfl rfl (by decide) ?_; refine zY.nil ?_) | refine zZ.yX rfl (by first | assumption | with_reducible rfl) ?_ | refine zZ.skip ?_ | refine zZ.ret ?_) | refine zF.n ?_)
  all_goals exact ⟨.inl rfl, _, 37, Sub.refl _, rfl, congrArg some (rowB_V _ _), rfl⟩
theorem bytesRow_fn (e : zQ) (h : e.ok) (hm : e.may = true) : Fn Tryd.prog 24 [e.V] (.row 5 1 (byts e.F).length (flat (byts e.F))) := by
 have hm2 : vW e.k e.s e.y e.u e.v e.x = true := hm
 have c1 := encRef_fn e.k e.s e.y e.u e.v e.x h.s.1 h.s.2 h.y.1 h.y.2 h.u.1 h.u.2 h.v.1 h.v.2 h.x.1 h.x.2
 rw [if_pos hm2] at c1
 have c2 := putT_fn (vR e.k e.s e.y e.u e.v e.x) (encL_range' e.k e.s e.y e.u e.v e.x) (encL_le2 e.k e.s e.y e.u e.v e.x)
 have eF : e.F = putF (vR e.k e.s e.y e.u e.v e.x) := by rw [entF_may, if_pos hm]; rfl
 rw [eF]
 refine wJ Tryd.func24 rfl Tryd.ntmps24 (Nat.le_of_ble_eq_true rfl) ?_
 obtain ⟨ek, es, ey, eu, ev, ex⟩ := e
 dsimp only at c1 c2
 repeat' (first | (refine zZ.is ?_; first | refine zZ.seq ?_ | (refine zZ.iq 0 ?_; refine zZ.rqa _ K_2 K_2c ?_; refine zY.m rfl rfl (vB rfl rfl rfl (by decide)) ?_; refine zY.va rfl rfl rfl rfl (by decide) ?_; refine zY.nil ?_) | (refine zZ.iq 1 ?_; refine zZ.rqg _ K_7 K_2c ?_; refine zY.v rfl rfl (yL rfl rfl rfl (by rfl) (by rfl) rfl (by decide)) ?_; refine zY.v rfl rfl (by exact yU (c1) rfl rfl rfl (by decide)) ?_; refine zY.v rfl rfl (yG rfl rfl rfl (by decide)) ?_; refine zY.v rfl rfl (zD rfl rfl rfl rfl (by decide)) ?_; refine zY.v rfl rfl (zD rfl rfl rfl rfl (by decide)) ?_; refine zY.va rfl rfl rfl rfl (by decide) ?_; refine zY.va rfl rfl rfl rfl (by decide) ?_; refine zY.nil ?_) | (refine zZ.iq 2 ?_; refine zZ.rqs _ K_y K_2c ?_; refine zY.vm rfl rfl rfl rfl (by decide) ?_; refine zY.v rfl rfl (by exact vK rfl rfl rfl (by exact bF (by decide)) rfl (by decide)) ?_; refine zY.nil ?_) | (refine zZ.iq 4 ?_; refine zZ.rqs _ K_1l K_2c ?_; refine zY.vm rfl rfl rfl rfl (by decide) ?_; refine zY.m rfl rfl (w_callRowT c2 rfl rfl rfl (by decide)) ?_; refine zY.v rfl rfl (yG rfl rfl rfl (by decide)) ?_; refine zY.v rfl rfl (w_extractO rfl rfl rfl rfl (by decide)) ?_; refine zY.v rfl rfl (zD rfl rfl rfl rfl (by decide)) ?_; refine zY.v rfl rfl (zP rfl rfl rfl (by decide)) ?_; refine zY.va rfl rfl rfl rfl (by decide) ?_; refine zY.nil ?_) | (refine zZ.isR (id := 5) ?_; refine zZ.zV [2, 5] [1, 2, 9, 16] (by repeat' first | exact zX.nil | apply zX.p rfl | apply zX.own rfl) (by repeat' first | exact zW.nil | apply zW.boxP rfl rfl | apply zW.some rfl | apply zW.skip) ?_; refine zY.v rfl rfl (yA rfl rfl rfl (by decide)) ?_; refine zY.v rfl rfl (zP rfl rfl rfl (by decide)) ?_; refine zY.nil ?_) | refine zZ.yX rfl (by rfl) ?_ | refine zZ.skip ?_ | refine zZ.ret ?_) | refine zF.n ?_)
 all_goals exact ⟨.inl rfl, givesRowV (id := 16) rfl rfl rfl⟩
def lbS (L : List zQ) (n i : Nat) : AS := { t := [(0, .p (.sl (L.map zQ.V))), (3, .own 9), (4, .p (.val (.int .i64 (i : Nat))))], s := [(9, wP 5 (wE (xK n :: L.take i)))] }
theorem bytesL_fn (L : List zQ) (hl : L.length ≤ 65536) (hok : ∀ e ∈ L, e.ok) : Fn Tryd.prog 20 [.sl (L.map zQ.V)] (.p (.sl (byts (wE (xK L.length :: L))))) := by
 have hlL : (L.map zQ.V).length = L.length := by rw [List.length_map]
 have hcL := yH L
 have z : U 0 := ⟨by decide, by decide⟩
 have hH : (xK L.length).ok := ⟨⟨by show (0 : Int) ≤ ((L.length : Nat) : Int); omega, by show ((L.length : Nat) : Int) < 18446744073709551616; omega⟩, z, z, z, z⟩
 have hHm : (xK L.length).may = true := by
  show vW 3 ((L.length : Nat) : Int) 0 0 0 0 = true
  unfold vW
  rw [if_neg (by decide), if_neg (by decide), if_pos rfl, decide_eq_true (by omega)]
  rfl
 have b0 := bytesRow_fn (xK L.length) hH hHm
 have b0 : Fn Tryd.prog 24 [.agg [.val (.int .i64 3), .val (.int .u64 ((L.length : Nat) : Int)), .val (.int .u64 0), .val (.int .u64 0), .val (.int .u64 0), .val (.int .u64 0)]] (.row 5 1 (byts (xK L.length).F).length (flat (byts (xK L.length).F))) := b0
 have w1 : IntKind.u64.wrap (((L.map zQ.V).length : Nat) : Int) = ((L.length : Nat) : Int) := by rw [hlL, wrap_u64 _ (by omega)]
 have e0 : wE (xK L.length :: L.take 0) = (xK L.length).F := by simp [wE]
 have hFh := entF_len (xK L.length)
 refine wJ Tryd.func20 rfl Tryd.ntmps20 (Nat.le_of_ble_eq_true rfl) ?_
 repeat' (first | (refine zZ.is ?_; first | refine zZ.seq ?_ | (refine zZ.iq 0 ?_; refine zZ.rqa _ K_2 K_1s ?_; refine zY.va rfl rfl rfl rfl (by decide) ?_; refine zY.nil ?_) | (refine zZ.iq 1 ?_; refine zZ.rqa _ K_c K_1s ?_; refine zY.vm rfl rfl rfl rfl (by decide) ?_; refine zY.v rfl rfl (yQ rfl rfl rfl (by decide)) ?_; refine zY.v rfl rfl (yO rfl rfl w1 rfl (by decide)) ?_; refine zY.v rfl rfl (wG rfl (by rfl) (by rfl) (by rfl) (by rfl) rfl (by decide)) ?_; refine zY.m rfl rfl (w_callRowV b0 rfl rfl rfl (by decide)) ?_; refine zY.v rfl rfl (zP rfl rfl rfl (by decide)) ?_; refine zY.nil ?_) | (refine zZ.isR (id := 2) ?_; refine zZ.zV [0, 2, 3] [2, 6, 9, 12, 21, 22] (by repeat' first | exact zX.nil | apply zX.p rfl | apply zX.own rfl) (by repeat' first | exact zW.nil | apply zW.some rfl | apply zW.skip) ?_; refine zY.va rfl rfl rfl rfl (by decide) ?_; refine zY.nil ?_) | refine zZ.block ?_) | refine zF.n ?_)
 refine zZ.loop (lbS L L.length) (fun i => i ≤ L.length) (fun i => L.length - i) 0 ?h0 (Nat.zero_le _) ?rd
 case h0 =>
  unfold lbS
  rw [e0, rowB_V]
  exact zB K_e K_2a
 case rd =>
  intro i hi
  have g3 : IntKind.i64.wrap (((i : Nat) : Int) + 1) = ((i + 1 : Nat) : Int) := by rw [wrap_i64 _ (by omega)]; omega
  unfold lbS
  by_cases hlt : i < L.length
  case pos =>
   have g1 : decide (((i : Nat) : Int) < (((L.map zQ.V).length : Nat) : Int)) = true := decide_eq_true (by rw [hlL]; omega)
   obtain ⟨e, he⟩ : ∃ e, L[i]? = some e := ⟨_, List.getElem?_eq_getElem hlt⟩
   have g2 : (L.map zQ.V)[i]? = some e.V := by rw [List.getElem?_map, he]; rfl
   have ho := hok e (List.mem_of_getElem? he)
   have be := bytesRef_fn e.k e.s e.y e.u e.v e.x ho.s ho.y ho.u ho.v ho.x
   have be : Fn Tryd.prog 24 [e.V] (.p (.sl (byts e.F))) := be
   have htake : wE (xK L.length :: L.take (i + 1)) = wE (xK L.length :: L.take i) ++ e.F := by rw [List.take_add_one, he, catE_cons, catE_cons, catE_append, List.append_assoc]; simp [wE]
   have hlen := catE_len (xK L.length :: L.take i)
   have hF := entF_len e
   have l1 : (wE (xK L.length :: L.take i)).length + e.F.length ≤ 140737488355328 := by rw [List.length_cons, List.length_take] at hlen; omega
   clear hlen hF hFh e0
   generalize wE (xK L.length :: L.take i) = X1 at *
   generalize e.F = Be at *
   clear he ho
   obtain ⟨ek, es, ey, eu, ev, ex⟩ := e
   repeat' (first | (refine zZ.is ?_; first | refine zZ.seq ?_ | (refine zZ.iq 3 ?_; refine zZ.rqm _ K_2d K_1s ?_; refine zY.vm rfl rfl rfl rfl (by decide) ?_; refine zY.vm rfl rfl rfl rfl (by decide) ?_; refine zY.v rfl rfl (yQ rfl rfl rfl (by decide)) ?_; refine zY.v rfl rfl (zR rfl rfl rfl g1 rfl (by decide)) ?_; refine zY.nil ?_) | (refine zZ.iq 5 ?_; refine zZ.rqm _ K_2d K_1s ?_; refine zY.v rfl rfl (yA rfl rfl rfl (by decide)) ?_; refine zY.vm rfl rfl rfl rfl (by decide) ?_; refine zY.vm rfl rfl rfl rfl (by decide) ?_; refine zY.v rfl rfl (zH rfl rfl rfl hcL g2 rfl (by decide)) ?_; refine zY.v rfl rfl (by exact y8 rfl rfl (by exact Nat.le_of_ble_eq_true rfl) rfl (by decide)) ?_; refine zY.v rfl rfl (by exact zU (be) rfl rfl rfl (by decide)) ?_; refine zY.w rfl (w_appB rfl rfl rfl rfl l1 rfl rfl (by decide)) ?_; refine zY.v rfl rfl (zP rfl rfl rfl (by decide)) ?_; refine zY.nil ?_) | (refine zZ.iq 4 ?_; refine zZ.rqm _ K_2d K_1s ?_; refine zY.vm rfl rfl rfl rfl (by decide) ?_; refine zY.v rfl rfl (yD rfl rfl rfl g3 rfl (by decide)) ?_; refine zY.va rfl rfl rfl rfl (by decide) ?_; refine zY.nil ?_) | refine zZ.yV rfl (by first | assumption | with_reducible rfl) ?_ | refine zZ.skip ?_ | refine zZ.block ?_) | refine zF.n ?_ | refine zM.n ?_)
   all_goals
    refine ⟨i + 1, ?_, hlt, by omega⟩
    rw [htake]
    exact zB K_e K_2a
  case neg =>
   have hie : i = L.length := by omega
   subst hie
   have g1 : decide (((L.length : Nat) : Int) < (((L.map zQ.V).length : Nat) : Int)) = false := decide_eq_false (by rw [hlL]; omega)
   rw [List.take_length]
   repeat' (first | (refine zZ.is ?_; first | refine zZ.seq ?_ | (refine zZ.iq 3 ?_; refine zZ.rqm _ K_2d K_1s ?_; refine zY.vm rfl rfl rfl rfl (by decide) ?_; refine zY.vm rfl rfl rfl rfl (by decide) ?_; refine zY.v rfl rfl (yQ rfl rfl rfl (by decide)) ?_; refine zY.v rfl rfl (zR rfl rfl rfl g1 rfl (by decide)) ?_; refine zY.nil ?_) | (refine zZ.isR (id := 6) ?_; refine zZ.zV [2, 3] [2, 6, 9, 12, 21, 22] (by repeat' first | exact zX.nil | apply zX.own rfl | apply zX.skip) (by repeat' first | exact zW.nil | apply zW.wP rfl | apply zW.skip) ?_; refine zY.v rfl rfl (yA rfl rfl rfl (by decide)) ?_; refine zY.v rfl rfl (zP rfl rfl rfl (by decide)) ?_; refine zY.nil ?_) | refine zZ.yX rfl (by first | assumption | with_reducible rfl) ?_ | refine zZ.exit ?_ | refine zZ.ret ?_) | refine zF.n ?_ | refine zM.eY ?_ | refine zF.e ?_)
   all_goals exact ⟨.inl rfl, _, sub_frzB 9 rfl, xC.p rfl (.tmp rfl)⟩
end Go.Proofs.YtomlhekjgagjaaaDoor
namespace Go.Proofs.YtomlhekjgagjaaaDoor
set_option maxRecDepth 100000
set_option maxHeartbeats 16000000
open Go Go.RowKit
attribute [local irreducible] zY zZ Step zA Sub zN yY Fn zF zM
def lcS (L : List zQ) (i : Nat) : AS := { t := [(0, .p (.sl (L.map zQ.V))), (3, .own 42), (4, .p (.val (.int .i64 (i : Nat))))], s := [(42, xD 59 3 (((L.take i).map xS).map xH.V))] }
theorem arcsR_fn (L : List zQ) (hl : L.length ≤ 1000000) (hok : ∀ e ∈ L, e.ok) : Fn Tryd.prog 22 [.sl (L.map zQ.V)] (.p (.sl ((L.map xS).map xH.V))) := by
  have hc := yH L
  have hlen : (L.map zQ.V).length = L.length := by rw [List.length_map]
  refine wJ Tryd.func22 rfl Tryd.ntmps22 (Nat.le_of_ble_eq_true rfl) ?_
  repeat' (first | (refine zZ.is ?_; first | refine zZ.seq ?_ | (refine zZ.iq 0 ?_; refine zZ.rqa _ K_2 K_g ?_; refine zY.va rfl rfl rfl rfl (by decide) ?_; refine zY.nil ?_) | (refine zZ.iq 1 ?_; refine zZ.rqa _ K_c K_g ?_; refine zY.va rfl rfl rfl rfl (by decide) ?_; refine zY.nil ?_) | (refine zZ.iq 2 ?_; refine zZ.rqa _ K_3 K_g ?_; refine zY.va rfl rfl rfl rfl (by decide) ?_; refine zY.nil ?_) | refine zZ.block ?_) | refine zF.n ?_)
  refine zZ.loop (lcS L) (fun i => i ≤ L.length) (fun i => L.length - i) 0 ?h0 (Nat.zero_le _) ?rd
  case h0 =>
    refine (qB (d := 3) (id := 42) (ty := 59) (sz := 3) (by decide) rfl).trans ?_
    unfold lcS
    exact zB K_e K_q
  case rd =>
    intro i hi
    have g3 : IntKind.i64.wrap (((i : Nat) : Int) + 1) = ((i + 1 : Nat) : Int) := by rw [wrap_i64 _ (by omega)]; omega
    unfold lcS
    by_cases hlt : i < L.length
    case pos =>
      have g1 : decide (((i : Nat) : Int) < (((L.map zQ.V).length : Nat) : Int)) = true := decide_eq_true (by rw [hlen]; omega)
      obtain ⟨e, he⟩ : ∃ e, L[i]? = some e := ⟨_, List.getElem?_eq_getElem hlt⟩
      have g2 : (L.map zQ.V)[i]? = some e.V := by rw [List.getElem?_map, he]; rfl
      have ho := hok e (List.mem_of_getElem? he)
      have htake : ((L.take (i + 1)).map xS).map xH.V = ((L.take i).map xS).map xH.V ++ [(xS e).V] := by rw [List.take_add_one, he]; simp
      have q6 : ∀ z ∈ [(xS e).V], z.cells.length = 3 := fun z hz => by simp at hz; subst hz; rfl
      have q7 : ([(xS e).V] : List PV).length * 24 ≤ 140737488355328 ∧ ([(xS e).V] : List PV).length ≤ maxLen := by simp [maxLen]
      have q8 : ((((L.take i).map xS).map xH.V).length + ([(xS e).V] : List PV).length) * 24 ≤ 140737488355328 ∧ (((L.take i).map xS).map xH.V).length + ([(xS e).V] : List PV).length ≤ maxLen := by simp [maxLen]; omega
      obtain ⟨ek, es, ey, eu, ev, ex⟩ := e
      have c := splitKRef_fn ey ho.y.1 ho.y.2
      have hv : (xS ⟨ek, es, ey, eu, ev, ex⟩).V = .agg [.val (.int .i64 (ey / 2147483648)), .val (.int .i64 (ey % 2147483648 - 1)), .val (.int .u64 (if 0 ≤ ey % 2147483648 - 1 then ex else 0))] := rfl
      rw [hv] at htake q6 q7 q8
      clear hv
      generalize ey / 2147483648 = p at *
      generalize ey % 2147483648 - 1 = q at *
      cases c1 : decide (q ≥ 0)
      case true =>
        rw [if_pos (of_decide_eq_true c1)] at htake q6 q7 q8
        repeat' (first | (refine zZ.is ?_; first | refine zZ.seq ?_ | (refine zZ.iq 3 ?_; refine zZ.rqd _ K_r K_g ?_; refine zY.vm rfl rfl rfl rfl (by decide) ?_; refine zY.vm rfl rfl rfl rfl (by decide) ?_; refine zY.v rfl rfl (yQ rfl rfl rfl (by decide)) ?_; refine zY.v rfl rfl (zR rfl rfl rfl g1 rfl (by decide)) ?_; refine zY.nil ?_) | (refine zZ.iq 5 ?_; refine zZ.rqd _ K_r K_g ?_; refine zY.vm rfl rfl rfl rfl (by decide) ?_; refine zY.vm rfl rfl rfl rfl (by decide) ?_; refine zY.v rfl rfl (zH rfl rfl rfl hc g2 rfl (by decide)) ?_; refine zY.v rfl rfl (yJ rfl rfl rfl (by decide)) ?_; refine zY.v rfl rfl (zT rfl rfl rfl rfl (by decide)) ?_; refine zY.v rfl rfl (by exact yU (c) rfl rfl rfl (by decide)) ?_; refine zY.v rfl rfl (yG rfl rfl rfl (by decide)) ?_; refine zY.v rfl rfl (zD rfl rfl rfl rfl (by decide)) ?_; refine zY.v rfl rfl (zD rfl rfl rfl rfl (by decide)) ?_; refine zY.va rfl rfl rfl rfl (by decide) ?_; refine zY.va rfl rfl rfl rfl (by decide) ?_; refine zY.nil ?_) | (refine zZ.iq 6 ?_; refine zZ.rqd _ K_r K_g ?_; refine zY.vm rfl rfl rfl rfl (by decide) ?_; refine zY.vm rfl rfl rfl rfl (by decide) ?_; refine zY.v rfl rfl (wG rfl (by rfl) (by rfl) (by rfl) (by rfl) rfl (by decide)) ?_; refine zY.m rfl rfl (yN rfl (by decide) rfl (by decide)) ?_; refine zY.w rfl (by exact yZ rfl rfl rfl rfl rfl (by rfl) (by exact Nat.le_of_ble_eq_true rfl) rfl rfl) ?_; refine zY.nil ?_) | (refine zZ.iq 7 ?_; refine zZ.rqb _ K_r K_g ?_; refine zY.vm rfl rfl rfl rfl (by decide) ?_; refine zY.v rfl rfl (vJ rfl rfl rfl c1 rfl (by decide)) ?_; refine zY.nil ?_) | (refine zZ.iq 8 ?_; refine zZ.rqb _ K_r K_g ?_; refine zY.vm rfl rfl rfl rfl (by decide) ?_; refine zY.vm rfl rfl rfl rfl (by decide) ?_; refine zY.v rfl rfl (zH rfl rfl rfl hc g2 rfl (by decide)) ?_; refine zY.v rfl rfl (yJ rfl rfl rfl (by decide)) ?_; refine zY.v rfl rfl (zT rfl rfl rfl rfl (by decide)) ?_; refine zY.v rfl rfl (zJ rfl rfl rfl (by decide)) ?_; refine zY.w rfl (by exact yZ rfl rfl rfl rfl rfl (by rfl) (by exact Nat.le_of_ble_eq_true rfl) rfl rfl) ?_; refine zY.nil ?_) | (refine zZ.iq 9 ?_; refine zZ.rqb _ K_r K_g ?_; refine zY.v rfl rfl (yA rfl rfl rfl (by decide)) ?_; refine zY.v rfl rfl (yL rfl rfl rfl (by rfl) (by rfl) rfl (by decide)) ?_; refine zY.v rfl rfl (xJ rfl (by decide) (by decide) (by decide) (by decide) (by rfl) (by rfl) (by rfl) (by rfl) (by rfl) (by rfl) (by rfl) rfl (by decide)) ?_; refine zY.w rfl (qA rfl rfl rfl rfl q6 q8 rfl (by decide) rfl (by decide)) ?_; refine zY.v rfl rfl (zP rfl rfl rfl (by decide)) ?_; refine zY.nil ?_) | (refine zZ.iq 4 ?_; refine zZ.rqb _ K_r K_g ?_; refine zY.vm rfl rfl rfl rfl (by decide) ?_; refine zY.v rfl rfl (yD rfl rfl rfl g3 rfl (by decide)) ?_; refine zY.va rfl rfl rfl rfl (by decide) ?_; refine zY.nil ?_) | refine zZ.yV rfl (by first | assumption | with_reducible rfl) ?_ | refine zZ.skip ?_ | refine zZ.block ?_) | refine zF.n ?_ | refine zM.n ?_)
        all_goals
          refine ⟨i + 1, ?_, hlt, by omega⟩
          try unfold lcS
          rw [htake]
          exact zB K_e K_q
      case false =>
        rw [if_neg (of_decide_eq_false c1)] at htake q6 q7 q8
        repeat' (first | (refine zZ.is ?_; first | refine zZ.seq ?_ | (refine zZ.iq 3 ?_; refine zZ.rqd _ K_r K_g ?_; refine zY.vm rfl rfl rfl rfl (by decide) ?_; refine zY.vm rfl rfl rfl rfl (by decide) ?_; refine zY.v rfl rfl (yQ rfl rfl rfl (by decide)) ?_; refine zY.v rfl rfl (zR rfl rfl rfl g1 rfl (by decide)) ?_; refine zY.nil ?_) | (refine zZ.iq 5 ?_; refine zZ.rqd _ K_r K_g ?_; refine zY.vm rfl rfl rfl rfl (by decide) ?_; refine zY.vm rfl rfl rfl rfl (by decide) ?_; refine zY.v rfl rfl (zH rfl rfl rfl hc g2 rfl (by decide)) ?_; refine zY.v rfl rfl (yJ rfl rfl rfl (by decide)) ?_; refine zY.v rfl rfl (zT rfl rfl rfl rfl (by decide)) ?_; refine zY.v rfl rfl (by exact yU (c) rfl rfl rfl (by decide)) ?_; refine zY.v rfl rfl (yG rfl rfl rfl (by decide)) ?_; refine zY.v rfl rfl (zD rfl rfl rfl rfl (by decide)) ?_; refine zY.v rfl rfl (zD rfl rfl rfl rfl (by decide)) ?_; refine zY.va rfl rfl rfl rfl (by decide) ?_; refine zY.va rfl rfl rfl rfl (by decide) ?_; refine zY.nil ?_) | (refine zZ.iq 6 ?_; refine zZ.rqd _ K_r K_g ?_; refine zY.vm rfl rfl rfl rfl (by decide) ?_; refine zY.vm rfl rfl rfl rfl (by decide) ?_; refine zY.v rfl rfl (wG rfl (by rfl) (by rfl) (by rfl) (by rfl) rfl (by decide)) ?_; refine zY.m rfl rfl (yN rfl (by decide) rfl (by decide)) ?_; refine zY.w rfl (by exact yZ rfl rfl rfl rfl rfl (by rfl) (by exact Nat.le_of_ble_eq_true rfl) rfl rfl) ?_; refine zY.nil ?_) | (refine zZ.iq 7 ?_; refine zZ.rqb _ K_r K_g ?_; refine zY.vm rfl rfl rfl rfl (by decide) ?_; refine zY.v rfl rfl (vJ rfl rfl rfl c1 rfl (by decide)) ?_; refine zY.nil ?_) | (refine zZ.iq 9 ?_; refine zZ.rqb _ K_r K_g ?_; refine zY.v rfl rfl (yA rfl rfl rfl (by decide)) ?_; refine zY.v rfl rfl (yL rfl rfl rfl (by rfl) (by rfl) rfl (by decide)) ?_; refine zY.v rfl rfl (xJ rfl (by decide) (by decide) (by decide) (by decide) (by rfl) (by rfl) (by rfl) (by rfl) (by rfl) (by rfl) (by rfl) rfl (by decide)) ?_; refine zY.w rfl (qA rfl rfl rfl rfl q6 q8 rfl (by decide) rfl (by decide)) ?_; refine zY.v rfl rfl (zP rfl rfl rfl (by decide)) ?_; refine zY.nil ?_) | (refine zZ.iq 4 ?_; refine zZ.rqb _ K_r K_g ?_; refine zY.vm rfl rfl rfl rfl (by decide) ?_; refine zY.v rfl rfl (yD rfl rfl rfl g3 rfl (by decide)) ?_; refine zY.va rfl rfl rfl rfl (by decide) ?_; refine zY.nil ?_) | refine zZ.yV rfl (by first | assumption | with_reducible rfl) ?_ | refine zZ.yX rfl (by first | assumption | with_reducible rfl) ?_ | refine zZ.skip ?_ | refine zZ.block ?_) | refine zF.n ?_ | refine zM.n ?_)
        all_goals
          refine ⟨i + 1, ?_, hlt, by omega⟩
          try unfold lcS
          rw [htake]
          exact zB K_e K_q
    case neg =>
      have hie : i = L.length := by omega
      subst hie
      have g1 : decide (((L.length : Nat) : Int) < (((L.map zQ.V).length : Nat) : Int)) = false := decide_eq_false (by rw [hlen]; omega)
      rw [List.take_length]
      repeat' (first | (refine zZ.is ?_; first | refine zZ.seq ?_ | (refine zZ.iq 3 ?_; refine zZ.rqd _ K_r K_g ?_; refine zY.vm rfl rfl rfl rfl (by decide) ?_; refine zY.vm rfl rfl rfl rfl (by decide) ?_; refine zY.v rfl rfl (yQ rfl rfl rfl (by decide)) ?_; refine zY.v rfl rfl (zR rfl rfl rfl g1 rfl (by decide)) ?_; refine zY.nil ?_) | (refine zZ.iq 10 ?_; refine zZ.rqw _ K_1l K_g ?_; refine zY.v rfl rfl (yA rfl rfl rfl (by decide)) ?_; refine zY.v rfl rfl (zP rfl rfl rfl (by decide)) ?_; refine zY.nil ?_) | refine zZ.yX rfl (by first | assumption | with_reducible rfl) ?_ | refine zZ.exit ?_ | refine zZ.ret ?_) | refine zF.n ?_ | refine zM.eY ?_ | refine zF.e ?_)
      all_goals exact ⟨.inl rfl, _, sub_frzE 42 59 3 _ rfl, xC.p rfl (.tmp rfl)⟩
end Go.Proofs.YtomlhekjgagjaaaDoor
namespace Go.Proofs.YtomlhekjgagjaaaDoor
set_option maxRecDepth 100000
set_option maxHeartbeats 16000000
open Go Go.RowKit
def asSlP : PV → PV
  | .val (.slice none 0 0) => .sl []
  | x => x
theorem asSlP_rep {M : Nat → Nat → Prop} {w : World} {x : PV} {v : Value} (h : Rep M w x v) : Rep M w (asSlP x) v := by
  unfold asSlP
  split
  · cases h with
    | val => exact .nil
  · exact h
theorem sub_slNil {S : AS} {d : Nat} {es es' : List PV} (hd : S.tmp d = .p (.sl es)) (he : es' = es.map asSlP) (h1 : flat es = es) (h2 : flat es' = es') : Sub S (S.put d (.p (.sl es'))) :=
  fun M n w0 ρ a w hs => by
    refine ⟨ρ, hs.retype ?_⟩
    have h := hs.tmps d
    rw [hd] at h
    cases h with
    | p h =>
      generalize a.tmps.getD d undef = v at h
      refine .p ?_
      cases h with
      | nil =>
        subst he
        exact .nil
      | sl _ g o n cap ys hn hl hc h3 h4 hM hg hcap hm =>
        refine .sl es' g o n cap ys (by rw [he, List.length_map]; exact hn) (by rw [h2, he, List.length_map, hl, h1]) hc (fun j c y hj hy => ?_) h4 hM hg hcap hm
        rw [h2, he, List.getElem?_map, Option.map_eq_some_iff] at hj
        obtain ⟨c', hc', rfl⟩ := hj
        exact asSlP_rep (h3 j c' y (by rw [h1]; exact hc') hy)
end Go.Proofs.YtomlhekjgagjaaaDoor
namespace Go.Proofs.YtomlhekjgagjaaaDoor
set_option maxRecDepth 100000
set_option maxHeartbeats 16000000
open Go Go.RowKit
attribute [local irreducible] zY zZ Step zA Sub zN yY Fn zF zM
theorem mlays_fn (L : List zQ) (hok : ∀ e ∈ L, e.ok) (hmx : L.length ≤ maxLen) : Fn Tryd.prog 4 [.sl (L.map zQ.V)] (.p (.val (.bool true))) := by
 have sh := shown22_fn
 have hlL : (L.map zQ.V).length = L.length := by rw [List.length_map]
 refine wQ Tryd.func4 rfl Tryd.ntmps4 (Nat.le_of_ble_eq_true rfl) ?_
 by_cases h12 : L.length ≤ 12
 case neg =>
  have c1 : decide ((((L.map zQ.V).length : Nat) : Int) > 12) = true := decide_eq_true (by rw [hlL]; omega)
  repeat' (first | (refine zZ.is ?_; first | refine zZ.seq ?_ | (refine zZ.iq 0 ?_; refine zZ.rqa _ K_2 K_l ?_; refine zY.va rfl rfl rfl rfl (by decide) ?_; refine zY.nil ?_) | (refine zZ.iq 1 ?_; refine zZ.rqa _ K_c K_l ?_; refine zY.v rfl rfl (by exact zU (sh) rfl rfl rfl (by decide)) ?_; refine zY.va rfl rfl rfl rfl (by decide) ?_; refine zY.nil ?_) | (refine zZ.iq 2 ?_; refine zZ.rqa _ K_3 K_l ?_; all_goals (refine zY.vm rfl rfl rfl rfl (by decide) ?_); all_goals (refine zY.v rfl rfl (yQ rfl rfl rfl (by decide)) ?_); all_goals (refine zY.v rfl rfl (wW rfl rfl rfl c1 rfl (by decide)) ?_); all_goals (refine zY.vm rfl rfl rfl rfl (by decide) ?_); all_goals (refine zY.gnF rfl rfl (by decide) rfl (by rfl) rfl (by decide) ?_); all_goals (refine zY.gnF rfl rfl (by decide) rfl (by rfl) rfl (by decide) ?_); all_goals (refine zY.gnF rfl rfl (by decide) rfl (by rfl) rfl (by decide) ?_); all_goals (refine zY.v rfl rfl (zL rfl rfl (by rfl) rfl rfl (by decide)) ?_); all_goals (refine zY.nil ?_)) | (refine zZ.iq 3 ?_; refine zZ.rqa _ K_3 K_l ?_; refine zY.vm rfl rfl rfl rfl (by decide) ?_; refine zY.va rfl rfl rfl rfl (by decide) ?_; refine zY.nil ?_) | refine zZ.yV rfl (by first | assumption | with_reducible rfl) ?_ | refine zZ.ret ?_) | refine zF.n ?_ | refine zF.r ?_)
  all_goals exact ⟨.inl rfl, gives1 rfl rfl rfl⟩
 case pos =>
  have c1 : decide ((((L.map zQ.V).length : Nat) : Int) > 12) = false := decide_eq_false (by rw [hlL]; omega)
  by_cases hR : RowsOK L
  case neg =>
   have rw1 := rowsR_fn L (by omega) hok false (by simp [hR])
   repeat' (first | (refine zZ.is ?_; first | refine zZ.seq ?_ | (refine zZ.iq 0 ?_; refine zZ.rqa _ K_2 K_l ?_; refine zY.va rfl rfl rfl rfl (by decide) ?_; refine zY.nil ?_) | (refine zZ.iq 1 ?_; refine zZ.rqa _ K_c K_l ?_; refine zY.v rfl rfl (by exact zU (sh) rfl rfl rfl (by decide)) ?_; refine zY.va rfl rfl rfl rfl (by decide) ?_; refine zY.nil ?_) | (refine zZ.iq 2 ?_; refine zZ.rqa _ K_3 K_l ?_; all_goals (refine zY.vm rfl rfl rfl rfl (by decide) ?_); all_goals (refine zY.v rfl rfl (yQ rfl rfl rfl (by decide)) ?_); all_goals (refine zY.v rfl rfl (wW rfl rfl rfl c1 rfl (by decide)) ?_); all_goals (refine zY.vm rfl rfl rfl rfl (by decide) ?_); all_goals (refine zY.gY rfl rfl (by decide) rfl (by rfl) rfl (by decide) (zK rfl rfl rfl (by decide)) ?_); all_goals (refine zY.gY rfl rfl (by decide) rfl (by rfl) rfl (by decide) (by exact zU (rw1) rfl rfl rfl (by decide)) ?_); all_goals (refine zY.gY rfl rfl (by decide) rfl (by rfl) rfl (by decide) (by exact y9 rfl rfl (by exact bT (by decide)) rfl (by decide)) ?_); all_goals (refine zY.v rfl rfl (zI rfl rfl (by rfl) rfl rfl (by decide)) ?_); all_goals (refine zY.nil ?_)) | (refine zZ.iq 3 ?_; refine zZ.rqa _ K_3 K_l ?_; refine zY.vm rfl rfl rfl rfl (by decide) ?_; refine zY.va rfl rfl rfl rfl (by decide) ?_; refine zY.nil ?_) | refine zZ.yV rfl (by rfl) ?_ | refine zZ.ret ?_) | refine zF.n ?_ | refine zF.r ?_)
   all_goals exact ⟨.inl rfl, gives1 rfl rfl rfl⟩
  case pos =>
   have rw1 := rowsR_fn L (by omega) hok true (by simp [hR])
   have hn := hR.once
   have hAl := anewL_len L
   have hAok := anewL_ok' hR hok (by omega)
   obtain ⟨hRA, hkA⟩ := rows_anew hR hok (by omega)
   have a1 := anew_fn L (by omega)
   have b1 := mBytes_fn (xV L) (by omega) hAok
   have b2 := bytesL_fn (xV L) (by omega) hAok
   have b3 := mBytes_fn L (by omega) hok
   have b4 := bytesL_fn L (by omega) hok
   have g1 := arcs_fn (xV L) (by omega) hAok
   have g2 := arcsR_fn L (by omega) hok
   have g4 := right_arc (L.map xS) (by rw [List.length_map]; omega) (graph_ok hR hok)
   have g3 := sameArc_fn (L.map xS) (by rw [List.length_map]; omega)
   rw [anew_arcs] at g1
   have a2 := anewR_fn L (xV L) (by omega) hAl (anew_ref hR hok)
   have s1 := same_fn (xV L) (xV L) (by omega) (by omega) true (by simp)
   have rw2 := rowsR_fn (xV L) (by omega) hAok true (by simp [hRA])
   obtain ⟨y1, y2, hbb⟩ := read_back hRA hAok hkA (by omega) (L.length : Int)
   obtain ⟨z1, z2, _⟩ := read_back hRA hAok hkA (by omega) ((L.length : Int) - 1)
   obtain ⟨q1, q2⟩ := liveF_rows hRA
   rw [hAl] at q1 q2
   rw [q1] at y1
   rw [q2] at z2
   have hcl := catE_len (xK (xV L).length :: xV L)
   rw [List.length_cons] at hcl
   have l1 := mLive_fn [wE (xK (xV L).length :: xV L), []] (L.length : Int) (fun s hs => by
    simp only [List.mem_cons, List.not_mem_nil, or_false] at hs
    rcases hs with rfl | rfl
    ·exact hbb
    ·exact fun x hx => by cases hx) (by simp) (by simp only [total, List.map_cons, List.map_nil, List.sum_cons, List.sum_nil, List.length_nil]; omega)
   have l2 := mLive_fn [wE (xK (xV L).length :: xV L)] ((L.length : Int) - 1) (fun s hs => by rw [List.mem_singleton] at hs; subst hs; exact hbb) (by simp) (by simp only [total, List.map_cons, List.map_nil, List.sum_cons, List.sum_nil]; omega)
   rw [y1] at l1
   rw [z2] at l2
   have w1 : IntKind.i64.wrap ((((L.map zQ.V).length : Nat) : Int) - 1) = (L.length : Int) - 1 := by rw [hlL, wrap_i64 _ (by omega)]
   clear hcl hbb y1 y2 z1 z2 q1 q2 hRA hkA hAok hn hAl hR hok hmx
   have l1 : Fn Tryd.prog 12 [.sl [.sl (byts (wE (xK (xV L).length :: xV L))), .sl []], .val (.int .i64 (L.length : Nat))] (.tup [.sl ((xV L).map zQ.V), .val (.int .i64 0)]) := l1
   rw [← hlL] at l1
   have l2 : Fn Tryd.prog 12 [.sl [.sl (byts (wE (xK (xV L).length :: xV L)))], .val (.int .i64 ((L.length : Int) - 1))] (.tup [.sl [], .val (.int .i64 8)]) := l2
   generalize wE (xK (xV L).length :: xV L) = X1 at *
   generalize wE (xK L.length :: L) = X2 at *
   generalize L.map xS = G at *
   generalize xV L = A at *
   have t1 : ((strOfNums X1).toList == (strOfNums X1).toList) = true := beq_self_eq_true _
   have t2 : ((strOfNums X2).toList == (strOfNums X2).toList) = true := beq_self_eq_true _
   repeat' (first | refine zY.sub (sub_slNil (d := 29) (es := [.sl (byts X1), .val (.slice none 0 0)]) (es' := [.sl (byts X1), .sl []]) rfl rfl rfl rfl) ?_ | (refine zY.is ?_; first | refine zY.nil ?_ | refine zY.v rfl rfl (by first | exact wR rfl rfl rfl (by decide) | exact yQ rfl rfl rfl (by decide) | exact zD rfl rfl rfl rfl (by decide) | exact zK rfl rfl rfl (by decide) | exact yG rfl rfl rfl (by decide) | exact yU (l1) rfl rfl rfl (by decide) | exact xJ rfl (by decide) (by decide) (by decide) (by decide) (by rfl) (by rfl) (by rfl) (by rfl) (by rfl) (by rfl) (by rfl) rfl (by decide)) ?_) | (refine zZ.is ?_; first | refine zZ.seq ?_ | (refine zZ.iq 0 ?_; refine zZ.rqa _ K_2 K_l ?_; refine zY.va rfl rfl rfl rfl (by decide) ?_; refine zY.nil ?_) | (refine zZ.iq 1 ?_; refine zZ.rqa _ K_c K_l ?_; refine zY.v rfl rfl (by exact zU (sh) rfl rfl rfl (by decide)) ?_; refine zY.va rfl rfl rfl rfl (by decide) ?_; refine zY.nil ?_) | (refine zZ.iq 2 ?_; refine zZ.rqa _ K_3 K_l ?_; all_goals (refine zY.vm rfl rfl rfl rfl (by decide) ?_); all_goals (refine zY.v rfl rfl (yQ rfl rfl rfl (by decide)) ?_); all_goals (refine zY.v rfl rfl (wW rfl rfl rfl c1 rfl (by decide)) ?_); all_goals (refine zY.vm rfl rfl rfl rfl (by decide) ?_); all_goals (refine zY.gY rfl rfl (by decide) rfl (by rfl) rfl (by decide) (zK rfl rfl rfl (by decide)) ?_); all_goals (refine zY.gY rfl rfl (by decide) rfl (by rfl) rfl (by decide) (by exact zU (rw1) rfl rfl rfl (by decide)) ?_); all_goals (refine zY.gY rfl rfl (by decide) rfl (by rfl) rfl (by decide) (by exact y9 rfl rfl (by exact bF (by decide)) rfl (by decide)) ?_); all_goals (refine zY.v rfl rfl (zI rfl rfl (by rfl) rfl rfl (by decide)) ?_); all_goals (refine zY.nil ?_)) | (refine zZ.iq 4 ?_; refine zZ.rqa _ K_3 K_l ?_; refine zY.vm rfl rfl rfl rfl (by decide) ?_; refine zY.v rfl rfl (by exact zU (a1) rfl rfl rfl (by decide)) ?_; refine zY.va rfl rfl rfl rfl (by decide) ?_; refine zY.nil ?_) | (refine zZ.iq 5 ?_; refine zZ.rqa _ K_m K_l ?_; refine zY.vm rfl rfl rfl rfl (by decide) ?_; refine zY.v rfl rfl (by exact zU (b1) rfl rfl rfl (by decide)) ?_; refine zY.va rfl rfl rfl rfl (by decide) ?_; refine zY.nil ?_) | (refine zZ.iq 6 ?_; refine zZ.rqa _ K_1w K_l ?_; refine zY.vm rfl rfl rfl rfl (by decide) ?_; refine zY.v rfl rfl (by exact zU (g1) rfl rfl rfl (by decide)) ?_; refine zY.va rfl rfl rfl rfl (by decide) ?_; refine zY.nil ?_) | (refine zZ.iq 7 ?_; refine zZ.rqa _ K_40 K_l ?_) | (refine zZ.iq 8 ?_; refine zZ.rqa _ K_41 K_l ?_; refine zY.vm rfl rfl rfl rfl (by decide) ?_; refine zY.v rfl rfl (xJ rfl (by decide) (by decide) (by decide) (by decide) (by rfl) (by rfl) (by rfl) (by rfl) (by rfl) (by rfl) (by rfl) rfl (by decide)) ?_; refine zY.vm rfl rfl rfl rfl (by decide) ?_; refine zY.v rfl rfl (yQ rfl rfl rfl (by decide)) ?_; refine zY.v rfl rfl (wY rfl rfl rfl w1 rfl (by decide)) ?_; refine zY.v rfl rfl (by exact yU (l2) rfl rfl rfl (by decide)) ?_; refine zY.v rfl rfl (yG rfl rfl rfl (by decide)) ?_; refine zY.v rfl rfl (zD rfl rfl rfl rfl (by decide)) ?_; refine zY.v rfl rfl (zD rfl rfl rfl rfl (by decide)) ?_; refine zY.va rfl rfl rfl rfl (by decide) ?_; refine zY.va rfl rfl rfl rfl (by decide) ?_; refine zY.nil ?_) | (refine zZ.isR (id := 9) ?_; refine zZ.xY [0, 2, 3, 4, 5, 6, 7, 8, 10] [29, 37] (by repeat' first | exact zX.nil | apply zX.p rfl) (by repeat' first | exact zW.nil | apply zW.skip) (zZ.draws ?_); all_goals (refine Draws.v rfl rfl (zK rfl rfl rfl (by decide)) ?_); all_goals (refine Draws.v rfl rfl (zK rfl rfl rfl (by decide)) ?_); all_goals (refine Draws.gY rfl rfl (by decide) rfl (by rfl) rfl (zK rfl rfl rfl (by decide)) ?_); all_goals (refine Draws.gY rfl rfl (by decide) rfl (by rfl) rfl (zK rfl rfl rfl (by decide)) ?_); all_goals (refine Draws.gY rfl rfl (by decide) rfl (by rfl) rfl (by exact zU (a2) rfl rfl rfl (by decide)) ?_); all_goals (refine Draws.gY rfl rfl (by decide) rfl (by rfl) rfl (by exact zU (s1) rfl rfl rfl (by decide)) ?_); all_goals (refine Draws.v rfl rfl (zL rfl rfl (by rfl) rfl rfl (by decide)) ?_); all_goals (refine Draws.v rfl rfl (zK rfl rfl rfl (by decide)) ?_); all_goals (refine Draws.gY rfl rfl (by decide) rfl (by rfl) rfl (zK rfl rfl rfl (by decide)) ?_); all_goals (refine Draws.gY rfl rfl (by decide) rfl (by rfl) rfl (w_str rfl rfl rfl (by decide)) ?_); all_goals (refine Draws.gY rfl rfl (by decide) rfl (by rfl) rfl (zK rfl rfl rfl (by decide)) ?_); all_goals (refine Draws.gY rfl rfl (by decide) rfl (by rfl) rfl (by exact zU (b2) rfl rfl rfl (by decide)) ?_); all_goals (refine Draws.gY rfl rfl (by decide) rfl (by rfl) rfl (w_str rfl rfl rfl (by decide)) ?_); all_goals (refine Draws.gY rfl rfl (by decide) rfl (by rfl) rfl (r_eqlS rfl rfl rfl t1 rfl (by decide)) ?_); all_goals (refine Draws.v rfl rfl (zL rfl rfl (by rfl) rfl rfl (by decide)) ?_); all_goals (refine Draws.v rfl rfl (zK rfl rfl rfl (by decide)) ?_); all_goals (refine Draws.gY rfl rfl (by decide) rfl (by rfl) rfl (zK rfl rfl rfl (by decide)) ?_); all_goals (refine Draws.gY rfl rfl (by decide) rfl (by rfl) rfl (by exact zU (b3) rfl rfl rfl (by decide)) ?_); all_goals (refine Draws.gY rfl rfl (by decide) rfl (by rfl) rfl (w_str rfl rfl rfl (by decide)) ?_); all_goals (refine Draws.gY rfl rfl (by decide) rfl (by rfl) rfl (zK rfl rfl rfl (by decide)) ?_); all_goals (refine Draws.gY rfl rfl (by decide) rfl (by rfl) rfl (by exact zU (b4) rfl rfl rfl (by decide)) ?_); all_goals (refine Draws.gY rfl rfl (by decide) rfl (by rfl) rfl (w_str rfl rfl rfl (by decide)) ?_); all_goals (refine Draws.gY rfl rfl (by decide) rfl (by rfl) rfl (r_eqlS rfl rfl rfl t2 rfl (by decide)) ?_); all_goals (refine Draws.v rfl rfl (zL rfl rfl (by rfl) rfl rfl (by decide)) ?_); all_goals (refine Draws.v rfl rfl (zK rfl rfl rfl (by decide)) ?_); all_goals (refine Draws.gY rfl rfl (by decide) rfl (by rfl) rfl (zK rfl rfl rfl (by decide)) ?_); all_goals (refine Draws.gY rfl rfl (by decide) rfl (by rfl) rfl (zK rfl rfl rfl (by decide)) ?_); all_goals (refine Draws.gY rfl rfl (by decide) rfl (by rfl) rfl (by exact zU (g2) rfl rfl rfl (by decide)) ?_); all_goals (refine Draws.gY rfl rfl (by decide) rfl (by rfl) rfl (by exact zU (g3) rfl rfl rfl (by decide)) ?_); all_goals (refine Draws.v rfl rfl (zL rfl rfl (by rfl) rfl rfl (by decide)) ?_); all_goals (refine Draws.v rfl rfl (zK rfl rfl rfl (by decide)) ?_); all_goals (refine Draws.gY rfl rfl (by decide) rfl (by rfl) rfl (zK rfl rfl rfl (by decide)) ?_); all_goals (refine Draws.gY rfl rfl (by decide) rfl (by rfl) rfl (by exact zU (g4) rfl rfl rfl (by decide)) ?_); all_goals (refine Draws.v rfl rfl (zL rfl rfl (by rfl) rfl rfl (by decide)) ?_); all_goals (refine Draws.v rfl rfl (zK rfl rfl rfl (by decide)) ?_); all_goals (refine Draws.gY rfl rfl (by decide) rfl (by rfl) rfl (zK rfl rfl rfl (by decide)) ?_); all_goals (refine Draws.gY rfl rfl (by decide) rfl (by rfl) rfl (by exact zU (rw2) rfl rfl rfl (by decide)) ?_); all_goals (refine Draws.v rfl rfl (zL rfl rfl (by rfl) rfl rfl (by decide)) ?_); all_goals (refine Draws.v rfl rfl (zK rfl rfl rfl (by decide)) ?_); all_goals (refine Draws.gY rfl rfl (by decide) rfl (by rfl) rfl (zK rfl rfl rfl (by decide)) ?_); all_goals (refine Draws.gY rfl rfl (by decide) rfl (by rfl) rfl (by exact yF rfl rfl rfl (by exact bT (by decide)) rfl (by decide)) ?_); all_goals (refine Draws.v rfl rfl (zL rfl rfl (by rfl) rfl rfl (by decide)) ?_); all_goals (refine Draws.v rfl rfl (zK rfl rfl rfl (by decide)) ?_); all_goals (refine Draws.gY rfl rfl (by decide) rfl (by rfl) rfl (zK rfl rfl rfl (by decide)) ?_); all_goals (refine Draws.gY rfl rfl (by decide) rfl (by rfl) rfl (zK rfl rfl rfl (by decide)) ?_); all_goals (refine Draws.gY rfl rfl (by decide) rfl (by rfl) rfl (by exact zU (s1) rfl rfl rfl (by decide)) ?_); all_goals (refine Draws.v rfl rfl (zL rfl rfl (by rfl) rfl rfl (by decide)) ?_); all_goals (refine Draws.v rfl rfl (zK rfl rfl rfl (by decide)) ?_); all_goals (refine Draws.gY rfl rfl (by decide) rfl (by rfl) rfl (zK rfl rfl rfl (by decide)) ?_); all_goals (refine Draws.gY rfl rfl (by decide) rfl (by rfl) rfl (by exact yF rfl rfl rfl (by exact bT (by decide)) rfl (by decide)) ?_); all_goals (refine Draws.v rfl rfl (zL rfl rfl (by rfl) rfl rfl (by decide)) ?_); all_goals (refine Draws.v rfl rfl (wR rfl rfl rfl (by decide)) ?_); all_goals ((refine Draws.done (by kernel_rfl) (by kernel_rfl) (by kernel_rfl) ?_; refine zN.nil ?_))) | refine zZ.yX rfl (by first | assumption | with_reducible rfl) ?_ | refine zZ.skip ?_ | refine zZ.ret ?_) | refine zF.n ?_)
   all_goals exact ⟨.inl rfl, gives1 rfl rfl rfl⟩
end Go.Proofs.YtomlhekjgagjaaaDoor
namespace Go.Proofs.YtomlhekjgagjaaaDoor
set_option maxRecDepth 100000
set_option maxHeartbeats 16000000
open Go Go.RowKit
inductive PLe0 : PV → PV → Prop
  | refl (x : PV) : PLe0 x x
  | nil : PLe0 (.val (.slice none 0 0)) (.sl [])
inductive PL0s : List PV → List PV → Prop
  | nil : PL0s [] []
  | cons {x y : PV} {xs ys : List PV} (h : PLe0 x y) (hs : PL0s xs ys) : PL0s (x :: xs) (y :: ys)
inductive PLe1 : PV → PV → Prop
  | refl (x : PV) : PLe1 x x
  | nil : PLe1 (.val (.slice none 0 0)) (.sl [])
  | sl {xs ys : List PV} (hl : xs.length = ys.length) (h : PL0s (flat xs) (flat ys)) : PLe1 (.sl xs) (.sl ys)
inductive PLes : List PV → List PV → Prop
  | nil : PLes [] []
  | cons {x y : PV} {xs ys : List PV} (h : PLe1 x y) (hs : PLes xs ys) : PLes (x :: xs) (y :: ys)
inductive PLe : PV → PV → Prop
  | one {x y : PV} (h : PLe1 x y) : PLe x y
  | agg {xs ys : List PV} (h : PLes xs ys) : PLe (.agg xs) (.agg ys)
inductive PLet : List PV → List PV → Prop
  | nil : PLet [] []
  | cons {x y : PV} {xs ys : List PV} (h : PLe x y) (hs : PLet xs ys) : PLet (x :: xs) (y :: ys)
theorem PLe0.rep {x y : PV} (h : PLe0 x y) {M : Nat → Nat → Prop} {w : World} {v : Value} (hr : Rep M w x v) : Rep M w y v := by
  cases h with
  | refl => exact hr
  | nil => cases hr; exact .nil
theorem PL0s.at_ {xs ys : List PV} (h : PL0s xs ys) : xs.length = ys.length ∧ ∀ (i : Nat) y, ys[i]? = some y → ∃ x, xs[i]? = some x ∧ PLe0 x y := by
  induction h with
  | nil => exact ⟨rfl, fun i y h => by simp at h⟩
  | cons h hs ih =>
    refine ⟨by simp [ih.1], fun i y hy => ?_⟩
    cases i with
    | zero => simp at hy; subst hy; exact ⟨_, rfl, h⟩
    | succ i => exact ih.2 i y hy
theorem PL0s.append {xs ys xs' ys' : List PV} (h : PL0s xs ys) (h' : PL0s xs' ys') : PL0s (xs ++ xs') (ys ++ ys') := by
  induction h with
  | nil => exact h'
  | cons h _ ih => exact .cons h ih
theorem PLe1.rep {x y : PV} (h : PLe1 x y) {M : Nat → Nat → Prop} {w : World} {v : Value} (hr : Rep M w x v) : Rep M w y v := by
  cases h with
  | refl => exact hr
  | nil => cases hr; exact .nil
  | sl hl h =>
    obtain ⟨hfl, hat⟩ := h.at_
    rcases rep_sl hr with ⟨⟨b, rfl⟩, h0⟩ | ⟨g, off, cap, us, rfl, hl2, hcell, hM, hg, hcap, hm⟩
    · subst h0
      have : _ = [] := List.eq_nil_of_length_eq_zero hl.symm
      subst this
      exact .nil
    · rw [hl] at hcap ⊢
      exact .sl _ g off _ cap us rfl (hl2.len.trans hfl) hcell (fun j c y hc hy => by
        obtain ⟨x, hx, hle⟩ := hat j c hc
        exact hle.rep (hl2.each j x y hx hy)) hl2.one hM hg hcap hm
theorem PLes.refl : ∀ xs : List PV, PLes xs xs
  | [] => .nil
  | x :: xs => .cons (.refl x) (PLes.refl xs)
theorem PLes.at_ {xs ys : List PV} (h : PLes xs ys) : xs.length = ys.length ∧ ∀ (i : Nat) y, ys[i]? = some y → ∃ x, xs[i]? = some x ∧ PLe1 x y := by
  induction h with
  | nil => exact ⟨rfl, fun i y h => by simp at h⟩
  | cons h hs ih =>
    refine ⟨by simp [ih.1], fun i y hy => ?_⟩
    cases i with
    | zero => simp at hy; subst hy; exact ⟨_, rfl, h⟩
    | succ i => exact ih.2 i y hy
theorem PLe.rep {x y : PV} (h : PLe x y) {M : Nat → Nat → Prop} {w : World} {v : Value} (hr : Rep M w x v) : Rep M w y v := by
  cases h with
  | one h => exact h.rep hr
  | agg h =>
    obtain ⟨hl, hat⟩ := h.at_
    cases hr with
    | agg cs vs hl2 h2 h1 => exact .agg _ vs (hl2.trans hl) (fun i c u hc hu => by
        obtain ⟨x, hx, hxy⟩ := hat i c hc
        exact hxy.rep (h2 i x u hx hu)) h1
theorem PLet.at_ {xs ys : List PV} (h : PLet xs ys) : xs.length = ys.length ∧ ∀ (i : Nat) y, ys[i]? = some y → ∃ x, xs[i]? = some x ∧ PLe x y := by
  induction h with
  | nil => exact ⟨rfl, fun i y h => by simp at h⟩
  | cons h hs ih =>
    refine ⟨by simp [ih.1], fun i y hy => ?_⟩
    cases i with
    | zero => simp at hy; subst hy; exact ⟨_, rfl, h⟩
    | succ i => exact ih.2 i y hy
theorem PLe.refl (x : PV) : PLe x x := .one (.refl x)
section
variable {P : Program} {f : FuncId}
end
end Go.Proofs.YtomlhekjgagjaaaDoor
namespace Go.Proofs.YtomlhekjgagjaaaDoor
set_option maxRecDepth 100000
set_option maxHeartbeats 16000000
open Go Go.RowKit Go.ChangeShapes Go.WideShapes Go.ChangeAt
def NoM : Nat → Nat → Prop := fun _ _ => False
inductive Leaf where
  | int (k : IntKind)
  | bool
  | any
deriving DecidableEq
def leafOK : Leaf → Value → Prop
  | .int k, v => ∃ n, v = .int k n ∧ (Lit.int k n).wf = true
  | .bool, v => ∃ b, v = .bool b
  | .any, v => v.oneCell' = true
def flatB (P : Program) : Nat → TypeId → List Leaf → Bool
  | 0, _, _ => false
  | d + 1, t, ls => match P.underlying t with
    | some (.int k) => decide (ls = [.int k])
    | some .bool => decide (ls = [.bool])
    | some (.slice _) => decide (ls = [.any])
    | some (.struct fs) => (ls.length == P.cellsOf t) && (fs.toList.all fun f => flatB P d f.type ((ls.drop f.offset).take (P.cellsOf f.type)) && (((ls.drop f.offset).take (P.cellsOf f.type)).length == P.cellsOf f.type)) &&
      (List.range ls.length).all fun c => fs.toList.any fun f => decide (f.offset ≤ c) && decide (c < f.offset + P.cellsOf f.type)
    | _ => false
section
variable {H : Type} {enc : TypeId × Value → H} {P : Program} {W : World} {base : Nat} {spare : Nat → Bool} {held : Bool}
theorem flat_trod : ∀ (d : Nat) {t : TypeId} {ls : List Leaf}, flatB P d t ls = true → ∀ {fuel : Nat} {cs : List Value} {x : DataW H × List MemPlace}, DataW.trod enc P W base spare held fuel t cs = some x →
    cs.length = ls.length ∧ ∀ (i : Nat) l v, ls[i]? = some l → cs[i]? = some v → leafOK l v
  | 0, _, _, h, _, _, _, _ => by cases h
  | d + 1, t, ls, h, fuel, cs, x, hx => by
    unfold flatB at h
    cases hu : P.underlying t with
    | none => rw [hu] at h; cases h
    | some ds =>
      rw [hu] at h
      cases ds with
      | int k =>
        obtain rfl : ls = [.int k] := of_decide_eq_true h
        obtain ⟨n, rfl, _, hw⟩ := DataW.trod_int hu hx
        refine ⟨rfl, fun i l v hl hv => ?_⟩
        match i with
        | 0 => simp at hl hv; subst hl hv; exact ⟨n, rfl, hw⟩
        | i + 1 => simp at hl
      | bool =>
        obtain rfl : ls = [.bool] := of_decide_eq_true h
        obtain ⟨b, rfl, _⟩ := DataW.trod_bool hu hx
        refine ⟨rfl, fun i l v hl hv => ?_⟩
        match i with
        | 0 => simp at hl hv; subst hl hv; exact ⟨b, rfl⟩
        | i + 1 => simp at hl
      | slice e =>
        obtain rfl : ls = [.any] := of_decide_eq_true h
        have key : ∀ w : Value, w.oneCell' = true → cs = [w] → cs.length = [Leaf.any].length ∧ ∀ (i : Nat) l v, [Leaf.any][i]? = some l → cs[i]? = some v → leafOK l v := fun w hw e => by
          subst e
          refine ⟨rfl, fun i l v hl hv => ?_⟩
          match i with
          | 0 => simp at hl hv; subst hl hv; exact hw
          | i + 1 => simp at hl
        rcases DataW.trod_slice hu hx with ⟨e, _⟩ | ⟨a, len, cap, _, _, _, _, e, _⟩
        · exact key _ rfl e
        · exact key _ rfl e
      | struct fs =>
        simp only [Bool.and_eq_true, beq_iff_eq, List.all_eq_true, List.mem_range, List.any_eq_true, decide_eq_true_eq] at h
        obtain ⟨⟨hlen, hfs⟩, hcov⟩ := h
        obtain ⟨xs, n, _, _, hcl, hxl, hg⟩ := DataW.trod_struct hu hx
        refine ⟨by omega, fun i l v hl hv => ?_⟩
        have hil : i < ls.length := (List.getElem?_eq_some_iff.1 hl).1
        obtain ⟨f, hf, hf1, hf2⟩ := hcov i hil
        obtain ⟨hfl, hfn⟩ := hfs f hf
        obtain ⟨j, hj, hfj⟩ := List.getElem_of_mem hf
        have hfj2 : fs[j]? = some f := by
          rw [← hfj, Array.getElem_toList]
          exact Array.getElem?_eq_getElem _
        have h2 := hg j f hfj2
        have hjx : j < xs.length := by rw [hxl]; simpa using hj
        rw [List.getElem?_eq_getElem hjx] at h2
        obtain ⟨_, h3⟩ := flat_trod d hfl h2
        refine h3 (i - f.offset) l v ?_ ?_
        · rw [List.getElem?_take_of_lt (by omega), List.getElem?_drop, show f.offset + (i - f.offset) = i by omega]
          exact hl
        · rw [List.getElem?_take_of_lt (by omega), List.getElem?_drop, show f.offset + (i - f.offset) = i by omega]
          exact hv
      | _ => cases h
theorem has_block {r : Reach} {a : Addr} {e : TypeId} {n : Nat} (h : W.has P r base a e n) : a.spot = none ∧ a.block < W.heap.size := by
  obtain ⟨_, h1, row, cells, h2, _⟩ := h
  refine ⟨h1, ?_⟩
  unfold World.shape? at h2
  cases hb : W.heap[a.block]? with
  | none => rw [hb] at h2; cases h2
  | some o => exact (Array.getElem?_eq_some_iff.1 hb).1
theorem cell_slice {t e : TypeId} {a : Addr} {len cap : Nat} (ht : P.underlying t = some (.slice e)) (h : Cell.okWide P W .any base t (.slice (some a) len cap)) : a.spot = none ∧ a.block < W.heap.size ∧ len ≤ cap := by
  simp only [Cell.okWide, ht, Cell.ok] at h
  exact ⟨(has_block h.2.2).1, (has_block h.2.2).2, h.1⟩
theorem wide_slice {t e : TypeId} {a : Addr} {len cap : Nat} (ht : P.underlying t = some (.slice e)) (h : Value.okWide P W .any base t (.slice (some a) len cap)) : a.spot = none ∧ a.block < W.heap.size ∧ len ≤ cap :=
  cell_slice ht (by simpa only [Value.okWide, ht] using h)
theorem leaf_one {l : Leaf} {v : Value} (h : leafOK l v) : v.oneCell' = true := by
  cases l with
  | int k => obtain ⟨n, rfl, _⟩ := h; rfl
  | bool => obtain ⟨b, rfl⟩ := h; rfl
  | any => exact h
theorem flatten_len {n : Nat} : ∀ {rs : List (List Value)}, (∀ r ∈ rs, r.length = n) → rs.flatten.length = rs.length * n
  | [], _ => by simp
  | r :: rs, h => by
    rw [List.flatten_cons, List.length_append, h r (by simp), flatten_len fun x hx => h x (by simp [hx]), List.length_cons, Nat.add_mul]
    omega
theorem flatten_get {n : Nat} : ∀ {rs : List (List Value)}, (∀ r ∈ rs, r.length = n) → ∀ (i c : Nat), c < n → rs.flatten[i * n + c]? = (rs[i]?).bind (·[c]?)
  | [], _, i, c, _ => by simp
  | r :: rs, h, 0, c, hc => by
    rw [List.flatten_cons, Nat.zero_mul, Nat.zero_add, List.getElem?_append_left (by rw [h r (by simp)]; exact hc)]
    rfl
  | r :: rs, h, i + 1, c, hc => by
    have hr := h r (by simp)
    rw [List.flatten_cons, List.getElem?_append_right (by rw [hr, Nat.add_mul]; omega), hr]
    have e : (i + 1) * n + c - n = i * n + c := by rw [Nat.add_mul]; omega
    rw [e, flatten_get (fun x hx => h x (by simp [hx])) i c hc]
    rfl
theorem arg_rows {t e : TypeId} {ls : List Leaf} {dep : Nat} {v : Value} {fuel : Nat} {x : DataW H × List MemPlace} (ht : P.underlying t = some (.slice e)) (hfl : flatB P dep e ls = true) (hn : P.cellsOf e = ls.length)
    (hok : ∀ a len cap, v = .slice (some a) len cap → a.spot = none ∧ a.block < W.heap.size) (h : DataW.trod enc P W base (fun _ => true) held fuel t [v] = some x) :
    ∃ rows : List (List Value), (∀ r ∈ rows, r.length = ls.length ∧ ∀ (i : Nat) l u, ls[i]? = some l → r[i]? = some u → leafOK l u) ∧ rows.length ≤ maxLen ∧
      ∀ es : List PV, es.map PV.cells = rows.map (fun r => r.map PV.val) → Rep NoM W (.sl es) v := by
  rcases DataW.trod_slice ht h with ⟨hv, _⟩ | ⟨a, len, cap, elems, rest, n, _, hv, _, hb, hlc, hm, hlen, hel, _⟩
  · simp only [List.cons.injEq, and_true] at hv
    subst hv
    refine ⟨[], fun r hr => by simp at hr, Nat.zero_le _, fun es he => ?_⟩
    have : es = [] := by simpa using he
    subst this
    exact .nil
  · simp only [List.cons.injEq, and_true] at hv
    subst hv
    obtain ⟨hs, hbk⟩ := hok a len cap rfl
    obtain ⟨g, off, spot⟩ := a
    simp only at hs hbk
    subst hs
    have row : ∀ i, i < len → ∃ r : List Value, W.cells? base (Addr.add ⟨g, off, none⟩ (i * P.cellsOf e)) (P.cellsOf e) = some r ∧ r.length = ls.length ∧ ∀ (j : Nat) l u, ls[j]? = some l → r[j]? = some u → leafOK l u := by
      intro i hi
      have h1 := hel i hi
      rw [List.getElem?_eq_getElem (by omega : i < elems.length)] at h1
      obtain ⟨r, hr, h2⟩ := Option.bind_eq_some_iff.1 h1
      obtain ⟨h3, h4⟩ := flat_trod dep hfl h2
      exact ⟨r, hr, h3, h4⟩
    have rows : ∀ m, m ≤ len → ∃ rs : List (List Value), rs.length = m ∧ ∀ (i : Nat) r, rs[i]? = some r → W.cells? base (Addr.add ⟨g, off, none⟩ (i * P.cellsOf e)) (P.cellsOf e) = some r ∧ r.length = ls.length ∧ ∀ (j : Nat) l u, ls[j]? = some l → r[j]? = some u → leafOK l u := by
      intro m
      induction m with
      | zero => exact fun _ => ⟨[], rfl, fun i r h => by simp at h⟩
      | succ m ih =>
        intro hm2
        obtain ⟨rs, h1, h2⟩ := ih (by omega)
        obtain ⟨r, hr⟩ := row m (by omega)
        refine ⟨rs ++ [r], by simp [h1], fun i r' hi => ?_⟩
        rcases Nat.lt_or_ge i rs.length with h3 | h3
        · rw [List.getElem?_append_left h3] at hi
          exact h2 i r' hi
        · rw [List.getElem?_append_right h3] at hi
          have e0 : i - rs.length = 0 := by
            rcases Nat.eq_zero_or_pos (i - rs.length) with h | h
            · exact h
            · rw [List.getElem?_eq_none (by simp; omega)] at hi; cases hi
          rw [e0] at hi
          simp at hi
          subst hi
          rw [show i = m by omega]
          exact hr
    obtain ⟨rs, hrl, hrs⟩ := rows len (Nat.le_refl _)
    refine ⟨rs, fun r hr => ?_, by omega, fun es he => ?_⟩
    · obtain ⟨i, hi, rfl⟩ := List.getElem_of_mem hr
      exact (hrs i _ (List.getElem?_eq_getElem hi)).2
    · have hn0 : P.cellsOf e = ls.length := hn
      have hesl : es.length = rs.length := by simpa using congrArg List.length he
      have hflat : flat es = rs.flatten.map PV.val := by
        show es.flatMap PV.cells = _
        rw [List.flatMap_def, he, List.map_flatten]
      have hrn : ∀ r ∈ rs, r.length = ls.length := fun r hr => by
        obtain ⟨i, hi, rfl⟩ := List.getElem_of_mem hr
        exact (hrs i _ (List.getElem?_eq_getElem hi)).2.1
      have hyl : rs.flatten.length = rs.length * ls.length := flatten_len hrn
      have at_ : ∀ (j : Nat) y, rs.flatten[j]? = some y → ∃ i c r, j = i * ls.length + c ∧ rs[i]? = some r ∧ r[c]? = some y := fun j y hy => by
        have hj : j < rs.length * ls.length := by rw [← hyl]; exact (List.getElem?_eq_some_iff.1 hy).1
        have hpos : 0 < ls.length := by
          rcases Nat.eq_zero_or_pos ls.length with h | h
          · rw [h] at hj; omega
          · exact h
        have e1 : j = (j / ls.length) * ls.length + j % ls.length := by
          have := Nat.div_add_mod j ls.length
          rw [Nat.mul_comm] at this
          omega
        have hi : j / ls.length < rs.length := (Nat.div_lt_iff_lt_mul hpos).2 hj
        have hc : j % ls.length < ls.length := Nat.mod_lt _ hpos
        have h1 := flatten_get hrn (j / ls.length) (j % ls.length) hc
        rw [← e1, hy, List.getElem?_eq_getElem hi] at h1
        exact ⟨_, _, _, e1, List.getElem?_eq_getElem hi, h1.symm⟩
      refine .sl es g off len cap rs.flatten (by omega) (by rw [hflat, List.length_map]) (fun j y hy => ?_) (fun j c y hc hy => ?_) (fun y hy => ?_) (fun _ _ h => h) hbk hlc hm
      · obtain ⟨i, c, r, rfl, hr, hc⟩ := at_ j y hy
        have h1 := World.cells?_some (hrs i r hr).1
        have hcl : c < P.cellsOf e := by
          rw [hn0, ← (hrs i r hr).2.1]
          exact (List.getElem?_eq_some_iff.1 hc).1
        have h2 := h1.2.2 c hcl
        rw [hc, add_lit, add_lit, hn0, Nat.add_assoc] at h2
        exact h2
      · rw [hflat, List.getElem?_map, hy] at hc
        simp only [Option.map_some, Option.some.injEq] at hc
        subst hc
        exact .val _
      · obtain ⟨j, hj, rfl⟩ := List.getElem_of_mem hy
        obtain ⟨i, c, r, _, hr, hc⟩ := at_ j _ (List.getElem?_eq_getElem hj)
        have hcl : c < ls.length := by
          rw [← (hrs i r hr).2.1]
          exact (List.getElem?_eq_some_iff.1 hc).1
        exact leaf_one ((hrs i r hr).2.2 c _ _ (List.getElem?_eq_getElem hcl) hc)
end
end Go.Proofs.YtomlhekjgagjaaaDoor
namespace Go.Proofs.YtomlhekjgagjaaaDoor
set_option maxRecDepth 100000
set_option maxHeartbeats 16000000
open Go Go.RowKit Go.ChangeShapes Go.WideShapes Go.ChangeAt
theorem ownT : ownKnob Tryd.prog.godebug = none := by kernel_rfl
theorem laidOutT : laidOutB Tryd.prog = true := by kernel_rfl
section
variable {P : Program} {W : World}
theorem Fn.law {f : FuncId} {args : List PV} (h : Fn P f args (.p (.val (.bool true)))) (hlay : Lays W) {vs : List Value} (hl : vs.length = args.length) (hr : ∀ (i : Nat) x v, args[i]? = some x → vs[i]? = some v → Rep NoM W x v) :
    Calls P f vs.toArray W fun e W' => e = .returned (.bool true) ∧ Below W.heap.size W W' :=
  (h NoM W vs ⟨hlay, fun _ _ _ h => h⟩ (fun _ _ h => h.elim) hl hr).mono fun e W' ⟨v, he, hv, hb⟩ => by
    cases hv
    exact ⟨he, hb⟩
theorem reps1 {M : Nat → Nat → Prop} {x0 : PV} {v0 : Value} (h0 : Rep M W x0 v0) : ∀ (i : Nat) x v, [x0][i]? = some x → [v0][i]? = some v → Rep M W x v := by
  intro i x v hx hv
  match i with
  | 0 => simp at hx hv; subst hx; subst hv; exact h0
  | i + 1 => simp at hx
end
theorem gTbl : Tryd.prog.globalNamed "weald/crc.halves" = some 0 := by kernel_rfl
theorem tTbl : (Tryd.prog.globals[0]?).map (·.type) = some 132 := by kernel_rfl
def laidL : List (String × DataW Unit) := [("weald/crc.halves", Rows.laid_weald_crc_halves)]
theorem lays_of_laid {W : World} (h : laidMetH Tryd.prog laidL W) : Lays W := by
  rw [MakeChecks.laidMetH_plain _ _ _ (by kernel_rfl)] at h
  obtain ⟨ps, ⟨g0, t0, cs0, f0, p0, q0, hg0, ht0, hv0, hd0, _, _⟩, _⟩ := h
  obtain rfl := Option.some.inj (gTbl.symm.trans hg0)
  obtain rfl := Option.some.inj (tTbl.symm.trans ht0)
  have hcell := World.var?_cell hg0 hv0
  obtain ⟨xs, m1, _, hx1, hlen, hn, hel⟩ := DataW.trod_array Tryd.underlying132 hd0
  have c1 : Tryd.prog.cellsOf 109 = 1 := by kernel_rfl
  have c16 : Tryd.prog.cellsOf 132 = 16 := by kernel_rfl
  rw [c16] at hlen
  have hdat : Rows.laid_weald_crc_halves (H := Unit) = .agg (tbl0.map fun p => .lit (.int p.1 p.2)) := by kernel_rfl
  simp only [Prod.mk.injEq] at hx1
  have hxs : xs.map (·.1) = tbl0.map fun p => .lit (.int p.1 p.2) := by
    have := hx1.1
    rw [hdat] at this
    simpa using this.symm
  have hk : ∀ p ∈ tbl0, p.1 = .u32 := by decide +kernel
  intro g ys hg
  have hgy : g = 0 ∧ ys = tbl0 := by
    unfold seatTbl at hg
    split at hg
    · next h => exact ⟨h, (Option.some.inj hg).symm⟩
    · cases hg
  obtain ⟨rfl, rfl⟩ := hgy
  have at_ : ∀ (j : Nat) p, tbl0[j]? = some p → W.cell? ⟨0, j, none⟩ = some (.int p.1 p.2) := by
    intro j p hp
    have hj : j < 16 := (List.getElem?_eq_some_iff.1 hp).1
    have h1 := hel j hj
    have hxj : xs[j]? = some xs[j] := List.getElem?_eq_getElem (by omega)
    rw [hxj, c1, Nat.mul_one] at h1
    obtain ⟨k, e1, e2, _⟩ := DataW.trod_int Tryd.underlying109 h1
    have h3 : (xs.map (·.1))[j]? = some (.lit (.int .u32 k)) := by rw [List.getElem?_map, hxj, e2]; rfl
    rw [hxs, List.getElem?_map, hp] at h3
    simp only [Option.map_some, Option.some.injEq, DataW.lit.injEq, Lit.int.injEq] at h3
    obtain ⟨h4, h5⟩ := h3
    have h6 : cs0[j]? = some (.int .u32 k) := by
      have : (cs0.toList.drop j).take 1 = [cs0.toList[j]'(by rw [hlen]; exact hj)] := by
        rw [List.drop_eq_getElem_cons (by rw [hlen]; exact hj)]
        rfl
      rw [this] at e1
      simp only [List.cons.injEq, and_true] at e1
      rw [← e1]
      simp [Array.getElem?_eq_getElem (show j < cs0.size by simpa using (by rw [hlen]; exact hj : j < cs0.toList.length))]
    rw [hcell j, h6, h4, h5]
  refine ⟨?_, at_⟩
  have h0 := at_ 0 _ rfl
  unfold World.cell? at h0
  cases hh : W.heap[0]? with
  | none => rw [hh] at h0; cases h0
  | some o => exact (Array.getElem?_eq_some_iff.1 hh).1
theorem door_met (os : Os) (args : Array Value) : laidMetH Tryd.prog laidL ((World.doorLaid Tryd.prog 400 os).forCall (fun _ _ => 0) ⟨#[], args, []⟩).memory :=
  laidMetH_of_parts3 (fuel := 8) (laidMet_of_run' 8 (by kernel_rfl) (by kernel_rfl)) (by kernel_rfl) (by kernel_rfl)
end Go.Proofs.YtomlhekjgagjaaaDoor
namespace Go.Proofs.YtomlhekjgagjaaaDoor
set_option maxRecDepth 100000
set_option maxHeartbeats 16000000
open Go Go.RowKit Go.ChangeShapes Go.WideShapes Go.ChangeAt
section
variable {P : Program} {W : World} {H : Type} {enc : TypeId × Value → H}
end
end Go.Proofs.YtomlhekjgagjaaaDoor
namespace Go.Proofs.YtomlhekjgagjaaaDoor
set_option maxRecDepth 100000
set_option maxHeartbeats 16000000
open Go Go.RowKit Go.ChangeShapes Go.WideShapes Go.ChangeAt
def entOf (r : List Value) : zQ := match r with
  | [.int _ k, .int _ s, .int _ y, .int _ u, .int _ v, .int _ x] => ⟨k, s, y, u, v, x⟩
  | _ => ⟨0, 0, 0, 0, 0, 0⟩
theorem wfU {n : Int} (h : (Lit.int .u64 n).wf = true) : U n := by
  have h1 := bounds_u64 h
  unfold U
  omega
theorem entOf_cells {r : List Value} (hl : r.length = 6) (h : ∀ (i : Nat) l u, [Leaf.int .i64, .int .u64, .int .u64, .int .u64, .int .u64, .int .u64][i]? = some l → r[i]? = some u → leafOK l u) : (entOf r).V.cells = r.map PV.val ∧ (entOf r).ok := by
  match r, hl with
  | [a, b, c, d, e, f], _ =>
    obtain ⟨n0, rfl, h0⟩ := h 0 _ a rfl rfl
    obtain ⟨n1, rfl, h1⟩ := h 1 _ b rfl rfl
    obtain ⟨n2, rfl, h2⟩ := h 2 _ c rfl rfl
    obtain ⟨n3, rfl, h3⟩ := h 3 _ d rfl rfl
    obtain ⟨n4, rfl, h4⟩ := h 4 _ e rfl rfl
    obtain ⟨n5, rfl, h5⟩ := h 5 _ f rfl rfl
    exact ⟨rfl, wfU h1, wfU h2, wfU h3, wfU h4, wfU h5⟩
theorem arg_ents {H : Type} {enc : TypeId × Value → H} {W : World} {v : Value} {d : DataW H} {p : List MemPlace} {base : Nat} (hv : Value.okWide Tryd.prog W .any base 25 v) (h : DataW.Trod enc Tryd.prog W 0 (fun _ => true) true 25 v d p) :
    ∃ L : List zQ, Rep NoM W (.sl (L.map zQ.V)) v ∧ (∀ e ∈ L, e.ok) ∧ L.length ≤ maxLen := by
  have ht : Tryd.prog.underlying 25 = some (.slice 46) := Tryd.underlying25
  obtain ⟨a, len, cap, rfl⟩ := okWide_slice ht hv
  obtain ⟨fuel, hf⟩ := h
  have hf' : DataW.trod enc Tryd.prog W 0 (fun _ => true) true fuel 25 [Value.slice a len cap] = some (d, p) := hf
  obtain ⟨rows, h1, h2, h3⟩ := arg_rows (ls := [Leaf.int .i64, .int .u64, .int .u64, .int .u64, .int .u64, .int .u64]) (dep := 8) ht (by kernel_rfl) (by kernel_rfl) (fun a' len' cap' e' => by
    injection e' with e1 e2 e3
    subst e1 e2 e3
    have := wide_slice ht hv
    exact ⟨this.1, this.2.1⟩) hf'
  refine ⟨rows.map entOf, h3 _ ?_, fun e he => ?_, by simpa using h2⟩
  · rw [List.map_map, List.map_map]
    exact List.map_congr_left fun r hr => (entOf_cells (h1 r hr).1 (h1 r hr).2).1
  · obtain ⟨r, hr, rfl⟩ := List.mem_map.1 he
    exact (entOf_cells (h1 r hr).1 (h1 r hr).2).2
end Go.Proofs.YtomlhekjgagjaaaDoor
namespace Go.Proofs.YtomlhekjgagjaaaDoor
set_option maxRecDepth 100000
set_option maxHeartbeats 16000000
open Go Go.RowKit Go.ChangeShapes Go.WideShapes Go.ChangeAt
theorem mergeLays_lifted (os : Os) (started : os.Started) (H : Type) (enc : TypeId × Value → H) :
    ReturnsInHanded {} Tryd.checked os 4 .any (fun w args => (Rows.mergeLaysSpec.pre enc Tryd.prog Tryd.f4 [] false w args ∧ laidMetH Tryd.prog laidL w) ∧ sizedMet enc Tryd.prog Tryd.f4 (OpenSpec.ofChange Rows.mergeLaysSpec) false w args)
      (Rows.mergeLaysSpec.post enc Tryd.prog Tryd.f4 false true false false) := by
  refine returnsInHanded_of_change_and (C := Tryd.checked) (X := fun w _ => laidMetH Tryd.prog laidL w) (fun _ _ _ hh h => h.of_heap hh) ownT started (by kernel_rfl) Tryd.func4
    (ChangeSpec.witness_shaped (enc := enc) (C := Tryd.checked) (os := os) (X := fun w _ => laidMetH Tryd.prog laidL w) false (World.doorLaid Tryd.prog 400 os) #[.slice none 0 0] 8 rfl (World.shaped_of_RefB (by kernel_rfl) (by kernel_rfl)) (by kernel_rfl) (by kernel_rfl) (by kernel_rfl) (door_met os _)) ?_
  intro W base args ds gs before hval0 hW hcnd hwt hL _
  have hval : ∀ (j : Nat) t v, Tryd.f4.params[j]? = some t → args[j]? = some v → Value.okWide Tryd.prog W .any base t v := hval0
  have hW' := hW
  obtain ⟨p, q, hA0, hV, rfl, hfz, hnd⟩ := hW
  have hA : DataW.TrodAll enc Tryd.prog W 0 (fun _ => true) true Tryd.f4.params.toList args.toList ds p := hA0
  rw [Tryd.params4] at hA hval
  obtain ⟨v0, vs0, d0, ds0, p0, q0, hargs, rfl, rfl, h0, r0⟩ := trodAll_cons hA
  obtain ⟨rfl, rfl, rfl⟩ := trodAll_nil r0
  obtain rfl : args = #[v0] := by cases args; simp_all
  obtain ⟨rfl, rfl⟩ := trodVars_none hV
  have lt0 : ∀ x ∈ p0, x.block < W.heap.size := by obtain ⟨m, hm⟩ := h0; exact DataW.trod_lt m _ _ _ hm
  have o0 := hval 0 25 v0 rfl rfl
  obtain ⟨a0, rp0, g0, l0⟩ := arg_ents o0 h0
  clear hA0 hval0
  refine ((mlays_fn a0 g0 l0).law (lays_of_laid hL) (vs := [v0]) rfl (reps1 rp0)).mono fun e W' ⟨he, bel⟩ => ?_
  subst he
  exact ⟨_, rfl, _, _, _, [], _, [], hW', trodAll_mk1 (shut_bool Tryd.underlying4 _), (trodAll_cons_mk (Below.trod laidOutT (by kernel_rfl) (of_decide_eq_true (by kernel_rfl)) h0 bel lt0) trodAll_mk0), rfl, bel.frame _, fun h => by cases h⟩
theorem mergeLays_holds : Rows.MergeLaysSaid :=
  OpenClaim.holds_of_wide 4 Tryd.f4 rfl rfl rfl rfl rfl rfl rfl ⟨rfl, rfl, rfl, rfl, rfl⟩ rfl rfl rfl rfl rfl (by kernel_rfl) Tryd.func4 (by kernel_rfl)
    (of_decide_eq_true (by kernel_rfl)) (by unfold Func.isWrapper; first | (rw [if_pos (by decide +kernel)]; kernel_rfl) | (rw [if_neg (by decide +kernel)]; exact ⟨rfl, rfl⟩))
    (fun os started H enc _ => mergeLays_lifted os started H enc)
theorem mergeLaysCard_holds : Rows.MergeLaysCardSaid :=
  Claim7.holds_tied_plain_at .later [] [.data] true _ true
    mergeLays_holds (fun _ h => by cases h) (by kernel_rfl) (fun _ h => by cases h) mergeLays_row_tie rfl ⟨rfl, rfl⟩ (by kernel_rfl) rfl
    (fun f fn hf hfn => by
      obtain rfl : f = 4 := Option.some.inj ((show Tryd.prog.funcNamed "weald/wealdlaw22.MergeLays" = some 4 by kernel_rfl).symm.trans hf) |>.symm
      obtain rfl : fn = Tryd.f4 := (Option.some.inj (Tryd.func4.symm.trans hfn)).symm
      exact ⟨by kernel_rfl, fun j t ht => by
        rw [Tryd.params4] at ht
        have hm : t ∈ [25] := by simpa using Array.mem_of_getElem? ht
        have hall : ([25].all fun u => !Tryd.prog.wantsStandIn u) = true := by kernel_rfl
        exact (show Tryd.prog.wantsStandIn t = false by simpa using List.all_eq_true.1 hall t hm)⟩)
    (by kernel_rfl)
#print axioms mergeLaysCard_holds
end Go.Proofs.YtomlhekjgagjaaaDoor
