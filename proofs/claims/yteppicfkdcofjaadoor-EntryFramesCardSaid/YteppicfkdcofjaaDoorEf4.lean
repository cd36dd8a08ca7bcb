/- For every rows of entries EntryFrames returns true, and leaves its argument as it was; tied to the program by the card. Conditions: none beyond the given statement's own. (Part 4 of 4.) -/
import Derived.Test.YteppicfkdcofjaaDoorEf3
import Derived.Laws.BitsAllLaws
import Derived.ProofKit
import Derived.OpenShut
import Derived.Below
import Derived.LaidMore
import Derived.Deep.Fields
import Derived.Deep.Slices
import Derived.Test.YteppicfkdcofjaaDoorRows
import Derived.LaidLaws
import Derived.ChangeSame
import Derived.ChangeVars
import Derived.JoinedOf
import Derived.Stop.Joined
import Derived.RowKitTokens
import Derived.Test.YteppicfkdcofjaaDoorCards
import Derived.Test.YteppicfkdcofjaaDoorTie
import Derived.SevenTiedAt
/- Frames of bytes, one behind the other: the iterator's contract. -/
namespace Go.Proofs.YteppicfkdcofjaaDoor
set_option maxRecDepth 100000
set_option maxHeartbeats 16000000
open Go Go.RowKit
set_option linter.unusedSimpArgs false
set_option linter.unusedVariables false
attribute [local irreducible] zY zX Step zJ Sub zL TStep Fn
/-- the frame at a place: where it ends, and its bytes -/
def yM (s : List Int) (p : Nat) : Option (Nat × List Int) :=
  bif decide (p + 6 ≤ s.length) && decide (1 ≤ (numOf ((s.drop p).take 2)).toNat) && decide (p + 6 + (numOf ((s.drop p).take 2)).toNat ≤ s.length) && decide (((yN 0 ((s.drop (p + 6)).take (numOf ((s.drop p).take 2)).toNat) : Nat) : Int) = numOf ((s.drop (p + 2)).take 4)) then
    some (p + 6 + (numOf ((s.drop p).take 2)).toNat, (s.drop (p + 6)).take (numOf ((s.drop p).take 2)).toNat) else none
def xW (s : List Int) : Nat → Nat → List (Nat × List Int)
  | 0, _ => []
  | f + 1, p => match yM s p with
    | none => []
    | some x => x :: xW s f x.1
def zF (s : List Int) : List (Nat × List Int) := xW s (s.length + 1) 0
def frRow (s : List Int) (i : Nat) : List PV := match (zF s)[i]? with
  | some (e, b) => [.val (.int .i64 (e : Nat)), .sl (byts b)]
  | none => [.val (.int .i64 0), .sl []]
theorem frRow_len (s : List Int) (i : Nat) : (frRow s i).length = 2 := by unfold frRow; split <;> rfl
theorem frameAt_some {s : List Int} {p : Nat} {x : Nat × List Int} (h : yM s p = some x) : p < x.1 ∧ x.1 ≤ s.length ∧ p + 6 ≤ s.length ∧ 1 ≤ (numOf ((s.drop p).take 2)).toNat ∧ x.1 = p + 6 + (numOf ((s.drop p).take 2)).toNat ∧ x.2 = (s.drop (p + 6)).take (numOf ((s.drop p).take 2)).toNat ∧ ((yN 0 x.2 : Nat) : Int) = numOf ((s.drop (p + 2)).take 4) := by
  unfold yM at h
  generalize hc : (decide (p + 6 ≤ s.length) && decide (1 ≤ (numOf ((s.drop p).take 2)).toNat) && decide (p + 6 + (numOf ((s.drop p).take 2)).toNat ≤ s.length) && decide (((yN 0 ((s.drop (p + 6)).take (numOf ((s.drop p).take 2)).toNat) : Nat) : Int) = numOf ((s.drop (p + 2)).take 4))) = c at h
  cases c
  · cases h
  · rw [cond_true] at h
    obtain rfl := Option.some.inj h
    simp only [Bool.and_eq_true, decide_eq_true_eq] at hc
    obtain ⟨⟨⟨h1, h2⟩, h3⟩, h4⟩ := hc
    exact ⟨by show p < p + 6 + _; omega, h3, h1, h2, rfl, rfl, h4⟩
theorem frameAt_none {s : List Int} {p : Nat} (h : ¬ (p + 6 ≤ s.length ∧ 1 ≤ (numOf ((s.drop p).take 2)).toNat ∧ p + 6 + (numOf ((s.drop p).take 2)).toNat ≤ s.length ∧ ((yN 0 ((s.drop (p + 6)).take (numOf ((s.drop p).take 2)).toNat) : Nat) : Int) = numOf ((s.drop (p + 2)).take 4))) : yM s p = none := by
  unfold yM
  generalize hc : (decide (p + 6 ≤ s.length) && decide (1 ≤ (numOf ((s.drop p).take 2)).toNat) && decide (p + 6 + (numOf ((s.drop p).take 2)).toNat ≤ s.length) && decide (((yN 0 ((s.drop (p + 6)).take (numOf ((s.drop p).take 2)).toNat) : Nat) : Int) = numOf ((s.drop (p + 2)).take 4))) = c
  cases c
  · rfl
  · simp only [Bool.and_eq_true, decide_eq_true_eq] at hc
    obtain ⟨⟨⟨h1, h2⟩, h3⟩, h4⟩ := hc
    exact absurd ⟨h1, h2, h3, h4⟩ h
theorem frames_fn (s : List Int) : FnX Tryd.prog 16 [.p (.sl (byts s))] [] (.clo 22 [1000]) [] [.box 24 [.p (.sl (byts s))]] := by
  refine fn_ofX [1] Tryd.func16 rfl Tryd.ntmps16 (Nat.le_of_ble_eq_true rfl) (by decide) rfl rfl ?_
  repeat' ((refine zX.is ?_; first | refine zX.seq ?_ | (refine zX.isR (id := 0) ?_; refine zX.zQ [0] [1] (by repeat' first | exact zZ.nil | apply zZ.p rfl) (by repeat' first | exact zW.nil | apply zW.skip) ?_; (refine zY.m rfl rfl (w_boxS rfl rfl rfl (by decide)) ?_); (refine zY.v rfl rfl (zK rfl rfl rfl (by decide)) ?_); refine zY.nil ?_) | (refine zX.isR (id := 1) ?_; refine zX.zQ [1, 2] [1] (by repeat' first | exact zZ.nil | apply zZ.p rfl | apply zZ.ptr rfl) (by repeat' first | exact zW.nil | apply zW.boxP rfl rfl) ?_; (refine zY.v rfl rfl (w_mkFunc rfl (by rfl) rfl (by decide)) ?_); (refine zY.v rfl rfl (a_assignC rfl rfl rfl (by decide)) ?_); refine zY.nil ?_) | refine zX.ret ?_))
  all_goals exact ⟨.inl rfl, _, Sub.refl _, .one rfl rfl, hands_of (by decide) rfl (by repeat' first | exact trivial | rfl | constructor)⟩
def itS (l : Nat) (s : List Int) (p : Nat) : AS := { t := [(0, .p (.val (.func (.yield l) #[] #[]))), (1, .pt [.sl (byts s)]), (3, .p (.val (.int .i64 (p : Nat))))], s := [] }
/-- the iterator, between two rounds -/
def itI (P : Program) (n l : Nat) (s : List Int) (M0 : Nat → Nat → Prop) (J : Nat → (Nat → Prop) → World → Prop) (i : Nat) (a : Act) (w : World) : Prop :=
  ∃ p f Z M h ρ, p ≤ s.length ∧ s.length + 1 ≤ f + p ∧ (zF s).drop i = xW s f p ∧ h.w = w ∧ (∀ k, ¬ h.t k) ∧ h.d = [] ∧ J i Z h.w ∧ (∀ k c, M0 k c ∨ Z k → M k c) ∧ Sat M n h (itS l s p) ρ a w
theorem itI_mk {P : Program} {n l : Nat} {s : List Int} {M0 : Nat → Nat → Prop} {N : Nat} {ys : Nat → List PV} {J : Nat → (Nat → Prop) → World → Prop} (hY : Yields P l M0 N ys J) {i p f : Nat} {Z : Nat → Prop} {M : Nat → Nat → Prop} {h : Home} {S : AS} {ρ : Nat → Value} {a : Act} {w : World}
    (h1 : p ≤ s.length) (h2 : s.length + 1 ≤ f + p) (h3 : (zF s).drop i = xW s f p) (ht : ∀ k, ¬ h.t k) (hd : h.d = []) (hJ : J i Z h.w) (hZ : ∀ k c, M0 k c ∨ Z k → M k c) (hs0 : Sat M n h S ρ a w) (hsub : Sub S (itS l s p)) : itI P n l s M0 J i a w := by
  obtain ⟨ρ, hs⟩ := hsub.go hs0
  obtain ⟨hl, ht2, hs2⟩ := hs.switch (fun _ => False) (fun _ => False) (Nat.le_refl _) (fun _ _ h => h.elim) (fun _ _ _ => rfl) (fun _ h => h.elim)
  exact ⟨p, f, Z, _, h.anew w (xK (itS l s p) ρ) hl ht2, ρ, h1, h2, h3, rfl, (fun k ⟨id, b, e, _⟩ => by cases e), hd, hY.ext _ _ _ _ hJ (below_of hs.below ht), (fun k c hk => .inl (hZ k c hk)), hs2⟩
theorem drop_nil {α : Type} {L : List α} {i : Nat} (h : L.drop i = []) : L.length ≤ i := by simpa using h
theorem drop_cons {α : Type} {L R : List α} {i : Nat} {x : α} (h : L.drop i = x :: R) : L[i]? = some x ∧ L.drop (i + 1) = R ∧ i < L.length := by
  have h1 : i < L.length := Nat.lt_of_not_le fun hle => by rw [List.drop_eq_nil_of_le hle] at h; cases h
  rw [List.drop_eq_getElem_cons h1] at h
  injection h with h2 h3
  exact ⟨by rw [List.getElem?_eq_getElem h1, h2], h3, h1⟩
theorem frames1_it (s : List Int) (hb : ∀ x ∈ s, 0 ≤ x ∧ x < 256) (hls : s.length ≤ 1000000) : IterOK Tryd.prog 22 [.pt [.sl (byts s)]] (zF s).length (frRow s) := by
  intro l M0 J W Z lb hY hJ hl htab hM0 hlb hrep
  obtain ⟨v0, rfl⟩ : ∃ v0, lb = [v0] := by
    match lb, hlb with
    | [v0], _ => exact ⟨v0, rfl⟩
  have hv0 := hrep 0 _ v0 rfl rfl
  refine calls_of_wp Tryd.func22 rfl ?_
  have hsat := entry_sat (M := fun k c => M0 k c ∨ Z k) (n := 56) (hl := hl) (nt := Tryd.f22.ntmps) (T := [(0, .p (.val (.func (.yield l) #[] #[]))), (1, .pt [.sl (byts s)])]) (vs := [Value.func (.yield l) #[] #[], v0]) Tryd.ntmps22 (Nat.le_of_ble_eq_true rfl) (fun k c hk => by
    rcases hk with hk | hk
    · exact hM0 k c hk
    · exact hY.lt _ _ _ k hJ hk) htab (fun i x hx => by
    match i with
    | 0 => cases hx; exact ⟨_, rfl, .p (.val _)⟩
    | 1 => cases hx; exact ⟨_, rfl, hv0⟩
    | i + 2 => cases hx)
  have hfin : ∀ (M : Nat → Nat → Prop) (h : Home) (S : AS) (ρ : Nat → Value) (a : Act) (w : World) (i : Nat), (zF s).length ≤ i → i ≤ (zF s).length → h.d = [] → (∃ Z, J i Z h.w) → (∀ k, ¬ h.t k) → Sat M 56 h S ρ a w → bodyPost Tryd.prog Tryd.f22 (fun e W' => (∃ v, e = .returned v) ∧ ∃ Z', J (zF s).length Z' W') .ret a w := fun M h S ρ a w i hi1 hi2 hd ⟨Z, hJ⟩ ht hs => by
    refine ⟨hs.defers.trans hd, _, results_none rfl _ _ _, ⟨_, rfl⟩, Z, ?_⟩
    have e : i = (zF s).length := by omega
    subst e
    exact hY.ext _ _ _ _ hJ (below_of hs.below ht)
  refine WC.run (M := fun k c => M0 k c ∨ Z k) (h := Home.plain W hl) (n := 56) ?_ hsat
  refine WC.seq ?_
  repeat' (first | (refine zX.is ?_; (refine zX.isR (id := 0) ?_; refine zX.zQ [0, 1] [] (by repeat' first | exact zZ.nil | apply zZ.p rfl | apply zZ.pt rfl) (by repeat' exact zW.nil) ?_; (refine zY.v rfl rfl (zK rfl rfl rfl (by decide)) ?_); refine zY.nil ?_)) | refine zR.n ?_)
  refine WC.block ?_
  refine WC.mk fun ρ a w hs => ?_
  refine wp_loop_iter (N := (zF s).length) (i0 := 0) (itI Tryd.prog 56 l s M0 J) (itI_mk hY (p := 0) (f := s.length + 1) (Z := Z) (Nat.zero_le _) (by omega) rfl (fun _ h => h) rfl hJ (fun k c hk => hk) hs ?sub) (Nat.zero_le _) ?rd
  case sub =>
    unfold itS
    refine zI (is := [0, 1, 3]) (js := []) ?_ ?_
    repeat' first | exact zZ.nil | apply zZ.p rfl | apply zZ.ptr rfl | apply zZ.own rfl | apply zZ.clo rfl | apply zZ.pt rfl | apply zZ.tup rfl | apply zZ.skip
    repeat' first | exact zW.nil | apply zW.boxP rfl rfl | apply zW.zM rfl | apply zW.some rfl | apply zW.skip
  clear hs hsat hJ hv0 hrep
  intro i a w hi hI
  obtain ⟨p, f, Z, M, h, ρ, hp, hf, hdr, rfl, ht, hd, hJ, hZ, hs⟩ := hI
  refine WC.run ?_ hs
  unfold itS
  have hnone : yM s p = none → (zF s).length ≤ i := fun hn => drop_nil (by
    rw [hdr]
    match f, hf with
    | 0, hf => omega
    | f + 1, _ => rw [xW, hn])
  have hout : yM s p = none → ∀ S, WE 56 M h (Exit.inBlock 1 (Exit.then (fun a' w' => ∃ j, i < j ∧ j ≤ (zF s).length ∧ itI Tryd.prog 56 l s M0 J j a' w') (Exit.inBlock 0 (bodyPost Tryd.prog Tryd.f22 (fun e W' => (∃ v, e = .returned v) ∧ ∃ Z', J (zF s).length Z' W'))))) .ret S := fun hn S => .mk (by simp) (by simp) fun ρ a w hs => hfin M h S ρ a w i (hnone hn) hi hd ⟨Z, hJ⟩ ht hs
  have g0 : IntKind.i64.wrap (((s.length : Nat) : Int) - (p : Nat)) = ((s.length : Nat) : Int) - (p : Nat) := wrap_i64 _ (by omega)
  by_cases hA : p + 6 ≤ s.length
  case neg =>
    have hn : yM s p = none := frameAt_none fun hc => hA hc.1
    have g1 : decide (((s.length : Nat) : Int) - (p : Nat) ≥ 6) = false := decide_eq_false (by omega)
    refine WC.seq ?_
    repeat' (first | (refine zX.is ?_; first | refine zX.seq ?_ | (refine zX.isR (id := 1) ?_; refine zX.zQ [0, 1, 3, 4, 5, 6, 11, 30, 46, 55] [] (by repeat' first | exact zZ.nil | apply zZ.p rfl | apply zZ.pt rfl | apply zZ.skip) (by repeat' exact zW.nil) ?_; (refine zY.v rfl rfl (zT rfl rfl rfl rfl (by decide)) ?_); (refine zY.v rfl rfl (xV rfl rfl rfl (by decide)) ?_); (refine zY.v rfl rfl (zV rfl rfl rfl (by decide)) ?_); (refine zY.v rfl rfl (by exact a_sub rfl rfl rfl (by exact g0) rfl (by decide)) ?_); (refine zY.v rfl rfl (by exact r_geq rfl rfl rfl (by exact g1) rfl (by decide)) ?_); refine zY.nil ?_) | refine zX.condN rfl (by first | assumption | with_reducible rfl) ?_ | refine zX.exit ?_) | refine zR.e ?_)
    all_goals exact .mk (by simp) (by simp) fun ρ a w hs => hfin M h _ ρ a w i (hnone hn) hi hd ⟨Z, hJ⟩ ht hs
  case pos =>
    have g1 : decide (((s.length : Nat) : Int) - (p : Nat) ≥ 6) = true := decide_eq_true (by omega)
    have g2 : IntKind.i64.wrap (((p : Nat) : Int) + 2) = ((p + 2 : Nat) : Int) := by rw [wrap_i64 _ (by omega)]; omega
    have g3 : (0 : Int) ≤ ((p : Nat) : Int) ∧ ((p : Nat) : Int) ≤ ((p + 2 : Nat) : Int) ∧ ((p + 2 : Nat) : Int) ≤ ((s.length : Nat) : Int) := by omega
    have hsub : ∀ q m : Nat, ∀ x ∈ (s.drop q).take m, 0 ≤ x ∧ x < 256 := fun q m x hx => hb x (List.mem_of_mem_drop (List.mem_of_mem_take hx))
    have hlen2 : ((s.drop p).take 2).length = 2 := by rw [List.length_take, List.length_drop]; omega
    have hnr := numOf_range ((s.drop p).take 2) (hsub p 2)
    rw [hlen2] at hnr
    have c0 : Fn Tryd.prog 23 [.sl (byts ((s.drop ((p : Nat) : Int).toNat).take (((p + 2 : Nat) : Int).toNat - ((p : Nat) : Int).toNat)))] (.p (.val (.int .u64 (numOf ((s.drop p).take 2))))) := by
      have e : ((p + 2 : Nat) : Int).toNat - ((p : Nat) : Int).toNat = 2 := by omega
      rw [e, Int.toNat_natCast]
      exact fnumber_fn _ (hsub p 2) (by omega)
    have hcA := fun (h2 : 1 ≤ (numOf ((s.drop p).take 2)).toNat) (h3 : p + 6 + (numOf ((s.drop p).take 2)).toNat ≤ s.length) => frameAt_none (s := s) (p := p)
    obtain ⟨n, hn⟩ : ∃ n : Nat, numOf ((s.drop p).take 2) = (n : Int) := ⟨_, (Int.toNat_of_nonneg hnr.1).symm⟩
    have hfr : yM s p = bif decide (1 ≤ n) && decide (p + 6 + n ≤ s.length) && decide (((yN 0 ((s.drop (p + 6)).take n) : Nat) : Int) = numOf ((s.drop (p + 2)).take 4)) then some (p + 6 + n, (s.drop (p + 6)).take n) else none := by
      unfold yM
      rw [hn, Int.toNat_natCast, decide_eq_true hA, Bool.true_and]
    rw [hn] at c0 hnr
    clear hcA
    have hn16 : n < 65536 := by have h2 := hnr.2; have h3 : (256 : Int) ^ 2 = 65536 := rfl; rw [h3] at h2; omega
    have g4 : IntKind.i64.wrap ((n : Nat) : Int) = ((n : Nat) : Int) := wrap_i64 _ (by omega)
    have g5 : IntKind.i64.wrap (((p : Nat) : Int) + 6) = ((p + 6 : Nat) : Int) := by rw [wrap_i64 _ (by omega)]; omega
    have g7 : IntKind.i64.wrap (((s.length : Nat) : Int) - ((p + 6 : Nat) : Int)) = ((s.length : Nat) : Int) - ((p + 6 : Nat) : Int) := wrap_i64 _ (by omega)
    by_cases hB : 1 ≤ n ∧ p + 6 + n ≤ s.length
    case neg =>
      have hno : yM s p = none := by
        rw [hfr]
        by_cases h1 : 1 ≤ n
        · rw [decide_eq_true h1, decide_eq_false (fun h2 => hB ⟨h1, h2⟩)]; rfl
        · rw [decide_eq_false h1]; rfl
      by_cases h1 : 1 ≤ n
      · have g6 : decide (((n : Nat) : Int) < 1) = false := decide_eq_false (by omega)
        have g8 : decide (((s.length : Nat) : Int) - ((p + 6 : Nat) : Int) < ((n : Nat) : Int)) = true := decide_eq_true (by have := fun h2 => hB ⟨h1, h2⟩; omega)
        refine WC.seq ?_
        repeat' (first | refine WC.seq ?_ | refine WC.block ?_ | (refine zX.is ?_; first | refine zX.seq ?_ | (refine zX.isR (id := 1) ?_; refine zX.zQ [0, 1, 3, 4, 5, 6, 11, 30, 46, 55] [] (by repeat' first | exact zZ.nil | apply zZ.p rfl | apply zZ.pt rfl | apply zZ.skip) (by repeat' exact zW.nil) ?_; (refine zY.v rfl rfl (zT rfl rfl rfl rfl (by decide)) ?_); (refine zY.v rfl rfl (xV rfl rfl rfl (by decide)) ?_); (refine zY.v rfl rfl (zV rfl rfl rfl (by decide)) ?_); (refine zY.v rfl rfl (by exact a_sub rfl rfl rfl (by exact g0) rfl (by decide)) ?_); (refine zY.v rfl rfl (by exact r_geq rfl rfl rfl (by exact g1) rfl (by decide)) ?_); refine zY.nil ?_) | (refine zX.isR (id := 2) ?_; refine zX.zQ [0, 1, 3, 4, 5, 6, 11, 30, 46, 55] [] (by repeat' first | exact zZ.nil | apply zZ.p rfl | apply zZ.pt rfl | apply zZ.skip) (by repeat' exact zW.nil) ?_; (refine zY.v rfl rfl (zT rfl rfl rfl rfl (by decide)) ?_); (refine zY.v rfl rfl (zV rfl rfl rfl (by decide)) ?_); (refine zY.v rfl rfl (zV rfl rfl rfl (by decide)) ?_); (refine zY.v rfl rfl (by exact yT rfl rfl rfl (by exact g2) rfl (by decide)) ?_); (refine zY.v rfl rfl (by exact xY rfl rfl rfl rfl (by exact g3) rfl (by decide)) ?_); (refine zY.v rfl rfl (by exact zU (c0) rfl rfl rfl (by decide)) ?_); (refine zY.v rfl rfl (by exact y9 rfl rfl (by exact g4) rfl (by decide)) ?_); (refine zY.v rfl rfl (zK rfl rfl rfl (by decide)) ?_); refine zY.nil ?_) | (refine zX.isR (id := 3) ?_; refine zX.zQ [0, 1, 3, 4, 5, 6, 11, 30, 46, 55] [] (by repeat' first | exact zZ.nil | apply zZ.p rfl | apply zZ.pt rfl | apply zZ.skip) (by repeat' exact zW.nil) ?_; (refine zY.v rfl rfl (zV rfl rfl rfl (by decide)) ?_); (refine zY.v rfl rfl (by exact yT rfl rfl rfl (by exact g5) rfl (by decide)) ?_); (refine zY.v rfl rfl (zK rfl rfl rfl (by decide)) ?_); refine zY.nil ?_) | (refine zX.isR (id := 4) ?_; refine zX.zQ [0, 1, 3, 4, 5, 6, 11, 30, 46, 55] [] (by repeat' first | exact zZ.nil | apply zZ.p rfl | apply zZ.pt rfl | apply zZ.skip) (by repeat' exact zW.nil) ?_; all_goals (refine zY.v rfl rfl (zV rfl rfl rfl (by decide)) ?_); all_goals (refine zY.v rfl rfl (by exact yL rfl rfl rfl (by exact g6) rfl (by decide)) ?_); all_goals (refine zY.v rfl rfl (zV rfl rfl rfl (by decide)) ?_); all_goals (refine zY.gY rfl rfl (by decide) rfl (by with_reducible rfl) rfl (by decide) (zT rfl rfl rfl rfl (by decide)) ?_); all_goals (refine zY.gY rfl rfl (by decide) rfl (by with_reducible rfl) rfl (by decide) (xV rfl rfl rfl (by decide)) ?_); all_goals (refine zY.gY rfl rfl (by decide) rfl (by with_reducible rfl) rfl (by decide) (zV rfl rfl rfl (by decide)) ?_); all_goals (refine zY.gY rfl rfl (by decide) rfl (by with_reducible rfl) rfl (by decide) (by exact a_sub rfl rfl rfl (by exact g7) rfl (by decide)) ?_); all_goals (refine zY.gY rfl rfl (by decide) rfl (by with_reducible rfl) rfl (by decide) (zV rfl rfl rfl (by decide)) ?_); all_goals (refine zY.gY rfl rfl (by decide) rfl (by with_reducible rfl) rfl (by decide) (by exact yL rfl rfl rfl (by exact g8) rfl (by decide)) ?_); all_goals (refine zY.v rfl rfl (by exact zP rfl rfl (by with_reducible rfl) rfl rfl (by decide)) ?_); all_goals (refine zY.nil ?_)) | refine zX.condY rfl (by first | assumption | with_reducible rfl) ?_ | refine zX.skip ?_ | refine zX.ret ?_) | refine zR.r ?_)
        all_goals exact hout hno _
      · have g6 : decide (((n : Nat) : Int) < 1) = true := decide_eq_true (by omega)
        refine WC.seq ?_
        repeat' (first | refine WC.seq ?_ | refine WC.block ?_ | (refine zX.is ?_; first | refine zX.seq ?_ | (refine zX.isR (id := 1) ?_; refine zX.zQ [0, 1, 3, 4, 5, 6, 11, 30, 46, 55] [] (by repeat' first | exact zZ.nil | apply zZ.p rfl | apply zZ.pt rfl | apply zZ.skip) (by repeat' exact zW.nil) ?_; (refine zY.v rfl rfl (zT rfl rfl rfl rfl (by decide)) ?_); (refine zY.v rfl rfl (xV rfl rfl rfl (by decide)) ?_); (refine zY.v rfl rfl (zV rfl rfl rfl (by decide)) ?_); (refine zY.v rfl rfl (by exact a_sub rfl rfl rfl (by exact g0) rfl (by decide)) ?_); (refine zY.v rfl rfl (by exact r_geq rfl rfl rfl (by exact g1) rfl (by decide)) ?_); refine zY.nil ?_) | (refine zX.isR (id := 2) ?_; refine zX.zQ [0, 1, 3, 4, 5, 6, 11, 30, 46, 55] [] (by repeat' first | exact zZ.nil | apply zZ.p rfl | apply zZ.pt rfl | apply zZ.skip) (by repeat' exact zW.nil) ?_; (refine zY.v rfl rfl (zT rfl rfl rfl rfl (by decide)) ?_); (refine zY.v rfl rfl (zV rfl rfl rfl (by decide)) ?_); (refine zY.v rfl rfl (zV rfl rfl rfl (by decide)) ?_); (refine zY.v rfl rfl (by exact yT rfl rfl rfl (by exact g2) rfl (by decide)) ?_); (refine zY.v rfl rfl (by exact xY rfl rfl rfl rfl (by exact g3) rfl (by decide)) ?_); (refine zY.v rfl rfl (by exact zU (c0) rfl rfl rfl (by decide)) ?_); (refine zY.v rfl rfl (by exact y9 rfl rfl (by exact g4) rfl (by decide)) ?_); (refine zY.v rfl rfl (zK rfl rfl rfl (by decide)) ?_); refine zY.nil ?_) | (refine zX.isR (id := 3) ?_; refine zX.zQ [0, 1, 3, 4, 5, 6, 11, 30, 46, 55] [] (by repeat' first | exact zZ.nil | apply zZ.p rfl | apply zZ.pt rfl | apply zZ.skip) (by repeat' exact zW.nil) ?_; (refine zY.v rfl rfl (zV rfl rfl rfl (by decide)) ?_); (refine zY.v rfl rfl (by exact yT rfl rfl rfl (by exact g5) rfl (by decide)) ?_); (refine zY.v rfl rfl (zK rfl rfl rfl (by decide)) ?_); refine zY.nil ?_) | (refine zX.isR (id := 4) ?_; refine zX.zQ [0, 1, 3, 4, 5, 6, 11, 30, 46, 55] [] (by repeat' first | exact zZ.nil | apply zZ.p rfl | apply zZ.pt rfl | apply zZ.skip) (by repeat' exact zW.nil) ?_; all_goals (refine zY.v rfl rfl (zV rfl rfl rfl (by decide)) ?_); all_goals (refine zY.v rfl rfl (by exact yL rfl rfl rfl (by exact g6) rfl (by decide)) ?_); all_goals (refine zY.v rfl rfl (zV rfl rfl rfl (by decide)) ?_); all_goals (refine zY.gnF rfl rfl (by decide) rfl (by with_reducible rfl) rfl (by decide) ?_); all_goals (refine zY.gnF rfl rfl (by decide) rfl (by with_reducible rfl) rfl (by decide) ?_); all_goals (refine zY.gnF rfl rfl (by decide) rfl (by with_reducible rfl) rfl (by decide) ?_); all_goals (refine zY.gnF rfl rfl (by decide) rfl (by with_reducible rfl) rfl (by decide) ?_); all_goals (refine zY.gnF rfl rfl (by decide) rfl (by with_reducible rfl) rfl (by decide) ?_); all_goals (refine zY.gnF rfl rfl (by decide) rfl (by with_reducible rfl) rfl (by decide) ?_); all_goals (refine zY.v rfl rfl (by exact zN rfl rfl (by with_reducible rfl) rfl rfl (by decide)) ?_); all_goals (refine zY.nil ?_)) | refine zX.condY rfl (by first | assumption | with_reducible rfl) ?_ | refine zX.skip ?_ | refine zX.ret ?_) | refine zR.r ?_)
        all_goals exact hout hno _
    case pos =>
      obtain ⟨h1, h2⟩ := hB
      have g6 : decide (((n : Nat) : Int) < 1) = false := decide_eq_false (by omega)
      have g8 : decide (((s.length : Nat) : Int) - ((p + 6 : Nat) : Int) < ((n : Nat) : Int)) = false := decide_eq_false (by omega)
      have g9 : IntKind.i64.wrap (((p + 6 : Nat) : Int) + ((n : Nat) : Int)) = ((p + 6 + n : Nat) : Int) := by rw [wrap_i64 _ (by omega)]; omega
      have g10 : (0 : Int) ≤ ((p + 6 : Nat) : Int) ∧ ((p + 6 : Nat) : Int) ≤ ((p + 6 + n : Nat) : Int) ∧ ((p + 6 + n : Nat) : Int) ≤ ((s.length : Nat) : Int) := by omega
      have g12 : (0 : Int) ≤ ((p + 2 : Nat) : Int) ∧ ((p + 2 : Nat) : Int) ≤ ((p + 6 : Nat) : Int) ∧ ((p + 6 : Nat) : Int) ≤ ((s.length : Nat) : Int) := by omega
      have e1 : (s.drop ((p + 6 : Nat) : Int).toNat).take (((p + 6 + n : Nat) : Int).toNat - ((p + 6 : Nat) : Int).toNat) = (s.drop (p + 6)).take n := by
        have e : ((p + 6 + n : Nat) : Int).toNat - ((p + 6 : Nat) : Int).toNat = n := by omega
        rw [e, Int.toNat_natCast]
      have hblen : ((s.drop (p + 6)).take n).length = n := by rw [List.length_take, List.length_drop]; omega
      have hm := moreF_lt 0 ((s.drop (p + 6)).take n)
      have c1 : Fn Tryd.prog 15 [.sl (byts ((s.drop ((p + 6 : Nat) : Int).toNat).take (((p + 6 + n : Nat) : Int).toNat - ((p + 6 : Nat) : Int).toNat)))] (.p (.val (.int .u32 (yN 0 ((s.drop (p + 6)).take n))))) := by
        rw [e1]; exact sum_fn _ (by omega) (hsub _ _)
      have c3 : Fn Tryd.prog 24 [.sl (byts ((s.drop ((p + 6 : Nat) : Int).toNat).take (((p + 6 + n : Nat) : Int).toNat - ((p + 6 : Nat) : Int).toNat)))] (.p (.sl (byts ((s.drop (p + 6)).take n)))) := by
        rw [e1]; exact bclone_fn _ (fun e => by rw [e] at hblen; simp at hblen; omega) (by omega)
      have hlen4 : ((s.drop (p + 2)).take 4).length = 4 := by rw [List.length_take, List.length_drop]; omega
      have c2 : Fn Tryd.prog 23 [.sl (byts ((s.drop ((p + 2 : Nat) : Int).toNat).take (((p + 6 : Nat) : Int).toNat - ((p + 2 : Nat) : Int).toNat)))] (.p (.val (.int .u64 (numOf ((s.drop (p + 2)).take 4))))) := by
        have e : ((p + 6 : Nat) : Int).toNat - ((p + 2 : Nat) : Int).toNat = 4 := by omega
        rw [e, Int.toNat_natCast]
        exact fnumber_fn _ (hsub _ 4) (by omega)
      have g11 : IntKind.u64.wrap ((yN 0 ((s.drop (p + 6)).take n) : Nat) : Int) = ((yN 0 ((s.drop (p + 6)).take n) : Nat) : Int) := wrap_u64 _ (by omega)
      rw [decide_eq_true h1, decide_eq_true h2, Bool.true_and, Bool.true_and] at hfr
      by_cases hC : ((yN 0 ((s.drop (p + 6)).take n) : Nat) : Int) = numOf ((s.drop (p + 2)).take 4)
      case neg =>
        have hno : yM s p = none := by rw [hfr, decide_eq_false hC]; rfl
        have g13 : (!decide (((yN 0 ((s.drop (p + 6)).take n) : Nat) : Int) = numOf ((s.drop (p + 2)).take 4))) = true := by rw [decide_eq_false hC]; rfl
        refine WC.seq ?_
        repeat' (first | refine WC.seq ?_ | refine WC.block ?_ | (refine zX.is ?_; first | refine zX.seq ?_ | (refine zX.isR (id := 1) ?_; refine zX.zQ [0, 1, 3, 4, 5, 6, 11, 30, 46, 55] [] (by repeat' first | exact zZ.nil | apply zZ.p rfl | apply zZ.pt rfl | apply zZ.skip) (by repeat' exact zW.nil) ?_; (refine zY.v rfl rfl (zT rfl rfl rfl rfl (by decide)) ?_); (refine zY.v rfl rfl (xV rfl rfl rfl (by decide)) ?_); (refine zY.v rfl rfl (zV rfl rfl rfl (by decide)) ?_); (refine zY.v rfl rfl (by exact a_sub rfl rfl rfl (by exact g0) rfl (by decide)) ?_); (refine zY.v rfl rfl (by exact r_geq rfl rfl rfl (by exact g1) rfl (by decide)) ?_); refine zY.nil ?_) | (refine zX.isR (id := 2) ?_; refine zX.zQ [0, 1, 3, 4, 5, 6, 11, 30, 46, 55] [] (by repeat' first | exact zZ.nil | apply zZ.p rfl | apply zZ.pt rfl | apply zZ.skip) (by repeat' exact zW.nil) ?_; (refine zY.v rfl rfl (zT rfl rfl rfl rfl (by decide)) ?_); (refine zY.v rfl rfl (zV rfl rfl rfl (by decide)) ?_); (refine zY.v rfl rfl (zV rfl rfl rfl (by decide)) ?_); (refine zY.v rfl rfl (by exact yT rfl rfl rfl (by exact g2) rfl (by decide)) ?_); (refine zY.v rfl rfl (by exact xY rfl rfl rfl rfl (by exact g3) rfl (by decide)) ?_); (refine zY.v rfl rfl (by exact zU (c0) rfl rfl rfl (by decide)) ?_); (refine zY.v rfl rfl (by exact y9 rfl rfl (by exact g4) rfl (by decide)) ?_); (refine zY.v rfl rfl (zK rfl rfl rfl (by decide)) ?_); refine zY.nil ?_) | (refine zX.isR (id := 3) ?_; refine zX.zQ [0, 1, 3, 4, 5, 6, 11, 30, 46, 55] [] (by repeat' first | exact zZ.nil | apply zZ.p rfl | apply zZ.pt rfl | apply zZ.skip) (by repeat' exact zW.nil) ?_; (refine zY.v rfl rfl (zV rfl rfl rfl (by decide)) ?_); (refine zY.v rfl rfl (by exact yT rfl rfl rfl (by exact g5) rfl (by decide)) ?_); (refine zY.v rfl rfl (zK rfl rfl rfl (by decide)) ?_); refine zY.nil ?_) | (refine zX.isR (id := 4) ?_; refine zX.zQ [0, 1, 3, 4, 5, 6, 11, 30, 46, 55] [] (by repeat' first | exact zZ.nil | apply zZ.p rfl | apply zZ.pt rfl | apply zZ.skip) (by repeat' exact zW.nil) ?_; all_goals (refine zY.v rfl rfl (zV rfl rfl rfl (by decide)) ?_); all_goals (refine zY.v rfl rfl (by exact yL rfl rfl rfl (by exact g6) rfl (by decide)) ?_); all_goals (refine zY.v rfl rfl (zV rfl rfl rfl (by decide)) ?_); all_goals (refine zY.gY rfl rfl (by decide) rfl (by with_reducible rfl) rfl (by decide) (zT rfl rfl rfl rfl (by decide)) ?_); all_goals (refine zY.gY rfl rfl (by decide) rfl (by with_reducible rfl) rfl (by decide) (xV rfl rfl rfl (by decide)) ?_); all_goals (refine zY.gY rfl rfl (by decide) rfl (by with_reducible rfl) rfl (by decide) (zV rfl rfl rfl (by decide)) ?_); all_goals (refine zY.gY rfl rfl (by decide) rfl (by with_reducible rfl) rfl (by decide) (by exact a_sub rfl rfl rfl (by exact g7) rfl (by decide)) ?_); all_goals (refine zY.gY rfl rfl (by decide) rfl (by with_reducible rfl) rfl (by decide) (zV rfl rfl rfl (by decide)) ?_); all_goals (refine zY.gY rfl rfl (by decide) rfl (by with_reducible rfl) rfl (by decide) (by exact yL rfl rfl rfl (by exact g8) rfl (by decide)) ?_); all_goals (refine zY.v rfl rfl (by exact zP rfl rfl (by with_reducible rfl) rfl rfl (by decide)) ?_); all_goals (refine zY.nil ?_)) | (refine zX.isR (id := 5) ?_; refine zX.zQ [0, 1, 3, 4, 5, 6, 11, 30, 46, 55] [] (by repeat' first | exact zZ.nil | apply zZ.p rfl | apply zZ.pt rfl | apply zZ.skip) (by repeat' exact zW.nil) ?_; (refine zY.v rfl rfl (zT rfl rfl rfl rfl (by decide)) ?_); (refine zY.v rfl rfl (zV rfl rfl rfl (by decide)) ?_); (refine zY.v rfl rfl (zV rfl rfl rfl (by decide)) ?_); (refine zY.v rfl rfl (zV rfl rfl rfl (by decide)) ?_); (refine zY.v rfl rfl (by exact yT rfl rfl rfl (by exact g9) rfl (by decide)) ?_); (refine zY.v rfl rfl (by exact xY rfl rfl rfl rfl (by exact g10) rfl (by decide)) ?_); (refine zY.v rfl rfl (zK rfl rfl rfl (by decide)) ?_); refine zY.nil ?_) | (refine zX.isR (id := 6) ?_; refine zX.regionD [0, 1, 3, 4, 5, 6, 11, 30, 46, 55] [] (by repeat' first | exact zZ.nil | apply zZ.p rfl | apply zZ.pt rfl | apply zZ.skip) (by repeat' exact zW.nil) (zX.draws ?_); all_goals (refine Draws.v rfl rfl (zV rfl rfl rfl (by decide)) ?_); all_goals (refine Draws.v rfl rfl (by exact zU (c1) rfl rfl rfl (by decide)) ?_); all_goals (refine Draws.v rfl rfl (by exact y9 rfl rfl (by exact g11) rfl (by decide)) ?_); all_goals (refine Draws.v rfl rfl (zT rfl rfl rfl rfl (by decide)) ?_); all_goals (refine Draws.v rfl rfl (zV rfl rfl rfl (by decide)) ?_); all_goals (refine Draws.v rfl rfl (by exact yT rfl rfl rfl (by exact g2) rfl (by decide)) ?_); all_goals (refine Draws.v rfl rfl (zV rfl rfl rfl (by decide)) ?_); all_goals (refine Draws.v rfl rfl (by exact xY rfl rfl rfl rfl (by exact g12) rfl (by decide)) ?_); all_goals (refine Draws.v rfl rfl (by exact zU (c2) rfl rfl rfl (by decide)) ?_); all_goals (refine Draws.v rfl rfl (by exact r_neq rfl rfl rfl (by exact g13) rfl (by decide)) ?_); all_goals ((refine Draws.done (by kernel_rfl) (by kernel_rfl) (by kernel_rfl) ?_; refine zL.nil ?_))) | refine zX.condY rfl (by first | assumption | with_reducible rfl) ?_ | refine zX.condN rfl (by first | assumption | with_reducible rfl) ?_ | refine zX.skip ?_ | refine zX.ret ?_) | refine zR.r ?_)
        all_goals exact hout hno _
      case pos =>
        have hso : yM s p = some (p + 6 + n, (s.drop (p + 6)).take n) := by rw [hfr, decide_eq_true hC]; rfl
        have g13 : (!decide (((yN 0 ((s.drop (p + 6)).take n) : Nat) : Int) = numOf ((s.drop (p + 2)).take 4))) = false := by rw [decide_eq_true hC]; rfl
        obtain ⟨f', rfl⟩ : ∃ f', f = f' + 1 := ⟨f - 1, by omega⟩
        rw [xW, hso] at hdr
        obtain ⟨hat, hdr2, hilt⟩ := drop_cons hdr
        have hrow : frRow s i = [.val (.int .i64 ((p + 6 + n : Nat) : Int)), .sl (byts ((s.drop (p + 6)).take n))] := by unfold frRow; rw [hat]
        refine WC.seq ?_
        repeat' (first | refine WC.stop (id := 8) ?_ | refine WC.seq ?_ | refine WC.block ?_ | (refine zX.is ?_; first | refine zX.seq ?_ | (refine zX.isR (id := 1) ?_; refine zX.zQ [0, 1, 3, 4, 5, 6, 11, 30, 46, 55] [] (by repeat' first | exact zZ.nil | apply zZ.p rfl | apply zZ.pt rfl | apply zZ.skip) (by repeat' exact zW.nil) ?_; (refine zY.v rfl rfl (zT rfl rfl rfl rfl (by decide)) ?_); (refine zY.v rfl rfl (xV rfl rfl rfl (by decide)) ?_); (refine zY.v rfl rfl (zV rfl rfl rfl (by decide)) ?_); (refine zY.v rfl rfl (by exact a_sub rfl rfl rfl (by exact g0) rfl (by decide)) ?_); (refine zY.v rfl rfl (by exact r_geq rfl rfl rfl (by exact g1) rfl (by decide)) ?_); refine zY.nil ?_) | (refine zX.isR (id := 2) ?_; refine zX.zQ [0, 1, 3, 4, 5, 6, 11, 30, 46, 55] [] (by repeat' first | exact zZ.nil | apply zZ.p rfl | apply zZ.pt rfl | apply zZ.skip) (by repeat' exact zW.nil) ?_; (refine zY.v rfl rfl (zT rfl rfl rfl rfl (by decide)) ?_); (refine zY.v rfl rfl (zV rfl rfl rfl (by decide)) ?_); (refine zY.v rfl rfl (zV rfl rfl rfl (by decide)) ?_); (refine zY.v rfl rfl (by exact yT rfl rfl rfl (by exact g2) rfl (by decide)) ?_); (refine zY.v rfl rfl (by exact xY rfl rfl rfl rfl (by exact g3) rfl (by decide)) ?_); (refine zY.v rfl rfl (by exact zU (c0) rfl rfl rfl (by decide)) ?_); (refine zY.v rfl rfl (by exact y9 rfl rfl (by exact g4) rfl (by decide)) ?_); (refine zY.v rfl rfl (zK rfl rfl rfl (by decide)) ?_); refine zY.nil ?_) | (refine zX.isR (id := 3) ?_; refine zX.zQ [0, 1, 3, 4, 5, 6, 11, 30, 46, 55] [] (by repeat' first | exact zZ.nil | apply zZ.p rfl | apply zZ.pt rfl | apply zZ.skip) (by repeat' exact zW.nil) ?_; (refine zY.v rfl rfl (zV rfl rfl rfl (by decide)) ?_); (refine zY.v rfl rfl (by exact yT rfl rfl rfl (by exact g5) rfl (by decide)) ?_); (refine zY.v rfl rfl (zK rfl rfl rfl (by decide)) ?_); refine zY.nil ?_) | (refine zX.isR (id := 4) ?_; refine zX.zQ [0, 1, 3, 4, 5, 6, 11, 30, 46, 55] [] (by repeat' first | exact zZ.nil | apply zZ.p rfl | apply zZ.pt rfl | apply zZ.skip) (by repeat' exact zW.nil) ?_; all_goals (refine zY.v rfl rfl (zV rfl rfl rfl (by decide)) ?_); all_goals (refine zY.v rfl rfl (by exact yL rfl rfl rfl (by exact g6) rfl (by decide)) ?_); all_goals (refine zY.v rfl rfl (zV rfl rfl rfl (by decide)) ?_); all_goals (refine zY.gY rfl rfl (by decide) rfl (by with_reducible rfl) rfl (by decide) (zT rfl rfl rfl rfl (by decide)) ?_); all_goals (refine zY.gY rfl rfl (by decide) rfl (by with_reducible rfl) rfl (by decide) (xV rfl rfl rfl (by decide)) ?_); all_goals (refine zY.gY rfl rfl (by decide) rfl (by with_reducible rfl) rfl (by decide) (zV rfl rfl rfl (by decide)) ?_); all_goals (refine zY.gY rfl rfl (by decide) rfl (by with_reducible rfl) rfl (by decide) (by exact a_sub rfl rfl rfl (by exact g7) rfl (by decide)) ?_); all_goals (refine zY.gY rfl rfl (by decide) rfl (by with_reducible rfl) rfl (by decide) (zV rfl rfl rfl (by decide)) ?_); all_goals (refine zY.gY rfl rfl (by decide) rfl (by with_reducible rfl) rfl (by decide) (by exact yL rfl rfl rfl (by exact g8) rfl (by decide)) ?_); all_goals (refine zY.v rfl rfl (by exact zP rfl rfl (by with_reducible rfl) rfl rfl (by decide)) ?_); all_goals (refine zY.nil ?_)) | (refine zX.isR (id := 5) ?_; refine zX.zQ [0, 1, 3, 4, 5, 6, 11, 30, 46, 55] [] (by repeat' first | exact zZ.nil | apply zZ.p rfl | apply zZ.pt rfl | apply zZ.skip) (by repeat' exact zW.nil) ?_; (refine zY.v rfl rfl (zT rfl rfl rfl rfl (by decide)) ?_); (refine zY.v rfl rfl (zV rfl rfl rfl (by decide)) ?_); (refine zY.v rfl rfl (zV rfl rfl rfl (by decide)) ?_); (refine zY.v rfl rfl (zV rfl rfl rfl (by decide)) ?_); (refine zY.v rfl rfl (by exact yT rfl rfl rfl (by exact g9) rfl (by decide)) ?_); (refine zY.v rfl rfl (by exact xY rfl rfl rfl rfl (by exact g10) rfl (by decide)) ?_); (refine zY.v rfl rfl (zK rfl rfl rfl (by decide)) ?_); refine zY.nil ?_) | (refine zX.isR (id := 6) ?_; refine zX.regionD [0, 1, 3, 4, 5, 6, 11, 30, 46, 55] [] (by repeat' first | exact zZ.nil | apply zZ.p rfl | apply zZ.pt rfl | apply zZ.skip) (by repeat' exact zW.nil) (zX.draws ?_); all_goals (refine Draws.v rfl rfl (zV rfl rfl rfl (by decide)) ?_); all_goals (refine Draws.v rfl rfl (by exact zU (c1) rfl rfl rfl (by decide)) ?_); all_goals (refine Draws.v rfl rfl (by exact y9 rfl rfl (by exact g11) rfl (by decide)) ?_); all_goals (refine Draws.v rfl rfl (zT rfl rfl rfl rfl (by decide)) ?_); all_goals (refine Draws.v rfl rfl (zV rfl rfl rfl (by decide)) ?_); all_goals (refine Draws.v rfl rfl (by exact yT rfl rfl rfl (by exact g2) rfl (by decide)) ?_); all_goals (refine Draws.v rfl rfl (zV rfl rfl rfl (by decide)) ?_); all_goals (refine Draws.v rfl rfl (by exact xY rfl rfl rfl rfl (by exact g12) rfl (by decide)) ?_); all_goals (refine Draws.v rfl rfl (by exact zU (c2) rfl rfl rfl (by decide)) ?_); all_goals (refine Draws.v rfl rfl (by exact r_neq rfl rfl rfl (by exact g13) rfl (by decide)) ?_); all_goals ((refine Draws.done (by kernel_rfl) (by kernel_rfl) (by kernel_rfl) ?_; refine zL.nil ?_))) | (refine zX.isR (id := 7) ?_; refine zX.zQ [0, 1, 3, 4, 5, 6, 11, 30, 46, 55] [] (by repeat' first | exact zZ.nil | apply zZ.p rfl | apply zZ.pt rfl | apply zZ.skip) (by repeat' exact zW.nil) ?_; (refine zY.v rfl rfl (zV rfl rfl rfl (by decide)) ?_); (refine zY.v rfl rfl (zV rfl rfl rfl (by decide)) ?_); (refine zY.v rfl rfl (by exact yT rfl rfl rfl (by exact g9) rfl (by decide)) ?_); (refine zY.v rfl rfl (zK rfl rfl rfl (by decide)) ?_); refine zY.nil ?_) | refine zX.condY rfl (by first | assumption | with_reducible rfl) ?_ | refine zX.condN rfl (by first | assumption | with_reducible rfl) ?_ | refine zX.skip ?_))
        refine Hold.go ?_
        refine WC.yield (id := 8) (d := 54) (l := l) (N := (zF s).length) (i := i) (M0 := M0) (pre := [_, _, _, _]) (post := [_]) (x := .tmp 50) (ys := frRow s) (J := J) (Z := Z) { t := [(0, .p (.val (.func (.yield l) #[] #[]))), (1, .pt [.sl (byts s)]), (3, .p (.val (.int .i64 ((p + 6 + n : Nat) : Int)))), (50, .p (.val (.func (.yield l) #[] #[]))), (51, .p (.val (.int .i64 ((p + 6 + n : Nat) : Int)))), (53, .p (.sl (byts ((s.drop (p + 6)).take n))))], s := [] } ?pre rfl rfl rfl rfl rfl (Nat.le_of_ble_eq_true rfl) rfl rfl hY hilt (by rw [hrow]; rfl) hJ ht hZ ?post
        case pre =>
          repeat' ((refine zY.is ?_; first | refine zY.nil ?_ | refine zY.v rfl rfl (by first | exact zV rfl rfl rfl (by decide) | exact zU (c3) rfl rfl rfl (by decide)) ?_))
          all_goals
            refine ⟨rfl, ?_⟩
            refine zI (is := [0, 1, 3, 50, 51, 53]) (js := []) ?_ ?_
            repeat' first | exact zZ.nil | apply zZ.p rfl | apply zZ.ptr rfl | apply zZ.own rfl | apply zZ.clo rfl | apply zZ.pt rfl | apply zZ.tup rfl | apply zZ.skip
            repeat' first | exact zW.nil | apply zW.boxP rfl rfl | apply zW.zM rfl | apply zW.some rfl | apply zW.skip
        case post =>
          intro Z' M' h' hJ' ht' hZ' hd' _
          repeat' (first | (refine zY.is ?_; first | refine zY.nil ?_ | refine zY.v rfl rfl (by exact r_notB rfl rfl (by exact bF (by decide)) rfl (by decide)) ?_) | refine zR.n ?_)
          refine WC.of ?_
          repeat' ((refine zX.is ?_; first | refine zX.condN rfl (by first | assumption | with_reducible rfl) ?_ | refine zX.skip ?_))
          all_goals refine .mk (by simp) (by simp) fun ρ a w hs => ⟨i + 1, by omega, hilt, itI_mk hY (p := p + 6 + n) (f := f') (Z := Z') h2 (by omega) hdr2 ht' (hd'.trans hd) hJ' hZ' hs ?_⟩
          all_goals
            unfold itS
            refine zI (is := [0, 1, 3]) (js := []) ?_ ?_
            repeat' first | exact zZ.nil | apply zZ.p rfl | apply zZ.ptr rfl | apply zZ.own rfl | apply zZ.clo rfl | apply zZ.pt rfl | apply zZ.tup rfl | apply zZ.skip
            repeat' first | exact zW.nil | apply zW.boxP rfl rfl | apply zW.zM rfl | apply zW.some rfl | apply zW.skip
end Go.Proofs.YteppicfkdcofjaaDoor
/- Own variables pinned at home: names turned, and fixed. Generic over the program. -/
namespace Go.Proofs.YteppicfkdcofjaaDoor
set_option maxRecDepth 100000
set_option maxHeartbeats 16000000
open Go Go.RowKit
set_option linter.unusedSimpArgs false
set_option linter.unusedVariables false
/-- names turned: each of ids, and 1000, 1001, .. -/
def pinS : List Nat → Nat → Nat → Nat
  | [], _, k => k
  | x :: r, m, k => if k = x then m else if k = m then x else pinS r (m + 1) k
theorem pinS_fix : ∀ (ids : List Nat) (m k : Nat), k ∉ ids → k < m → pinS ids m k = k
  | [], _, _, _, _ => rfl
  | x :: r, m, k, h1, h2 => by
    simp only [List.mem_cons, not_or] at h1
    rw [pinS, if_neg h1.1, if_neg (by omega)]
    exact pinS_fix r (m + 1) k h1.2 (by omega)
theorem pinS_inv : ∀ (ids : List Nat) (m : Nat), (∀ x ∈ ids, x < m) → ids.Nodup → ∀ k, pinS ids m (pinS ids m k) = k
  | [], _, _, _, _ => rfl
  | x :: r, m, hx, hnd, k => by
    have hx1 : x < m := hx x (by simp)
    have hnx : x ∉ r := (List.nodup_cons.1 hnd).1
    have ih := pinS_inv r (m + 1) (fun y hy => by have := hx y (by simp [hy]); omega) (List.nodup_cons.1 hnd).2
    have fx : pinS r (m + 1) x = x := pinS_fix r (m + 1) x hnx (by omega)
    have fm : pinS r (m + 1) m = m := pinS_fix r (m + 1) m (fun h => by have := hx m (by simp [h]); omega) (by omega)
    by_cases h1 : k = x
    · subst h1
      rw [pinS, pinS, if_pos rfl]
      by_cases h2 : m = k
      · omega
      · rw [if_neg h2, if_pos rfl]
    · by_cases h2 : k = m
      · subst h2
        rw [pinS, pinS, if_neg h1, if_pos rfl, if_pos rfl]
      · have e : pinS (x :: r) m k = pinS r (m + 1) k := by rw [pinS, if_neg h1, if_neg h2]
        rw [e, pinS, if_neg (fun h3 => h1 (by rw [← ih k, h3, fx])), if_neg (fun h3 => h2 (by rw [← ih k, h3, fm]))]
        exact ih k
section
variable {σ : Nat → Nat} {M : Nat → Nat → Prop} {ρ : Nat → Value} {w : World}
theorem zG.swap (hσ : ∀ k, σ (σ k) = k) {x : AV} {v : Value} (h : zG M ρ w x v) : zG M (fun k => ρ (σ k)) w (x.ren σ) v := by
  cases h with
  | any v => exact .any v
  | p h => exact .p h
  | own id =>
    have : zG M (fun k => ρ (σ k)) w (.own (σ id)) ((fun k => ρ (σ k)) (σ id)) := .own _
    simpa [hσ, AV.ren] using this
  | ptr id off g h => exact .ptr _ _ g (by simpa [hσ] using h)
  | pt xs g o ys h hc hM hg => exact .pt xs g o ys h hc hM hg
  | tup avs vs hl h =>
    refine .tup _ vs (by simp [hl]) fun i c v hc hv => ?_
    rw [List.getElem?_map, Option.map_eq_some_iff] at hc
    obtain ⟨c0, hc0, rfl⟩ := hc
    have h2 := h i c0 v hc0 hv
    cases c0 with
    | p y => cases h2 with
      | p h3 => exact .p h3
    | _ => exact .any _
  | clo f ids vs hl h =>
    refine .clo f _ vs (by simp [hl]) fun i k v hk hv => ?_
    rw [List.getElem?_map, Option.map_eq_some_iff] at hk
    obtain ⟨k0, hk0, rfl⟩ := hk
    obtain ⟨g, h1, h2⟩ := h i k0 v hk0 hv
    exact ⟨g, by simpa [hσ] using h1, h2⟩
  | glob g => exact .glob g
theorem zD.swap (hσ : ∀ k, σ (σ k) = k) {xs : List AV} {ys : List Value} (h : zD M ρ w xs ys) : zD M (fun k => ρ (σ k)) w (xs.map (AV.ren σ)) ys := by
  refine ⟨by simp [h.len], fun i c v hc hv => ?_, h.one⟩
  rw [List.getElem?_map, Option.map_eq_some_iff] at hc
  obtain ⟨c0, hc0, rfl⟩ := hc
  exact (h.each i c0 v hc0 hv).swap hσ
theorem yX.swap (hσ : ∀ k, σ (σ k) = k) {B : Nat} {v : Value} {b : Blk} (h : yX M B ρ w v b) : yX M B (fun k => ρ (σ k)) w v (b.ren σ) := by
  cases b with
  | row t s n xs => obtain ⟨ys, h1, h2⟩ := h; exact ⟨ys, h1, h2.swap hσ⟩
  | prow t s n xs =>
    obtain ⟨ys, h1, h2⟩ := h
    have h3 := h2.swap hσ
    have e : (xs.map AV.p).map (AV.ren σ) = xs.map AV.p := by rw [List.map_map]; rfl
    rw [e] at h3
    exact ⟨ys, h1, h3⟩
  | box t xs => obtain ⟨g, ys, h0, h1, h2, h3⟩ := h; exact ⟨g, ys, h0, h1, h2, h3.swap hσ⟩
  | lent t s n xs =>
    obtain ⟨ys, h1, h2⟩ := h
    have h3 := h2.swap hσ
    have e : (xs.map AV.p).map (AV.ren σ) = xs.map AV.p := by rw [List.map_map]; rfl
    rw [e] at h3
    exact ⟨ys, h1, h3⟩
end
def AS.ren (σ : Nat → Nat) (S : AS) : AS := { t := S.t.map fun p => (p.1, p.2.ren σ), s := S.s.map fun p => (σ p.1, p.2.ren σ) }
theorem look_ren {α β : Type} {σ : Nat → Nat} (hσ : ∀ k, σ (σ k) = k) (f : α → β) : ∀ (l : List (Nat × α)) (j : Nat), look (l.map fun p => (σ p.1, f p.2)) j = (look l (σ j)).map f
  | [], _ => rfl
  | (k, x) :: r, j => by
    simp only [List.map_cons, look]
    by_cases h : k = σ j
    · subst h
      rw [if_pos (hσ j), if_pos rfl]; rfl
    · rw [if_neg h, if_neg (fun h2 => h (by rw [← h2, hσ])), look_ren hσ f r j]
theorem AS.tmp_ren (σ : Nat → Nat) (S : AS) (i : Nat) : (S.ren σ).tmp i = (S.tmp i).ren σ := by
  simp only [AS.tmp, AS.ren, look_map]
  cases look S.t i <;> rfl
theorem AS.blk_ren {σ : Nat → Nat} (hσ : ∀ k, σ (σ k) = k) (S : AS) (i : Nat) : (S.ren σ).blk i = (S.blk (σ i)).map (Blk.ren σ) := look_ren hσ _ _ _
def Home.fixed (h : Home) (r : Nat → Option Value) (ptr : ∀ k v, r k = some v → ∃ g, v = .pointer (some ⟨g, 0, none⟩)) (lo : ∀ k, k < 1000 → r k = none) : Home := { h with r := r, ptr := ptr, lo := lo }
theorem Sat.pin {M : Nat → Nat → Prop} {n : Nat} {h : Home} {S : AS} {ρ : Nat → Value} {a : Act} {w : World} {σ : Nat → Nat} (hs : Sat M n h S ρ a w) (hσ : ∀ k, σ (σ k) = k) (r : Nat → Option Value) (ptr : ∀ k v, r k = some v → ∃ g, v = .pointer (some ⟨g, 0, none⟩)) (lo : ∀ k, k < 1000 → r k = none) (hr : ∀ k v, r k = some v → ρ (σ k) = v) (hn : n ≤ 1000) :
    Sat M n (h.fixed r ptr lo) (S.ren σ) (fun k => ρ (σ k)) a w := by
  have hm : ∀ k c, Mut M (S.ren σ) (fun k => ρ (σ k)) k c → Mut M S ρ k c := by
    rintro k c (hk | ⟨id, b, h1, h2, h3⟩)
    · exact .inl hk
    · rw [AS.blk_ren hσ, Option.map_eq_some_iff] at h1
      obtain ⟨b0, hb0, rfl⟩ := h1
      exact .inr ⟨σ id, b0, hb0, h2, (Blk.ren_turns c).1 h3⟩
  refine ⟨⟨hs.below.os, hs.below.tape, hs.below.output, hs.below.size, hs.below.block⟩, hs.out, hs.tab, hs.size, hs.defers, fun i => ?_, fun id b hb => ?_, fun id b k hb hk => ?_, hr, fun k hk => lo k (by omega), fun i j bi bj k h1 h2 h3 h4 => ?_⟩
  · rw [AS.tmp_ren]
    exact ((hs.tmps i).mono fun k c _ hk => hm k c hk).swap hσ
  · rw [AS.blk_ren hσ, Option.map_eq_some_iff] at hb
    obtain ⟨b0, hb0, rfl⟩ := hb
    exact ((hs.blks _ b0 hb0).mono hm).swap hσ
  · rw [AS.blk_ren hσ, Option.map_eq_some_iff] at hb
    obtain ⟨b0, hb0, rfl⟩ := hb
    exact hs.mine _ b0 k hb0 hk
  · rw [AS.blk_ren hσ, Option.map_eq_some_iff] at h1 h2
    obtain ⟨b1, hb1, rfl⟩ := h1
    obtain ⟨b2, hb2, rfl⟩ := h2
    have := hs.dist _ _ b1 b2 k hb1 hb2 h3 h4
    rw [← hσ i, this, hσ]
/-- Boxes ids get the names 1000, 1001, .., and are fixed at home. -/
theorem WC.pin {P : Program} {n : Nat} {c : Code} {S S2 : AS} {M : Nat → Nat → Prop} {h : Home} {Q : Exit → Act → World → Prop} (ids : List Nat) (hnd : ids.Nodup) (hlt : ∀ x ∈ ids, x < 1000) (hn : n ≤ 1000) (hb : ∀ (i : Nat) x, ids[i]? = some x → pinS ids 1000 (1000 + i) = x ∧ ∃ t xs, S.blk x = some (.box t xs)) (hS : S.ren (pinS ids 1000) = S2)
    (hc : ∀ r ptr lo, (∀ i, i < ids.length → (r (1000 + i)).isSome = true) → WC P n c S2 M (h.fixed r ptr lo) Q) : WC P n c S M h Q := WC.mk fun ρ a w hs => by
  subst hS
  have hσ := pinS_inv ids 1000 hlt hnd
  let r : Nat → Option Value := fun k => if 1000 ≤ k ∧ k < 1000 + ids.length then some (ρ (pinS ids 1000 k)) else none
  have hr : ∀ k v, r k = some v → ρ (pinS ids 1000 k) = v := fun k v hk => by
    simp only [r] at hk
    split at hk
    · exact Option.some.inj hk
    · cases hk
  have hin : ∀ k v, r k = some v → 1000 ≤ k ∧ k < 1000 + ids.length := fun k v hk => by
    simp only [r] at hk
    split at hk
    · assumption
    · cases hk
  refine WC.run (hc r (fun k v hk => ?_) (fun k hk => ?_) (fun i hi => ?_)) (hs.pin hσ r _ _ hr hn)
  · obtain ⟨h1, h2⟩ := hin k v hk
    obtain ⟨e, t, xs, h3⟩ := hb (k - 1000) _ (List.getElem?_eq_getElem (by omega))
    have e2 : 1000 + (k - 1000) = k := by omega
    rw [e2] at e
    have h4 := hs.blks _ _ h3
    obtain ⟨g, ys, h5, _⟩ := h4
    rw [← hr k v hk, e]
    exact ⟨g, h5⟩
  · simp only [r]; rw [if_neg (by omega)]
  · simp only [r]; rw [if_pos (by omega)]; rfl
/-- The nil in a variable becomes an own row. -/
theorem sub_adoptBox {S : AS} {r t j id ty sz : Nat} {xs : List AV} (hid : id < 1000) (hne : id ≠ r) (hr : S.blk r = some (.box t xs)) (hj : xs[j]? = some (.p (.val (.slice none 0 0)))) :
    Sub S ((S.create id (.row ty sz 0 [])).tag r (.box t ((xs.map (AV.kill id)).set j (.own id)))) := fun M n w0 ρ a w hs => by
  have h1 := hs.change id (.row ty sz 0 []) (.slice none 0 0) none (w0.lo id hid) (w' := w) ⟨rfl, rfl, rfl, Nat.le_refl _, fun _ _ _ => rfl⟩ (fun k hk => by cases hk) (fun k hk => by cases hk) ⟨[], World.ownsRow_nil w _ ty sz, ⟨rfl, fun i c v hc => by simp at hc, fun v hv => by simp at hv⟩⟩
  refine ⟨upd ρ id (.slice none 0 0), ?_⟩
  have hr2 : (S.create id (.row ty sz 0 [])).blk r = some (.box t (xs.map (AV.kill id))) := by rw [AS.yC, if_neg hne, hr]; rfl
  have hρ : upd ρ id (.slice none 0 0) id = .slice none 0 0 := by simp [upd]
  generalize upd ρ id (.slice none 0 0) = ρ2 at *
  generalize S.create id (.row ty sz 0 []) = S2 at *
  have hm : ∀ k c, k < w.heap.size → Mut M (S2.tag r (.box t ((xs.map (AV.kill id)).set j (.own id)))) ρ2 k c → Mut M S2 ρ2 k c := fun k c _ hk => by
    rcases hk with hk | ⟨i, b, hi, hk, ht⟩
    · exact .inl hk
    · rw [AS.yK] at hi
      split at hi
      · rename_i he
        subst he
        exact .inr ⟨r, _, hr2, hk, trivial⟩
      · exact .inr ⟨i, b, hi, hk, ht⟩
  have some_of : ∀ i b, (S2.tag r (.box t ((xs.map (AV.kill id)).set j (.own id)))).blk i = some b → ∃ b1, S2.blk i = some b1 := fun i b hi => by
    rw [AS.yK] at hi
    split at hi
    · rename_i he; subst he; exact ⟨_, hr2⟩
    · exact ⟨b, hi⟩
  refine ⟨h1.below, h1.out, h1.tab, h1.size, h1.defers, fun i => (h1.tmps i).mono hm, fun i b hi => ?_, fun i b k hi hk => ?_, h1.fix, h1.free, fun i i' bi bj k hi hi' => ?_⟩
  · rw [AS.yK] at hi
    split at hi
    · rename_i he
      subst he
      obtain rfl := Option.some.inj hi
      obtain ⟨g, ys, h0, ho, hh, hc⟩ := h1.blks r _ hr2
      refine ⟨g, ys, h0, ho, hh, by rw [List.length_set]; exact hc.len, fun i c v h3 h4 => ?_, hc.one⟩
      rw [List.getElem?_set] at h3
      split at h3
      · rename_i he
        subst he
        split at h3
        · obtain rfl := Option.some.inj h3
          have h5 := hc.each j (.p (.val (.slice none 0 0))) v (by rw [List.getElem?_map, hj]; rfl) h4
          have h6 : v = ρ2 id := by rw [hρ]; exact rep_val (rep_p h5)
          rw [h6]
          exact .own id
        · cases h3
      · exact (hc.each i c v h3 h4).mono hm
    · have := h1.blks i b hi
      cases b with
      | row t size m xs => obtain ⟨ys, ho, hc⟩ := this; exact ⟨ys, ho, hc.mono hm⟩
      | prow t size m xs => obtain ⟨ys, ho, hc⟩ := this; exact ⟨ys, ho, hc.mono hm⟩
      | lent t size m xs => obtain ⟨ys, ho, hc⟩ := this; exact ⟨ys, ho, hc.mono hm⟩
      | box t xs => obtain ⟨g, ys, hv, hg, hh, hc⟩ := this; exact ⟨g, ys, hv, hg, hh, hc.mono hm⟩
  · obtain ⟨b1, h3⟩ := some_of i b hi
    exact h1.mine i b1 k h3 hk
  · obtain ⟨b1, h3⟩ := some_of i bi hi
    obtain ⟨b2, h4⟩ := some_of i' bj hi'
    exact h1.dist i i' b1 b2 k h3 h4
theorem WC.seqW {P : Program} {n : Nat} {x y : Code} {S : AS} {M : Nat → Nat → Prop} {h : Home} {Q : Exit → Act → World → Prop} (hc : WC P n x S M h (Exit.then (y.wp P Q) Q)) : WC P n (.seq x y) S M h Q := WC.mk fun ρ a w hs => wp_seq (WC.run hc hs)
theorem sub_adoptBoxV {S : AS} {r t j id ty sz : Nat} {xs : List AV} (hid : id < 1000) (hne : id ≠ r) (hr : S.blk r = some (.box t xs)) (hj : xs[j]? = some (.p (.val (.slice none 0 0)))) :
    Sub S (((S.create id (.row ty sz 0 [])).tag r (.box t ((xs.map (AV.kill id)).set j (.own id)))).tag id (rowV ty sz [])) :=
  (sub_adoptBox hid hne hr hj).trans (xQ (b := .row ty sz 0 []) (by rw [AS.yK, if_neg (Ne.symm hne), AS.yC, if_pos rfl]; rfl) (rowV_alike ty sz [])).sub
theorem sub_adoptV {S : AS} {d id ty sz : Nat} (hid : id < 1000) (hd : S.tmp d = .p (.val (.slice none 0 0))) :
    Sub S (((S.create id (.row ty sz 0 [])).put d (.own id)).tag id (rowV ty sz [])) :=
  (sub_adopt hid hd).trans (xQ (b := .row ty sz 0 []) (by rw [AS.blk_put, AS.yC, if_pos rfl]; rfl) (rowV_alike ty sz [])).sub
/-- A closure that holds one own variable: what it holds, as cells that nobody turns any more. -/
theorem Sat.clo1 {M : Nat → Nat → Prop} {n : Nat} {h : Home} {S : AS} {ρ : Nat → Value} {a : Act} {w : World} (hs : Sat M n h S ρ a w) {d f id t : Nat} {xs : List PV} (hd : S.tmp d = .clo f [id]) (hb : S.blk id = some (.box t (xs.map AV.p))) (htu : ∀ i b, (S.drop id).blk i = some b → ∀ c, b.turns c) :
    ∃ v, a.eval (.tmp d) = .func (.func f) #[] #[v] ∧ zG (fun k c => M k c ∨ xK (S.drop id) ρ k) (fun _ => undef) w (.pt xs) v := by
  have h1 := hs.tmps d
  rw [hd] at h1
  have e : a.eval (.tmp d) = a.tmps.getD d undef := rfl
  rw [e]
  generalize a.tmps.getD d undef = v at h1
  obtain ⟨g, ys, hv, _, hh, hc⟩ := hs.blks id _ hb
  have hl := RepL.mk (M := Mut M S ρ) (w := w) (cs := xs) (vs := ys) (by have := hc.len; simpa using this) (fun i c v hc1 hv1 => by
    have := hc.each i (.p c) v (by rw [List.getElem?_map, hc1]; rfl) hv1
    cases this with
    | p h => exact h) hc.one
  cases h1 with
  | clo _ _ vs hl2 hall =>
    match vs, hl2 with
    | [v], _ =>
      obtain ⟨g2, h2, rfl⟩ := hall 0 id v rfl rfl
      rw [hv] at h2
      simp only [zC, Option.some.injEq] at h2
      subst h2
      refine ⟨_, rfl, .pt xs g 0 ys (hl.mono fun k c _ hk => hk.elim .inl fun ⟨i, b, h1, h2⟩ => Mut.drop (id := id) (.inr ⟨i, b, h1, h2, htu i b h1 c⟩)) (fun j y hy => ?_) (fun j hj hk => ?_) (Array.getElem?_eq_some_iff.1 hh).1⟩
      · have hy2 : ys.toArray[j]? = some y := by simpa using hy
        simp [World.cell?, hh, hy2]
      · rcases hk with hk | ⟨i, b, h4, h5⟩
        · exact hs.out g _ hk (hs.mine id _ g hb (by rw [hv]; rfl))
        · rw [AS.yQ] at h4
          split at h4
          · cases h4
          · rename_i hne
            obtain ⟨b0, hb0, _⟩ := Option.map_eq_some_iff.1 h4
            exact hne (hs.dist id i _ b0 g hb hb0 (by rw [hv]; rfl) h5)
end Go.Proofs.YteppicfkdcofjaaDoor
/- Frames told again: the program's Split: contract. -/
namespace Go.Proofs.YteppicfkdcofjaaDoor
set_option maxRecDepth 100000
set_option maxHeartbeats 16000000
open Go Go.RowKit
set_option linter.unusedSimpArgs false
set_option linter.unusedVariables false
attribute [local irreducible] zY zX Step zJ Sub zL TStep Fn
def xD (s : List Int) (i : Nat) : List PV := ((zF s).take i).map fun x => .sl (byts x.2)
def spUsed (s : List Int) (i : Nat) : Nat := (((zF s).take i).getLast?.map (·.1)).getD 0
def spS (s : List Int) (i : Nat) : AS := { t := [(4, .ptr 1000 0), (5, .ptr 1001 0)], s := [(42, rowV 24 1 (xD s i)), (1000, .box 33 [.own 42]), (1001, .box 3 [.p (.val (.int .i64 (spUsed s i : Nat)))])] }
def spA (s : List Int) (i : Nat) : AS := { t := [(4, .ptr 1000 0), (5, .ptr 1001 0), (6, .p ((frRow s i).getD 0 (.sl []))), (7, .p ((frRow s i).getD 1 (.sl [])))], s := (spS s i).s }
theorem fr_many {s : List Int} : ∀ (f p : Nat), (xW s f p).length ≤ s.length - p
  | 0, p => by simp [xW]
  | f + 1, p => by
    rw [xW]
    cases e : yM s p with
    | none => simp
    | some y =>
      obtain ⟨h1, h2, _⟩ := frameAt_some e
      have := fr_many (s := s) f y.1
      simp only [List.length_cons]
      omega
theorem spRows_len (s : List Int) (i : Nat) (h : i ≤ (zF s).length) : (xD s i).length = i := by
  simp [xD]; omega
theorem spRows_succ {s : List Int} {i : Nat} {x : Nat × List Int} (hx : (zF s)[i]? = some x) : xD s (i + 1) = xD s i ++ [.sl (byts x.2)] := by
  unfold xD
  rw [List.take_add_one, hx, List.map_append]; rfl
theorem spUsed_succ {s : List Int} {i : Nat} {x : Nat × List Int} (hx : (zF s)[i]? = some x) : spUsed s (i + 1) = x.1 := by
  unfold spUsed
  rw [List.take_add_one, hx]; simp
theorem fsplit_fn (s : List Int) (hb : ∀ x ∈ s, 0 ≤ x ∧ x < 256) (hls : s.length ≤ 1000000) : Fn Tryd.prog 8 [.sl (byts s)] (.tup [.sl (xD s (zF s).length), .val (.int .i64 (spUsed s (zF s).length : Nat))]) := by
  have hit := frames1_it s hb hls
  have hmany : (zF s).length ≤ 1000000 := by have := fr_many (s := s) (s.length + 1) 0; unfold zF; omega
  refine fn_ofM Tryd.func8 rfl Tryd.ntmps8 (Nat.le_of_ble_eq_true rfl) fun M w hl hM => ?_
  refine WC.seq ?_
  repeat' (first | (refine zX.is ?_; (refine zX.isR (id := 0) ?_; refine zX.zQ [0] [2, 4, 5, 14] (by repeat' first | exact zZ.nil | apply zZ.p rfl) (by repeat' first | exact zW.nil | apply zW.skip) ?_; (refine zY.v rfl rfl (zK rfl rfl rfl (by decide)) ?_); (refine zY.v rfl rfl (zK rfl rfl rfl (by decide)) ?_); refine zY.nil ?_)) | refine zR.n ?_)
  refine WC.seq ?_
  repeat' (first | (refine zX.is ?_; (refine zX.isR (id := 1) ?_; refine zX.zQ [0, 2, 3] [2, 4, 5, 14] (by repeat' first | exact zZ.nil | apply zZ.p rfl) (by repeat' first | exact zW.nil | apply zW.skip) ?_; (refine zY.m rfl rfl (w_alloc rfl (by decide) rfl (by decide)) ?_); refine zY.nil ?_)) | refine zR.n ?_)
  refine WC.seq ?_
  repeat' (first | (refine zX.is ?_; (refine zX.isR (id := 2) ?_; refine zX.zQ [0, 2, 3, 4] [2, 4, 5, 14] (by repeat' first | exact zZ.nil | apply zZ.p rfl | apply zZ.ptr rfl) (by repeat' first | exact zW.nil | apply zW.boxP rfl rfl | apply zW.skip) ?_; (refine zY.m rfl rfl (w_alloc rfl (by decide) rfl (by decide)) ?_); (refine zY.w rfl (by exact xJ rfl rfl rfl rfl rfl (by rfl) (by exact Nat.le_of_ble_eq_true rfl) rfl rfl) ?_); refine zY.nil ?_)) | refine zR.n ?_)
  refine WC.seqW ?_
  refine WC.seq ?_
  repeat' (first | (refine zX.is ?_; (refine zX.isR (id := 3) ?_; refine zX.zQ [0, 2, 3, 4, 5] [2, 4, 5, 14] (by repeat' first | exact zZ.nil | apply zZ.p rfl | apply zZ.ptr rfl) (by repeat' first | exact zW.nil | apply zW.boxP rfl rfl | apply zW.skip) ?_; (refine zY.v rfl rfl (zV rfl rfl rfl (by decide)) ?_); (refine zY.ofT rfl (TStep.eNew [] [40] ((frames_fn s)) rfl (by decide) (enters_fn rfl) (by rfl) (hands_of (by decide) rfl (by repeat' exact trivial)) (by decide) rfl rfl (by decide) rfl rfl rfl ?_)); refine zY.nil ?_)) | refine zR.n ?_)
  refine WC.block ?_
  refine WC.sub (sub_adoptBoxV (r := 4) (j := 0) (id := 42) (ty := 24) (sz := 1) (by decide) (by decide) rfl rfl) ?_
  refine WC.sub (S' := { t := [(4, .ptr 4 0), (5, .ptr 5 0), (9, .clo 22 [40])], s := [(42, rowV 24 1 []), (4, .box 33 [.own 42]), (5, .box 3 [.p (.val (.int .i64 0))]), (40, .box 24 [.p (.sl (byts s))])] }) ?sub ?_
  case sub =>
    refine zI (is := [4, 5, 9]) (js := [42, 4, 5, 40]) ?_ ?_
    repeat' first | exact zZ.nil | apply zZ.p rfl | apply zZ.ptr rfl | apply zZ.own rfl | apply zZ.clo rfl | apply zZ.pt rfl | apply zZ.tup rfl | apply zZ.skip
    repeat' first | exact zW.nil | apply zW.boxP rfl rfl | apply zW.zM rfl | apply zW.some rfl | apply zW.skip
  refine WC.pin [4, 5] (by decide) (by decide) (Nat.le_of_ble_eq_true rfl) (fun i x hx => by
    match i with
    | 0 => cases hx; exact ⟨rfl, _, _, rfl⟩
    | 1 => cases hx; exact ⟨rfl, _, _, rfl⟩
    | i + 2 => cases hx) (S2 := { t := [(4, .ptr 1000 0), (5, .ptr 1001 0), (9, .clo 22 [40])], s := [(42, rowV 24 1 []), (1000, .box 33 [.own 42]), (1001, .box 3 [.p (.val (.int .i64 0))]), (40, .box 24 [.p (.sl (byts s))])] }) rfl fun r ptr lo hr => ?_
  refine WC.mk fun ρ a w1 hs => ?_
  have htu : ∀ i id b, (spS s i).blk id = some b → ∀ c, b.turns c := fun i id b hb c => by
    have hm := look_mem (show look (spS s i).s id = some b from hb)
    simp only [spS, List.mem_cons, Prod.mk.injEq, List.not_mem_nil, or_false] at hm
    rcases hm with ⟨_, rfl⟩ | ⟨_, rfl⟩ | ⟨_, rfl⟩ <;> trivial
  obtain ⟨v, hg, hpt⟩ := hs.clo1 (d := 9) (id := 40) (xs := [.sl (byts s)]) rfl rfl (htu 0)
  have hs0 : Sat M _ _ (spS s 0) ρ a w1 := (hs.drop 40).same ⟨fun i => by
      show (look [(4, AV.ptr 1000 0), (5, .ptr 1001 0), (9, .any)] i).getD .any = (look [(4, AV.ptr 1000 0), (5, .ptr 1001 0)] i).getD .any
      simp only [look]
      split
      · rfl
      · split
        · rfl
        · split <;> rfl, fun _ => rfl⟩
  refine wp_range (gf := 22) (lb := [v]) (cs := [.pt [.sl (byts s)]]) (N := (zF s).length) (ys := frRow s) (spS s) (spA s) (fun i => spS s (i + 1)) hs0 hg rfl (fun j x v' hx hv => by
    match j with
    | 0 => cases hx; cases hv; exact hpt
    | j + 1 => cases hx) hit (fun d hd => by
    simp only [List.mem_cons, List.not_mem_nil, or_false] at hd
    rcases hd with rfl | rfl <;> exact Nat.le_of_ble_eq_true rfl) (fun i => frRow_len s i) (fun _ => rfl) (fun _ => rfl) (fun i p hp => by
    simp only [spS, List.mem_cons, List.not_mem_nil, or_false] at hp
    rcases hp with rfl | rfl
    · exact hr 0 (by decide)
    · exact hr 1 (by decide)) htu ?hass ?hbody ?hdone
  case hass =>
    intro l i hi
    obtain ⟨x, hx⟩ : ∃ x, (zF s)[i]? = some x := ⟨_, List.getElem?_eq_getElem hi⟩
    have hrow : frRow s i = [.val (.int .i64 (x.1 : Nat)), .sl (byts x.2)] := by unfold frRow; rw [hx]
    unfold spA
    rw [hrow]
    unfold spS
    simp only [List.getD_cons_zero, List.getD_cons_succ]
    refine z8.seq ?_
    refine z8.region (id := 4) rfl ?_
    repeat' (first | (refine zY.is ?_; first | refine zY.nil ?_ | refine zY.v rfl rfl (zK rfl rfl rfl (by decide)) ?_) | refine zR.n ?_)
    refine z8.region (id := 5) rfl ?_
    repeat' ((refine zY.is ?_; first | refine zY.nil ?_ | refine zY.v rfl rfl (zK rfl rfl rfl (by decide)) ?_))
    all_goals
      refine ⟨rfl, ?_⟩
      refine zI (is := [4, 5, 6, 7]) (js := [42, 1000, 1001]) ?_ ?_
      repeat' first | exact zZ.nil | apply zZ.p rfl | apply zZ.ptr rfl | apply zZ.own rfl | apply zZ.clo rfl | apply zZ.pt rfl | apply zZ.tup rfl | apply zZ.skip
      repeat' first | exact zW.nil | apply zW.boxP rfl rfl | apply zW.zM rfl | apply zW.some rfl | apply zW.skip
  case hbody =>
    intro l i hi
    obtain ⟨x, hx⟩ : ∃ x, (zF s)[i]? = some x := ⟨_, List.getElem?_eq_getElem hi⟩
    have hrow : frRow s i = [.val (.int .i64 (x.1 : Nat)), .sl (byts x.2)] := by unfold frRow; rw [hx]
    unfold spA
    rw [hrow]
    unfold spS
    simp only [List.getD_cons_zero, List.getD_cons_succ]
    refine z8.block ?_
    refine z8.region (id := 6) rfl ?_
    have q6 : ∀ e ∈ [PV.sl (byts x.2)], e.cells.length = 1 := fun e he => by simp at he; subst he; rfl
    have q7 : ([PV.sl (byts x.2)] : List PV).length * 24 ≤ 140737488355328 ∧ ([PV.sl (byts x.2)] : List PV).length ≤ maxLen := by simp [maxLen]
    have q8 : ((xD s i).length + ([PV.sl (byts x.2)] : List PV).length) * 24 ≤ 140737488355328 ∧ (xD s i).length + ([PV.sl (byts x.2)] : List PV).length ≤ maxLen := by rw [spRows_len s i (by omega)]; simp [maxLen]; omega
    repeat' (first | (refine zY.is ?_; first | refine zY.nil ?_ | refine zY.v rfl rfl (by first | exact w_loadO rfl rfl rfl rfl rfl (by decide) | exact zV rfl rfl rfl (by decide) | exact w_buildSl rfl (by decide) (by decide) (by decide) (by decide) (by rfl) (by rfl) (by rfl) (by rfl) (by rfl) (by rfl) (by rfl) rfl (by decide)) ?_ | refine zY.w rfl (by first | exact w_appV rfl rfl rfl rfl (by exact q6) (by exact q8) rfl (by decide) rfl (by decide) | exact w_storeO rfl rfl rfl rfl rfl rfl (by exact Nat.le_of_ble_eq_true rfl) rfl rfl | exact xJ rfl rfl rfl rfl rfl (by rfl) (by exact Nat.le_of_ble_eq_true rfl) rfl rfl) ?_) | refine blockK.n ?_)
    all_goals
      refine ⟨rfl, ?_⟩
      rw [spRows_succ hx, spUsed_succ hx]
      refine zI (is := [4, 5]) (js := [42, 1000, 1001]) ?_ ?_
      repeat' first | exact zZ.nil | apply zZ.p rfl | apply zZ.ptr rfl | apply zZ.own rfl | apply zZ.clo rfl | apply zZ.pt rfl | apply zZ.tup rfl | apply zZ.skip
      repeat' first | exact zW.nil | apply zW.boxP rfl rfl | apply zW.zM rfl | apply zW.some rfl | apply zW.skip
  case hdone =>
    intro D M' h' ρ' w' hD hM' hMD hw hr' hd ht hbel hcell hsN
    show (Code.seq _ _).wp _ _ _ _
    refine WC.run ?_ hsN
    have hd2 : h'.d = [{ target := .collected D, args := #[] }] := by rw [hd, hs.defers]; rfl
    refine WC.sub (sub_frzE 42 24 1 (xD s (zF s).length) rfl) ?_
    refine WC.seq ?_
    repeat' (first | (refine zX.is ?_; (refine zX.isR (id := 7) ?_; refine zX.regionD [2, 3, 4, 5] [2, 4, 5, 14, 1000, 1001] (by repeat' first | exact zZ.nil | apply zZ.ptr rfl | apply zZ.skip) (by repeat' first | exact zW.nil | apply zW.boxP rfl rfl | apply zW.skip) (zX.draws ?_); all_goals (refine Draws.v rfl rfl (zB rfl rfl rfl rfl rfl (by decide)) ?_); all_goals (refine Draws.v rfl rfl (zB rfl rfl rfl rfl rfl (by decide)) ?_); all_goals (refine Draws.v rfl rfl (zK rfl rfl rfl (by decide)) ?_); all_goals (refine Draws.v rfl rfl (zK rfl rfl rfl (by decide)) ?_); all_goals ((refine Draws.done (by kernel_rfl) (by kernel_rfl) (by kernel_rfl) ?_; refine zL.nil ?_)))) | refine zR.n ?_)
    refine WC.of ?_
    repeat' ((refine zX.is ?_; refine zX.ret ?_))
    all_goals exact .mk (by simp) (by simp) fun ρ2 a2 w2 hs2 => end_marks hs2 hD hM' hMD hd2 ht (show yV (Home.plain w hl) h'.w from ⟨(hw ▸ hbel).os, (hw ▸ hbel).tape, (hw ▸ hbel).output, (hw ▸ hbel).size, (hw ▸ hbel).block⟩) (hw ▸ hcell) (rs := [.tmp 2, .tmp 3]) (l := [.sl (xD s (zF s).length), .val (.int .i64 (spUsed s (zF s).length : Nat))]) rfl (by decide) (.cons (.tmp rfl) (.cons (.tmp rfl) .nil))
end Go.Proofs.YteppicfkdcofjaaDoor
/- The number of eight bytes, as a contract. -/
namespace Go.Proofs.YteppicfkdcofjaaDoor
set_option maxRecDepth 100000
set_option maxHeartbeats 16000000
open Go Go.RowKit
/-- the number that stands at place p -/
def yU (b : List Int) (p : Nat) : Int := numOf ((b.drop p).take 8)
end Go.Proofs.YteppicfkdcofjaaDoor
/- Decode, the reference's, as a contract. -/
namespace Go.Proofs.YteppicfkdcofjaaDoor
set_option maxRecDepth 100000
set_option maxHeartbeats 16000000
open Go Go.RowKit
set_option linter.unusedSimpArgs false
attribute [local irreducible] zY zX Step zJ Sub zL Fn
def decBad : List PV := [entV 0 0 0 0 0 0, .val (.int .i64 2)]
def decPut (k s y u v x : Int) : List PV := if xB k s y u v x then [entV k s y u v x, .val (.int .i64 0)] else decBad
/-- what bytes are decoded to -/
def decR (b : List Int) : List PV :=
  if b.length = 9 then (if b.getD 0 0 = 1 then decBad else decPut (b.getD 0 0) (yU b 1) 0 0 0 0)
  else if b.length = 41 then (if b.getD 0 0 = 1 then decPut (b.getD 0 0) (yU b 1) (yU b 9) (yU b 17) (yU b 25) (yU b 33) else decBad)
  else decBad
theorem numAt_range (b : List Int) (hb : ∀ x ∈ b, 0 ≤ x ∧ x < 256) (p : Nat) : 0 ≤ yU b p ∧ yU b p < 18446744073709551616 :=
  numOf_small (b.drop p) 8 fun x hx => hb x (List.mem_of_mem_drop hx)
theorem getD_range (b : List Int) (hb : ∀ x ∈ b, 0 ≤ x ∧ x < 256) (i : Nat) : 0 ≤ b.getD i 0 ∧ b.getD i 0 < 256 := by
  by_cases h : i < b.length
  · simpa [List.getD, h] using hb b[i] (List.getElem_mem h)
  · simp [List.getD, h]
end Go.Proofs.YteppicfkdcofjaaDoor
/- Entries to bytes and back: plain laws of the document's decoding. -/
namespace Go.Proofs.YteppicfkdcofjaaDoor
set_option maxRecDepth 100000
set_option maxHeartbeats 16000000
open Go Go.RowKit
theorem numOf_bytes : ∀ (k : Nat) (n : Int), 0 ≤ n → n < 256 ^ k → numOf (bytesOf k n) = n
  | 0, n, h0, h1 => by simp at h1; simp [bytesOf, numOf]; omega
  | k + 1, n, h0, h1 => by
    have h2 : n / 256 < 256 ^ k := by
      rw [Int.pow_succ] at h1
      omega
    rw [bytesOf, numOf, numOf_bytes k (n / 256) (by omega) h2]
    omega
theorem bytesOf_range : ∀ (k : Nat) (n : Int), ∀ x ∈ bytesOf k n, 0 ≤ x ∧ x < 256
  | 0, n, x, hx => by simp [bytesOf] at hx
  | k + 1, n, x, hx => by
    rw [bytesOf, List.mem_cons] at hx
    rcases hx with rfl | hx
    · omega
    · exact bytesOf_range k (n / 256) x hx
theorem encL_range (k s y u v x : Int) : ∀ c ∈ y5 k s y u v x, 0 ≤ c ∧ c < 256 := by
  intro c hc
  unfold y5 at hc
  simp only [List.cons_append, List.mem_cons, List.mem_append] at hc
  have r := bytesOf_range 8
  rcases hc with rfl | hc | hc
  · omega
  · exact r s c hc
  · by_cases hk : k = 1
    · rw [if_pos hk] at hc
      simp only [List.mem_append] at hc
      rcases hc with ((hc | hc) | hc) | hc
      · exact r _ c hc
      · exact r _ c hc
      · exact r _ c hc
      · exact r _ c hc
    · rw [if_neg hk] at hc; simp at hc
theorem encL_len (k s y u v x : Int) : (y5 k s y u v x).length = if k = 1 then 41 else 9 := by
  unfold y5
  by_cases hk : k = 1
  · rw [if_pos hk, if_pos hk]; simp [bytesOf_length]
  · rw [if_neg hk, if_neg hk]; simp [bytesOf_length]
theorem encL_le (k s y u v x : Int) : (y5 k s y u v x).length ≤ 41 := by
  rw [encL_len]
  split <;> decide
theorem numAt_mid (p q : List Int) (n : Int) (a : Nat) (ha : a = p.length) (h0 : 0 ≤ n) (h1 : n < 18446744073709551616) : yU (p ++ (bytesOf 8 n ++ q)) a = n := by
  subst ha
  have e : (bytesOf 8 n).length = 8 := bytesOf_length 8 n
  unfold yU
  rw [List.drop_left, List.take_append_of_le_length (by omega), List.take_of_length_le (by omega)]
  exact numOf_bytes 8 n h0 (by simpa using h1)
theorem may_kinds {k s y u v x : Int} (h : xB k s y u v x = true) : k = 1 ∨ (k = 2 ∨ k = 3) ∧ y = 0 ∧ u = 0 ∧ v = 0 ∧ x = 0 := by
  unfold xB at h
  by_cases h1 : k = 1
  · exact .inl h1
  · rw [if_neg h1] at h
    by_cases h2 : k = 2
    · rw [if_pos h2] at h
      simp only [Bool.and_eq_true, decide_eq_true_eq] at h
      exact .inr ⟨.inl h2, h.2⟩
    · rw [if_neg h2] at h
      by_cases h3 : k = 3
      · rw [if_pos h3] at h
        simp only [Bool.and_eq_true, decide_eq_true_eq] at h
        exact .inr ⟨.inr h3, h.2⟩
      · rw [if_neg h3] at h; cases h
theorem dec_enc {k s y u v x : Int} (h0 : 0 ≤ s) (h1 : s < 18446744073709551616) (h2 : 0 ≤ y) (h3 : y < 18446744073709551616) (h4 : 0 ≤ u) (h5 : u < 18446744073709551616) (h6 : 0 ≤ v) (h7 : v < 18446744073709551616) (h8 : 0 ≤ x) (h9 : x < 18446744073709551616) (hm : xB k s y u v x = true) :
    decR (y5 k s y u v x) = [entV k s y u v x, .val (.int .i64 0)] := by
  have hl := encL_len k s y u v x
  have l8 : ∀ n, (bytesOf 8 n).length = 8 := bytesOf_length 8
  have hk := may_kinds hm
  have e0 : (y5 k s y u v x).getD 0 0 = k := by
    have : (y5 k s y u v x).getD 0 0 = k % 256 := by simp [y5]
    rw [this]
    omega
  have n1 : yU (y5 k s y u v x) 1 = s := by
    unfold y5
    exact numAt_mid [k % 256] _ s 1 rfl h0 h1
  unfold decR
  rw [e0, n1]
  by_cases h : k = 1
  · rw [if_pos h] at hl
    have e : y5 k s y u v x = k % 256 :: (bytesOf 8 s ++ (bytesOf 8 y ++ (bytesOf 8 u ++ (bytesOf 8 v ++ (bytesOf 8 x ++ []))))) := by
      unfold y5
      rw [if_pos h]
      simp
    have n2 : yU (y5 k s y u v x) 9 = y := by
      rw [e]
      have := numAt_mid (k % 256 :: bytesOf 8 s) (bytesOf 8 u ++ (bytesOf 8 v ++ (bytesOf 8 x ++ []))) y 9 (by simp [l8]) h2 h3
      simpa using this
    have n3 : yU (y5 k s y u v x) 17 = u := by
      rw [e]
      have := numAt_mid (k % 256 :: (bytesOf 8 s ++ bytesOf 8 y)) (bytesOf 8 v ++ (bytesOf 8 x ++ [])) u 17 (by simp [l8]) h4 h5
      simpa using this
    have n4 : yU (y5 k s y u v x) 25 = v := by
      rw [e]
      have := numAt_mid (k % 256 :: (bytesOf 8 s ++ (bytesOf 8 y ++ bytesOf 8 u))) (bytesOf 8 x ++ []) v 25 (by simp [l8]) h6 h7
      simpa using this
    have n5 : yU (y5 k s y u v x) 33 = x := by
      rw [e]
      have := numAt_mid (k % 256 :: (bytesOf 8 s ++ (bytesOf 8 y ++ (bytesOf 8 u ++ bytesOf 8 v)))) [] x 33 (by simp [l8]) h8 h9
      simpa using this
    rw [if_neg (by omega), if_pos hl, if_pos h, n2, n3, n4, n5]
    unfold decPut
    rw [if_pos hm]
  · rw [if_neg h] at hl
    rcases hk with hk | ⟨_, rfl, rfl, rfl, rfl⟩
    · exact absurd hk h
    · rw [if_pos hl, if_neg h]
      unfold decPut
      rw [if_pos hm]
end Go.Proofs.YteppicfkdcofjaaDoor
/- Rows of entries; frames one behind the other, told again: plain. -/
namespace Go.Proofs.YteppicfkdcofjaaDoor
set_option maxRecDepth 100000
set_option maxHeartbeats 16000000
open Go Go.RowKit
set_option linter.unusedVariables false
/-- an entry -/
structure yP where
  k : Int
  s : Int
  y : Int
  u : Int
  v : Int
  x : Int
deriving DecidableEq
def yP.V (e : yP) : PV := entV e.k e.s e.y e.u e.v e.x
def yP.may (e : yP) : Bool := xB e.k e.s e.y e.u e.v e.x
def yP.enc (e : yP) : List Int := y5 e.k e.s e.y e.u e.v e.x
structure yP.ok (e : yP) : Prop where
  s : U e.s
  y : U e.y
  u : U e.u
  v : U e.v
  x : U e.x
theorem ents_cells (L : List yP) : ∀ e ∈ L.map yP.V, e.cells.length = 6 := fun e he => by
  obtain ⟨x, _, rfl⟩ := List.mem_map.1 he
  rfl
/-- frames, one behind the other -/
def catF (bs : List (List Int)) : List Int := bs.flatMap putF
theorem catF_nil : catF [] = [] := rfl
theorem catF_cons (b : List Int) (r : List (List Int)) : catF (b :: r) = putF b ++ catF r := rfl
theorem catF_append (a b : List (List Int)) : catF (a ++ b) = catF a ++ catF b := by simp [catF]
def BytesB (b : List Int) : Prop := ∀ x ∈ b, 0 ≤ x ∧ x < 256
theorem putF_range {b : List Int} (h : BytesB b) : BytesB (putF b) := fun x hx => by
  unfold putF at hx
  simp only [List.mem_append] at hx
  rcases hx with (hx | hx) | hx
  · exact bytesOf_range' _ _ x hx
  · exact bytesOf_range' _ _ x hx
  · exact h x hx
theorem catF_range {bs : List (List Int)} (h : ∀ b ∈ bs, BytesB b) : BytesB (catF bs) := fun x hx => by
  obtain ⟨b, hb, hx⟩ := List.mem_flatMap.1 hx
  exact putF_range (h b hb) x hx
theorem yR : ∀ (k : Nat) (n : Int), (bytesOf k n).length = k := by
  intro k
  induction k with
  | zero => intro n; rfl
  | succ k ih => intro n; simp [bytesOf, ih]
theorem xX (b : List Int) : (putF b).length = 6 + b.length := by
  unfold putF
  simp only [List.length_append, yR]
theorem frameAt_put (pre post b : List Int) (hl : putOk b) : yM (pre ++ (putF b ++ post)) pre.length = some (pre.length + 6 + b.length, b) := by
  have hd : (pre ++ (putF b ++ post)).drop pre.length = putF b ++ post := by simp
  have e1 : ((pre ++ (putF b ++ post)).drop pre.length).take 2 = bytesOf 2 b.length := by
    rw [hd]
    unfold putF
    rw [List.append_assoc, List.append_assoc, List.take_append_of_le_length (by rw [yR]; omega), List.take_of_length_le (by rw [yR]; omega)]
  have n1 : numOf (bytesOf 2 (b.length : Int)) = b.length := numOf_bytes 2 _ (by omega) (by have := hl.2; simp; omega)
  have hlen : (pre ++ (putF b ++ post)).length = pre.length + 6 + b.length + post.length := by
    simp only [List.length_append, xX]; omega
  have e2 : ((pre ++ (putF b ++ post)).drop (pre.length + 2)).take 4 = bytesOf 4 (yN 0 b : Nat) := by
    rw [← List.drop_drop, hd]
    unfold putF
    rw [List.append_assoc, List.append_assoc, List.drop_append_of_le_length (by rw [yR]; omega), List.drop_of_length_le (by rw [yR]; omega), List.nil_append, List.take_append_of_le_length (by rw [yR]; omega), List.take_of_length_le (by rw [yR]; omega)]
  have n2 : numOf (bytesOf 4 ((yN 0 b : Nat) : Int)) = (yN 0 b : Nat) := numOf_bytes 4 _ (by omega) (by have := moreF_lt 0 b; simp; omega)
  have e3 : ((pre ++ (putF b ++ post)).drop (pre.length + 6)).take b.length = b := by
    have e : putF b ++ post = (bytesOf 2 b.length ++ bytesOf 4 (yN 0 b : Nat)) ++ (b ++ post) := by unfold putF; simp [List.append_assoc]
    rw [← List.drop_drop, hd, e, List.drop_left' (by simp only [List.length_append, yR]), List.take_left' rfl]
  unfold yM
  rw [e1, n1, Int.toNat_natCast, e3, e2, n2, hlen]
  have h1 := hl.1
  rw [decide_eq_true (by omega), decide_eq_true h1, decide_eq_true (by omega), decide_eq_true rfl]
  rfl
/-- where frames end -/
def endsF : Nat → List (List Int) → List (Nat × List Int)
  | _, [] => []
  | p, b :: r => (p + 6 + b.length, b) :: endsF (p + 6 + b.length) r
theorem framesL_cat : ∀ (bs : List (List Int)) (pre : List Int) (f : Nat), (∀ b ∈ bs, putOk b) → bs.length < f → xW (pre ++ catF bs) f pre.length = endsF pre.length bs
  | [], pre, f + 1, _, _ => by
    rw [xW, frameAt_none (fun h => by have := h.1; simp [catF_nil] at this; omega)]
    rfl
  | b :: r, pre, f + 1, h, hf => by
    rw [catF_cons, xW, frameAt_put pre (catF r) b (h b (by simp))]
    have ih := framesL_cat r (pre ++ putF b) f (fun c hc => h c (by simp [hc])) (by simp at hf; omega)
    rw [List.length_append, xX, List.append_assoc] at ih
    show _ :: xW _ f (pre.length + 6 + b.length) = _
    rw [show pre.length + 6 + b.length = pre.length + (6 + b.length) by omega, ih]
    rw [endsF, show pre.length + 6 + b.length = pre.length + (6 + b.length) by omega]
theorem catF_many : ∀ (bs : List (List Int)), 6 * bs.length ≤ (catF bs).length
  | [] => by simp
  | b :: r => by rw [catF_cons, List.length_append, xX, List.length_cons]; have := catF_many r; omega
theorem framesOf_cat (bs : List (List Int)) (h : ∀ b ∈ bs, putOk b) : zF (catF bs) = endsF 0 bs := by
  have := framesL_cat bs [] ((catF bs).length + 1) h (by have := catF_many bs; omega)
  exact this
theorem endsF_rows : ∀ (bs : List (List Int)) (p : Nat), (endsF p bs).map (·.2) = bs
  | [], _ => rfl
  | b :: r, p => by rw [endsF, List.map_cons, endsF_rows r]
theorem endsF_last : ∀ (bs : List (List Int)) (p : Nat), ((endsF p bs).getLast?.map (·.1)).getD p = p + (catF bs).length
  | [], p => by simp [endsF, catF_nil]
  | [b], p => by simp [endsF, catF_cons, catF_nil, xX]; omega
  | b :: c :: r, p => by
    have ih := endsF_last (c :: r) (p + 6 + b.length)
    rw [endsF, catF_cons, List.length_append, xX]
    have e : ((p + 6 + b.length, b) :: endsF (p + 6 + b.length) (c :: r)).getLast? = (endsF (p + 6 + b.length) (c :: r)).getLast? := by
      rw [endsF]; rfl
    rw [e]
    cases h : (endsF (p + 6 + b.length) (c :: r)).getLast? with
    | none => rw [List.getLast?_eq_none_iff, endsF] at h; cases h
    | some x => rw [h] at ih; simp at ih ⊢; omega
theorem spRows_cat (bs : List (List Int)) (h : ∀ b ∈ bs, putOk b) : xD (catF bs) (zF (catF bs)).length = bs.map fun b => .sl (byts b) := by
  unfold xD
  rw [List.take_length, framesOf_cat bs h]
  have := endsF_rows bs 0
  conv => rhs; rw [← this, List.map_map]
  rfl
theorem spUsed_cat (bs : List (List Int)) (h : ∀ b ∈ bs, putOk b) : spUsed (catF bs) (zF (catF bs)).length = (catF bs).length := by
  unfold spUsed
  rw [List.take_length, framesOf_cat bs h]
  have := endsF_last bs 0
  simpa using this
end Go.Proofs.YteppicfkdcofjaaDoor
/- Decode, the program's, as a contract. -/
namespace Go.Proofs.YteppicfkdcofjaaDoor
set_option maxRecDepth 100000
set_option maxHeartbeats 16000000
open Go Go.RowKit
set_option linter.unusedSimpArgs false
attribute [local irreducible] zY zX Step zJ Sub zL Fn
/-- the number of the first j bytes from p on -/
def numTo (b : List Int) (p j : Nat) : Int := numOf ((b.drop p).take j)
/-- the entry's numbers, when i are read, and of the next one j bytes -/
def yE (b : List Int) (i j : Nat) : List Int := (List.range 5).map fun p => if p < i then yU b (1 + 8 * p) else if p = i then numTo b (1 + 8 * i) j else 0
def dcells (k : Int) (vs : List Int) : List PV := .val (.int .i64 k) :: vs.map fun v => .val (.int .u64 v)
theorem numsTo_len (b : List Int) (i j : Nat) : (yE b i j).length = 5 := by simp [yE]
theorem numsTo_next (b : List Int) (i : Nat) : yE b i 8 = yE b (i + 1) 0 := by
  refine List.map_congr_left fun p _ => ?_
  by_cases h : p < i
  · rw [if_pos h, if_pos (by omega)]
  · rw [if_neg h]
    by_cases h2 : p = i
    · subst h2
      rw [if_pos rfl, if_pos (by omega)]
      rfl
    · rw [if_neg h2, if_neg (by omega)]
      by_cases h3 : p = i + 1
      · rw [if_pos h3]
        rfl
      · rw [if_neg h3]
theorem numsTo_set (b : List Int) (i j j' : Nat) : (yE b i j).set i (numTo b (1 + 8 * i) j') = yE b i j' := by
  apply List.ext_getElem?
  intro p
  rw [List.getElem?_set]
  simp only [yE, List.length_map, List.length_range, List.getElem?_map]
  by_cases hp : p < 5
  · rw [List.getElem?_range hp]
    simp only [Option.map_some]
    by_cases h : i = p
    · subst h
      rw [if_pos rfl, if_pos hp, if_neg (by omega), if_pos rfl]
    · rw [if_neg h]
      by_cases h2 : p < i
      · rw [if_pos h2, if_pos h2]
      · rw [if_neg h2, if_neg h2, if_neg (fun e => h e.symm), if_neg (fun e => h e.symm)]
  · have e : (List.range 5)[p]? = none := List.getElem?_eq_none (by simp; omega)
    rw [e]
    by_cases h : i = p
    · subst h
      rw [if_pos rfl, if_neg hp]
      rfl
    · rw [if_neg h]
      rfl
theorem numTo_succ (b : List Int) (p j : Nat) (h : p + j < b.length) : numTo b p (j + 1) = numTo b p j + b.getD (p + j) 0 * 256 ^ j := by
  have key : ∀ (j : Nat) (l : List Int), j < l.length → numOf (l.take (j + 1)) = numOf (l.take j) + l.getD j 0 * 256 ^ j := by
    intro j
    induction j with
    | zero => intro l hl; match l, hl with
      | a :: r, _ => simp [numOf]
    | succ j ih => intro l hl; match l, hl with
      | a :: r, hl =>
        rw [List.take_succ_cons, numOf, ih r (by simpa using hl), List.take_succ_cons, numOf, List.getD_cons_succ, Int.pow_succ, Int.mul_add, Int.add_assoc]
        congr 1
        rw [Int.mul_comm (256 ^ j) 256, ← Int.mul_assoc (List.getD r j 0), Int.mul_comm (List.getD r j 0) 256, Int.mul_assoc]
  unfold numTo
  rw [key j (b.drop p) (by rw [List.length_drop]; omega)]
  simp [List.getD]
theorem or64 (x c : Int) (j : Nat) (hj : j < 8) (h0 : 0 ≤ x) (h1 : x < 256 ^ j) (c0 : 0 ≤ c) (c1 : c < 256) : bits .or .u64 x (c * 256 ^ j) = x + c * 256 ^ j := by
  obtain ⟨n, rfl⟩ := Int.eq_ofNat_of_zero_le h0
  obtain ⟨m, rfl⟩ := Int.eq_ofNat_of_zero_le c0
  have e : (m : Int) * 256 ^ j = ((m * 256 ^ j : Nat) : Int) := by simp
  have hn : n < 256 ^ j := by
    have : ((n : Nat) : Int) < ((256 ^ j : Nat) : Int) := by simpa using h1
    exact Int.ofNat_lt.1 this
  have hm : m < 256 := by omega
  have hle : 256 ^ (j + 1) ≤ 256 ^ 8 := Nat.pow_le_pow_right (by decide) (by omega)
  have h2 : m * 256 ^ j < 256 ^ (j + 1) := by
    rw [Nat.pow_succ, Nat.mul_comm]
    exact Nat.mul_lt_mul_of_pos_left hm (Nat.pow_pos (by decide))
  have h3 : 256 ^ j ≤ 256 ^ (j + 1) := Nat.pow_le_pow_right (by decide) (by omega)
  have e8 : (256 : Nat) ^ 8 = 18446744073709551616 := by decide
  rw [e, u64_or_nat n (m * 256 ^ j) (by omega) (by omega)]
  have e2 : n ||| m * 256 ^ j = m * 256 ^ j + n := by
    have e3 : (256 : Nat) ^ j = 2 ^ (8 * j) := by rw [Nat.pow_mul]
    rw [e3] at hn ⊢
    rw [Nat.or_comm, ← Nat.shiftLeft_eq, Nat.shiftLeft_add_eq_or_of_lt hn]
  rw [e2]
  omega
theorem shl64 (c : Int) (j : Nat) (hj : j < 8) (c0 : 0 ≤ c) (c1 : c < 256) : IntKind.u64.wrap (c * 2 ^ (8 * (j : Int)).toNat) = c * 256 ^ j := by
  rw [pow8]
  obtain ⟨m, rfl⟩ := Int.eq_ofNat_of_zero_le c0
  have e : (m : Int) * 256 ^ j = ((m * 256 ^ j : Nat) : Int) := by simp
  have hm : m < 256 := by omega
  have hle : 256 ^ (j + 1) ≤ 256 ^ 8 := Nat.pow_le_pow_right (by decide) (by omega)
  have h2 : m * 256 ^ j < 256 ^ (j + 1) := by
    rw [Nat.pow_succ, Nat.mul_comm]
    exact Nat.mul_lt_mul_of_pos_left hm (Nat.pow_pos (by decide))
  have e8 : (256 : Nat) ^ 8 = 18446744073709551616 := by decide
  rw [e]
  exact wrap_u64 _ (by omega)
theorem fieldsA4_get (k : Int) (i : Nat) (hi : i < (zA 4 k).length) : (zA 4 k)[((i : Int)).toNat * 1]? = some (.ptr 4 (i + 1)) := by
  rw [Nat.mul_one, Int.toNat_natCast]
  unfold zA at hi ⊢
  by_cases h1 : k = 1
  · rw [if_pos h1] at hi ⊢
    match i with
    | 0 | 1 | 2 | 3 | 4 => rfl
    | i + 5 => simp at hi; omega
  · rw [if_neg h1] at hi ⊢
    by_cases h2 : k = 2 ∨ k = 3
    · rw [if_pos h2] at hi ⊢
      match i with
      | 0 => rfl
      | i + 1 => simp at hi
    · rw [if_neg h2] at hi; simp at hi
theorem fieldsA4_le (k : Int) : (zA 4 k).length ≤ 5 := by
  unfold zA
  split
  · decide
  · split <;> decide
theorem dcells_get (k : Int) (b : List Int) (i j : Nat) (hi : i < 5) : ((dcells k (yE b i j)).map AV.p)[i + 1]? = some (.p (.val (.int .u64 (numTo b (1 + 8 * i) j)))) := by
  have e : (yE b i j)[i]? = some (numTo b (1 + 8 * i) j) := by
    simp only [yE, List.getElem?_map, List.getElem?_range hi, Option.map_some]
    simp
  simp [dcells, e]
theorem splice_one {α : Type} : ∀ (xs : List α) (i : Nat) (x : α), i < xs.length → splice xs i [x] = xs.set i x := by
  intro xs i x h
  apply List.ext_getElem?
  intro p
  rw [yY (by simp; omega), List.getElem?_set]
  by_cases h1 : i = p
  · subst h1
    simp [h]
  · rw [if_neg h1]
    by_cases h2 : p < i
    · rw [if_pos h2]
    · rw [if_neg h2, if_neg (by simp; omega)]
theorem dcells_put (k : Int) (b : List Int) (i j j' : Nat) (hi : i < 5) : splice ((dcells k (yE b i j)).map AV.p) (i + 1) [.p (.val (.int .u64 (numTo b (1 + 8 * i) j')))] = (dcells k (yE b i j')).map AV.p := by
  rw [splice_one _ _ _ (by simp [dcells, numsTo_len]; omega), ← numsTo_set b i j j']
  simp [dcells, List.map_set]
theorem decR_len (b : List Int) (h : b.length ≠ 1 + 8 * (zA 4 (b.getD 0 0)).length) : decR b = decBad := by
  unfold zA at h
  unfold decR
  by_cases h9 : b.length = 9
  · rw [if_pos h9]
    by_cases h1 : b.getD 0 0 = 1
    · rw [if_pos h1]
    · rw [if_neg h1]
      rw [if_neg h1] at h
      by_cases h2 : b.getD 0 0 = 2 ∨ b.getD 0 0 = 3
      · rw [if_pos h2] at h
        simp at h
        omega
      · have : xB (b.getD 0 0) (yU b 1) 0 0 0 0 = false := by
          unfold xB
          rw [if_neg h1, if_neg (fun e => h2 (.inl e)), if_neg (fun e => h2 (.inr e))]
        unfold decPut
        rw [this]
        rfl
  · rw [if_neg h9]
    by_cases h41 : b.length = 41
    · rw [if_pos h41]
      by_cases h1 : b.getD 0 0 = 1
      · rw [if_pos h1] at h
        simp at h
        omega
      · rw [if_neg h1]
    · rw [if_neg h41]
theorem dcells_zero (b : List Int) (k : Int) : dcells k (yE b 0 0) = [.val (.int .i64 k), .val (.int .u64 0), .val (.int .u64 0), .val (.int .u64 0), .val (.int .u64 0), .val (.int .u64 0)] := by
  simp [dcells, yE, numTo, numOf, List.range, List.range.loop]
theorem row4_kill (k : Int) (id : Nat) (h : id ≠ 4) : (some (Blk.row 43 1 (zA 4 k).length ((zA 4 k).map (AV.kill id))) : Option Blk) = some (.row 43 1 (zA 4 k).length (zA 4 k)) := by
  have e : ∀ j, AV.kill id (.ptr 4 j) = .ptr 4 j := fun j => by
    show (if 4 = id then AV.any else AV.ptr 4 j) = _
    rw [if_neg (fun h' => h h'.symm)]
  have e2 : (zA 4 k).map (AV.kill id) = zA 4 k := by
    unfold zA
    split
    · simp only [List.map_cons, List.map_nil, e]
    · split
      · simp only [List.map_cons, List.map_nil, e]
      · rfl
  rw [e2]
theorem dput (k : Int) (b : List Int) (i j j' : Nat) (hi : i < 5) : (some (Blk.box 28 (splice ((dcells k (yE b i j)).map AV.p) (i + 1) [.p (.val (.int .u64 (numTo b (1 + 8 * i) j')))])) : Option Blk) = some (.box 28 ((dcells k (yE b i j')).map AV.p)) := by
  rw [dcells_put k b i j j' hi]
theorem decR_put (b : List Int) (hb : ∀ x ∈ b, 0 ≤ x ∧ x < 256) (h : b.length = 1 + 8 * (zA 4 (b.getD 0 0)).length) :
    ∃ s y u v x, dcells (b.getD 0 0) (yE b (zA 4 (b.getD 0 0)).length 0) = [.val (.int .i64 (b.getD 0 0)), .val (.int .u64 s), .val (.int .u64 y), .val (.int .u64 u), .val (.int .u64 v), .val (.int .u64 x)] ∧
      0 ≤ y ∧ y < 18446744073709551616 ∧ decR b = decPut (b.getD 0 0) s y u v x := by
  generalize hk : b.getD 0 0 = k at *
  have z : ∀ p, numTo b p 0 = 0 := fun p => rfl
  unfold decR
  rw [hk]
  unfold zA at h ⊢
  by_cases h1 : k = 1
  · rw [if_pos h1] at h ⊢
    have hl : b.length = 41 := h
    refine ⟨yU b 1, yU b 9, yU b 17, yU b 25, yU b 33, by simp [dcells, yE, List.range, List.range.loop], (numAt_range b hb 9).1, (numAt_range b hb 9).2, ?_⟩
    rw [if_neg (by omega), if_pos hl, if_pos h1]
  · rw [if_neg h1] at h ⊢
    by_cases h2 : k = 2 ∨ k = 3
    · rw [if_pos h2] at h ⊢
      have hl : b.length = 9 := h
      refine ⟨yU b 1, 0, 0, 0, 0, by simp [dcells, yE, List.range, List.range.loop, z], by decide, by decide, ?_⟩
      rw [if_pos hl, if_neg h1]
    · rw [if_neg h2] at h ⊢
      have hl : b.length = 1 := h
      refine ⟨0, 0, 0, 0, 0, by simp [dcells, yE, List.range, List.range.loop, z], by decide, by decide, ?_⟩
      rw [if_neg (by omega), if_neg (by omega)]
      have : xB k 0 0 0 0 0 = false := by
        unfold xB
        rw [if_neg h1, if_neg (fun e => h2 (.inl e)), if_neg (fun e => h2 (.inr e))]
      unfold decPut
      rw [this]
      rfl
def zeroE : List PV := [.val (.int .i64 0), .val (.int .u64 0), .val (.int .u64 0), .val (.int .u64 0), .val (.int .u64 0), .val (.int .u64 0)]
def decO (b : List Int) (k : Int) (i : Nat) : AS :=
  ⟨[(0, .p (.sl (byts b))), (2, .ptr 2 0), (3, .p (.val (.int .i64 0))), (4, .ptr 4 0), (27, .own 18), (28, .p (.val (.int .i64 (zA 4 k).length))), (29, .p (.val (.int .i64 i)))],
   [(2, .box 28 (zeroE.map AV.p)), (4, .box 28 ((dcells k (yE b i 0)).map AV.p)), (18, .row 43 1 (zA 4 k).length (zA 4 k))], .any⟩
def decI (b : List Int) (k : Int) (i j : Nat) : AS :=
  ⟨[(0, .p (.sl (byts b))), (2, .ptr 2 0), (3, .p (.val (.int .i64 0))), (4, .ptr 4 0), (6, .p (.val (.int .i64 i))), (7, .ptr 4 (i + 1)), (27, .own 18), (28, .p (.val (.int .i64 (zA 4 k).length))), (29, .p (.val (.int .i64 i))), (34, .p (.val (.int .i64 j)))],
   [(2, .box 28 (zeroE.map AV.p)), (4, .box 28 ((dcells k (yE b i j)).map AV.p)), (18, .row 43 1 (zA 4 k).length (zA 4 k))], .any⟩
theorem dec_fn (b : List Int) (h64 : b.length ≤ 9223372036854775807) (hb : ∀ x ∈ b, 0 ≤ x ∧ x < 256) : Fn Tryd.prog 9 [.sl (byts b)] (.tup (decR b)) := by
  have hk0 := getD_range b hb 0
  have hw : IntKind.i64.wrap (b.getD 0 0) = b.getD 0 0 := wrap_i64 _ (by omega)
  have hl5 := fieldsA4_le (b.getD 0 0)
  refine fn_of2 Tryd.func9 rfl Tryd.ntmps9 (Nat.le_of_ble_eq_true rfl) ?_
  repeat' (first | (refine zX.is ?_; first | refine zX.seq ?_ | (refine zX.isR (id := 0) ?_; refine zX.zQ [0] [2, 4, 10, 18, 20, 22, 28, 57] (by repeat' first | exact zZ.nil | apply zZ.p rfl) (by repeat' first | exact zW.nil | apply zW.skip) ?_; (refine zY.m rfl rfl (w_alloc rfl (by decide) rfl (by decide)) ?_); (refine zY.v rfl rfl (zK rfl rfl rfl (by decide)) ?_); refine zY.nil ?_) | (refine zX.isR (id := 1) ?_; refine zX.zQ [0, 2, 3] [2, 4, 10, 18, 20, 22, 28, 57] (by repeat' first | exact zZ.nil | apply zZ.p rfl | apply zZ.ptr rfl) (by repeat' first | exact zW.nil | apply zW.boxP rfl rfl | apply zW.skip) ?_; (refine zY.v rfl rfl (zV rfl rfl rfl (by decide)) ?_); (refine zY.v rfl rfl (xV rfl rfl rfl (by decide)) ?_); (refine zY.v rfl rfl (r_eql rfl rfl rfl (by rfl) rfl (by decide)) ?_); refine zY.nil ?_) | (refine zX.isR (id := 2) ?_; refine zX.zQ [0, 2, 3] [2, 4, 10, 18, 20, 22, 28, 57] (by repeat' first | exact zZ.nil | apply zZ.p rfl | apply zZ.ptr rfl) (by repeat' first | exact zW.nil | apply zW.boxP rfl rfl | apply zW.skip) ?_; (refine zY.v rfl rfl (xC rfl (by rfl) (by rfl) (by rfl) (by rfl) rfl (by decide)) ?_); (refine zY.w rfl (by exact xJ rfl rfl rfl rfl rfl (by rfl) (by exact Nat.le_of_ble_eq_true rfl) rfl rfl) ?_); (refine zY.v rfl rfl (zK rfl rfl rfl (by decide)) ?_); refine zY.nil ?_) | (refine zX.isR (id := 3) ?_; refine zX.zQ [0, 2, 3] [2, 4, 10, 18, 20, 22, 28, 57] (by repeat' first | exact zZ.nil | apply zZ.p rfl | apply zZ.ptr rfl) (by repeat' first | exact zW.nil | apply zW.boxP rfl rfl | apply zW.skip) ?_; (refine zY.v rfl rfl (zV rfl rfl rfl (by decide)) ?_); (refine zY.v rfl rfl (by exact w_indexB rfl rfl rfl (by (simp only [decide_eq_true_eq, decide_eq_false_iff_not, Bool.not_eq_true', Bool.not_eq_false'] at *; omega)) rfl (by decide)) ?_); (refine zY.v rfl rfl (zT rfl rfl rfl rfl (by decide)) ?_); (refine zY.v rfl rfl (by exact y9 rfl rfl (by exact hw) rfl (by decide)) ?_); (refine zY.v rfl rfl (xC rfl (by rfl) (by rfl) (by rfl) (by rfl) rfl (by decide)) ?_); (refine zY.m rfl rfl (w_alloc rfl (by decide) rfl (by decide)) ?_); (refine zY.w rfl (by exact xJ rfl rfl rfl rfl rfl (by rfl) (by exact Nat.le_of_ble_eq_true rfl) rfl rfl) ?_); refine zY.nil ?_) | (refine zX.isR (id := 4) ?_; refine zX.zQ [0, 2, 3, 4] [2, 4, 10, 18, 20, 22, 28, 57] (by repeat' first | exact zZ.nil | apply zZ.p rfl | apply zZ.ptr rfl) (by repeat' first | exact zW.nil | apply zW.boxP rfl rfl | apply zW.skip) ?_; (refine zY.m rfl rfl (w_fields rfl rfl rfl rfl rfl (by decide)) ?_); (refine zY.v rfl rfl (yO rfl rfl rfl (by decide)) ?_); refine zY.nil ?_) | (refine zX.isR (id := 5) ?_; refine zX.zQ [0, 2, 3, 4, 5] [2, 4, 10, 18, 20, 22, 28, 57] (by repeat' first | exact zZ.nil | apply zZ.p rfl | apply zZ.ptr rfl | apply zZ.own rfl) (by repeat' first | exact zW.nil | apply zW.boxP rfl rfl | apply zW.some rfl | apply zW.skip) ?_; (refine zY.v rfl rfl (zV rfl rfl rfl (by decide)) ?_); (refine zY.v rfl rfl (xV rfl rfl rfl (by decide)) ?_); (refine zY.v rfl rfl (a_moveO rfl rfl rfl (by decide)) ?_); (refine zY.v rfl rfl (w_lenO rfl rfl rfl rfl (by decide)) ?_); (refine zY.v rfl rfl (by exact a_mul rfl rfl rfl (by exact wrap_i64 _ (by omega)) rfl (by decide)) ?_); (refine zY.v rfl rfl (by exact yT rfl rfl rfl (by exact wrap_i64 _ (by omega)) rfl (by decide)) ?_); (refine zY.v rfl rfl (r_neq rfl rfl rfl (by rfl) rfl (by decide)) ?_); refine zY.nil ?_) | (refine zX.isR (id := 6) ?_; refine zX.zQ [0, 2, 3, 4, 5] [2, 4, 10, 18, 20, 22, 28, 57] (by repeat' first | exact zZ.nil | apply zZ.p rfl | apply zZ.ptr rfl | apply zZ.own rfl) (by repeat' first | exact zW.nil | apply zW.boxP rfl rfl | apply zW.some rfl | apply zW.skip) ?_; (refine zY.v rfl rfl (xC rfl (by rfl) (by rfl) (by rfl) (by rfl) rfl (by decide)) ?_); (refine zY.w rfl (by exact xJ rfl rfl rfl rfl rfl (by rfl) (by exact Nat.le_of_ble_eq_true rfl) rfl rfl) ?_); (refine zY.v rfl rfl (zK rfl rfl rfl (by decide)) ?_); refine zY.nil ?_) | (refine zX.isR (id := 7) ?_; refine zX.zQ [0, 2, 3, 4, 5] [2, 4, 10, 18, 20, 22, 28, 57] (by repeat' first | exact zZ.nil | apply zZ.p rfl | apply zZ.ptr rfl | apply zZ.own rfl) (by repeat' first | exact zW.nil | apply zW.boxP rfl rfl | apply zW.some rfl | apply zW.skip) ?_; (refine zY.v rfl rfl (a_moveO rfl rfl rfl (by decide)) ?_); (refine zY.v rfl rfl (w_lenO rfl rfl rfl rfl (by decide)) ?_); (refine zY.v rfl rfl (zV rfl rfl rfl (by decide)) ?_); refine zY.nil ?_) | refine zX.cond rfl (fun h => ?_) (fun h => ?_) | refine zX.skip ?_ | refine zX.block ?_ | refine zX.ret ?_) | refine zR.r ?_)
  · have hz : b.length = 0 := by simpa using h
    refine ⟨.inl rfl, _, Sub.refl _, .tupE (rs := [.cell 2 28, .tmp 3]) rfl (by decide) (.cons (.cellN rfl rfl (by rfl) (by rfl)) (.cons (.tmp rfl) .nil)) ?_⟩
    unfold decR
    rw [if_neg (by omega), if_neg (by omega)]
    rfl
  · rename_i h
    have hz : b.length ≠ 1 + 8 * (zA 4 (b.getD 0 0)).length := by
      intro e
      rw [e] at h
      simp at h
    refine ⟨.inl rfl, _, Sub.refl _, .tupE (rs := [.cell 2 28, .tmp 3]) rfl (by decide) (.cons (.cellN rfl rfl (by rfl) (by rfl)) (.cons (.tmp rfl) .nil)) ?_⟩
    exact decR_len b hz
  · rename_i h
    have hbl : b.length = 1 + 8 * (zA 4 (b.getD 0 0)).length := by
      simp only [Bool.not_eq_eq_eq_not, Bool.not_false, decide_eq_true_eq] at h
      omega
    refine zX.loop (decO b (b.getD 0 0)) (fun i => i ≤ (zA 4 (b.getD 0 0)).length) (fun i => (zA 4 (b.getD 0 0)).length - i) 0 ?h0 (Nat.zero_le _) ?rd
    case h0 =>
      unfold decO
      rw [dcells_zero]
      refine zI (is := [0, 2, 3, 4, 27, 28, 29]) (js := [2, 4, 18]) ?_ (.boxP rfl rfl (.boxP rfl rfl (.some (row4_kill (b.getD 0 0) 18 (by decide)) .nil)))
      repeat' first | exact zZ.nil | apply zZ.p rfl | apply zZ.ptr rfl | apply zZ.own rfl | apply zZ.clo rfl | apply zZ.pt rfl | apply zZ.tup rfl | apply zZ.skip
    case rd =>
      intro i hi
      by_cases hc : i < (zA 4 (b.getD 0 0)).length
      · have hdec : decide ((i : Int) < ((zA 4 (b.getD 0 0)).length : Int)) = true := by simpa using hc
        have f1 := fieldsA4_get (b.getD 0 0) i hc
        have f3 : (0 : Int) ≤ (i : Int) ∧ ((i : Int)).toNat < (zA 4 (b.getD 0 0)).length := by omega
        repeat' ((refine zX.is ?_; first | refine zX.seq ?_ | (refine zX.isR (id := 8) ?_; refine zX.zQ [0, 2, 3, 4, 6, 7, 8, 27, 28, 29, 30, 34, 35] [2, 4, 10, 18, 20, 22, 28, 57] (by repeat' first | exact zZ.nil | apply zZ.p rfl | apply zZ.ptr rfl | apply zZ.own rfl | apply zZ.skip) (by repeat' first | exact zW.nil | apply zW.boxP rfl rfl | apply zW.some rfl | apply zW.skip) ?_; (refine zY.v rfl rfl (yL rfl rfl rfl (by rfl) rfl (by decide)) ?_); refine zY.nil ?_) | (refine zX.isR (id := 9) ?_; refine zX.zQ [0, 2, 3, 4, 6, 7, 8, 27, 28, 29, 30, 34, 35] [2, 4, 10, 18, 20, 22, 28, 57] (by repeat' first | exact zZ.nil | apply zZ.p rfl | apply zZ.ptr rfl | apply zZ.own rfl | apply zZ.skip) (by repeat' first | exact zW.nil | apply zW.boxP rfl rfl | apply zW.some rfl | apply zW.skip) ?_; (refine zY.v rfl rfl (zV rfl rfl rfl (by decide)) ?_); (refine zY.v rfl rfl (by exact w_indexO rfl rfl rfl rfl (by omega) rfl (by decide)) ?_); (refine zY.v rfl rfl (by exact w_loadP rfl rfl rfl (by exact f1) rfl (by decide)) ?_); (refine zY.v rfl rfl (zK rfl rfl rfl (by decide)) ?_); (refine zY.v rfl rfl (a_assignR rfl rfl rfl (by decide)) ?_); refine zY.nil ?_) | (refine zX.isR (id := 10) ?_; refine zX.zQ [0, 2, 3, 4, 6, 7, 8, 27, 28, 29, 30, 34, 35] [2, 4, 10, 18, 20, 22, 28, 57] (by repeat' first | exact zZ.nil | apply zZ.p rfl | apply zZ.ptr rfl | apply zZ.own rfl | apply zZ.skip) (by repeat' first | exact zW.nil | apply zW.boxP rfl rfl | apply zW.some rfl | apply zW.skip) ?_; (refine zY.v rfl rfl (zV rfl rfl rfl (by decide)) ?_); refine zY.nil ?_) | refine zX.condY rfl (by assumption) ?_ | refine zX.skip ?_ | refine zX.block ?_))
        refine zX.loop (decI b (b.getD 0 0) i) (fun j => j ≤ 8) (fun j => 8 - j) 0 ?h0 (Nat.zero_le _) ?rd
        case h0 =>
          refine zI (is := [0, 2, 3, 4, 6, 7, 27, 28, 29, 34]) (js := [2, 4, 18]) ?_ ?_
          repeat' first | exact zZ.nil | apply zZ.p rfl | apply zZ.ptr rfl | apply zZ.own rfl | apply zZ.clo rfl | apply zZ.pt rfl | apply zZ.tup rfl | apply zZ.skip
          repeat' first | exact zW.nil | apply zW.boxP rfl rfl | apply zW.zM rfl | apply zW.some rfl | apply zW.skip
        case rd =>
          intro j hj
          by_cases hj8 : j < 8
          · have hb8 : decide ((j : Int) < 8) = true := by simp; omega
            have hj8' : (j : Int) < 8 := by omega
            have f2 := dcells_get (b.getD 0 0) b i j (by omega)
            have hC := getD_range b hb (1 + 8 * i + j)
            have e0 : (1 + 8 * (i : Int) + (j : Int)).toNat = 1 + 8 * i + j := by omega
            have g1 : IntKind.u64.wrap (b.getD (1 + 8 * (i : Int) + (j : Int)).toNat 0) = b.getD (1 + 8 * i + j) 0 := by rw [e0]; exact wrap_u64 _ (by omega)
            have g2 := shl64 (b.getD (1 + 8 * i + j) 0) j hj8 hC.1 hC.2
            have hN : 0 ≤ numTo b (1 + 8 * i) j ∧ numTo b (1 + 8 * i) j < 256 ^ j := numOf_small (b.drop (1 + 8 * i)) j fun x hx => hb x (List.mem_of_mem_drop hx)
            have g3 : bits .or .u64 (numTo b (1 + 8 * i) j) (b.getD (1 + 8 * i + j) 0 * 256 ^ j) = numTo b (1 + 8 * i) (j + 1) := by
              rw [or64 _ _ j hj8 hN.1 hN.2 hC.1 hC.2, numTo_succ b (1 + 8 * i) j (by omega)]
            have f4 : i + 1 + 1 ≤ ((dcells (b.getD 0 0) (yE b i j)).map AV.p).length := by simp [dcells, numsTo_len]; omega
            repeat' (first | (refine zX.is ?_; first | refine zX.seq ?_ | (refine zX.isR (id := 11) ?_; refine zX.zQ [0, 2, 3, 4, 6, 7, 8, 27, 28, 29, 30, 34, 35] [2, 4, 10, 18, 20, 22, 28, 57] (by repeat' first | exact zZ.nil | apply zZ.p rfl | apply zZ.ptr rfl | apply zZ.own rfl | apply zZ.skip) (by repeat' first | exact zW.nil | apply zW.boxP rfl rfl | apply zW.some rfl | apply zW.skip) ?_; (refine zY.v rfl rfl (yL rfl rfl rfl (by rfl) rfl (by decide)) ?_); refine zY.nil ?_) | (refine zX.isR (id := 12) ?_; refine zX.zQ [0, 2, 3, 4, 6, 7, 8, 27, 28, 29, 30, 34, 35] [2, 4, 10, 18, 20, 22, 28, 57] (by repeat' first | exact zZ.nil | apply zZ.p rfl | apply zZ.ptr rfl | apply zZ.own rfl | apply zZ.skip) (by repeat' first | exact zW.nil | apply zW.boxP rfl rfl | apply zW.some rfl | apply zW.skip) ?_; (refine zY.v rfl rfl (zV rfl rfl rfl (by decide)) ?_); (refine zY.v rfl rfl (zK rfl rfl rfl (by decide)) ?_); refine zY.nil ?_) | (refine zX.isR (id := 13) ?_; refine zX.regionD [0, 2, 3, 4, 6, 7, 8, 27, 28, 29, 30, 34, 35] [2, 4, 10, 18, 20, 22, 28, 57] (by repeat' first | exact zZ.nil | apply zZ.p rfl | apply zZ.ptr rfl | apply zZ.own rfl | apply zZ.skip) (by repeat' first | exact zW.nil | apply zW.boxP rfl rfl | apply zW.some rfl | apply zW.skip) (zX.draws ?_); all_goals (refine Draws.v rfl rfl (a_moveR rfl rfl rfl (by decide)) ?_); all_goals (refine Draws.v rfl rfl (a_nilR rfl rfl rfl (by decide)) ?_); all_goals (refine Draws.v rfl rfl (by exact zB rfl rfl rfl (by exact f2) rfl (by decide)) ?_); all_goals (refine Draws.v rfl rfl (zV rfl rfl rfl (by decide)) ?_); all_goals (refine Draws.v rfl rfl (zV rfl rfl rfl (by decide)) ?_); all_goals (refine Draws.v rfl rfl (by exact a_mul rfl rfl rfl (by exact wrap_i64 _ (by omega)) rfl (by decide)) ?_); all_goals (refine Draws.v rfl rfl (by exact yT rfl rfl rfl (by exact wrap_i64 _ (by omega)) rfl (by decide)) ?_); all_goals (refine Draws.v rfl rfl (zV rfl rfl rfl (by decide)) ?_); all_goals (refine Draws.v rfl rfl (by exact yT rfl rfl rfl (by exact wrap_i64 _ (by omega)) rfl (by decide)) ?_); all_goals (refine Draws.v rfl rfl (by exact w_indexB rfl rfl rfl (by omega) rfl (by decide)) ?_); all_goals (refine Draws.v rfl rfl (zT rfl rfl rfl rfl (by decide)) ?_); all_goals (refine Draws.v rfl rfl (by exact y9 rfl rfl (by exact g1) rfl (by decide)) ?_); all_goals (refine Draws.v rfl rfl (zV rfl rfl rfl (by decide)) ?_); all_goals (refine Draws.v rfl rfl (by exact a_mul rfl rfl rfl (by exact wrap_i64 _ (by omega)) rfl (by decide)) ?_); all_goals (refine Draws.v rfl rfl (by exact a_shl rfl rfl rfl (by omega) (by (simp only [IntKind.bits]; omega)) (by exact g2) rfl (by decide)) ?_); all_goals (refine Draws.v rfl rfl (by exact a_or rfl rfl rfl (by exact g3) rfl (by decide)) ?_); all_goals (refine Draws.v rfl rfl (a_nilR rfl rfl rfl (by decide)) ?_); all_goals ((refine Draws.done (by kernel_rfl) (by kernel_rfl) (by kernel_rfl) ?_; refine zL.w rfl (by exact xJ rfl rfl rfl rfl rfl (by rfl) (by exact f4) rfl rfl) ?_)); all_goals (refine zL.nil ?_)) | (refine zX.isR (id := 14) ?_; refine zX.zQ [0, 2, 3, 4, 6, 7, 8, 27, 28, 29, 30, 34, 35] [2, 4, 10, 18, 20, 22, 28, 57] (by repeat' first | exact zZ.nil | apply zZ.p rfl | apply zZ.ptr rfl | apply zZ.own rfl | apply zZ.skip) (by repeat' first | exact zW.nil | apply zW.boxP rfl rfl | apply zW.some rfl | apply zW.skip) ?_; (refine zY.v rfl rfl (by exact yT rfl rfl rfl (by exact wrap_i64 _ (by omega)) rfl (by decide)) ?_); (refine zY.v rfl rfl (zV rfl rfl rfl (by decide)) ?_); refine zY.nil ?_) | refine zX.condY rfl (by assumption) ?_ | refine zX.skip ?_ | refine zX.block ?_) | refine zR.n ?_)
            refine ⟨j + 1, ?_, by omega, by omega⟩
            refine zI (is := [0, 2, 3, 4, 6, 7, 27, 28, 29, 34]) (js := [2, 4, 18]) ?_ (.boxP rfl rfl (.some (dput (b.getD 0 0) b i j (j + 1) (by omega)) (.some rfl .nil)))
            repeat' first | exact zZ.nil | apply zZ.p rfl | apply zZ.ptr rfl | apply zZ.own rfl | apply zZ.clo rfl | apply zZ.pt rfl | apply zZ.tup rfl | apply zZ.skip
          · have hb8 : decide ((j : Int) < 8) = false := by simp; omega
            obtain rfl : j = 8 := by omega
            repeat' (first | (refine zX.is ?_; first | refine zX.seq ?_ | (refine zX.isR (id := 11) ?_; refine zX.zQ [0, 2, 3, 4, 6, 7, 8, 27, 28, 29, 30, 34, 35] [2, 4, 10, 18, 20, 22, 28, 57] (by repeat' first | exact zZ.nil | apply zZ.p rfl | apply zZ.ptr rfl | apply zZ.own rfl | apply zZ.skip) (by repeat' first | exact zW.nil | apply zW.boxP rfl rfl | apply zW.some rfl | apply zW.skip) ?_; (refine zY.v rfl rfl (by exact yL rfl rfl rfl (by exact bF (by decide)) rfl (by decide)) ?_); refine zY.nil ?_) | (refine zX.isR (id := 15) ?_; refine zX.zQ [0, 2, 3, 4, 6, 7, 8, 27, 28, 29, 30, 34, 35] [2, 4, 10, 18, 20, 22, 28, 57] (by repeat' first | exact zZ.nil | apply zZ.p rfl | apply zZ.ptr rfl | apply zZ.own rfl | apply zZ.skip) (by repeat' first | exact zW.nil | apply zW.boxP rfl rfl | apply zW.some rfl | apply zW.skip) ?_; (refine zY.v rfl rfl (by exact yT rfl rfl rfl (by exact wrap_i64 _ (by omega)) rfl (by decide)) ?_); (refine zY.v rfl rfl (zV rfl rfl rfl (by decide)) ?_); refine zY.nil ?_) | refine zX.condN rfl (by assumption) ?_ | refine zX.exit ?_) | refine zR.n ?_)
            refine ⟨i + 1, ?_, by omega, by omega⟩
            unfold decO
            rw [← numsTo_next]
            refine zI (is := [0, 2, 3, 4, 27, 28, 29]) (js := [2, 4, 18]) ?_ ?_
            repeat' first | exact zZ.nil | apply zZ.p rfl | apply zZ.ptr rfl | apply zZ.own rfl | apply zZ.clo rfl | apply zZ.pt rfl | apply zZ.tup rfl | apply zZ.skip
            repeat' first | exact zW.nil | apply zW.boxP rfl rfl | apply zW.zM rfl | apply zW.some rfl | apply zW.skip
      · have hdec : decide ((i : Int) < ((zA 4 (b.getD 0 0)).length : Int)) = false := by simpa using hc
        obtain rfl : i = (zA 4 (b.getD 0 0)).length := by omega
        obtain ⟨s, y, u, v, x, e, hy0, hy1, hr⟩ := decR_put b hb hbl
        unfold decO
        rw [e, hr]
        repeat' (first | (refine zX.is ?_; first | refine zX.seq ?_ | (refine zX.isR (id := 8) ?_; refine zX.zQ [0, 2, 3, 4, 6, 7, 8, 27, 28, 29, 30, 34, 35] [2, 4, 10, 18, 20, 22, 28, 57] (by repeat' first | exact zZ.nil | apply zZ.p rfl | apply zZ.ptr rfl | apply zZ.own rfl | apply zZ.skip) (by repeat' first | exact zW.nil | apply zW.boxP rfl rfl | apply zW.some rfl | apply zW.skip) ?_; (refine zY.v rfl rfl (yL rfl rfl rfl (by rfl) rfl (by decide)) ?_); refine zY.nil ?_) | (refine zX.isR (id := 16) ?_; refine zX.zQ [2, 3, 4] [2, 4, 10, 18, 20, 22, 28, 57] (by repeat' first | exact zZ.nil | apply zZ.p rfl | apply zZ.ptr rfl) (by repeat' first | exact zW.nil | apply zW.boxP rfl rfl | apply zW.some rfl | apply zW.skip) ?_; (refine zY.v rfl rfl (w_loadRN rfl rfl rfl (by rfl) (by rfl) rfl (by decide)) ?_); (refine zY.v rfl rfl (by exact zU (may_fn _ _ _ _ _ _ hy0 hy1) rfl rfl rfl (by decide)) ?_); (refine zY.v rfl rfl (r_notB rfl rfl (by rfl) rfl (by decide)) ?_); refine zY.nil ?_) | (refine zX.isR (id := 17) ?_; refine zX.zQ [2, 3, 4] [2, 4, 10, 18, 20, 22, 28, 57] (by repeat' first | exact zZ.nil | apply zZ.p rfl | apply zZ.ptr rfl) (by repeat' first | exact zW.nil | apply zW.boxP rfl rfl | apply zW.some rfl | apply zW.skip) ?_; (refine zY.v rfl rfl (xC rfl (by rfl) (by rfl) (by rfl) (by rfl) rfl (by decide)) ?_); (refine zY.w rfl (by exact xJ rfl rfl rfl rfl rfl (by rfl) (by exact Nat.le_of_ble_eq_true rfl) rfl rfl) ?_); (refine zY.v rfl rfl (zK rfl rfl rfl (by decide)) ?_); refine zY.nil ?_) | (refine zX.isR (id := 18) ?_; refine zX.zQ [2, 3, 4] [2, 4, 10, 18, 20, 22, 28, 57] (by repeat' first | exact zZ.nil | apply zZ.p rfl | apply zZ.ptr rfl) (by repeat' first | exact zW.nil | apply zW.boxP rfl rfl | apply zW.some rfl | apply zW.skip) ?_; (refine zY.v rfl rfl (w_loadRN rfl rfl rfl (by rfl) (by rfl) rfl (by decide)) ?_); (refine zY.w rfl (by exact xJ rfl rfl rfl rfl rfl (by rfl) (by exact Nat.le_of_ble_eq_true rfl) rfl rfl) ?_); (refine zY.v rfl rfl (zK rfl rfl rfl (by decide)) ?_); refine zY.nil ?_) | refine zX.condN rfl (by assumption) ?_ | refine zX.cond rfl (fun h => ?_) (fun h => ?_) | refine zX.skip ?_ | refine zX.exit ?_ | refine zX.ret ?_) | refine zR.r ?_)
        · rename_i h
          have hm : xB (b.getD 0 0) s y u v x = false := by simpa only [Bool.not_eq_eq_eq_not, Bool.not_true] using h
          refine ⟨.inl rfl, _, Sub.refl _, .tupE (rs := [.cell 2 28, .tmp 3]) rfl (by decide) (.cons (.cellN rfl rfl (by rfl) (by rfl)) (.cons (.tmp rfl) .nil)) ?_⟩
          unfold decPut
          rw [hm]
          rfl
        · rename_i h
          have hm : xB (b.getD 0 0) s y u v x = true := by simpa only [Bool.not_eq_eq_eq_not, Bool.not_false] using h
          refine ⟨.inl rfl, _, Sub.refl _, .tupE (rs := [.cell 2 28, .tmp 3]) rfl (by decide) (.cons (.cellN rfl rfl (by rfl) (by rfl)) (.cons (.tmp rfl) .nil)) ?_⟩
          unfold decPut
          rw [hm]
          rfl
end Go.Proofs.YteppicfkdcofjaaDoor
/- What the laws of entries need in common: bytes and entries, there and back; the document's example. -/
namespace Go.Proofs.YteppicfkdcofjaaDoor
set_option maxRecDepth 100000
set_option maxHeartbeats 16000000
open Go Go.RowKit
set_option linter.unusedSimpArgs false
attribute [local irreducible] zY zX Step zJ Sub zL Fn
theorem enc_yes (k s y u v x : Int) (h0 : 0 ≤ s) (h1 : s < 18446744073709551616) (h2 : 0 ≤ y) (h3 : y < 18446744073709551616) (h4 : 0 ≤ u) (h5 : u < 18446744073709551616) (h6 : 0 ≤ v) (h7 : v < 18446744073709551616) (h8 : 0 ≤ x) (h9 : x < 18446744073709551616) (hm : xB k s y u v x = true) :
    Fn Tryd.prog 6 [entV k s y u v x] (.tup [.sl (byts (y5 k s y u v x)), .val (.int .i64 0)]) := by
  have h := enc_fn k s y u v x h0 h1 h2 h3 h4 h5 h6 h7 h8 h9
  rw [if_pos hm] at h
  exact h
theorem enc_no (k s y u v x : Int) (h0 : 0 ≤ s) (h1 : s < 18446744073709551616) (h2 : 0 ≤ y) (h3 : y < 18446744073709551616) (h4 : 0 ≤ u) (h5 : u < 18446744073709551616) (h6 : 0 ≤ v) (h7 : v < 18446744073709551616) (h8 : 0 ≤ x) (h9 : x < 18446744073709551616) (hm : xB k s y u v x = false) :
    Fn Tryd.prog 6 [entV k s y u v x] (.tup [.sl [], .val (.int .i64 1)]) := by
  have h := enc_fn k s y u v x h0 h1 h2 h3 h4 h5 h6 h7 h8 h9
  rw [if_neg (by simp [hm])] at h
  exact h
theorem dec_is (b : List Int) (h64 : b.length ≤ 9223372036854775807) (hb : ∀ x ∈ b, 0 ≤ x ∧ x < 256) {l : List PV} (e : decR b = l) : Fn Tryd.prog 9 [.sl (byts b)] (.tup l) := e ▸ dec_fn b h64 hb
theorem may_is (k s y u v x : Int) (h0 : 0 ≤ y) (h1 : y < 18446744073709551616) {r : Bool} (e : xB k s y u v x = r) : Fn Tryd.prog 10 [entV k s y u v x] (.p (.val (.bool r))) := e ▸ may_fn k s y u v x h0 h1
theorem dec_death : decR [2, 7, 0, 0, 0, 0, 0, 0, 0] = [entV 2 7 0 0 0 0, .val (.int .i64 0)] := by
  have e : yU [2, 7, 0, 0, 0, 0, 0, 0, 0] 1 = 7 := by decide
  have m : xB 2 7 0 0 0 0 = true := by decide
  unfold decR
  rw [if_pos (by decide), if_neg (by decide), e]
  show decPut 2 7 0 0 0 0 = _
  unfold decPut
  rw [if_pos m]
theorem dec_four : decR [4] = decBad := by
  unfold decR
  rw [if_neg (by decide), if_neg (by decide)]
theorem shown_fn : Fn Tryd.prog 4 [] (.p (.val (.bool true))) := by
  have e1 : y5 2 7 0 0 0 0 = [2, 7, 0, 0, 0, 0, 0, 0, 0] := by decide
  have c1 : Fn Tryd.prog 6 [entV 2 7 0 0 0 0] (.tup [.sl (byts [2, 7, 0, 0, 0, 0, 0, 0, 0]), .val (.int .i64 0)]) := e1 ▸ enc_yes 2 7 0 0 0 0 (by decide) (by decide) (by decide) (by decide) (by decide) (by decide) (by decide) (by decide) (by decide) (by decide) (by decide)
  have c2 : Fn Tryd.prog 6 [entV 0 0 0 0 0 0] (.tup [.sl [], .val (.int .i64 1)]) := enc_no 0 0 0 0 0 0 (by decide) (by decide) (by decide) (by decide) (by decide) (by decide) (by decide) (by decide) (by decide) (by decide) (by decide)
  have c3 : Fn Tryd.prog 9 [.sl (byts [2, 7, 0, 0, 0, 0, 0, 0, 0])] (.tup [entV 2 7 0 0 0 0, .val (.int .i64 0)]) := dec_is _ (by decide) (by decide) dec_death
  have c4 : Fn Tryd.prog 9 [.sl (byts [4])] (.tup [entV 0 0 0 0 0 0, .val (.int .i64 2)]) := dec_is _ (by decide) (by decide) dec_four
  have c5 : Fn Tryd.prog 10 [entV 1 1 2147483648 0 0 5] (.p (.val (.bool true))) := may_is _ _ _ _ _ _ (by decide) (by decide) (by decide)
  have c6 : Fn Tryd.prog 10 [entV 1 1 1 1 0 0] (.p (.val (.bool false))) := may_is _ _ _ _ _ _ (by decide) (by decide) (by decide)
  have s1 : ((strOfNums [2, 7, 0, 0, 0, 0, 0, 0, 0]).toList == (ByteArray.mk #[2, 7, 0, 0, 0, 0, 0, 0, 0]).toList) = true := by kernel_rfl
  refine fn_of Tryd.func4 rfl Tryd.ntmps4 (Nat.le_of_ble_eq_true rfl) ?_
  repeat' ((refine zX.is ?_; first | refine zX.seq ?_ | (refine zX.isR (id := 0) ?_; refine zX.zQ [] [3, 7, 9, 26] (by repeat' exact zZ.nil) (by repeat' first | exact zW.nil | apply zW.skip) ?_; (refine zY.v rfl rfl (zK rfl rfl rfl (by decide)) ?_); refine zY.nil ?_) | (refine zX.isR (id := 1) ?_; refine zX.zQ [0] [3, 7, 9, 26] (by repeat' first | exact zZ.nil | apply zZ.p rfl) (by repeat' first | exact zW.nil | apply zW.skip) ?_; (refine zY.v rfl rfl (xC rfl (by rfl) (by rfl) (by rfl) (by rfl) rfl (by decide)) ?_); (refine zY.v rfl rfl (by exact w_callT (c1) rfl rfl rfl (by decide)) ?_); (refine zY.v rfl rfl (a_moveT rfl rfl rfl (by decide)) ?_); (refine zY.v rfl rfl (zO rfl rfl rfl rfl (by decide)) ?_); (refine zY.v rfl rfl (zO rfl rfl rfl rfl (by decide)) ?_); (refine zY.v rfl rfl (zK rfl rfl rfl (by decide)) ?_); (refine zY.v rfl rfl (zK rfl rfl rfl (by decide)) ?_); refine zY.nil ?_) | (refine zX.isR (id := 2) ?_; refine zX.zQ [0, 1, 2] [3, 7, 9, 26] (by repeat' first | exact zZ.nil | apply zZ.p rfl) (by repeat' first | exact zW.nil | apply zW.skip) ?_; (refine zY.v rfl rfl (zV rfl rfl rfl (by decide)) ?_); (refine zY.v rfl rfl (by exact w_callT (c3) rfl rfl rfl (by decide)) ?_); (refine zY.v rfl rfl (a_moveT rfl rfl rfl (by decide)) ?_); (refine zY.v rfl rfl (zO rfl rfl rfl rfl (by decide)) ?_); (refine zY.v rfl rfl (zO rfl rfl rfl rfl (by decide)) ?_); (refine zY.m rfl rfl (w_alloc rfl (by decide) rfl (by decide)) ?_); (refine zY.w rfl (by exact xJ rfl rfl rfl rfl rfl (by rfl) (by exact Nat.le_of_ble_eq_true rfl) rfl rfl) ?_); (refine zY.v rfl rfl (zK rfl rfl rfl (by decide)) ?_); refine zY.nil ?_) | (refine zX.isR (id := 3) ?_; refine zX.zQ [0, 1, 2, 3, 4] [3, 7, 9, 26] (by repeat' first | exact zZ.nil | apply zZ.p rfl | apply zZ.ptr rfl) (by repeat' first | exact zW.nil | apply zW.boxP rfl rfl | apply zW.skip) ?_; (refine zY.v rfl rfl (xC rfl (by rfl) (by rfl) (by rfl) (by rfl) rfl (by decide)) ?_); (refine zY.v rfl rfl (by exact w_callT (c2) rfl rfl rfl (by decide)) ?_); (refine zY.v rfl rfl (a_moveT rfl rfl rfl (by decide)) ?_); (refine zY.v rfl rfl (zO rfl rfl rfl rfl (by decide)) ?_); (refine zY.v rfl rfl (zO rfl rfl rfl rfl (by decide)) ?_); (refine zY.v rfl rfl (zK rfl rfl rfl (by decide)) ?_); (refine zY.v rfl rfl (zK rfl rfl rfl (by decide)) ?_); refine zY.nil ?_) | (refine zX.isR (id := 4) ?_; refine zX.zQ [0, 1, 2, 3, 4, 6] [3, 7, 9, 26] (by repeat' first | exact zZ.nil | apply zZ.p rfl | apply zZ.ptr rfl) (by repeat' first | exact zW.nil | apply zW.boxP rfl rfl | apply zW.skip) ?_; (refine zY.m rfl rfl (w_buildB rfl (by decide) (by decide) (by decide) (by decide) (by rfl) (by rfl) (by rfl) (by rfl) rfl (by decide)) ?_); (refine zY.is ?_; (refine zY.sub (sub_freezeB (d := 26) rfl rfl) ?_; refine zY.v rfl rfl (by exact w_callT (c4) rfl rfl rfl (by decide)) ?_)); (refine zY.v rfl rfl (a_moveT rfl rfl rfl (by decide)) ?_); (refine zY.v rfl rfl (zO rfl rfl rfl rfl (by decide)) ?_); (refine zY.v rfl rfl (zO rfl rfl rfl rfl (by decide)) ?_); (refine zY.m rfl rfl (w_alloc rfl (by decide) rfl (by decide)) ?_); (refine zY.w rfl (by exact xJ rfl rfl rfl rfl rfl (by rfl) (by exact Nat.le_of_ble_eq_true rfl) rfl rfl) ?_); (refine zY.v rfl rfl (zK rfl rfl rfl (by decide)) ?_); refine zY.nil ?_) | (refine zX.isR (id := 5) ?_; refine zX.zQ [0, 1, 2, 3, 4, 6, 8] [3, 7, 9, 26] (by repeat' first | exact zZ.nil | apply zZ.p rfl | apply zZ.ptr rfl) (by repeat' first | exact zW.nil | apply zW.boxP rfl rfl | apply zW.skip) ?_; (refine zY.v rfl rfl (xC rfl (by rfl) (by rfl) (by rfl) (by rfl) rfl (by decide)) ?_); (refine zY.m rfl rfl (w_alloc rfl (by decide) rfl (by decide)) ?_); (refine zY.w rfl (by exact xJ rfl rfl rfl rfl rfl (by rfl) (by exact Nat.le_of_ble_eq_true rfl) rfl rfl) ?_); refine zY.nil ?_) | (refine zX.isR (id := 6) ?_; refine zX.zQ [0, 1, 2, 3, 4, 6, 8, 9] [3, 7, 9, 26] (by repeat' first | exact zZ.nil | apply zZ.p rfl | apply zZ.ptr rfl) (by repeat' first | exact zW.nil | apply zW.boxP rfl rfl | apply zW.skip) ?_; all_goals (refine zY.v rfl rfl (zV rfl rfl rfl (by decide)) ?_); all_goals (refine zY.v rfl rfl (w_str rfl rfl rfl (by decide)) ?_); all_goals (refine zY.v rfl rfl (by exact r_eqlS rfl rfl rfl (by exact s1) rfl (by decide)) ?_); all_goals (refine zY.v rfl rfl (zV rfl rfl rfl (by decide)) ?_); all_goals (refine zY.gY rfl rfl (by decide) rfl (by with_reducible rfl) rfl (by decide) (zV rfl rfl rfl (by decide)) ?_); all_goals (refine zY.gY rfl rfl (by decide) rfl (by with_reducible rfl) rfl (by decide) (by exact r_eql rfl rfl rfl (by exact bT (by decide)) rfl (by decide)) ?_); all_goals (refine zY.v rfl rfl (by exact zN rfl rfl (by with_reducible rfl) rfl rfl (by decide)) ?_); all_goals (refine zY.v rfl rfl (zV rfl rfl rfl (by decide)) ?_); all_goals (refine zY.gY rfl rfl (by decide) rfl (by with_reducible rfl) rfl (by decide) (w_loadRN rfl rfl rfl (by rfl) (by rfl) rfl (by decide)) ?_); all_goals (refine zY.gY rfl rfl (by decide) rfl (by with_reducible rfl) rfl (by decide) (xC rfl (by rfl) (by rfl) (by rfl) (by rfl) rfl (by decide)) ?_); all_goals (refine zY.gY rfl rfl (by decide) rfl (by with_reducible rfl) rfl (by decide) (by exact r_eqlT rfl rfl rfl rfl rfl rfl (by rfl) (by exact bT (by decide)) rfl (by decide)) ?_); all_goals (refine zY.v rfl rfl (by exact zN rfl rfl (by with_reducible rfl) rfl rfl (by decide)) ?_); all_goals (refine zY.v rfl rfl (zV rfl rfl rfl (by decide)) ?_); all_goals (refine zY.gY rfl rfl (by decide) rfl (by with_reducible rfl) rfl (by decide) (zV rfl rfl rfl (by decide)) ?_); all_goals (refine zY.gY rfl rfl (by decide) rfl (by with_reducible rfl) rfl (by decide) (by exact r_eql rfl rfl rfl (by exact bT (by decide)) rfl (by decide)) ?_); all_goals (refine zY.v rfl rfl (by exact zN rfl rfl (by with_reducible rfl) rfl rfl (by decide)) ?_); all_goals (refine zY.v rfl rfl (zV rfl rfl rfl (by decide)) ?_); all_goals (refine zY.gY rfl rfl (by decide) rfl (by with_reducible rfl) rfl (by decide) (zV rfl rfl rfl (by decide)) ?_); all_goals (refine zY.gY rfl rfl (by decide) rfl (by with_reducible rfl) rfl (by decide) (by exact r_eql rfl rfl rfl (by exact bT (by decide)) rfl (by decide)) ?_); all_goals (refine zY.v rfl rfl (by exact zN rfl rfl (by with_reducible rfl) rfl rfl (by decide)) ?_); all_goals (refine zY.v rfl rfl (zV rfl rfl rfl (by decide)) ?_); all_goals (refine zY.gY rfl rfl (by decide) rfl (by with_reducible rfl) rfl (by decide) (zV rfl rfl rfl (by decide)) ?_); all_goals (refine zY.gY rfl rfl (by decide) rfl (by with_reducible rfl) rfl (by decide) (by exact r_eql rfl rfl rfl (by exact bT (by decide)) rfl (by decide)) ?_); all_goals (refine zY.v rfl rfl (by exact zN rfl rfl (by with_reducible rfl) rfl rfl (by decide)) ?_); all_goals (refine zY.v rfl rfl (zV rfl rfl rfl (by decide)) ?_); all_goals (refine zY.gY rfl rfl (by decide) rfl (by with_reducible rfl) rfl (by decide) (w_loadRN rfl rfl rfl (by rfl) (by rfl) rfl (by decide)) ?_); all_goals (refine zY.gY rfl rfl (by decide) rfl (by with_reducible rfl) rfl (by decide) (by exact zU (c5) rfl rfl rfl (by decide)) ?_); all_goals (refine zY.v rfl rfl (by exact zN rfl rfl (by with_reducible rfl) rfl rfl (by decide)) ?_); all_goals (refine zY.v rfl rfl (zV rfl rfl rfl (by decide)) ?_); all_goals (refine zY.gY rfl rfl (by decide) rfl (by with_reducible rfl) rfl (by decide) (xC rfl (by rfl) (by rfl) (by rfl) (by rfl) rfl (by decide)) ?_); all_goals (refine zY.gY rfl rfl (by decide) rfl (by with_reducible rfl) rfl (by decide) (by exact zU (c6) rfl rfl rfl (by decide)) ?_); all_goals (refine zY.gY rfl rfl (by decide) rfl (by with_reducible rfl) rfl (by decide) (by exact r_notB rfl rfl (by exact bT (by decide)) rfl (by decide)) ?_); all_goals (refine zY.v rfl rfl (by exact zN rfl rfl (by with_reducible rfl) rfl rfl (by decide)) ?_); all_goals (refine zY.v rfl rfl (zK rfl rfl rfl (by decide)) ?_); all_goals (refine zY.nil ?_)) | refine zX.ret ?_))
  trace_state
  all_goals refine ⟨.inl rfl, gives1 rfl rfl (eqB ?_)⟩
  all_goals simp
end Go.Proofs.YteppicfkdcofjaaDoor
/- Entries and bytes, there and back: plain laws. -/
namespace Go.Proofs.YteppicfkdcofjaaDoor
set_option maxRecDepth 100000
set_option maxHeartbeats 16000000
open Go Go.RowKit
end Go.Proofs.YteppicfkdcofjaaDoor
/- EntryTells, as a contract: true. -/
namespace Go.Proofs.YteppicfkdcofjaaDoor
set_option maxRecDepth 100000
set_option maxHeartbeats 16000000
open Go Go.RowKit
set_option linter.unusedSimpArgs false
attribute [local irreducible] zY zX Step zJ Sub zL Fn
def U64 (x : Int) : Prop := 0 ≤ x ∧ x < 18446744073709551616
theorem enc_yes' {k s y u v x : Int} (h0 : U64 s) (h2 : U64 y) (h4 : U64 u) (h6 : U64 v) (h8 : U64 x) (hm : xB k s y u v x = true) :
    Fn Tryd.prog 6 [entV k s y u v x] (.tup [.sl (byts (y5 k s y u v x)), .val (.int .i64 0)]) := enc_yes k s y u v x h0.1 h0.2 h2.1 h2.2 h4.1 h4.2 h6.1 h6.2 h8.1 h8.2 hm
theorem mayRef_is {k s y u v x : Int} (h : U64 y) {r : Bool} (e : xB k s y u v x = r) : Fn Tryd.prog 5 [entV k s y u v x] (.p (.val (.bool r))) := e ▸ mayRef_fn k s y u v x h.1 h.2
end Go.Proofs.YteppicfkdcofjaaDoor
/- EntryFrames, as a contract: true. -/
namespace Go.Proofs.YteppicfkdcofjaaDoor
set_option maxRecDepth 100000
set_option maxHeartbeats 16000000
open Go Go.RowKit
set_option linter.unusedSimpArgs false
set_option linter.unusedVariables false
attribute [local irreducible] zY zX Step zJ Sub zL TStep Fn
def efB (L : List yP) (i : Nat) : List Int := catF ((L.take i).map yP.enc)
def efS (L : List yP) (i : Nat) : AS := { t := [(0, .p (.sl (L.map yP.V))), (3, .p (.val (.bool true))), (4, .own 42), (5, .p (.val (.int .i64 (i : Nat))))], s := [(42, zM 5 (efB L i))] }
def efR (L : List yP) : List PV := L.map fun e => .sl (byts e.enc)
def efT (L : List yP) (i : Nat) : AS := { t := [(0, .p (.sl (L.map yP.V))), (3, .p (.val (.bool true))), (10, .p (.sl (efR L))), (12, .p (.val (.int .i64 (i : Nat))))], s := [] }
theorem efB_succ {L : List yP} {i : Nat} {e : yP} (h : L[i]? = some e) : efB L (i + 1) = efB L i ++ putF e.enc := by
  unfold efB
  rw [List.take_add_one, h, List.map_append, catF_append]
  simp [catF]
theorem enc_put (e : yP) : putOk e.enc := encL_le2 _ _ _ _ _ _
theorem catF_len : ∀ (bs : List (List Int)) (m : Nat), (∀ b ∈ bs, b.length ≤ m) → (catF bs).length ≤ (6 + m) * bs.length
  | [], m, _ => by simp [catF_nil]
  | b :: r, m, h => by
    have h1 := catF_len r m fun c hc => h c (by simp [hc])
    have h2 := h b (by simp)
    rw [catF_cons, List.length_append, xX, List.length_cons, Nat.mul_succ]
    omega
theorem efB_len (L : List yP) (i : Nat) (h : L.length ≤ 12) : (efB L i).length ≤ 1000 := by
  have := catF_len ((L.take i).map yP.enc) 41 fun b hb => by
    obtain ⟨e, _, rfl⟩ := List.mem_map.1 hb
    exact encL_le _ _ _ _ _ _
  have h2 : ((L.take i).map yP.enc).length ≤ 12 := by simp; omega
  unfold efB
  have h3 : (6 + 41) * ((L.take i).map yP.enc).length ≤ 47 * 12 := Nat.mul_le_mul_left _ h2
  omega
theorem efl_fn (L : List yP) (hL : ∀ e ∈ L, e.ok) (hlen : L.length ≤ maxLen) : Fn Tryd.prog 3 [.sl (L.map yP.V)] (.p (.val (.bool true))) := by
  have hcell := ents_cells L
  refine fn_of Tryd.func3 rfl Tryd.ntmps3 (Nat.le_of_ble_eq_true rfl) ?_
  by_cases h12 : L.length ≤ 12
  case neg =>
    have g0 : decide ((((L.map yP.V).length : Nat) : Int) > 12) = true := decide_eq_true (by rw [List.length_map]; omega)
    repeat' (first | (refine zX.is ?_; first | refine zX.seq ?_ | (refine zX.isR (id := 0) ?_; refine zX.zQ [0] [4, 13] (by repeat' first | exact zZ.nil | apply zZ.p rfl) (by repeat' first | exact zW.nil | apply zW.skip) ?_; (refine zY.v rfl rfl (zK rfl rfl rfl (by decide)) ?_); refine zY.nil ?_) | (refine zX.isR (id := 1) ?_; refine zX.zQ [0, 2] [4, 13] (by repeat' first | exact zZ.nil | apply zZ.p rfl) (by repeat' first | exact zW.nil | apply zW.skip) ?_; (refine zY.v rfl rfl (by exact zU (shown_fn) rfl rfl rfl (by decide)) ?_); (refine zY.v rfl rfl (zK rfl rfl rfl (by decide)) ?_); refine zY.nil ?_) | (refine zX.isR (id := 2) ?_; refine zX.zQ [0, 2, 3] [4, 13] (by repeat' first | exact zZ.nil | apply zZ.p rfl) (by repeat' first | exact zW.nil | apply zW.skip) ?_; (refine zY.v rfl rfl (zV rfl rfl rfl (by decide)) ?_); (refine zY.v rfl rfl (w_lenS rfl rfl rfl (by decide)) ?_); (refine zY.v rfl rfl (by exact r_gtr rfl rfl rfl (by exact g0) rfl (by decide)) ?_); refine zY.nil ?_) | (refine zX.isR (id := 3) ?_; refine zX.zQ [0, 2, 3] [4, 13] (by repeat' first | exact zZ.nil | apply zZ.p rfl) (by repeat' first | exact zW.nil | apply zW.skip) ?_; (refine zY.v rfl rfl (zV rfl rfl rfl (by decide)) ?_); (refine zY.v rfl rfl (zK rfl rfl rfl (by decide)) ?_); refine zY.nil ?_) | refine zX.condY rfl (by first | assumption | with_reducible rfl) ?_ | refine zX.ret ?_) | refine zR.r ?_)
    all_goals exact ⟨.inl rfl, gives1 rfl rfl (eqB rfl)⟩
  case pos =>
    have g0 : decide ((((L.map yP.V).length : Nat) : Int) > 12) = false := decide_eq_false (by rw [List.length_map]; omega)
    repeat' ((refine zX.is ?_; first | refine zX.seq ?_ | (refine zX.isR (id := 0) ?_; refine zX.zQ [0] [4, 13] (by repeat' first | exact zZ.nil | apply zZ.p rfl) (by repeat' first | exact zW.nil | apply zW.skip) ?_; (refine zY.v rfl rfl (zK rfl rfl rfl (by decide)) ?_); refine zY.nil ?_) | (refine zX.isR (id := 1) ?_; refine zX.zQ [0, 2] [4, 13] (by repeat' first | exact zZ.nil | apply zZ.p rfl) (by repeat' first | exact zW.nil | apply zW.skip) ?_; (refine zY.v rfl rfl (by exact zU (shown_fn) rfl rfl rfl (by decide)) ?_); (refine zY.v rfl rfl (zK rfl rfl rfl (by decide)) ?_); refine zY.nil ?_) | (refine zX.isR (id := 2) ?_; refine zX.zQ [0, 2, 3] [4, 13] (by repeat' first | exact zZ.nil | apply zZ.p rfl) (by repeat' first | exact zW.nil | apply zW.skip) ?_; (refine zY.v rfl rfl (zV rfl rfl rfl (by decide)) ?_); (refine zY.v rfl rfl (w_lenS rfl rfl rfl (by decide)) ?_); (refine zY.v rfl rfl (by exact r_gtr rfl rfl rfl (by exact g0) rfl (by decide)) ?_); refine zY.nil ?_) | (refine zX.isR (id := 4) ?_; refine zX.zQ [0, 2, 3] [4, 13] (by repeat' first | exact zZ.nil | apply zZ.p rfl) (by repeat' first | exact zW.nil | apply zW.skip) ?_; (refine zY.v rfl rfl (zK rfl rfl rfl (by decide)) ?_); refine zY.nil ?_) | (refine zX.isR (id := 5) ?_; refine zX.zQ [0, 2, 3, 4] [4, 13] (by repeat' first | exact zZ.nil | apply zZ.p rfl) (by repeat' first | exact zW.nil | apply zW.skip) ?_; (refine zY.v rfl rfl (zK rfl rfl rfl (by decide)) ?_); refine zY.nil ?_) | refine zX.condN rfl (by first | assumption | with_reducible rfl) ?_ | refine zX.skip ?_ | refine zX.block ?_))
    refine zX.loop (efS L) (fun i => i ≤ L.length ∧ ∀ e ∈ L.take i, e.may = true) (fun i => L.length - i) 0 ?h0 ⟨Nat.zero_le _, fun e he => by simp at he⟩ ?rd
    case h0 =>
      refine (sub_adoptV (d := 4) (id := 42) (ty := 5) (sz := 1) (by decide) rfl).trans ?_
      unfold efS
      rw [show zM 5 (efB L 0) = rowV 5 1 [] from rfl]
      refine zI (is := [0, 3, 4, 5]) (js := [42]) ?_ ?_
      repeat' first | exact zZ.nil | apply zZ.p rfl | apply zZ.ptr rfl | apply zZ.own rfl | apply zZ.clo rfl | apply zZ.pt rfl | apply zZ.tup rfl | apply zZ.skip
      repeat' first | exact zW.nil | apply zW.boxP rfl rfl | apply zW.zM rfl | apply zW.some rfl | apply zW.skip
    case rd =>
      intro i ⟨hi, hmay⟩
      have hB := efB_len L i h12
      by_cases hlt : i < L.length
      case pos =>
        obtain ⟨e, he⟩ : ∃ e, L[i]? = some e := ⟨_, List.getElem?_eq_getElem hlt⟩
        have hbs := efB_succ he
        have hput := enc_put e
        have hok := hL e (List.mem_of_getElem? he)
        have hp6 := xX e.enc
        have hle := encL_le e.k e.s e.y e.u e.v e.x
        have hrng : ∀ x ∈ e.enc, 0 ≤ x ∧ x < 256 := encL_range _ _ _ _ _ _
        have g1 : decide (((i : Nat) : Int) < (((L.map yP.V).length : Nat) : Int)) = true := decide_eq_true (by rw [List.length_map]; omega)
        have g2 : (L.map yP.V)[i]? = some e.V := by rw [List.getElem?_map, he]; rfl
        have g3 : IntKind.i64.wrap (((i : Nat) : Int) + 1) = ((i + 1 : Nat) : Int) := by rw [wrap_i64 _ (by omega)]; omega
        obtain ⟨k, s, y, u, v, x⟩ := e
        change (y5 k s y u v x).length ≤ 41 at hle
        change (putF (y5 k s y u v x)).length = 6 + (y5 k s y u v x).length at hp6
        obtain ⟨o1, o2, o3, o4, o5⟩ := hok
        by_cases hm : xB k s y u v x = true
        · have e1 := enc_yes' (k := k) o1 o2 o3 o4 o5 hm
          have m1 := mayRef_is (k := k) (s := s) (u := u) (v := v) (x := x) o2 hm
          have p1 : Fn Tryd.prog 7 [.sl (byts (y5 k s y u v x))] (.tup [.sl (byts (putF (y5 k s y u v x))), .val (.int .i64 0)]) := put_fn _ hrng hput
          have l1 : (efB L i).length + (putF (y5 k s y u v x)).length ≤ 140737488355328 := by rw [hp6]; omega
          unfold efS
          repeat' (first | (refine zX.is ?_; first | refine zX.seq ?_ | (refine zX.isR (id := 6) ?_; refine zX.zQ [0, 2, 3, 4, 5, 6, 7, 8, 9, 23, 31, 51] [4, 13, 42] (by repeat' first | exact zZ.nil | apply zZ.p rfl | apply zZ.own rfl | apply zZ.skip) (by repeat' first | exact zW.nil | apply zW.zM rfl | apply zW.skip) ?_; (refine zY.v rfl rfl (zV rfl rfl rfl (by decide)) ?_); (refine zY.v rfl rfl (zV rfl rfl rfl (by decide)) ?_); (refine zY.v rfl rfl (w_lenS rfl rfl rfl (by decide)) ?_); (refine zY.v rfl rfl (by exact yL rfl rfl rfl (by exact g1) rfl (by decide)) ?_); refine zY.nil ?_) | (refine zX.isR (id := 8) ?_; refine zX.zQ [0, 2, 3, 4, 5, 6, 7, 8, 9, 23, 31, 51] [4, 13, 42] (by repeat' first | exact zZ.nil | apply zZ.p rfl | apply zZ.own rfl | apply zZ.skip) (by repeat' first | exact zW.nil | apply zW.zM rfl | apply zW.skip) ?_; (refine zY.v rfl rfl (zV rfl rfl rfl (by decide)) ?_); (refine zY.v rfl rfl (zV rfl rfl rfl (by decide)) ?_); (refine zY.v rfl rfl (by exact w_indexS rfl rfl rfl (by exact hcell) (by exact g2) rfl (by decide)) ?_); (refine zY.v rfl rfl (by exact w_loadN rfl rfl (by exact Nat.le_of_ble_eq_true rfl) rfl (by decide)) ?_); (refine zY.v rfl rfl (by exact zU (m1) rfl rfl rfl (by decide)) ?_); (refine zY.v rfl rfl (by exact r_notB rfl rfl (by exact bF (by decide)) rfl (by decide)) ?_); refine zY.nil ?_) | (refine zX.isR (id := 10) ?_; refine zX.zQ [0, 2, 3, 4, 5, 6, 7, 8, 9, 23, 31, 51] [4, 13, 42] (by repeat' first | exact zZ.nil | apply zZ.p rfl | apply zZ.own rfl | apply zZ.skip) (by repeat' first | exact zW.nil | apply zW.zM rfl | apply zW.skip) ?_; (refine zY.v rfl rfl (zV rfl rfl rfl (by decide)) ?_); (refine zY.v rfl rfl (zV rfl rfl rfl (by decide)) ?_); (refine zY.v rfl rfl (by exact w_indexS rfl rfl rfl (by exact hcell) (by exact g2) rfl (by decide)) ?_); (refine zY.v rfl rfl (by exact w_loadN rfl rfl (by exact Nat.le_of_ble_eq_true rfl) rfl (by decide)) ?_); (refine zY.v rfl rfl (by exact w_callT (e1) rfl rfl rfl (by decide)) ?_); (refine zY.v rfl rfl (a_moveT rfl rfl rfl (by decide)) ?_); (refine zY.v rfl rfl (zO rfl rfl rfl rfl (by decide)) ?_); (refine zY.v rfl rfl (zO rfl rfl rfl rfl (by decide)) ?_); (refine zY.v rfl rfl (zK rfl rfl rfl (by decide)) ?_); (refine zY.v rfl rfl (zK rfl rfl rfl (by decide)) ?_); refine zY.nil ?_) | (refine zX.isR (id := 11) ?_; refine zX.zQ [0, 2, 3, 4, 5, 6, 7, 8, 9, 23, 31, 51] [4, 13, 42] (by repeat' first | exact zZ.nil | apply zZ.p rfl | apply zZ.own rfl | apply zZ.skip) (by repeat' first | exact zW.nil | apply zW.zM rfl | apply zW.skip) ?_; (refine zY.v rfl rfl (zV rfl rfl rfl (by decide)) ?_); (refine zY.v rfl rfl (by exact w_callT (p1) rfl rfl rfl (by decide)) ?_); (refine zY.v rfl rfl (a_moveT rfl rfl rfl (by decide)) ?_); (refine zY.v rfl rfl (zO rfl rfl rfl rfl (by decide)) ?_); (refine zY.v rfl rfl (zO rfl rfl rfl rfl (by decide)) ?_); (refine zY.v rfl rfl (zK rfl rfl rfl (by decide)) ?_); (refine zY.v rfl rfl (zK rfl rfl rfl (by decide)) ?_); refine zY.nil ?_) | (refine zX.isR (id := 12) ?_; refine zX.zQ [0, 2, 3, 4, 5, 6, 7, 8, 9, 23, 31, 51] [4, 13, 42] (by repeat' first | exact zZ.nil | apply zZ.p rfl | apply zZ.own rfl | apply zZ.skip) (by repeat' first | exact zW.nil | apply zW.zM rfl | apply zW.skip) ?_; all_goals (refine zY.v rfl rfl (zV rfl rfl rfl (by decide)) ?_); all_goals (refine zY.v rfl rfl (by exact r_neq rfl rfl rfl (by exact bF (by decide)) rfl (by decide)) ?_); all_goals (refine zY.v rfl rfl (zV rfl rfl rfl (by decide)) ?_); all_goals (refine zY.gY rfl rfl (by decide) rfl (by with_reducible rfl) rfl (by decide) (zV rfl rfl rfl (by decide)) ?_); all_goals (refine zY.gY rfl rfl (by decide) rfl (by with_reducible rfl) rfl (by decide) (by exact r_neq rfl rfl rfl (by exact bF (by decide)) rfl (by decide)) ?_); all_goals (refine zY.v rfl rfl (by exact zP rfl rfl (by with_reducible rfl) rfl rfl (by decide)) ?_); all_goals (refine zY.nil ?_)) | (refine zX.isR (id := 14) ?_; refine zX.zQ [0, 2, 3, 4, 5, 6, 7, 8, 9, 23, 31, 51] [4, 13, 42] (by repeat' first | exact zZ.nil | apply zZ.p rfl | apply zZ.own rfl | apply zZ.skip) (by repeat' first | exact zW.nil | apply zW.zM rfl | apply zW.skip) ?_; (refine zY.v rfl rfl (a_moveO rfl rfl rfl (by decide)) ?_); (refine zY.v rfl rfl (zV rfl rfl rfl (by decide)) ?_); (refine zY.w rfl (by exact w_appB rfl rfl rfl rfl (by exact l1) rfl rfl (by decide)) ?_); (refine zY.v rfl rfl (yO rfl rfl rfl (by decide)) ?_); refine zY.nil ?_) | (refine zX.isR (id := 7) ?_; refine zX.zQ [0, 2, 3, 4, 5, 6, 7, 8, 9, 23, 31, 51] [4, 13, 42] (by repeat' first | exact zZ.nil | apply zZ.p rfl | apply zZ.own rfl | apply zZ.skip) (by repeat' first | exact zW.nil | apply zW.zM rfl | apply zW.skip) ?_; (refine zY.v rfl rfl (zV rfl rfl rfl (by decide)) ?_); (refine zY.v rfl rfl (by exact yT rfl rfl rfl (by exact g3) rfl (by decide)) ?_); (refine zY.v rfl rfl (zK rfl rfl rfl (by decide)) ?_); refine zY.nil ?_) | refine zX.condY rfl (by first | assumption | with_reducible rfl) ?_ | refine zX.condN rfl (by first | assumption | with_reducible rfl) ?_ | refine zX.skip ?_ | refine zX.block ?_) | refine zR.n ?_)
          all_goals
            refine ⟨i + 1, ?_, ⟨hlt, fun e h => by
              rw [List.take_add_one, he] at h
              rcases List.mem_append.1 h with h | h
              · exact hmay e h
              · simp at h; subst h; exact hm⟩, by omega⟩
            try unfold efS
            rw [hbs]
            refine zI (is := [0, 3, 4, 5]) (js := [42]) ?_ ?_
            repeat' first | exact zZ.nil | apply zZ.p rfl | apply zZ.ptr rfl | apply zZ.own rfl | apply zZ.clo rfl | apply zZ.pt rfl | apply zZ.tup rfl | apply zZ.skip
            repeat' first | exact zW.nil | apply zW.boxP rfl rfl | apply zW.zM rfl | apply zW.some rfl | apply zW.skip
        · have hn : xB k s y u v x = false := by simpa using hm
          have m1 := mayRef_is (k := k) (s := s) (u := u) (v := v) (x := x) o2 hn
          unfold efS
          repeat' (first | (refine zX.is ?_; first | refine zX.seq ?_ | (refine zX.isR (id := 6) ?_; refine zX.zQ [0, 2, 3, 4, 5, 6, 7, 8, 9, 23, 31, 51] [4, 13] (by repeat' first | exact zZ.nil | apply zZ.p rfl | apply zZ.own rfl | apply zZ.skip) (by repeat' first | exact zW.nil | apply zW.skip) ?_; (refine zY.v rfl rfl (zV rfl rfl rfl (by decide)) ?_); (refine zY.v rfl rfl (zV rfl rfl rfl (by decide)) ?_); (refine zY.v rfl rfl (w_lenS rfl rfl rfl (by decide)) ?_); (refine zY.v rfl rfl (by exact yL rfl rfl rfl (by exact g1) rfl (by decide)) ?_); refine zY.nil ?_) | (refine zX.isR (id := 8) ?_; refine zX.zQ [0, 2, 3, 4, 5, 6, 7, 8, 9, 23, 31, 51] [4, 13] (by repeat' first | exact zZ.nil | apply zZ.p rfl | apply zZ.own rfl | apply zZ.skip) (by repeat' first | exact zW.nil | apply zW.skip) ?_; (refine zY.v rfl rfl (zV rfl rfl rfl (by decide)) ?_); (refine zY.v rfl rfl (zV rfl rfl rfl (by decide)) ?_); (refine zY.v rfl rfl (by exact w_indexS rfl rfl rfl (by exact hcell) (by exact g2) rfl (by decide)) ?_); (refine zY.v rfl rfl (by exact w_loadN rfl rfl (by exact Nat.le_of_ble_eq_true rfl) rfl (by decide)) ?_); (refine zY.v rfl rfl (by exact zU (m1) rfl rfl rfl (by decide)) ?_); (refine zY.v rfl rfl (by exact r_notB rfl rfl (by exact bT (by decide)) rfl (by decide)) ?_); refine zY.nil ?_) | (refine zX.isR (id := 9) ?_; refine zX.zQ [0, 2, 3, 4, 5, 6, 7, 8, 9, 23, 31, 51] [4, 13] (by repeat' first | exact zZ.nil | apply zZ.p rfl | apply zZ.own rfl | apply zZ.skip) (by repeat' first | exact zW.nil | apply zW.skip) ?_; (refine zY.v rfl rfl (zV rfl rfl rfl (by decide)) ?_); (refine zY.v rfl rfl (zK rfl rfl rfl (by decide)) ?_); refine zY.nil ?_) | refine zX.condY rfl (by first | assumption | with_reducible rfl) ?_ | refine zX.skip ?_ | refine zX.block ?_ | refine zX.ret ?_) | refine zR.r ?_ | refine blockK.r ?_)
          all_goals exact ⟨.inl rfl, gives1 rfl rfl (eqB rfl)⟩
      case neg =>
        obtain rfl : i = L.length := by omega
        have g1 : decide (((L.length : Nat) : Int) < (((L.map yP.V).length : Nat) : Int)) = false := decide_eq_false (by rw [List.length_map]; omega)
        have hall : ∀ b ∈ L.map yP.enc, putOk b := fun b hb => by
          obtain ⟨e, _, rfl⟩ := List.mem_map.1 hb
          exact enc_put e
        have hrng : ∀ b ∈ L.map yP.enc, BytesB b := fun b hb => by
          obtain ⟨e, _, rfl⟩ := List.mem_map.1 hb
          exact encL_range _ _ _ _ _ _
        have eB : efB L L.length = catF (L.map yP.enc) := by unfold efB; rw [List.take_length]
        have c1 := fsplit_fn (efB L L.length) (by rw [eB]; exact catF_range hrng) (by omega)
        have eR : (L.map yP.enc).map (fun b => PV.sl (byts b)) = efR L := by rw [List.map_map]; rfl
        rw [show xD (efB L L.length) (zF (efB L L.length)).length = efR L by rw [eB, spRows_cat _ hall, eR], show spUsed (efB L L.length) (zF (efB L L.length)).length = (efB L L.length).length by rw [eB, spUsed_cat _ hall]] at c1
        have hRl : (efR L).length = L.length := by unfold efR; rw [List.length_map]
        have g2 : (!decide ((((efR L).length : Nat) : Int) = (((L.map yP.V).length : Nat) : Int))) = false := by rw [List.length_map, hRl]; simp
        have g3 : (!decide ((((efB L L.length).length : Nat) : Int) = (((efB L L.length).length : Nat) : Int))) = false := by simp
        unfold efS
        repeat' ((refine zX.is ?_; first | refine zX.seq ?_ | (refine zX.isR (id := 6) ?_; refine zX.zQ [0, 2, 3, 4, 5, 6, 7, 8, 9, 23, 31, 51] [4, 13, 42] (by repeat' first | exact zZ.nil | apply zZ.p rfl | apply zZ.own rfl | apply zZ.skip) (by repeat' first | exact zW.nil | apply zW.zM rfl | apply zW.skip) ?_; (refine zY.v rfl rfl (zV rfl rfl rfl (by decide)) ?_); (refine zY.v rfl rfl (zV rfl rfl rfl (by decide)) ?_); (refine zY.v rfl rfl (w_lenS rfl rfl rfl (by decide)) ?_); (refine zY.v rfl rfl (by exact yL rfl rfl rfl (by exact g1) rfl (by decide)) ?_); refine zY.nil ?_) | (refine zX.isR (id := 15) ?_; refine zX.sub ((sub_frzB 42 rfl)) ?_; refine zX.zQ [0, 2, 3, 4] [4, 13, 42] (by repeat' first | exact zZ.nil | apply zZ.p rfl | apply zZ.skip) (by repeat' first | exact zW.nil | apply zW.skip) ?_; (refine zY.v rfl rfl (zV rfl rfl rfl (by decide)) ?_); (refine zY.v rfl rfl (by exact w_callT (c1) rfl rfl rfl (by decide)) ?_); (refine zY.v rfl rfl (a_moveT rfl rfl rfl (by decide)) ?_); (refine zY.v rfl rfl (zO rfl rfl rfl rfl (by decide)) ?_); (refine zY.v rfl rfl (zO rfl rfl rfl rfl (by decide)) ?_); (refine zY.v rfl rfl (zK rfl rfl rfl (by decide)) ?_); (refine zY.v rfl rfl (zK rfl rfl rfl (by decide)) ?_); refine zY.nil ?_) | (refine zX.isR (id := 16) ?_; refine zX.zQ [0, 2, 3, 4, 10, 11] [4, 13, 42] (by repeat' first | exact zZ.nil | apply zZ.p rfl | apply zZ.skip) (by repeat' first | exact zW.nil | apply zW.skip) ?_; all_goals (refine zY.v rfl rfl (zV rfl rfl rfl (by decide)) ?_); all_goals (refine zY.v rfl rfl (w_lenS rfl rfl rfl (by decide)) ?_); all_goals (refine zY.v rfl rfl (zV rfl rfl rfl (by decide)) ?_); all_goals (refine zY.v rfl rfl (w_lenS rfl rfl rfl (by decide)) ?_); all_goals (refine zY.v rfl rfl (by exact r_neq rfl rfl rfl (by exact g2) rfl (by decide)) ?_); all_goals (refine zY.v rfl rfl (zV rfl rfl rfl (by decide)) ?_); all_goals (refine zY.gY rfl rfl (by decide) rfl (by with_reducible rfl) rfl (by decide) (zV rfl rfl rfl (by decide)) ?_); all_goals (refine zY.gY rfl rfl (by decide) rfl (by with_reducible rfl) rfl (by decide) (zV rfl rfl rfl (by decide)) ?_); all_goals (refine zY.gY rfl rfl (by decide) rfl (by with_reducible rfl) rfl (by decide) (xV rfl rfl rfl (by decide)) ?_); all_goals (refine zY.gY rfl rfl (by decide) rfl (by with_reducible rfl) rfl (by decide) (by exact r_neq rfl rfl rfl (by exact g3) rfl (by decide)) ?_); all_goals (refine zY.v rfl rfl (by exact zP rfl rfl (by with_reducible rfl) rfl rfl (by decide)) ?_); all_goals (refine zY.nil ?_)) | (refine zX.isR (id := 18) ?_; refine zX.zQ [0, 2, 3, 10] [4, 13, 42] (by repeat' first | exact zZ.nil | apply zZ.p rfl | apply zZ.skip) (by repeat' first | exact zW.nil | apply zW.skip) ?_; (refine zY.v rfl rfl (zK rfl rfl rfl (by decide)) ?_); refine zY.nil ?_) | refine zX.condN rfl (by first | assumption | with_reducible rfl) ?_ | refine zX.skip ?_ | refine zX.block ?_ | refine zX.exit ?_))
        rw [List.take_length] at hmay
        clear g1 g2 g3 c1 hB
        refine zX.loop (efT L) (fun i => i ≤ L.length) (fun i => L.length - i) 0 ?h0 (Nat.zero_le _) ?rd
        case h0 =>
          unfold efT
          refine zI (is := [0, 3, 10, 12]) (js := []) ?_ ?_
          repeat' first | exact zZ.nil | apply zZ.p rfl | apply zZ.ptr rfl | apply zZ.own rfl | apply zZ.clo rfl | apply zZ.pt rfl | apply zZ.tup rfl | apply zZ.skip
          repeat' first | exact zW.nil | apply zW.boxP rfl rfl | apply zW.zM rfl | apply zW.some rfl | apply zW.skip
        case rd =>
          intro i hi
          by_cases hlt : i < L.length
          case pos =>
            obtain ⟨e, he⟩ : ∃ e, L[i]? = some e := ⟨_, List.getElem?_eq_getElem hlt⟩
            have hok := hL e (List.mem_of_getElem? he)
            have hm := hmay e (List.mem_of_getElem? he)
            have g1 : decide (((i : Nat) : Int) < (((efR L).length : Nat) : Int)) = true := decide_eq_true (by omega)
            have g2 : (L.map yP.V)[i]? = some e.V := by rw [List.getElem?_map, he]; rfl
            have g4 : (efR L)[i]? = some (.sl (byts e.enc)) := by unfold efR; rw [List.getElem?_map, he]; rfl
            have g5 : ∀ e ∈ efR L, e.cells.length = 1 := fun e he => by
              unfold efR at he
              obtain ⟨x, _, rfl⟩ := List.mem_map.1 he
              rfl
            have g3 : IntKind.i64.wrap (((i : Nat) : Int) + 1) = ((i + 1 : Nat) : Int) := by rw [wrap_i64 _ (by omega)]; omega
            obtain ⟨k, s, y, u, v, x⟩ := e
            obtain ⟨o1, o2, o3, o4, o5⟩ := hok
            change xB k s y u v x = true at hm
            have d2 : Fn Tryd.prog 9 [.sl (byts (y5 k s y u v x))] (.tup [entV k s y u v x, .val (.int .i64 0)]) := dec_is (y5 k s y u v x) (Nat.le_trans (encL_le k s y u v x) (by decide)) (encL_range k s y u v x) (dec_enc o1.1 o1.2 o2.1 o2.2 o3.1 o3.2 o4.1 o4.2 o5.1 o5.2 hm)
            have c0 : (!decide ([(IntKind.i64, k), (IntKind.u64, s), (IntKind.u64, y), (IntKind.u64, u), (IntKind.u64, v), (IntKind.u64, x)] = [(IntKind.i64, k), (IntKind.u64, s), (IntKind.u64, y), (IntKind.u64, u), (IntKind.u64, v), (IntKind.u64, x)])) = false := by simp
            unfold efT
            repeat' (first | (refine zX.is ?_; first | refine zX.seq ?_ | (refine zX.isR (id := 19) ?_; refine zX.zQ [0, 2, 3, 10, 12, 13, 14, 74, 94] [4, 13] (by repeat' first | exact zZ.nil | apply zZ.p rfl | apply zZ.skip) (by repeat' first | exact zW.nil | apply zW.skip) ?_; (refine zY.v rfl rfl (zV rfl rfl rfl (by decide)) ?_); (refine zY.v rfl rfl (zV rfl rfl rfl (by decide)) ?_); (refine zY.v rfl rfl (w_lenS rfl rfl rfl (by decide)) ?_); (refine zY.v rfl rfl (by exact yL rfl rfl rfl (by exact g1) rfl (by decide)) ?_); refine zY.nil ?_) | (refine zX.isR (id := 21) ?_; refine zX.zQ [0, 2, 3, 10, 12, 13, 14, 74, 94] [4, 13] (by repeat' first | exact zZ.nil | apply zZ.p rfl | apply zZ.skip) (by repeat' first | exact zW.nil | apply zW.skip) ?_; (refine zY.v rfl rfl (zV rfl rfl rfl (by decide)) ?_); (refine zY.v rfl rfl (zV rfl rfl rfl (by decide)) ?_); (refine zY.v rfl rfl (by exact w_indexS rfl rfl rfl (by exact g5) (by exact g4) rfl (by decide)) ?_); (refine zY.v rfl rfl (zT rfl rfl rfl rfl (by decide)) ?_); (refine zY.v rfl rfl (by exact w_callT (d2) rfl rfl rfl (by decide)) ?_); (refine zY.v rfl rfl (a_moveT rfl rfl rfl (by decide)) ?_); (refine zY.v rfl rfl (zO rfl rfl rfl rfl (by decide)) ?_); (refine zY.v rfl rfl (zO rfl rfl rfl rfl (by decide)) ?_); (refine zY.m rfl rfl (w_alloc rfl (by decide) rfl (by decide)) ?_); (refine zY.w rfl (by exact xJ rfl rfl rfl rfl rfl (by rfl) (by exact Nat.le_of_ble_eq_true rfl) rfl rfl) ?_); (refine zY.v rfl rfl (zK rfl rfl rfl (by decide)) ?_); refine zY.nil ?_) | (refine zX.isR (id := 22) ?_; refine zX.regionD [0, 2, 3, 10, 12, 13, 14, 74, 94] [4, 13] (by repeat' first | exact zZ.nil | apply zZ.p rfl | apply zZ.ptr rfl | apply zZ.skip) (by repeat' first | exact zW.nil | apply zW.boxP rfl rfl | apply zW.skip) (zX.draws ?_); all_goals (refine Draws.v rfl rfl (zV rfl rfl rfl (by decide)) ?_); all_goals (refine Draws.v rfl rfl (by exact r_neq rfl rfl rfl (by exact bF (by decide)) rfl (by decide)) ?_); all_goals (refine Draws.v rfl rfl (zV rfl rfl rfl (by decide)) ?_); all_goals (refine Draws.gY rfl rfl (by decide) rfl (by with_reducible rfl) rfl (w_loadRN rfl rfl rfl (by rfl) (by rfl) rfl (by decide)) ?_); all_goals (refine Draws.gY rfl rfl (by decide) rfl (by with_reducible rfl) rfl (zV rfl rfl rfl (by decide)) ?_); all_goals (refine Draws.gY rfl rfl (by decide) rfl (by with_reducible rfl) rfl (zV rfl rfl rfl (by decide)) ?_); all_goals (refine Draws.gY rfl rfl (by decide) rfl (by with_reducible rfl) rfl (by exact w_indexS rfl rfl rfl (by exact hcell) (by exact g2) rfl (by decide)) ?_); all_goals (refine Draws.gY rfl rfl (by decide) rfl (by with_reducible rfl) rfl (by exact w_loadN rfl rfl (by exact Nat.le_of_ble_eq_true rfl) rfl (by decide)) ?_); all_goals (refine Draws.gY rfl rfl (by decide) rfl (by with_reducible rfl) rfl (by exact r_neqT rfl rfl rfl rfl rfl rfl (by rfl) (by exact c0) rfl (by decide)) ?_); all_goals (refine Draws.v rfl rfl (by exact zP rfl rfl (by with_reducible rfl) rfl rfl (by decide)) ?_); all_goals ((refine Draws.done (by kernel_rfl) (by kernel_rfl) (by kernel_rfl) ?_; refine zL.nil ?_))) | (refine zX.isR (id := 20) ?_; refine zX.zQ [0, 2, 3, 10, 12, 13, 14, 74, 94] [4, 13] (by repeat' first | exact zZ.nil | apply zZ.p rfl | apply zZ.ptr rfl | apply zZ.skip) (by repeat' first | exact zW.nil | apply zW.boxP rfl rfl | apply zW.skip) ?_; (refine zY.v rfl rfl (zV rfl rfl rfl (by decide)) ?_); (refine zY.v rfl rfl (by exact yT rfl rfl rfl (by exact g3) rfl (by decide)) ?_); (refine zY.v rfl rfl (zK rfl rfl rfl (by decide)) ?_); refine zY.nil ?_) | refine zX.condY rfl (by first | assumption | with_reducible rfl) ?_ | refine zX.condN rfl (by first | assumption | with_reducible rfl) ?_ | refine zX.skip ?_ | refine zX.block ?_) | refine zR.n ?_)
            all_goals
              refine ⟨i + 1, ?_, hlt, by omega⟩
              try unfold efT
              refine zI (is := [0, 3, 10, 12]) (js := []) ?_ ?_
              repeat' first | exact zZ.nil | apply zZ.p rfl | apply zZ.ptr rfl | apply zZ.own rfl | apply zZ.clo rfl | apply zZ.pt rfl | apply zZ.tup rfl | apply zZ.skip
              repeat' first | exact zW.nil | apply zW.boxP rfl rfl | apply zW.zM rfl | apply zW.some rfl | apply zW.skip
          case neg =>
            have g1 : decide (((i : Nat) : Int) < (((efR L).length : Nat) : Int)) = false := decide_eq_false (by omega)
            unfold efT
            repeat' ((refine zX.is ?_; first | refine zX.seq ?_ | (refine zX.isR (id := 19) ?_; refine zX.zQ [0, 2, 3, 10, 12, 13, 14, 74, 94] [4, 13] (by repeat' first | exact zZ.nil | apply zZ.p rfl | apply zZ.skip) (by repeat' first | exact zW.nil | apply zW.skip) ?_; (refine zY.v rfl rfl (zV rfl rfl rfl (by decide)) ?_); (refine zY.v rfl rfl (zV rfl rfl rfl (by decide)) ?_); (refine zY.v rfl rfl (w_lenS rfl rfl rfl (by decide)) ?_); (refine zY.v rfl rfl (by exact yL rfl rfl rfl (by exact g1) rfl (by decide)) ?_); refine zY.nil ?_) | (refine zX.isR (id := 24) ?_; refine zX.zQ [2, 3] [4, 13] (by repeat' first | exact zZ.nil | apply zZ.p rfl | apply zZ.skip) (by repeat' first | exact zW.nil | apply zW.skip) ?_; (refine zY.v rfl rfl (zV rfl rfl rfl (by decide)) ?_); (refine zY.v rfl rfl (zK rfl rfl rfl (by decide)) ?_); refine zY.nil ?_) | refine zX.condN rfl (by first | assumption | with_reducible rfl) ?_ | refine zX.exit ?_ | refine zX.ret ?_))
            all_goals exact ⟨.inl rfl, gives1 rfl rfl (eqB rfl)⟩
end Go.Proofs.YteppicfkdcofjaaDoor
/- Contracts made weaker: nil is an empty slice. Generic over the program. -/
namespace Go.Proofs.YteppicfkdcofjaaDoor
set_option maxRecDepth 100000
set_option maxHeartbeats 16000000
open Go Go.RowKit
/-- y says no more than x -/
inductive PLe0 : PV → PV → Prop
  | refl (x : PV) : PLe0 x x
  | nil : PLe0 (.val (.slice none 0 0)) (.sl [])
inductive PL0s : List PV → List PV → Prop
  | nil : PL0s [] []
  | cons {x y : PV} {xs ys : List PV} (h : PLe0 x y) (hs : PL0s xs ys) : PL0s (x :: xs) (y :: ys)
inductive PLe1 : PV → PV → Prop
  | refl (x : PV) : PLe1 x x
  | nil : PLe1 (.val (.slice none 0 0)) (.sl [])
  | sl {xs ys : List PV} (hl : xs.length = ys.length) (h : PL0s (flat xs) (flat ys)) : PLe1 (.sl xs) (.sl ys)
inductive PLes : List PV → List PV → Prop
  | nil : PLes [] []
  | cons {x y : PV} {xs ys : List PV} (h : PLe1 x y) (hs : PLes xs ys) : PLes (x :: xs) (y :: ys)
inductive PLe : PV → PV → Prop
  | one {x y : PV} (h : PLe1 x y) : PLe x y
  | agg {xs ys : List PV} (h : PLes xs ys) : PLe (.agg xs) (.agg ys)
inductive PLet : List PV → List PV → Prop
  | nil : PLet [] []
  | cons {x y : PV} {xs ys : List PV} (h : PLe x y) (hs : PLet xs ys) : PLet (x :: xs) (y :: ys)
theorem PLe0.rep {x y : PV} (h : PLe0 x y) {M : Nat → Nat → Prop} {w : World} {v : Value} (hr : Rep M w x v) : Rep M w y v := by
  cases h with
  | refl => exact hr
  | nil => cases hr; exact .nil
theorem PL0s.at_ {xs ys : List PV} (h : PL0s xs ys) : xs.length = ys.length ∧ ∀ (i : Nat) y, ys[i]? = some y → ∃ x, xs[i]? = some x ∧ PLe0 x y := by
  induction h with
  | nil => exact ⟨rfl, fun i y h => by simp at h⟩
  | cons h hs ih =>
    refine ⟨by simp [ih.1], fun i y hy => ?_⟩
    cases i with
    | zero => simp at hy; subst hy; exact ⟨_, rfl, h⟩
    | succ i => exact ih.2 i y hy
theorem PL0s.append {xs ys xs' ys' : List PV} (h : PL0s xs ys) (h' : PL0s xs' ys') : PL0s (xs ++ xs') (ys ++ ys') := by
  induction h with
  | nil => exact h'
  | cons h _ ih => exact .cons h ih
theorem PLe1.rep {x y : PV} (h : PLe1 x y) {M : Nat → Nat → Prop} {w : World} {v : Value} (hr : Rep M w x v) : Rep M w y v := by
  cases h with
  | refl => exact hr
  | nil => cases hr; exact .nil
  | sl hl h =>
    obtain ⟨hfl, hat⟩ := h.at_
    rcases rep_sl hr with ⟨rfl, h0⟩ | ⟨g, off, cap, us, rfl, hl2, hcell, hM, hg, hcap, hm⟩
    · subst h0
      have : _ = [] := List.eq_nil_of_length_eq_zero hl.symm
      subst this
      exact .nil
    · rw [hl] at hcap ⊢
      exact .sl _ g off _ cap us rfl (hl2.len.trans hfl) hcell (fun j c y hc hy => by
        obtain ⟨x, hx, hle⟩ := hat j c hc
        exact hle.rep (hl2.each j x y hx hy)) hl2.one hM hg hcap hm
theorem PLes.refl : ∀ xs : List PV, PLes xs xs
  | [] => .nil
  | x :: xs => .cons (.refl x) (PLes.refl xs)
theorem PLes.at_ {xs ys : List PV} (h : PLes xs ys) : xs.length = ys.length ∧ ∀ (i : Nat) y, ys[i]? = some y → ∃ x, xs[i]? = some x ∧ PLe1 x y := by
  induction h with
  | nil => exact ⟨rfl, fun i y h => by simp at h⟩
  | cons h hs ih =>
    refine ⟨by simp [ih.1], fun i y hy => ?_⟩
    cases i with
    | zero => simp at hy; subst hy; exact ⟨_, rfl, h⟩
    | succ i => exact ih.2 i y hy
theorem PLe.rep {x y : PV} (h : PLe x y) {M : Nat → Nat → Prop} {w : World} {v : Value} (hr : Rep M w x v) : Rep M w y v := by
  cases h with
  | one h => exact h.rep hr
  | agg h =>
    obtain ⟨hl, hat⟩ := h.at_
    cases hr with
    | agg cs vs hl2 h2 h1 => exact .agg _ vs (hl2.trans hl) (fun i c u hc hu => by
        obtain ⟨x, hx, hxy⟩ := hat i c hc
        exact hxy.rep (h2 i x u hx hu)) h1
theorem PLet.at_ {xs ys : List PV} (h : PLet xs ys) : xs.length = ys.length ∧ ∀ (i : Nat) y, ys[i]? = some y → ∃ x, xs[i]? = some x ∧ PLe x y := by
  induction h with
  | nil => exact ⟨rfl, fun i y h => by simp at h⟩
  | cons h hs ih =>
    refine ⟨by simp [ih.1], fun i y hy => ?_⟩
    cases i with
    | zero => simp at hy; subst hy; exact ⟨_, rfl, h⟩
    | succ i => exact ih.2 i y hy
theorem PLe.refl (x : PV) : PLe x x := .one (.refl x)
section
variable {P : Program} {f : FuncId}
end
end Go.Proofs.YteppicfkdcofjaaDoor
/- A law's arguments, as they come in, by their shapes. Generic over the program. -/
namespace Go.Proofs.YteppicfkdcofjaaDoor
set_option maxRecDepth 100000
set_option maxHeartbeats 16000000
open Go Go.RowKit Go.ChangeShapes Go.WideShapes Go.ChangeAt
def NoM : Nat → Nat → Prop := fun _ _ => False
/-- what a cell may hold -/
inductive Leaf where
  | int (k : IntKind)
  | bool
  | any
deriving DecidableEq
def leafOK : Leaf → Value → Prop
  | .int k, v => ∃ n, v = .int k n ∧ (Lit.int k n).wf = true
  | .bool, v => ∃ b, v = .bool b
  | .any, v => v.oneCell' = true
/-- type t's cells, one behind the other, are of these kinds (any: a slice) -/
def flatB (P : Program) : Nat → TypeId → List Leaf → Bool
  | 0, _, _ => false
  | d + 1, t, ls => match P.underlying t with
    | some (.int k) => decide (ls = [.int k])
    | some .bool => decide (ls = [.bool])
    | some (.slice _) => decide (ls = [.any])
    | some (.struct fs) => (ls.length == P.cellsOf t) && (fs.toList.all fun f => flatB P d f.type ((ls.drop f.offset).take (P.cellsOf f.type)) && (((ls.drop f.offset).take (P.cellsOf f.type)).length == P.cellsOf f.type)) &&
      (List.range ls.length).all fun c => fs.toList.any fun f => decide (f.offset ≤ c) && decide (c < f.offset + P.cellsOf f.type)
    | _ => false
section
variable {H : Type} {enc : TypeId × Value → H} {P : Program} {W : World} {base : Nat} {spare : Nat → Bool} {held : Bool}
theorem flat_trod : ∀ (d : Nat) {t : TypeId} {ls : List Leaf}, flatB P d t ls = true → ∀ {fuel : Nat} {cs : List Value} {x : DataW H × List MemPlace}, DataW.trod enc P W base spare held fuel t cs = some x →
    cs.length = ls.length ∧ ∀ (i : Nat) l v, ls[i]? = some l → cs[i]? = some v → leafOK l v
  | 0, _, _, h, _, _, _, _ => by cases h
  | d + 1, t, ls, h, fuel, cs, x, hx => by
    unfold flatB at h
    cases hu : P.underlying t with
    | none => rw [hu] at h; cases h
    | some ds =>
      rw [hu] at h
      cases ds with
      | int k =>
        obtain rfl : ls = [.int k] := of_decide_eq_true h
        obtain ⟨n, rfl, _, hw⟩ := DataW.trod_int hu hx
        refine ⟨rfl, fun i l v hl hv => ?_⟩
        match i with
        | 0 => simp at hl hv; subst hl hv; exact ⟨n, rfl, hw⟩
        | i + 1 => simp at hl
      | bool =>
        obtain rfl : ls = [.bool] := of_decide_eq_true h
        obtain ⟨b, rfl, _⟩ := DataW.trod_bool hu hx
        refine ⟨rfl, fun i l v hl hv => ?_⟩
        match i with
        | 0 => simp at hl hv; subst hl hv; exact ⟨b, rfl⟩
        | i + 1 => simp at hl
      | slice e =>
        obtain rfl : ls = [.any] := of_decide_eq_true h
        have key : ∀ w : Value, w.oneCell' = true → cs = [w] → cs.length = [Leaf.any].length ∧ ∀ (i : Nat) l v, [Leaf.any][i]? = some l → cs[i]? = some v → leafOK l v := fun w hw e => by
          subst e
          refine ⟨rfl, fun i l v hl hv => ?_⟩
          match i with
          | 0 => simp at hl hv; subst hl hv; exact hw
          | i + 1 => simp at hl
        rcases DataW.trod_slice hu hx with ⟨e, _⟩ | ⟨a, len, cap, _, _, _, _, e, _⟩
        · exact key _ rfl e
        · exact key _ rfl e
      | struct fs =>
        simp only [Bool.and_eq_true, beq_iff_eq, List.all_eq_true, List.mem_range, List.any_eq_true, decide_eq_true_eq] at h
        obtain ⟨⟨hlen, hfs⟩, hcov⟩ := h
        obtain ⟨xs, n, _, _, hcl, hxl, hg⟩ := DataW.trod_struct hu hx
        refine ⟨by omega, fun i l v hl hv => ?_⟩
        have hil : i < ls.length := (List.getElem?_eq_some_iff.1 hl).1
        obtain ⟨f, hf, hf1, hf2⟩ := hcov i hil
        obtain ⟨hfl, hfn⟩ := hfs f hf
        obtain ⟨j, hj, hfj⟩ := List.getElem_of_mem hf
        have hfj2 : fs[j]? = some f := by
          rw [← hfj, Array.getElem_toList]
          exact Array.getElem?_eq_getElem _
        have h2 := hg j f hfj2
        have hjx : j < xs.length := by rw [hxl]; simpa using hj
        rw [List.getElem?_eq_getElem hjx] at h2
        obtain ⟨_, h3⟩ := flat_trod d hfl h2
        refine h3 (i - f.offset) l v ?_ ?_
        · rw [List.getElem?_take_of_lt (by omega), List.getElem?_drop, show f.offset + (i - f.offset) = i by omega]
          exact hl
        · rw [List.getElem?_take_of_lt (by omega), List.getElem?_drop, show f.offset + (i - f.offset) = i by omega]
          exact hv
      | _ => cases h
theorem has_block {r : Reach} {a : Addr} {e : TypeId} {n : Nat} (h : W.has P r base a e n) : a.spot = none ∧ a.block < W.heap.size := by
  obtain ⟨_, h1, row, cells, h2, _⟩ := h
  refine ⟨h1, ?_⟩
  unfold World.shape? at h2
  cases hb : W.heap[a.block]? with
  | none => rw [hb] at h2; cases h2
  | some o => exact (Array.getElem?_eq_some_iff.1 hb).1
theorem cell_slice {t e : TypeId} {a : Addr} {len cap : Nat} (ht : P.underlying t = some (.slice e)) (h : Cell.okWide P W .any base t (.slice (some a) len cap)) : a.spot = none ∧ a.block < W.heap.size ∧ len ≤ cap := by
  simp only [Cell.okWide, ht, Cell.ok] at h
  exact ⟨(has_block h.2.2).1, (has_block h.2.2).2, h.1⟩
theorem wide_slice {t e : TypeId} {a : Addr} {len cap : Nat} (ht : P.underlying t = some (.slice e)) (h : Value.okWide P W .any base t (.slice (some a) len cap)) : a.spot = none ∧ a.block < W.heap.size ∧ len ≤ cap :=
  cell_slice ht (by simpa only [Value.okWide, ht] using h)
theorem leaf_one {l : Leaf} {v : Value} (h : leafOK l v) : v.oneCell' = true := by
  cases l with
  | int k => obtain ⟨n, rfl, _⟩ := h; rfl
  | bool => obtain ⟨b, rfl⟩ := h; rfl
  | any => exact h
theorem flatten_len {n : Nat} : ∀ {rs : List (List Value)}, (∀ r ∈ rs, r.length = n) → rs.flatten.length = rs.length * n
  | [], _ => by simp
  | r :: rs, h => by
    rw [List.flatten_cons, List.length_append, h r (by simp), flatten_len fun x hx => h x (by simp [hx]), List.length_cons, Nat.add_mul]
    omega
theorem flatten_get {n : Nat} : ∀ {rs : List (List Value)}, (∀ r ∈ rs, r.length = n) → ∀ (i c : Nat), c < n → rs.flatten[i * n + c]? = (rs[i]?).bind (·[c]?)
  | [], _, i, c, _ => by simp
  | r :: rs, h, 0, c, hc => by
    rw [List.flatten_cons, Nat.zero_mul, Nat.zero_add, List.getElem?_append_left (by rw [h r (by simp)]; exact hc)]
    rfl
  | r :: rs, h, i + 1, c, hc => by
    have hr := h r (by simp)
    rw [List.flatten_cons, List.getElem?_append_right (by rw [hr, Nat.add_mul]; omega), hr]
    have e : (i + 1) * n + c - n = i * n + c := by rw [Nat.add_mul]; omega
    rw [e, flatten_get (fun x hx => h x (by simp [hx])) i c hc]
    rfl
/-- a slice of plain structs (of slices, as they are) that came in -/
theorem arg_rows {t e : TypeId} {ls : List Leaf} {dep : Nat} {v : Value} {fuel : Nat} {x : DataW H × List MemPlace} (ht : P.underlying t = some (.slice e)) (hfl : flatB P dep e ls = true) (hn : P.cellsOf e = ls.length)
    (hok : ∀ a len cap, v = .slice (some a) len cap → a.spot = none ∧ a.block < W.heap.size) (h : DataW.trod enc P W base (fun _ => true) held fuel t [v] = some x) :
    ∃ rows : List (List Value), (∀ r ∈ rows, r.length = ls.length ∧ ∀ (i : Nat) l u, ls[i]? = some l → r[i]? = some u → leafOK l u) ∧ rows.length ≤ maxLen ∧
      ∀ es : List PV, es.map PV.cells = rows.map (fun r => r.map PV.val) → Rep NoM W (.sl es) v := by
  rcases DataW.trod_slice ht h with ⟨hv, _⟩ | ⟨a, len, cap, elems, rest, n, _, hv, _, hb, hlc, hm, hlen, hel, _⟩
  · simp only [List.cons.injEq, and_true] at hv
    subst hv
    refine ⟨[], fun r hr => by simp at hr, Nat.zero_le _, fun es he => ?_⟩
    have : es = [] := by simpa using he
    subst this
    exact .nil
  · simp only [List.cons.injEq, and_true] at hv
    subst hv
    obtain ⟨hs, hbk⟩ := hok a len cap rfl
    obtain ⟨g, off, spot⟩ := a
    simp only at hs hbk
    subst hs
    have row : ∀ i, i < len → ∃ r : List Value, W.cells? base (Addr.add ⟨g, off, none⟩ (i * P.cellsOf e)) (P.cellsOf e) = some r ∧ r.length = ls.length ∧ ∀ (j : Nat) l u, ls[j]? = some l → r[j]? = some u → leafOK l u := by
      intro i hi
      have h1 := hel i hi
      rw [List.getElem?_eq_getElem (by omega : i < elems.length)] at h1
      obtain ⟨r, hr, h2⟩ := Option.bind_eq_some_iff.1 h1
      obtain ⟨h3, h4⟩ := flat_trod dep hfl h2
      exact ⟨r, hr, h3, h4⟩
    have rows : ∀ m, m ≤ len → ∃ rs : List (List Value), rs.length = m ∧ ∀ (i : Nat) r, rs[i]? = some r → W.cells? base (Addr.add ⟨g, off, none⟩ (i * P.cellsOf e)) (P.cellsOf e) = some r ∧ r.length = ls.length ∧ ∀ (j : Nat) l u, ls[j]? = some l → r[j]? = some u → leafOK l u := by
      intro m
      induction m with
      | zero => exact fun _ => ⟨[], rfl, fun i r h => by simp at h⟩
      | succ m ih =>
        intro hm2
        obtain ⟨rs, h1, h2⟩ := ih (by omega)
        obtain ⟨r, hr⟩ := row m (by omega)
        refine ⟨rs ++ [r], by simp [h1], fun i r' hi => ?_⟩
        rcases Nat.lt_or_ge i rs.length with h3 | h3
        · rw [List.getElem?_append_left h3] at hi
          exact h2 i r' hi
        · rw [List.getElem?_append_right h3] at hi
          have e0 : i - rs.length = 0 := by
            rcases Nat.eq_zero_or_pos (i - rs.length) with h | h
            · exact h
            · rw [List.getElem?_eq_none (by simp; omega)] at hi; cases hi
          rw [e0] at hi
          simp at hi
          subst hi
          rw [show i = m by omega]
          exact hr
    obtain ⟨rs, hrl, hrs⟩ := rows len (Nat.le_refl _)
    refine ⟨rs, fun r hr => ?_, by omega, fun es he => ?_⟩
    · obtain ⟨i, hi, rfl⟩ := List.getElem_of_mem hr
      exact (hrs i _ (List.getElem?_eq_getElem hi)).2
    · have hn0 : P.cellsOf e = ls.length := hn
      have hesl : es.length = rs.length := by simpa using congrArg List.length he
      have hflat : flat es = rs.flatten.map PV.val := by
        show es.flatMap PV.cells = _
        rw [List.flatMap_def, he, List.map_flatten]
      have hrn : ∀ r ∈ rs, r.length = ls.length := fun r hr => by
        obtain ⟨i, hi, rfl⟩ := List.getElem_of_mem hr
        exact (hrs i _ (List.getElem?_eq_getElem hi)).2.1
      have hyl : rs.flatten.length = rs.length * ls.length := flatten_len hrn
      have at_ : ∀ (j : Nat) y, rs.flatten[j]? = some y → ∃ i c r, j = i * ls.length + c ∧ rs[i]? = some r ∧ r[c]? = some y := fun j y hy => by
        have hj : j < rs.length * ls.length := by rw [← hyl]; exact (List.getElem?_eq_some_iff.1 hy).1
        have hpos : 0 < ls.length := by
          rcases Nat.eq_zero_or_pos ls.length with h | h
          · rw [h] at hj; omega
          · exact h
        have e1 : j = (j / ls.length) * ls.length + j % ls.length := by
          have := Nat.div_add_mod j ls.length
          rw [Nat.mul_comm] at this
          omega
        have hi : j / ls.length < rs.length := (Nat.div_lt_iff_lt_mul hpos).2 hj
        have hc : j % ls.length < ls.length := Nat.mod_lt _ hpos
        have h1 := flatten_get hrn (j / ls.length) (j % ls.length) hc
        rw [← e1, hy, List.getElem?_eq_getElem hi] at h1
        exact ⟨_, _, _, e1, List.getElem?_eq_getElem hi, h1.symm⟩
      refine .sl es g off len cap rs.flatten (by omega) (by rw [hflat, List.length_map]) (fun j y hy => ?_) (fun j c y hc hy => ?_) (fun y hy => ?_) (fun _ _ h => h) hbk hlc hm
      · obtain ⟨i, c, r, rfl, hr, hc⟩ := at_ j y hy
        have h1 := World.cells?_some (hrs i r hr).1
        have hcl : c < P.cellsOf e := by
          rw [hn0, ← (hrs i r hr).2.1]
          exact (List.getElem?_eq_some_iff.1 hc).1
        have h2 := h1.2.2 c hcl
        rw [hc, add_lit, add_lit, hn0, Nat.add_assoc] at h2
        exact h2
      · rw [hflat, List.getElem?_map, hy] at hc
        simp only [Option.map_some, Option.some.injEq] at hc
        subst hc
        exact .val _
      · obtain ⟨j, hj, rfl⟩ := List.getElem_of_mem hy
        obtain ⟨i, c, r, _, hr, hc⟩ := at_ j _ (List.getElem?_eq_getElem hj)
        have hcl : c < ls.length := by
          rw [← (hrs i r hr).2.1]
          exact (List.getElem?_eq_some_iff.1 hc).1
        exact leaf_one ((hrs i r hr).2.2 c _ _ (List.getElem?_eq_getElem hcl) hc)
end
end Go.Proofs.YteppicfkdcofjaaDoor
/- A law's call, by its contract; the table that the row lists; a world that fits. -/
namespace Go.Proofs.YteppicfkdcofjaaDoor
set_option maxRecDepth 100000
set_option maxHeartbeats 16000000
open Go Go.RowKit Go.ChangeShapes Go.WideShapes Go.ChangeAt
set_option linter.unusedVariables false
theorem ownT : ownKnob Tryd.prog.godebug = none := by kernel_rfl
theorem laidOutT : laidOutB Tryd.prog = true := by kernel_rfl
section
variable {P : Program} {W : World}
/-- A law's call, by its contract. -/
theorem Fn.law {f : FuncId} {args : List PV} (h : Fn P f args (.p (.val (.bool true)))) (hlay : Lays W) {vs : List Value} (hl : vs.length = args.length) (hr : ∀ (i : Nat) x v, args[i]? = some x → vs[i]? = some v → Rep NoM W x v) :
    Calls P f vs.toArray W fun e W' => e = .returned (.bool true) ∧ Below W.heap.size W W' :=
  (h NoM W vs ⟨hlay, fun _ _ _ h => h⟩ (fun _ _ h => h.elim) hl hr).mono fun e W' ⟨v, he, hv, hb⟩ => by
    cases hv
    exact ⟨he, hb⟩
theorem reps1 {M : Nat → Nat → Prop} {x0 : PV} {v0 : Value} (h0 : Rep M W x0 v0) : ∀ (i : Nat) x v, [x0][i]? = some x → [v0][i]? = some v → Rep M W x v := by
  intro i x v hx hv
  match i with
  | 0 => simp at hx hv; subst hx; subst hv; exact h0
  | i + 1 => simp at hx
end
/-! ### The listed table -/
theorem gTbl : Tryd.prog.globalNamed "weald/crc.halves" = some 0 := by kernel_rfl
theorem tTbl : (Tryd.prog.globals[0]?).map (·.type) = some 60 := by kernel_rfl
def laidL : List (String × DataW Unit) := [("weald/crc.halves", Rows.laid_weald_crc_halves)]
theorem lays_of_laid {W : World} (h : laidMetH Tryd.prog laidL W) : Lays W := by
  rw [MakeChecks.laidMetH_plain _ _ _ (by kernel_rfl)] at h
  obtain ⟨ps, ⟨g0, t0, cs0, f0, p0, q0, hg0, ht0, hv0, hd0, _, _⟩, _⟩ := h
  obtain rfl := Option.some.inj (gTbl.symm.trans hg0)
  obtain rfl := Option.some.inj (tTbl.symm.trans ht0)
  have hcell := World.var?_cell hg0 hv0
  obtain ⟨xs, m1, _, hx1, hlen, hn, hel⟩ := DataW.trod_array Tryd.underlying60 hd0
  have c1 : Tryd.prog.cellsOf 45 = 1 := by kernel_rfl
  have c16 : Tryd.prog.cellsOf 60 = 16 := by kernel_rfl
  rw [c16] at hlen
  have hdat : Rows.laid_weald_crc_halves (H := Unit) = .agg (tbl0.map fun p => .lit (.int p.1 p.2)) := by kernel_rfl
  simp only [Prod.mk.injEq] at hx1
  have hxs : xs.map (·.1) = tbl0.map fun p => .lit (.int p.1 p.2) := by
    have := hx1.1
    rw [hdat] at this
    simpa using this.symm
  have hk : ∀ p ∈ tbl0, p.1 = .u32 := by decide +kernel
  intro g ys hg
  have hgy : g = 0 ∧ ys = tbl0 := by
    unfold seatTbl at hg
    split at hg
    · next h => exact ⟨h, (Option.some.inj hg).symm⟩
    · cases hg
  obtain ⟨rfl, rfl⟩ := hgy
  have at_ : ∀ (j : Nat) p, tbl0[j]? = some p → W.cell? ⟨0, j, none⟩ = some (.int p.1 p.2) := by
    intro j p hp
    have hj : j < 16 := (List.getElem?_eq_some_iff.1 hp).1
    have h1 := hel j hj
    have hxj : xs[j]? = some xs[j] := List.getElem?_eq_getElem (by omega)
    rw [hxj, c1, Nat.mul_one] at h1
    obtain ⟨k, e1, e2, _⟩ := DataW.trod_int Tryd.underlying45 h1
    have h3 : (xs.map (·.1))[j]? = some (.lit (.int .u32 k)) := by rw [List.getElem?_map, hxj, e2]; rfl
    rw [hxs, List.getElem?_map, hp] at h3
    simp only [Option.map_some, Option.some.injEq, DataW.lit.injEq, Lit.int.injEq] at h3
    obtain ⟨h4, h5⟩ := h3
    have h6 : cs0[j]? = some (.int .u32 k) := by
      have : (cs0.toList.drop j).take 1 = [cs0.toList[j]'(by rw [hlen]; exact hj)] := by
        rw [List.drop_eq_getElem_cons (by rw [hlen]; exact hj)]
        rfl
      rw [this] at e1
      simp only [List.cons.injEq, and_true] at e1
      rw [← e1]
      simp [Array.getElem?_eq_getElem (show j < cs0.size by simpa using (by rw [hlen]; exact hj : j < cs0.toList.length))]
    rw [hcell j, h6, h4, h5]
  refine ⟨?_, at_⟩
  have h0 := at_ 0 _ rfl
  unfold World.cell? at h0
  cases hh : W.heap[0]? with
  | none => rw [hh] at h0; cases h0
  | some o => exact (Array.getElem?_eq_some_iff.1 hh).1
/-- The door's own heap fits. -/
theorem door_met (os : Os) (args : Array Value) : laidMetH Tryd.prog laidL ((World.doorLaid Tryd.prog 400 os).forCall (fun _ _ => 0) ⟨#[], args, []⟩).memory :=
  laidMetH_of_parts3 (fuel := 8) (laidMet_of_run' 8 (by kernel_rfl) (by kernel_rfl)) (by kernel_rfl) (by kernel_rfl)
end Go.Proofs.YteppicfkdcofjaaDoor
/- Arguments: rows of truth values, and of bytes. Generic over the program. -/
namespace Go.Proofs.YteppicfkdcofjaaDoor
set_option maxRecDepth 100000
set_option maxHeartbeats 16000000
open Go Go.RowKit Go.ChangeShapes Go.WideShapes Go.ChangeAt
set_option linter.unusedVariables false
section
variable {P : Program} {W : World} {H : Type} {enc : TypeId × Value → H}
end
end Go.Proofs.YteppicfkdcofjaaDoor
/- Arguments: rows of entries. -/
namespace Go.Proofs.YteppicfkdcofjaaDoor
set_option maxRecDepth 100000
set_option maxHeartbeats 16000000
open Go Go.RowKit Go.ChangeShapes Go.WideShapes Go.ChangeAt
set_option linter.unusedVariables false
def entOf (r : List Value) : yP := match r with
  | [.int _ k, .int _ s, .int _ y, .int _ u, .int _ v, .int _ x] => ⟨k, s, y, u, v, x⟩
  | _ => ⟨0, 0, 0, 0, 0, 0⟩
theorem wfU {n : Int} (h : (Lit.int .u64 n).wf = true) : U n := by
  have h1 := bounds_u64 h
  unfold U
  omega
theorem entOf_cells {r : List Value} (hl : r.length = 6) (h : ∀ (i : Nat) l u, [Leaf.int .i64, .int .u64, .int .u64, .int .u64, .int .u64, .int .u64][i]? = some l → r[i]? = some u → leafOK l u) : (entOf r).V.cells = r.map PV.val ∧ (entOf r).ok := by
  match r, hl with
  | [a, b, c, d, e, f], _ =>
    obtain ⟨n0, rfl, h0⟩ := h 0 _ a rfl rfl
    obtain ⟨n1, rfl, h1⟩ := h 1 _ b rfl rfl
    obtain ⟨n2, rfl, h2⟩ := h 2 _ c rfl rfl
    obtain ⟨n3, rfl, h3⟩ := h 3 _ d rfl rfl
    obtain ⟨n4, rfl, h4⟩ := h 4 _ e rfl rfl
    obtain ⟨n5, rfl, h5⟩ := h 5 _ f rfl rfl
    exact ⟨rfl, wfU h1, wfU h2, wfU h3, wfU h4, wfU h5⟩
theorem arg_ents {H : Type} {enc : TypeId × Value → H} {W : World} {v : Value} {d : DataW H} {p : List MemPlace} {base : Nat} (hv : Value.okWide Tryd.prog W .any base 22 v) (h : DataW.Trod enc Tryd.prog W 0 (fun _ => true) true 22 v d p) :
    ∃ L : List yP, Rep NoM W (.sl (L.map yP.V)) v ∧ (∀ e ∈ L, e.ok) ∧ L.length ≤ maxLen := by
  have ht : Tryd.prog.underlying 22 = some (.slice 28) := Tryd.underlying22
  obtain ⟨a, len, cap, rfl⟩ := okWide_slice ht hv
  obtain ⟨fuel, hf⟩ := h
  have hf' : DataW.trod enc Tryd.prog W 0 (fun _ => true) true fuel 22 [Value.slice a len cap] = some (d, p) := hf
  obtain ⟨rows, h1, h2, h3⟩ := arg_rows (ls := [Leaf.int .i64, .int .u64, .int .u64, .int .u64, .int .u64, .int .u64]) (dep := 8) ht (by kernel_rfl) (by kernel_rfl) (fun a' len' cap' e' => by
    injection e' with e1 e2 e3
    subst e1 e2 e3
    have := wide_slice ht hv
    exact ⟨this.1, this.2.1⟩) hf'
  refine ⟨rows.map entOf, h3 _ ?_, fun e he => ?_, by simpa using h2⟩
  · rw [List.map_map, List.map_map]
    exact List.map_congr_left fun r hr => (entOf_cells (h1 r hr).1 (h1 r hr).2).1
  · obtain ⟨r, hr, rfl⟩ := List.mem_map.1 he
    exact (entOf_cells (h1 r hr).1 (h1 r hr).2).2
end Go.Proofs.YteppicfkdcofjaaDoor
/- For every input EntryFrames returns true, and leaves its arguments as they were; tied: Rows.EntryFramesCardSaid. Conditions: none beyond the given statement's own. -/
namespace Go.Proofs.YteppicfkdcofjaaDoor
set_option maxRecDepth 100000
set_option maxHeartbeats 16000000
open Go Go.RowKit Go.ChangeShapes Go.WideShapes Go.ChangeAt
set_option linter.unusedVariables false
theorem entryFrames_lifted (os : Os) (started : os.Started) (H : Type) (enc : TypeId × Value → H) :
    ReturnsInHanded {} Tryd.checked os 3 .any (fun w args => (Rows.entryFramesSpec.pre enc Tryd.prog Tryd.f3 [] false w args ∧ laidMetH Tryd.prog laidL w) ∧ sizedMet enc Tryd.prog Tryd.f3 (OpenSpec.ofChange Rows.entryFramesSpec) false w args)
      (Rows.entryFramesSpec.post enc Tryd.prog Tryd.f3 false true false false) := by
  refine returnsInHanded_of_change_and (C := Tryd.checked) (X := fun w _ => laidMetH Tryd.prog laidL w) (fun _ _ _ hh h => h.of_heap hh) ownT started (by kernel_rfl) Tryd.func3
    (ChangeSpec.witness_shaped (enc := enc) (C := Tryd.checked) (os := os) (X := fun w _ => laidMetH Tryd.prog laidL w) false (World.doorLaid Tryd.prog 400 os) #[.slice none 0 0] 8 rfl (World.shaped_of_RefB (by kernel_rfl) (by kernel_rfl)) (by kernel_rfl) (by kernel_rfl) (by kernel_rfl) (door_met os _)) ?_
  intro W base args ds gs before hval0 hW hcnd _ hL _
  have hval : ∀ (j : Nat) t v, Tryd.f3.params[j]? = some t → args[j]? = some v → Value.okWide Tryd.prog W .any base t v := hval0
  have hW' := hW
  obtain ⟨p, q, hA0, hV, rfl, hfz, hnd⟩ := hW
  have hA : DataW.TrodAll enc Tryd.prog W 0 (fun _ => true) true Tryd.f3.params.toList args.toList ds p := hA0
  rw [Tryd.params3] at hA hval
  obtain ⟨v0, vs0, d0, ds0, p0, q0, hargs, rfl, rfl, h0, r0⟩ := trodAll_cons hA
  obtain ⟨rfl, rfl, rfl⟩ := trodAll_nil r0
  obtain rfl : args = #[v0] := by cases args; simp_all
  obtain ⟨rfl, rfl⟩ := trodVars_none hV
  have lt0 : ∀ x ∈ p0, x.block < W.heap.size := by obtain ⟨m, hm⟩ := h0; exact DataW.trod_lt m _ _ _ hm
  have o0 := hval 0 22 v0 rfl rfl
  obtain ⟨a0, rp0, g0, l0⟩ := arg_ents o0 h0
  clear hA0 hval0
  refine ((efl_fn a0 g0 l0).law (lays_of_laid hL) (vs := [v0]) rfl (reps1 rp0)).mono fun e W' ⟨he, bel⟩ => ?_
  subst he
  exact ⟨_, rfl, _, _, _, [], _, [], hW', trodAll_mk1 (shut_bool Tryd.underlying4 _), (trodAll_cons_mk (Below.trod laidOutT (by kernel_rfl) (of_decide_eq_true (by kernel_rfl)) h0 bel lt0) trodAll_mk0), rfl, bel.frame _, fun h => by cases h⟩
theorem entryFrames_holds : Rows.EntryFramesSaid :=
  OpenClaim.holds_of_wide 3 Tryd.f3 rfl rfl rfl rfl rfl rfl rfl ⟨rfl, rfl, rfl, rfl, rfl⟩ rfl rfl rfl rfl rfl (by kernel_rfl) Tryd.func3 (by kernel_rfl)
    (of_decide_eq_true (by kernel_rfl)) (by unfold Func.isWrapper; first | (rw [if_pos (by decide +kernel)]; kernel_rfl) | (rw [if_neg (by decide +kernel)]; exact ⟨rfl, rfl⟩))
    (fun os started H enc _ => entryFrames_lifted os started H enc)
theorem entryFramesCard_holds : Rows.EntryFramesCardSaid :=
  Claim7.holds_tied_plain_at .later [] [.data] true _ false
    entryFrames_holds (fun _ h => by cases h) (by kernel_rfl) (fun _ h => by cases h) entryFrames_row_tie rfl ⟨rfl, rfl⟩ (by kernel_rfl) rfl
    (fun f fn hf hfn => by
      obtain rfl : f = 3 := Option.some.inj ((show Tryd.prog.funcNamed "weald/wealdlaw05.EntryFrames" = some 3 by kernel_rfl).symm.trans hf) |>.symm
      obtain rfl : fn = Tryd.f3 := (Option.some.inj (Tryd.func3.symm.trans hfn)).symm
      exact ⟨by kernel_rfl, fun j t ht => by
        rw [Tryd.params3] at ht
        have hm : t ∈ [22] := by simpa using Array.mem_of_getElem? ht
        have hall : ([22].all fun u => !Tryd.prog.wantsStandIn u) = true := by kernel_rfl
        exact (show Tryd.prog.wantsStandIn t = false by simpa using List.all_eq_true.1 hall t hm)⟩)
    (by kernel_rfl)
#print axioms entryFramesCard_holds
end Go.Proofs.YteppicfkdcofjaaDoor
