/- For every input SaveDirect returns true, and leaves its arguments as they were; tied: Rows.SaveDirectCardSaid. Conditions: none beyond the given statement's own. (Part 4 of 7.) -/
import Derived.Test.YthnmfmdkdngggaaDoorDr3
import Derived.Recover
import Derived.Laws.OwnMore
import Derived.ArgAppend
import Derived.Laws.Cover3
/- Records, flags, and what is durable, as trees. -/
namespace Go.Proofs.YthnmfmdkdngggaaDoor
set_option maxRecDepth 100000
set_option maxHeartbeats 16000000
open Go Go.RowKit
set_option linter.unusedSimpArgs false
set_option linter.unusedVariables false
theorem wrapU_U (n : Int) : U (IntKind.u64.wrap n) := by rw [wrapU]; unfold U; omega
theorem U.quo {f : Int} (h : U f) : U (f / 4) := ⟨by have := h.1; omega, by have := h.2; omega⟩
def aliveB (w f stamp : Int) : Bool := decide (f / 4 = stamp) && !decide (w % 2 = 1)
def ov1 (b f : Int) : Bool := hasF f b
def over2 (s b g : Int) : Bool := !decide (g / 4 = s) || hasF g b
theorem orBit (f b : Int) (h0 : 0 ≤ f) (h1 : f < 18446744073709551616) (hb : b = 1 ∨ b = 2) (hn : hasF f b = false) : bits .or .u64 f b = f + b ∧ f + b < 18446744073709551616 := by
  obtain ⟨n, rfl⟩ := Int.eq_ofNat_of_zero_le h0
  unfold hasF at hn
  rcases hb with rfl | rfl
  · simp at hn
    have e : n ||| 1 = n + 1 := by
      have h2 := Nat.shiftLeft_add_eq_or_of_lt (show 1 < 2 ^ 1 by decide) (n / 2)
      rw [Nat.shiftLeft_eq] at h2
      have h3 : n / 2 * 2 ^ 1 = n := by omega
      rw [h3] at h2
      exact h2.symm
    rw [show (1 : Int) = ((1 : Nat) : Int) from rfl, u64_or_nat n 1 (by omega) (by decide), e]
    constructor <;> omega
  · simp at hn
    have e : n ||| 2 = n + 2 := by
      have h2 := Nat.shiftLeft_add_eq_or_of_lt (show n % 4 < 2 ^ 2 by omega) (n / 4)
      have h3 := Nat.shiftLeft_add_eq_or_of_lt (show n % 4 + 2 < 2 ^ 2 by omega) (n / 4)
      rw [Nat.shiftLeft_eq] at h2 h3
      have h4 : n / 4 * 2 ^ 2 + n % 4 = n := by omega
      have h5 : n % 4 ||| 2 = n % 4 + 2 := by
        have : n % 4 = 0 ∨ n % 4 = 1 := by omega
        rcases this with h | h <;> rw [h] <;> rfl
      rw [h4] at h2
      have h6 : n ||| 2 = (n / 4 * 2 ^ 2 ||| n % 4) ||| 2 := congrArg (· ||| 2) h2
      rw [h6, Nat.or_assoc, h5, ← h3]
      omega
    rw [show (2 : Int) = ((2 : Nat) : Int) from rfl, u64_or_nat n 2 (by omega) (by decide), e]
    constructor <;> omega
theorem over2_has {s b g : Int} (h : over2 s b g = false) : hasF g b = false := by
  unfold over2 at h
  simp only [Bool.or_eq_false_iff] at h
  exact h.2
theorem orU {f b : Int} (hf : U f) (hb : b = 1 ∨ b = 2) (hn : hasF f b = false) : U (f + b) := ⟨by have := hf.1; rcases hb with rfl | rfl <;> omega, (orBit f b hf.1 hf.2 hb hn).2⟩
def flagP (t r : Int) : Pr Int := loadP (y9 t r 2)
def aliveP (t r s : Int) : Pr Bool := (loadP (y9 t r 0)).bind fun w => (flagP t r).bind fun f => .ret (aliveB w f s)
/-- one round -/
def wJ (over : Int → Bool) (c b : Int) (_ : Unit) : Pr (Unit ⊕ Unit) := (loadP c).bind fun f => bif over f then .ret (.inr ()) else (casP c f (f + b)).bind fun d => .ret (bif d then .inr () else .inl ())
def setP (over : Int → Bool) (c b : Int) : Pr Unit := .loop (wJ over c b) many ()
/-- accesses of a disk, up to the first that fails -/
def diskP : List Ned → Pr Bool
  | [] => .ret true
  | q :: qs => .ask q fun r => bif r.fail then .ret false else diskP qs
def wrAcc (k s y u v x : Int) : List Ned := [vS 5 0 0 0 (.sl (byts (bytesE k s y u v x))), vS 6 0 0 0 y8]
def wrP (t r b k s y u v x : Int) : Pr Bool := (diskP (wrAcc k s y u v x)).bind fun ok => bif ok then (setP (over2 s b) (y9 t r 2) b).bind fun _ => .ret true else .ret false
def restP (t r b f : Int) : Pr Bool :=
  bif hasF f b then .ret true else bif decide (b = 1) then
    (loadP (y9 t r 1)).bind fun n1 => (loadP (y9 t r 4)).bind fun n2 => (loadP (y9 t r 5)).bind fun n3 => (loadP (y9 t r 6)).bind fun n4 => wrP t r b 1 (f / 4) n1 n2 n3 n4
  else wrP t r b 2 (f / 4) 0 0 0 0
def saveP (t r b : Int) : Pr Bool := (flagP t r).bind fun f => restP t r b f
def deadP (t r s : Int) : Pr Bool := (flagP t r).bind fun f => bif decide (f / 4 = s) then restP t r 2 f else .ret true
def x9 (s y e u v x : Int) : List (Int × Int) := [(2, flagF s 0), (1, y), (3, e), (4, u), (5, v), (6, x)]
def wZ (t r : Int) : List (Int × Int) → Pr Unit
  | [] => .ret ()
  | p :: l => (storeP (y9 t r p.1) p.2).bind fun _ => wZ t r l
def makeP (t r y e u v x : Int) : Pr Int := (addP 2 1).bind fun n => (wZ t r (x9 (IntKind.u64.wrap (n + 1)) y e u v x)).bind fun _ => .ret (IntKind.u64.wrap (n + 1))
/-! ### They ask what may be asked -/
theorem putF_range (b : List Int) (hb : ∀ x ∈ b, 0 ≤ x ∧ x < 256) (hl : putOk b) : ∀ x ∈ wV b, 0 ≤ x ∧ x < 256 := by
  intro x hx
  have h2 : b.length ≤ 65535 := hl.2
  rw [putF_ref b hl] at hx
  simp only [List.mem_cons, List.cons_append, List.nil_append] at hx
  have hm : vW 0 b < 4294967296 := moreF_lt 0 b
  rcases hx with rfl | rfl | rfl | rfl | rfl | rfl | hx
  all_goals first
    | exact hb x hx
    | omega
theorem putF_lenP (b : List Int) (hl : putOk b) : (wV b).length = 6 + b.length := by rw [putF_ref b hl]; simp; omega
theorem bytesE_ok (k s y u v x : Int) : (∀ c ∈ bytesE k s y u v x, 0 ≤ c ∧ c < 256) ∧ (bytesE k s y u v x).length ≤ 1000 := by
  unfold bytesE
  by_cases h : mayB k s y u v x = true
  · rw [if_pos h]
    refine ⟨putF_range _ (encL_range' k s y u v x) (encL_le2 k s y u v x), ?_⟩
    rw [putF_lenP _ (encL_le2 k s y u v x)]
    unfold encL
    by_cases hk : k = 1 <;> simp [hk, bytesOf]
  · rw [if_neg h]
    exact ⟨fun c hc => by simp at hc, by simp⟩
theorem asked_wr (k s y u v x : Int) : ∀ q ∈ wrAcc k s y u v x, vV q := by
  intro q hq
  simp only [wrAcc, List.mem_cons, List.not_mem_nil, or_false] at hq
  rcases hq with rfl | rfl
  · exact ⟨rfl, U.zero, U.zero, .inr ⟨rfl, _, (bytesE_ok k s y u v x).1, (bytesE_ok k s y u v x).2, rfl⟩⟩
  · exact ⟨rfl, U.zero, U.zero, .inl ⟨.inr rfl, rfl⟩⟩
theorem fine_alive (t r s : Int) : (aliveP t r s).wX yes := .bind (wW _) fun _ _ => .bind (wW _) fun _ _ => trivial
theorem fine_round {over : Int → Bool} {c b : Int} (hb : b = 1 ∨ b = 2) (ho : ∀ f, over f = false → hasF f b = false) (u : Unit) : (wJ over c b u).wX (Next yes yes) :=
  .bind (wW _) fun f hf => .condB (fun _ => Pr.wX.ret trivial) fun h => .bind (fine_cas _ hf ⟨by have := hf.1; rcases hb with rfl | rfl <;> omega, (orBit f b hf.1 hf.2 hb (ho f h)).2⟩) fun d _ => Pr.wX.ret (by cases d <;> trivial)
theorem fine_set {over : Int → Bool} {c b : Int} (hb : b = 1 ∨ b = 2) (ho : ∀ f, over f = false → hasF f b = false) : (setP over c b).wX yes :=
  Pr.wX.loop yes (fun _ => ⟨_, _, rfl⟩) (fun u _ => fine_round hb ho u) () trivial
theorem fine_disk : ∀ {qs : List Ned}, (∀ q ∈ qs, vV q) → (diskP qs).wX yes
  | [], _ => Pr.wX.ret trivial
  | q :: qs, h => fine_ask (h q (by simp)) fun r _ => .cond (Pr.wX.ret trivial) (fine_disk fun q' hq => h q' (by simp [hq]))
theorem fine_wr (t r b k s y u v x : Int) (hb : b = 1 ∨ b = 2) : (wrP t r b k s y u v x).wX yes := .bind (fine_disk (asked_wr k s y u v x)) fun _ _ => .cond (.bind (fine_set hb fun _ h => over2_has h) fun _ _ => trivial) trivial
theorem fine_rest (t r b f : Int) (hb : b = 1 ∨ b = 2) : (restP t r b f).wX yes :=
  .cond trivial (.cond (.bind (wW _) fun _ _ => .bind (wW _) fun _ _ => .bind (wW _) fun _ _ => .bind (wW _) fun _ _ => fine_wr _ _ _ _ _ _ _ _ _ hb) (fine_wr _ _ _ _ _ _ _ _ _ hb))
theorem fine_save (t r b : Int) (hb : b = 1 ∨ b = 2) : (saveP t r b).wX yes := .bind (wW _) fun _ _ => fine_rest _ _ _ _ hb
theorem fine_dead (t r s : Int) : (deadP t r s).wX yes := .bind (wW _) fun _ _ => .cond (fine_rest _ _ _ _ (.inr rfl)) trivial
theorem flagF_U (s b : Int) : U (flagF s b) := by unfold flagF U; omega
theorem fine_stores (t r : Int) : ∀ (l : List (Int × Int)), (∀ p ∈ l, U p.2) → (wZ t r l).wX yes
  | [], _ => trivial
  | p :: l, h => .bind (fine_store _ (h p (by simp))) fun _ _ => fine_stores t r l fun p' hp => h p' (by simp [hp])
theorem items_U {s y e u v x : Int} (hy : U y) (he : U e) (hu : U u) (hv : U v) (hx : U x) : ∀ p ∈ x9 s y e u v x, U p.2 := by
  intro p hp
  simp only [x9, List.mem_cons, List.not_mem_nil, or_false] at hp
  rcases hp with rfl | rfl | rfl | rfl | rfl | rfl
  · exact flagF_U _ _
  · exact hy
  · exact he
  · exact hu
  · exact hv
  · exact hx
theorem fine_make (t r : Int) {y e u v x : Int} (hy : U y) (he : U e) (hu : U u) (hv : U v) (hx : U x) : (makeP t r y e u v x).wX U :=
  .bind (fine_add _ (by unfold U; decide)) fun _ _ => .bind (fine_stores t r _ (items_U hy he hu hv hx)) fun _ _ => wrapU_U _
end Go.Proofs.YthnmfmdkdngggaaDoor
/- Flags, and what is alive: the program's, whatever makes its accesses: contracts. -/
namespace Go.Proofs.YthnmfmdkdngggaaDoor
set_option maxRecDepth 100000
set_option maxHeartbeats 16000000
open Go Go.RowKit
set_option linter.unusedSimpArgs false
set_option linter.unusedVariables false
attribute [local irreducible] zY zX Step zC Sub zL zI Fn
theorem fieldR {t r : Int} (h : Rec t r) (f : Int) (hf : 0 ≤ f ∧ f ≤ 7) : Fn Tryd.prog 47 [.val (.int .i64 t), .val (.int .i64 r), .val (.int .i64 f)] (.p (.val (.int .i64 (y9 t r f)))) := field_fn t r f h.1 ⟨by have := h.2.1; omega, h.2.2⟩ (by unfold Small; omega)
theorem nextR {t r : Int} (h : Rec t r) : Fn Tryd.prog 49 [.val (.int .i64 t), .val (.int .i64 r)] (.p (.val (.int .i64 (y9 t r 0)))) := next_fn t r h.1 h.2
def vT (b : Int) : Blk := .box 3 [.p (.val (.int .i64 b))]
def entB (k s y u v x : Int) : Blk := .box 44 [.p (.val (.int .i64 k)), .p (.val (.int .u64 s)), .p (.val (.int .u64 y)), .p (.val (.int .u64 u)), .p (.val (.int .u64 v)), .p (.val (.int .u64 x))]
theorem flag_h (H : Hnd) (s0 : H.σ) {t r : Int} (h : Rec t r) : FnH H 51 [H.doA, .p (.val (.int .i64 t)), .p (.val (.int .i64 r))] [] (fun x => .p (.val (.int .u64 x))) (fun _ => []) U s0 (flagP t r) := by
  unfold Hnd.doA
  refine vJ Tryd.func51 rfl Tryd.ntmps51 (Nat.le_of_ble_eq_true rfl) (by decide) (wW _) fun hok hns => ?_
  repeat' ((refine zX.is ?_; first | refine zX.seq ?_ | (refine zX.isR (id := 0) ?_; refine zX.zV [0, 1, 2] [1000, 1001, 1002] (by repeat' first | exact zZ.nil | apply zZ.p rfl | apply zZ.clo rfl) (by repeat' first | exact zW.nil | apply zW.some rfl) ?_; (refine zY.v rfl rfl (zK rfl rfl rfl (by decide)) ?_); refine zY.nil ?_) | (refine zX.isR (id := 1) ?_; refine zX.zV [0, 1, 2, 6] [1000, 1001, 1002] (by repeat' first | exact zZ.nil | apply zZ.p rfl | apply zZ.clo rfl) (by repeat' first | exact zW.nil | apply zW.some rfl) ?_; (refine zY.v rfl rfl (zM rfl rfl rfl (by decide)) ?_); (refine zY.v rfl rfl (zQ rfl rfl rfl (by decide)) ?_); (refine zY.v rfl rfl (zQ rfl rfl rfl (by decide)) ?_); (refine zY.v rfl rfl (by exact zR (fieldR h 2 (by decide)) rfl rfl rfl (by decide)) ?_); (refine zY.ofT rfl (zI.held H [] rfl (by decide) (zH rfl) (by rfl) (by decide) rfl rfl rfl (by repeat' exact trivial) rfl rfl (fun _ => rfl) (fun _ => ⟨rfl, rfl⟩) (by assumption) (load_h H _ _) (fun x s e g hk => ?_) (fun q s e => ?_) ?_)); (refine zY.v rfl rfl (zK rfl rfl rfl (by decide)) ?_); refine zY.nil ?_) | refine zX.ret ?_))
  all_goals (first | exact fun e => hns (by clear hns; simp only [flagP, run_bind, yQ, yY, Held.zO, Held.z8, Held.zP, cond_true, cond_false, *]) | exact .pan (q := q) rfl (by repeat' first | exact trivial | rfl | constructor) (by repeat' exact trivial) (by simp only [flagP, run_bind, yQ, yY, Held.zO, Held.z8, Held.zP, cond_true, cond_false, *]) | exact .ret (by exact .inl rfl) (by exact .one rfl rfl) (by repeat' first | exact trivial | rfl | constructor) (by simp only [flagP, run_bind, yQ, yY, Held.zO, Held.z8, Held.zP, cond_true, cond_false, *]))
theorem flagL_h (H : Hnd) (s0 : H.σ) {t r : Int} (h : Rec t r) : FnH H 51 [H.doA, .p (.val (.int .i64 t)), .p (.val (.int .i64 r))] [] (fun x => .p (.val (.int .u64 x))) (fun _ => []) U s0 (loadP (y9 t r 2)) := flag_h H s0 h
theorem alive_h (H : Hnd) (s0 : H.σ) {t r : Int} (s : Int) (h : Rec t r) : FnH H 21 [H.doA, .p (.val (.int .i64 t)), .p (.val (.int .i64 r)), .p (.val (.int .u64 s))] [] (fun x => .p (.val (.bool x))) (fun _ => []) yes s0 (aliveP t r s) := by
  unfold Hnd.doA
  refine vJ Tryd.func21 rfl Tryd.ntmps21 (Nat.le_of_ble_eq_true rfl) (by decide) (fine_alive t r s) fun hok hns => ?_
  repeat' ((refine zX.is ?_; first | refine zX.seq ?_ | (refine zX.isR (id := 0) ?_; refine zX.zV [0, 1, 2, 3] [1000, 1001, 1002] (by repeat' first | exact zZ.nil | apply zZ.p rfl | apply zZ.clo rfl) (by repeat' first | exact zW.nil | apply zW.some rfl) ?_; (refine zY.v rfl rfl (zK rfl rfl rfl (by decide)) ?_); refine zY.nil ?_) | (refine zX.isR (id := 1) ?_; refine zX.zV [0, 1, 2, 3, 8] [1000, 1001, 1002] (by repeat' first | exact zZ.nil | apply zZ.p rfl | apply zZ.clo rfl) (by repeat' first | exact zW.nil | apply zW.some rfl) ?_; (refine zY.v rfl rfl (zM rfl rfl rfl (by decide)) ?_); (refine zY.v rfl rfl (zQ rfl rfl rfl (by decide)) ?_); (refine zY.v rfl rfl (zQ rfl rfl rfl (by decide)) ?_); (refine zY.v rfl rfl (by exact zR (nextR h) rfl rfl rfl (by decide)) ?_); (refine zY.ofT rfl (zI.held H [] rfl (by decide) (zH rfl) (by rfl) (by decide) rfl rfl rfl (by repeat' exact trivial) rfl rfl (fun _ => rfl) (fun _ => ⟨rfl, rfl⟩) (by assumption) (load_h H _ _) (fun x s e g hk => ?_) (fun q s e => ?_) ?_)); (refine zY.v rfl rfl (zK rfl rfl rfl (by decide)) ?_); refine zY.nil ?_) | (refine zX.isR (id := 2) ?_; refine zX.zV [0, 1, 2, 3, 8, 9] [1000, 1001, 1002] (by repeat' first | exact zZ.nil | apply zZ.p rfl | apply zZ.clo rfl) (by repeat' first | exact zW.nil | apply zW.some rfl) ?_; all_goals (refine zY.v rfl rfl (zM rfl rfl rfl (by decide)) ?_); all_goals (refine zY.v rfl rfl (zQ rfl rfl rfl (by decide)) ?_); all_goals (refine zY.v rfl rfl (zQ rfl rfl rfl (by decide)) ?_); all_goals (refine zY.ofT rfl (zI.held H [] rfl (by decide) (zH rfl) (by rfl) (by decide) rfl rfl rfl (by repeat' exact trivial) rfl rfl (fun _ => rfl) (fun _ => ⟨rfl, rfl⟩) (by assumption) (flag_h H _ h) (fun x s e g hk => ?_) (fun q s e => ?_) ?_)); all_goals (first | refine zY.v rfl rfl (by exact zR (wstamp_fn _) rfl rfl rfl (by decide)) ?_ | skip); all_goals (first | refine zY.v rfl rfl (zQ rfl rfl rfl (by decide)) ?_ | skip); all_goals (first | refine zY.v rfl rfl (by exact yO rfl rfl rfl (by first | exact decide_eq_true (by with_reducible rfl) | rfl) rfl (by decide)) ?_ | skip); all_goals (first | refine zY.v rfl rfl (zQ rfl rfl rfl (by decide)) ?_ | skip); all_goals (first | ((fail_if_success refine zY.known rfl rfl rfl (by exact .inl (by with_reducible rfl)) ?_); refine zY.split rfl rfl rfl (fun h => ?_) (fun h => ?_) <;> first | refine zY.gY rfl rfl (by decide) rfl (by assumption) rfl (by decide) (zQ rfl rfl rfl (by decide)) ?_ | refine zY.gnT rfl rfl (by decide) rfl (by assumption) rfl (by decide) ?_) | skip); all_goals (first | refine zY.gY rfl rfl (by decide) rfl (by assumption) rfl (by decide) (by exact zR (mark_fn _ (U.lo (by assumption)) (U.hi (by assumption))) rfl rfl rfl (by decide)) ?_ | refine zY.gnT rfl rfl (by decide) rfl (by assumption) rfl (by decide) ?_ | skip); all_goals (first | refine zY.gY rfl rfl (by decide) rfl (by assumption) rfl (by decide) (xU rfl rfl (by rfl) rfl (by decide)) ?_ | refine zY.gnT rfl rfl (by decide) rfl (by assumption) rfl (by decide) ?_ | skip); all_goals (first | refine zY.v rfl rfl (by first | exact yZ rfl rfl (by first | assumption | with_reducible rfl) rfl rfl (by decide) | exact yC rfl rfl (by first | assumption | with_reducible rfl) rfl rfl (by decide)) ?_ | skip); all_goals (first | refine zY.v rfl rfl (zK rfl rfl rfl (by decide)) ?_ | skip); all_goals (first | refine zY.nil ?_ | skip)) | refine zX.ret ?_))
  all_goals (first | exact fun e => hns (by clear hns; simp only [aliveP, aliveB, Bool.true_and, Bool.false_and, run_bind, yQ, yY, Held.zO, Held.z8, Held.zP, cond_true, cond_false, *]) | exact .pan (q := q) rfl (by repeat' first | exact trivial | rfl | constructor) (by repeat' exact trivial) (by simp only [aliveP, aliveB, Bool.true_and, Bool.false_and, run_bind, yQ, yY, Held.zO, Held.z8, Held.zP, cond_true, cond_false, *]) | exact .ret (by exact .inl rfl) (by exact .one rfl rfl) (by repeat' first | exact trivial | rfl | constructor) (by simp only [aliveP, aliveB, Bool.true_and, Bool.false_and, run_bind, yQ, yY, Held.zO, Held.z8, Held.zP, cond_true, cond_false, *]))
theorem over1_fn (f b : Int) (h0 : 0 ≤ f) (h1 : f < 18446744073709551616) : FnE Tryd.prog 54 [.p (.val (.int .u64 f)), .ptr 1000 0] [vT b] (.ret (.p (.val (.bool (ov1 b f))))) [vT b] := by
  have c1 := has_fn f b h0 h1
  refine vK Tryd.func54 rfl Tryd.ntmps54 (Nat.le_of_ble_eq_true rfl) (by decide) ?_
  repeat' ((refine zX.is ?_; first | refine zX.seq ?_ | (refine zX.isR (id := 0) ?_; refine zX.zV [0, 1] [1000] (by repeat' first | exact zZ.nil | apply zZ.p rfl | apply zZ.ptr rfl) (by repeat' first | exact zW.nil | apply zW.boxP rfl rfl) ?_; (refine zY.v rfl rfl (zK rfl rfl rfl (by decide)) ?_); refine zY.nil ?_) | (refine zX.isR (id := 1) ?_; refine zX.zV [0, 1, 3] [1000] (by repeat' first | exact zZ.nil | apply zZ.p rfl | apply zZ.ptr rfl) (by repeat' first | exact zW.nil | apply zW.boxP rfl rfl) ?_; (refine zY.v rfl rfl (zQ rfl rfl rfl (by decide)) ?_); (refine zY.v rfl rfl (zA rfl rfl rfl rfl rfl (by decide)) ?_); (refine zY.v rfl rfl (by exact zR (c1) rfl rfl rfl (by decide)) ?_); (refine zY.v rfl rfl (zK rfl rfl rfl (by decide)) ?_); refine zY.nil ?_) | refine zX.ret ?_))
  all_goals exact ⟨(by exact .inl rfl), _, Sub.refl _, .one rfl rfl, xK (by repeat' first | exact trivial | rfl | constructor)⟩
theorem over2_fn (g k s y u v x b : Int) (h0 : 0 ≤ g) (h1 : g < 18446744073709551616) : FnE Tryd.prog 77 [.p (.val (.int .u64 g)), .ptr 1000 0, .ptr 1001 0] [entB k s y u v x, vT b] (.ret (.p (.val (.bool (over2 s b g))))) [entB k s y u v x, vT b] := by
  have c1 := has_fn g b h0 h1
  have c2 := wstamp_fn g
  refine vK Tryd.func77 rfl Tryd.ntmps77 (Nat.le_of_ble_eq_true rfl) (by decide) ?_
  unfold over2
  cases hb : decide (g / 4 = s)
  case false =>
    have hb2 : (!decide (g / 4 = s)) = true := by rw [hb]; rfl
    repeat' ((refine zX.is ?_; first | refine zX.seq ?_ | (refine zX.isR (id := 0) ?_; refine zX.zV [0, 1, 2] [1000, 1001] (by repeat' first | exact zZ.nil | apply zZ.p rfl | apply zZ.ptr rfl) (by repeat' first | exact zW.nil | apply zW.boxP rfl rfl) ?_; (refine zY.v rfl rfl (zK rfl rfl rfl (by decide)) ?_); refine zY.nil ?_) | (refine zX.isR (id := 1) ?_; refine zX.yF [0, 1, 2, 4] [1000, 1001] (by repeat' first | exact zZ.nil | apply zZ.p rfl | apply zZ.ptr rfl) (by repeat' first | exact zW.nil | apply zW.boxP rfl rfl) (zX.draws ?_); all_goals (refine Draws.v rfl rfl (zQ rfl rfl rfl (by decide)) ?_); all_goals (refine Draws.v rfl rfl (by exact zR (c2) rfl rfl rfl (by decide)) ?_); all_goals (refine Draws.v rfl rfl (zJ rfl rfl rfl (by decide)) ?_); all_goals (refine Draws.v rfl rfl (zA rfl rfl rfl (by rfl) rfl (by decide)) ?_); all_goals (refine Draws.v rfl rfl (by exact xR rfl rfl rfl (by exact hb2) rfl (by decide)) ?_); all_goals (refine Draws.v rfl rfl (zQ rfl rfl rfl (by decide)) ?_); all_goals (refine Draws.gNF rfl rfl (by decide) rfl (by with_reducible rfl) rfl (by decide) ?_); all_goals (refine Draws.gNF rfl rfl (by decide) rfl (by with_reducible rfl) rfl (by decide) ?_); all_goals (refine Draws.gNF rfl rfl (by decide) rfl (by with_reducible rfl) rfl (by decide) ?_); all_goals (refine Draws.v rfl rfl (by exact yZ rfl rfl (by with_reducible rfl) rfl rfl (by decide)) ?_); all_goals (refine Draws.v rfl rfl (zK rfl rfl rfl (by decide)) ?_); all_goals ((refine Draws.done (by kernel_rfl) (by kernel_rfl) (by kernel_rfl) ?_; refine zL.nil ?_))) | refine zX.ret ?_))
    all_goals exact ⟨(by exact .inl rfl), _, Sub.refl _, .one rfl rfl, xK (by repeat' first | exact trivial | rfl | constructor)⟩
  case true =>
    have hb2 : (!decide (g / 4 = s)) = false := by rw [hb]; rfl
    repeat' ((refine zX.is ?_; first | refine zX.seq ?_ | (refine zX.isR (id := 0) ?_; refine zX.zV [0, 1, 2] [1000, 1001] (by repeat' first | exact zZ.nil | apply zZ.p rfl | apply zZ.ptr rfl) (by repeat' first | exact zW.nil | apply zW.boxP rfl rfl) ?_; (refine zY.v rfl rfl (zK rfl rfl rfl (by decide)) ?_); refine zY.nil ?_) | (refine zX.isR (id := 1) ?_; refine zX.yF [0, 1, 2, 4] [1000, 1001] (by repeat' first | exact zZ.nil | apply zZ.p rfl | apply zZ.ptr rfl) (by repeat' first | exact zW.nil | apply zW.boxP rfl rfl) (zX.draws ?_); all_goals (refine Draws.v rfl rfl (zQ rfl rfl rfl (by decide)) ?_); all_goals (refine Draws.v rfl rfl (by exact zR (c2) rfl rfl rfl (by decide)) ?_); all_goals (refine Draws.v rfl rfl (zJ rfl rfl rfl (by decide)) ?_); all_goals (refine Draws.v rfl rfl (zA rfl rfl rfl (by rfl) rfl (by decide)) ?_); all_goals (refine Draws.v rfl rfl (by exact xR rfl rfl rfl (by exact hb2) rfl (by decide)) ?_); all_goals (refine Draws.v rfl rfl (zQ rfl rfl rfl (by decide)) ?_); all_goals (refine Draws.gY rfl rfl (by decide) rfl (by with_reducible rfl) rfl (zQ rfl rfl rfl (by decide)) ?_); all_goals (refine Draws.gY rfl rfl (by decide) rfl (by with_reducible rfl) rfl (zA rfl rfl rfl (by rfl) rfl (by decide)) ?_); all_goals (refine Draws.gY rfl rfl (by decide) rfl (by with_reducible rfl) rfl (by exact zR (c1) rfl rfl rfl (by decide)) ?_); all_goals (refine Draws.v rfl rfl (by exact yC rfl rfl (by with_reducible rfl) rfl rfl (by decide)) ?_); all_goals (refine Draws.v rfl rfl (zK rfl rfl rfl (by decide)) ?_); all_goals ((refine Draws.done (by kernel_rfl) (by kernel_rfl) (by kernel_rfl) ?_; refine zL.nil ?_))) | refine zX.ret ?_))
    all_goals exact ⟨(by exact .inl rfl), _, Sub.refl _, .one rfl rfl, xK (by repeat' first | exact trivial | rfl | constructor)⟩
end Go.Proofs.YthnmfmdkdngggaaDoor
/- A bit of a flag is set, unless that is done: the program's loop with its two closures, whatever makes its accesses: contracts. -/
namespace Go.Proofs.YthnmfmdkdngggaaDoor
set_option maxRecDepth 100000
set_option maxHeartbeats 16000000
open Go Go.RowKit
set_option linter.unusedSimpArgs false
set_option linter.unusedVariables false
attribute [local irreducible] zY zX Step zC Sub zL zI Fn
def setS1 (H : Hnd) (t r b : Int) (s : H.σ) : AS :=
  { t := [(0, H.doA), (1, .p (.val (.int .i64 t))), (2, .p (.val (.int .i64 r))), (3, .p (.val (.int .i64 b))), (4, .clo 54 [1003])], s := [(1000, H.b0 s), (1001, H.b1 s), (1002, H.b2 s), (1003, vT b)] }
theorem set1_h (H : Hnd) (s0 : H.σ) {t r b : Int} (h : Rec t r) (hb : b = 1 ∨ b = 2) : FnH H 53 [H.doA, .p (.val (.int .i64 t)), .p (.val (.int .i64 r)), .p (.val (.int .i64 b)), .clo 54 [1003]] [vT b] (fun _ => .any) (fun _ => [vT b]) yes s0 (setP (ov1 b) (y9 t r 2) b) := by
  unfold Hnd.doA
  have hwb : IntKind.u64.wrap b = b := wrap_u64 _ (by omega)
  have cf := fieldR h 2 (by decide)
  refine vJ Tryd.func53 rfl Tryd.ntmps53 (Nat.le_of_ble_eq_true rfl) (by decide) (fine_set hb fun _ h => h) fun hok hns => ?_
  repeat' ((refine zX.is ?_; refine zX.block ?_))
  refine zX.loop (fun p : Nat × H.σ => setS1 H t r b p.2) (fun p => H.ok p.2 ∧ (Pr.loop (wJ (ov1 b) (y9 t r 2) b) p.1 ()).run H.st p.2 = (setP (ov1 b) (y9 t r 2) b).run H.st s0) (fun p => p.1) (many, s0) ?h0 ⟨hok, rfl⟩ ?rd
  case h0 =>
    refine zN (is := [0, 1, 2, 3, 4]) (js := [1000, 1001, 1002, 1003]) ?_ ?_
    repeat' first | exact zZ.nil | apply zZ.p rfl | apply zZ.ptr rfl | apply zZ.own rfl | apply zZ.clo rfl | apply zZ.pt rfl | apply zZ.tup rfl | apply zZ.skip
    repeat' first | exact zW.nil | apply zW.boxP rfl rfl | apply zW.yG rfl | apply zW.some rfl | apply zW.skip
  case rd =>
    rintro ⟨n, s1⟩ ⟨hok1, ho⟩
    cases n with
    | zero => exact absurd ho.symm hns
    | succ n =>
      dsimp only at hok1 ho ⊢
      rw [Pr.loop_succ] at ho
      rw [← ho] at hns ⊢
      repeat' (first | (refine zX.is ?_; first | refine zX.seq ?_ | (refine zX.isR (id := 0) ?_; refine zX.zV [0, 1, 2, 3, 4, 10, 29] [1000, 1001, 1002, 1003] (by repeat' first | exact zZ.nil | apply zZ.p rfl | apply zZ.clo rfl | apply zZ.skip) (by repeat' first | exact zW.nil | apply zW.boxP rfl rfl | apply zW.some rfl) ?_; (refine zY.v rfl rfl (zM rfl rfl rfl (by decide)) ?_); (refine zY.v rfl rfl (zQ rfl rfl rfl (by decide)) ?_); (refine zY.v rfl rfl (zQ rfl rfl rfl (by decide)) ?_); (refine zY.ofT rfl (zI.held H [] rfl (by decide) (zH rfl) (by rfl) (by decide) rfl rfl rfl (by repeat' exact trivial) rfl rfl (fun _ => rfl) (fun _ => ⟨rfl, rfl⟩) (by assumption) (flagL_h H _ h) (fun x s e g hk => ?_) (fun q s e => ?_) ?_)); (refine zY.v rfl rfl (zK rfl rfl rfl (by decide)) ?_); refine zY.nil ?_) | (refine zX.isR (id := 1) ?_; refine zX.zV [0, 1, 2, 3, 4, 10, 29] [1000, 1001, 1002, 1003] (by repeat' first | exact zZ.nil | apply zZ.p rfl | apply zZ.clo rfl | apply zZ.skip) (by repeat' first | exact zW.nil | apply zW.boxP rfl rfl | apply zW.some rfl) ?_; all_goals (refine zY.v rfl rfl (zM rfl rfl rfl (by decide)) ?_); all_goals (refine zY.v rfl rfl (zQ rfl rfl rfl (by decide)) ?_); all_goals (refine zY.ofT rfl (zI.wL [1003] (over1_fn _ b (U.lo (by assumption)) (U.hi (by assumption))) rfl (by decide) (xZ rfl rfl) (by rfl) (zS (by decide) rfl (by repeat' first | exact trivial | rfl | constructor)) rfl rfl rfl rfl ?_)); all_goals (refine zY.v rfl rfl (zQ rfl rfl rfl (by decide)) ?_); all_goals (((fail_if_success refine zY.known rfl rfl rfl (by fail) ?_); refine zY.split rfl rfl rfl (fun h => ?_) (fun h => ?_) <;> first | refine zY.gY rfl rfl (by decide) rfl (by assumption) rfl (by decide) (zM rfl rfl rfl (by decide)) ?_ | refine zY.gnF rfl rfl (by decide) rfl (by assumption) rfl (by decide) ?_)); all_goals (first | refine zY.gY rfl rfl (by decide) rfl (by assumption) rfl (by decide) (zQ rfl rfl rfl (by decide)) ?_ | refine zY.gnF rfl rfl (by decide) rfl (by assumption) rfl (by decide) ?_); all_goals (first | refine zY.gY rfl rfl (by decide) rfl (by assumption) rfl (by decide) (zQ rfl rfl rfl (by decide)) ?_ | refine zY.gnF rfl rfl (by decide) rfl (by assumption) rfl (by decide) ?_); all_goals (first | refine zY.gY rfl rfl (by decide) rfl (by assumption) rfl (by decide) (by exact zR (cf) rfl rfl rfl (by decide)) ?_ | refine zY.gnF rfl rfl (by decide) rfl (by assumption) rfl (by decide) ?_); all_goals (first | refine zY.gY rfl rfl (by decide) rfl (by assumption) rfl (by decide) (zQ rfl rfl rfl (by decide)) ?_ | refine zY.gnF rfl rfl (by decide) rfl (by assumption) rfl (by decide) ?_); all_goals (first | refine zY.gY rfl rfl (by decide) rfl (by assumption) rfl (by decide) (zQ rfl rfl rfl (by decide)) ?_ | refine zY.gnF rfl rfl (by decide) rfl (by assumption) rfl (by decide) ?_); all_goals (first | refine zY.gY rfl rfl (by decide) rfl (by assumption) rfl (by decide) (zQ rfl rfl rfl (by decide)) ?_ | refine zY.gnF rfl rfl (by decide) rfl (by assumption) rfl (by decide) ?_); all_goals (first | refine zY.gY rfl rfl (by decide) rfl (by assumption) rfl (by decide) (by exact y5 rfl rfl (by exact hwb) rfl (by decide)) ?_ | refine zY.gnF rfl rfl (by decide) rfl (by assumption) rfl (by decide) ?_); all_goals (first | refine zY.gY rfl rfl (by decide) rfl (by assumption) rfl (by decide) (by exact a_or rfl rfl rfl (by exact (orBit _ b (U.lo (by assumption)) (U.hi (by assumption)) hb (by assumption)).1) rfl (by decide)) ?_ | refine zY.gnF rfl rfl (by decide) rfl (by assumption) rfl (by decide) ?_); all_goals (first | refine zY.gnF rfl rfl (by decide) rfl (by assumption) rfl (by decide) ?_ | refine zY.ofTg rfl rfl (by decide) rfl (by assumption) (zI.held H [] rfl (by decide) (zH rfl) (by rfl) (by decide) rfl rfl rfl (by repeat' exact trivial) rfl rfl (fun _ => rfl) (fun _ => ⟨rfl, rfl⟩) (by assumption) (cas_h H _ _ _ _ (by assumption) (orU (by assumption) hb (by assumption))) (fun x s e g hk => ?_) (fun q s e => ?_) ?_)); all_goals (first | refine zY.v rfl rfl (by first | exact yZ rfl rfl (by first | assumption | with_reducible rfl) rfl rfl (by decide) | exact yC rfl rfl (by assumption) rfl rfl (by decide)) ?_ | skip); all_goals (first | refine zY.nil ?_ | skip)) | refine zX.yS rfl (by first | assumption | with_reducible rfl) ?_ | refine zX.cond rfl (fun h => ?_) (fun h => ?_) | refine zX.skip ?_ | refine zX.block ?_ | refine zX.ret ?_) | refine yH.n ?_ | refine yH.r ?_ | refine wH.n ?_ | refine wH.r ?_)
      all_goals (first | exact fun e => hns (by clear hns; simp only [wJ, run_bind, yQ, yY, Held.zO, Held.z8, Held.zP, cond_true, cond_false, *]) | exact .pan (q := q) rfl (by repeat' first | exact trivial | rfl | constructor) (by repeat' first | exact trivial | exact ⟨_, rfl, rfl⟩ | constructor) (by simp only [wJ, run_bind, yQ, yY, Held.zO, Held.z8, Held.zP, cond_true, cond_false, *]) | exact .ret (x := ()) (by exact .inl rfl) (by exact .none rfl) (by repeat' first | exact trivial | rfl | constructor) (by simp only [wJ, run_bind, yQ, yY, Held.zO, Held.z8, Held.zP, cond_true, cond_false, *]) | skip)
      refine ⟨(n, s), ?_, ⟨by assumption, ?_⟩, Nat.lt_succ_self n⟩
      · refine zN (is := [0, 1, 2, 3, 4]) (js := [1000, 1001, 1002, 1003]) ?_ ?_
        repeat' first | exact zZ.nil | apply zZ.p rfl | apply zZ.ptr rfl | apply zZ.own rfl | apply zZ.clo rfl | apply zZ.pt rfl | apply zZ.tup rfl | apply zZ.skip
        repeat' first | exact zW.nil | apply zW.boxP rfl rfl | apply zW.yG rfl | apply zW.some rfl | apply zW.skip
      · simp only [wJ, run_bind, yQ, yY, Held.zO, cond_true, cond_false, *]
def setS2 (H : Hnd) (t r b ek es ey eu ev ex : Int) (s : H.σ) : AS :=
  { t := [(0, H.doA), (1, .p (.val (.int .i64 t))), (2, .p (.val (.int .i64 r))), (3, .p (.val (.int .i64 b))), (4, .clo 77 [1003, 1004])], s := [(1000, H.b0 s), (1001, H.b1 s), (1002, H.b2 s), (1003, entB ek es ey eu ev ex), (1004, vT b)] }
theorem set2_h (H : Hnd) (s0 : H.σ) {t r b : Int} (h : Rec t r) (hb : b = 1 ∨ b = 2) (ek es ey eu ev ex : Int) : FnH H 53 [H.doA, .p (.val (.int .i64 t)), .p (.val (.int .i64 r)), .p (.val (.int .i64 b)), .clo 77 [1003, 1004]] [entB ek es ey eu ev ex, vT b] (fun _ => .any) (fun _ => [entB ek es ey eu ev ex, vT b]) yes s0 (setP (over2 es b) (y9 t r 2) b) := by
  unfold Hnd.doA
  have hwb : IntKind.u64.wrap b = b := wrap_u64 _ (by omega)
  have cf := fieldR h 2 (by decide)
  refine vJ Tryd.func53 rfl Tryd.ntmps53 (Nat.le_of_ble_eq_true rfl) (by decide) (fine_set hb fun _ h => over2_has h) fun hok hns => ?_
  repeat' ((refine zX.is ?_; refine zX.block ?_))
  refine zX.loop (fun p : Nat × H.σ => setS2 H t r b ek es ey eu ev ex p.2) (fun p => H.ok p.2 ∧ (Pr.loop (wJ (over2 es b) (y9 t r 2) b) p.1 ()).run H.st p.2 = (setP (over2 es b) (y9 t r 2) b).run H.st s0) (fun p => p.1) (many, s0) ?h0 ⟨hok, rfl⟩ ?rd
  case h0 =>
    refine zN (is := [0, 1, 2, 3, 4]) (js := [1000, 1001, 1002, 1003, 1004]) ?_ ?_
    repeat' first | exact zZ.nil | apply zZ.p rfl | apply zZ.ptr rfl | apply zZ.own rfl | apply zZ.clo rfl | apply zZ.pt rfl | apply zZ.tup rfl | apply zZ.skip
    repeat' first | exact zW.nil | apply zW.boxP rfl rfl | apply zW.yG rfl | apply zW.some rfl | apply zW.skip
  case rd =>
    rintro ⟨n, s1⟩ ⟨hok1, ho⟩
    cases n with
    | zero => exact absurd ho.symm hns
    | succ n =>
      dsimp only at hok1 ho ⊢
      rw [Pr.loop_succ] at ho
      rw [← ho] at hns ⊢
      repeat' (first | (refine zX.is ?_; first | refine zX.seq ?_ | (refine zX.isR (id := 0) ?_; refine zX.zV [0, 1, 2, 3, 4, 10, 29] [1000, 1001, 1002, 1003, 1004] (by repeat' first | exact zZ.nil | apply zZ.p rfl | apply zZ.clo rfl | apply zZ.skip) (by repeat' first | exact zW.nil | apply zW.boxP rfl rfl | apply zW.some rfl) ?_; (refine zY.v rfl rfl (zM rfl rfl rfl (by decide)) ?_); (refine zY.v rfl rfl (zQ rfl rfl rfl (by decide)) ?_); (refine zY.v rfl rfl (zQ rfl rfl rfl (by decide)) ?_); (refine zY.ofT rfl (zI.held H [] rfl (by decide) (zH rfl) (by rfl) (by decide) rfl rfl rfl (by repeat' exact trivial) rfl rfl (fun _ => rfl) (fun _ => ⟨rfl, rfl⟩) (by assumption) (flagL_h H _ h) (fun x s e g hk => ?_) (fun q s e => ?_) ?_)); (refine zY.v rfl rfl (zK rfl rfl rfl (by decide)) ?_); refine zY.nil ?_) | (refine zX.isR (id := 1) ?_; refine zX.zV [0, 1, 2, 3, 4, 10, 29] [1000, 1001, 1002, 1003, 1004] (by repeat' first | exact zZ.nil | apply zZ.p rfl | apply zZ.clo rfl | apply zZ.skip) (by repeat' first | exact zW.nil | apply zW.boxP rfl rfl | apply zW.some rfl) ?_; all_goals (refine zY.v rfl rfl (zM rfl rfl rfl (by decide)) ?_); all_goals (refine zY.v rfl rfl (zQ rfl rfl rfl (by decide)) ?_); all_goals (refine zY.ofT rfl (zI.wL [1003, 1004] (over2_fn _ ek es ey eu ev ex b (U.lo (by assumption)) (U.hi (by assumption))) rfl (by decide) (xZ rfl rfl) (by rfl) (zS (by decide) rfl (by repeat' first | exact trivial | rfl | constructor)) rfl rfl rfl rfl ?_)); all_goals (refine zY.v rfl rfl (zQ rfl rfl rfl (by decide)) ?_); all_goals (((fail_if_success refine zY.known rfl rfl rfl (by fail) ?_); refine zY.split rfl rfl rfl (fun h => ?_) (fun h => ?_) <;> first | refine zY.gY rfl rfl (by decide) rfl (by assumption) rfl (by decide) (zM rfl rfl rfl (by decide)) ?_ | refine zY.gnF rfl rfl (by decide) rfl (by assumption) rfl (by decide) ?_)); all_goals (first | refine zY.gY rfl rfl (by decide) rfl (by assumption) rfl (by decide) (zQ rfl rfl rfl (by decide)) ?_ | refine zY.gnF rfl rfl (by decide) rfl (by assumption) rfl (by decide) ?_); all_goals (first | refine zY.gY rfl rfl (by decide) rfl (by assumption) rfl (by decide) (zQ rfl rfl rfl (by decide)) ?_ | refine zY.gnF rfl rfl (by decide) rfl (by assumption) rfl (by decide) ?_); all_goals (first | refine zY.gY rfl rfl (by decide) rfl (by assumption) rfl (by decide) (by exact zR (cf) rfl rfl rfl (by decide)) ?_ | refine zY.gnF rfl rfl (by decide) rfl (by assumption) rfl (by decide) ?_); all_goals (first | refine zY.gY rfl rfl (by decide) rfl (by assumption) rfl (by decide) (zQ rfl rfl rfl (by decide)) ?_ | refine zY.gnF rfl rfl (by decide) rfl (by assumption) rfl (by decide) ?_); all_goals (first | refine zY.gY rfl rfl (by decide) rfl (by assumption) rfl (by decide) (zQ rfl rfl rfl (by decide)) ?_ | refine zY.gnF rfl rfl (by decide) rfl (by assumption) rfl (by decide) ?_); all_goals (first | refine zY.gY rfl rfl (by decide) rfl (by assumption) rfl (by decide) (zQ rfl rfl rfl (by decide)) ?_ | refine zY.gnF rfl rfl (by decide) rfl (by assumption) rfl (by decide) ?_); all_goals (first | refine zY.gY rfl rfl (by decide) rfl (by assumption) rfl (by decide) (by exact y5 rfl rfl (by exact hwb) rfl (by decide)) ?_ | refine zY.gnF rfl rfl (by decide) rfl (by assumption) rfl (by decide) ?_); all_goals (first | refine zY.gY rfl rfl (by decide) rfl (by assumption) rfl (by decide) (by exact a_or rfl rfl rfl (by exact (orBit _ b (U.lo (by assumption)) (U.hi (by assumption)) hb (over2_has (by assumption))).1) rfl (by decide)) ?_ | refine zY.gnF rfl rfl (by decide) rfl (by assumption) rfl (by decide) ?_); all_goals (first | refine zY.gnF rfl rfl (by decide) rfl (by assumption) rfl (by decide) ?_ | refine zY.ofTg rfl rfl (by decide) rfl (by assumption) (zI.held H [] rfl (by decide) (zH rfl) (by rfl) (by decide) rfl rfl rfl (by repeat' exact trivial) rfl rfl (fun _ => rfl) (fun _ => ⟨rfl, rfl⟩) (by assumption) (cas_h H _ _ _ _ (by assumption) (orU (by assumption) hb (over2_has (by assumption)))) (fun x s e g hk => ?_) (fun q s e => ?_) ?_)); all_goals (first | refine zY.v rfl rfl (by first | exact yZ rfl rfl (by first | assumption | with_reducible rfl) rfl rfl (by decide) | exact yC rfl rfl (by assumption) rfl rfl (by decide)) ?_ | skip); all_goals (first | refine zY.nil ?_ | skip)) | refine zX.yS rfl (by first | assumption | with_reducible rfl) ?_ | refine zX.cond rfl (fun h => ?_) (fun h => ?_) | refine zX.skip ?_ | refine zX.block ?_ | refine zX.ret ?_) | refine yH.n ?_ | refine yH.r ?_ | refine wH.n ?_ | refine wH.r ?_)
      all_goals (first | exact fun e => hns (by clear hns; simp only [wJ, run_bind, yQ, yY, Held.zO, Held.z8, Held.zP, cond_true, cond_false, *]) | exact .pan (q := q) rfl (by repeat' first | exact trivial | rfl | constructor) (by repeat' first | exact trivial | exact ⟨_, rfl, rfl⟩ | constructor) (by simp only [wJ, run_bind, yQ, yY, Held.zO, Held.z8, Held.zP, cond_true, cond_false, *]) | exact .ret (x := ()) (by exact .inl rfl) (by exact .none rfl) (by repeat' first | exact trivial | rfl | constructor) (by simp only [wJ, run_bind, yQ, yY, Held.zO, Held.z8, Held.zP, cond_true, cond_false, *]) | skip)
      refine ⟨(n, s), ?_, ⟨by assumption, ?_⟩, Nat.lt_succ_self n⟩
      · refine zN (is := [0, 1, 2, 3, 4]) (js := [1000, 1001, 1002, 1003, 1004]) ?_ ?_
        repeat' first | exact zZ.nil | apply zZ.p rfl | apply zZ.ptr rfl | apply zZ.own rfl | apply zZ.clo rfl | apply zZ.pt rfl | apply zZ.tup rfl | apply zZ.skip
        repeat' first | exact zW.nil | apply zW.boxP rfl rfl | apply zW.yG rfl | apply zW.some rfl | apply zW.skip
      · simp only [wJ, run_bind, yQ, yY, Held.zO, cond_true, cond_false, *]
end Go.Proofs.YthnmfmdkdngggaaDoor
/- Set; accesses of a disk; what a flag hasn't is made durable: the program's, whatever makes its accesses: contracts. -/
namespace Go.Proofs.YthnmfmdkdngggaaDoor
set_option maxRecDepth 100000
set_option maxHeartbeats 16000000
open Go Go.RowKit
set_option linter.unusedSimpArgs false
set_option linter.unusedVariables false
attribute [local irreducible] zY zX Step zC Sub zL zI Fn
theorem setOp_h (H : Hnd) (s0 : H.σ) {t r b : Int} (hR : Rec t r) (hb : b = 1 ∨ b = 2) : FnH H 22 [H.doA, .p (.val (.int .i64 t)), .p (.val (.int .i64 r)), .p (.val (.int .i64 b))] [] (fun _ => .any) (fun _ => []) yes s0 (setP (ov1 b) (y9 t r 2) b) := by
  unfold Hnd.doA
  refine vJ Tryd.func22 rfl Tryd.ntmps22 (Nat.le_of_ble_eq_true rfl) (by decide) (fine_set hb fun _ h => h) fun hok hns => ?_
  repeat' ((refine zX.is ?_; first | refine zX.seq ?_ | (refine zX.isR (id := 0) ?_; refine zX.zV [0, 1, 2, 3] [7, 1000, 1001, 1002] (by repeat' first | exact zZ.nil | apply zZ.p rfl | apply zZ.clo rfl) (by repeat' first | exact zW.nil | apply zW.some rfl | apply zW.skip) ?_; (refine zY.m rfl rfl (w_boxV rfl rfl rfl rfl (by decide)) ?_); refine zY.nil ?_) | (refine zX.isR (id := 1) ?_; refine zX.zV [0, 1, 2, 7] [7, 1000, 1001, 1002] (by repeat' first | exact zZ.nil | apply zZ.p rfl | apply zZ.ptr rfl | apply zZ.clo rfl) (by repeat' first | exact zW.nil | apply zW.boxP rfl rfl | apply zW.some rfl) ?_; (refine zY.v rfl rfl (zM rfl rfl rfl (by decide)) ?_); (refine zY.v rfl rfl (zQ rfl rfl rfl (by decide)) ?_); (refine zY.v rfl rfl (zQ rfl rfl rfl (by decide)) ?_); (refine zY.v rfl rfl (zA rfl rfl rfl rfl rfl (by decide)) ?_); (refine zY.v rfl rfl (wO rfl (by rfl) rfl (by decide)) ?_); (refine zY.ofT rfl (zI.held H [7] rfl (by decide) (zH rfl) (by rfl) (by decide) (by exact yJ rfl (H.nk _).1 (by repeat' first | exact KB.refl | apply KB.kill | decide)) (by exact yJ rfl (H.nk _).2.1 (by repeat' first | exact KB.refl | apply KB.kill | decide)) (by exact yJ rfl (H.nk _).2.2 (by repeat' first | exact KB.refl | apply KB.kill | decide)) (by repeat' first | exact trivial | rfl | constructor) rfl rfl (fun _ => rfl) (fun _ => ⟨rfl, rfl⟩) (by assumption) (set1_h H _ hR hb) (fun x s e g hk => ?_) (fun q s e => ?_) ?_)); refine zY.nil ?_)))
  all_goals (first | exact fun e => hns (by clear hns; simp only [run_bind, yQ, yY, Held.zO, Held.z8, Held.zP, cond_true, cond_false, *]) | exact .pan (q := q) rfl (by repeat' first | exact trivial | rfl | constructor) (by repeat' exact trivial) (by simp only [run_bind, yQ, yY, Held.zO, Held.z8, Held.zP, cond_true, cond_false, *]) | exact .ret (x := ()) (by exact .inr rfl) (by exact .none rfl) (by repeat' first | exact trivial | rfl | constructor) (by simp only [run_bind, yQ, yY, Held.zO, Held.z8, Held.zP, cond_true, cond_false, *]))
def doB (H : Hnd) : Blk := .box 72 [H.doA]
theorem ld_h (H : Hnd) (s0 : H.σ) {t r f : Int} (hR : Rec t r) (hf : 0 ≤ f ∧ f ≤ 7) :
    FnH H 74 [.p (.val (.int .i64 f)), .ptr 1003 0, .ptr 1004 0, .ptr 1005 0] [doB H, vT t, vT r] (fun x => .p (.val (.int .u64 x))) (fun _ => [doB H, vT t, vT r]) U s0 (loadP (y9 t r f)) := by
  unfold doB Hnd.doA
  refine vJ Tryd.func74 rfl Tryd.ntmps74 (Nat.le_of_ble_eq_true rfl) (by decide) (wW _) fun hok hns => ?_
  repeat' ((refine zX.is ?_; first | refine zX.seq ?_ | (refine zX.isR (id := 0) ?_; refine zX.zV [0, 1, 2, 3] [1000, 1001, 1002, 1003, 1004, 1005] (by repeat' first | exact zZ.nil | apply zZ.p rfl | apply zZ.ptr rfl) (by repeat' first | exact zW.nil | apply zW.boxP rfl rfl | apply zW.some rfl) ?_; (refine zY.v rfl rfl (zK rfl rfl rfl (by decide)) ?_); refine zY.nil ?_) | (refine zX.isR (id := 1) ?_; refine zX.yF [0, 1, 2, 3, 5] [1000, 1001, 1002, 1003, 1004, 1005] (by repeat' first | exact zZ.nil | apply zZ.p rfl | apply zZ.ptr rfl) (by repeat' first | exact zW.nil | apply zW.boxP rfl rfl | apply zW.some rfl) (zX.draws ?_); all_goals (refine Draws.v rfl rfl (w_loadC rfl rfl rfl rfl rfl (by decide)) ?_); all_goals (refine Draws.v rfl rfl (zA rfl rfl rfl rfl rfl (by decide)) ?_); all_goals (refine Draws.v rfl rfl (zA rfl rfl rfl rfl rfl (by decide)) ?_); all_goals (refine Draws.v rfl rfl (zQ rfl rfl rfl (by decide)) ?_); all_goals (refine Draws.v rfl rfl (by exact zR (fieldR hR f hf) rfl rfl rfl (by decide)) ?_); all_goals ((refine Draws.done (by kernel_rfl) (by kernel_rfl) (by kernel_rfl) ?_; refine zL.ofT rfl (zI.held H [] rfl (by decide) (zH rfl) (by rfl) (by decide) (by rfl) (by rfl) (by rfl) (by repeat' exact trivial) rfl rfl (fun _ => rfl) (fun _ => ⟨rfl, rfl⟩) (by assumption) (load_h H _ _) (fun x s e g hk => ?_) (fun q s e => ?_) ?_))); all_goals (first | refine zL.v rfl rfl (zK rfl rfl rfl (by decide)) ?_ | skip); all_goals (first | refine zL.nil ?_ | skip)) | refine zX.ret ?_))
  all_goals (first | exact fun e => hns (by clear hns; simp only [run_bind, yQ, yY, Held.zO, Held.z8, Held.zP, cond_true, cond_false, *]) | exact .pan (q := q) rfl (by repeat' first | exact trivial | rfl | constructor) (by repeat' first | exact trivial | exact ⟨_, rfl, rfl⟩ | constructor) (by simp only [run_bind, yQ, yY, Held.zO, Held.z8, Held.zP, cond_true, cond_false, *]) | exact .ret (by exact .inl rfl) (by exact .one rfl rfl) (by repeat' first | exact trivial | rfl | constructor) (by simp only [run_bind, yQ, yY, Held.zO, Held.z8, Held.zP, cond_true, cond_false, *]))
theorem accQ_cells (qs : List Ned) : ∀ e ∈ qs.map accQ, e.cells.length = 6 := fun e he => by
  obtain ⟨r, _, rfl⟩ := List.mem_map.1 he
  rfl
def diskS (H : Hnd) (qs : List Ned) (p : Nat × H.σ) : AS :=
  { t := [(0, H.doA), (4, .p (.val (.bool false))), (7, .p (.sl (qs.map accQ))), (8, .p (.val (.int .i64 (qs.map accQ).length))), (9, .p (.val (.int .i64 p.1)))], s := [(1000, H.b0 p.2), (1001, H.b1 p.2), (1002, H.b2 p.2)] }
theorem disk_h (H : Hnd) (s0 : H.σ) (qs : List Ned) (hq : qs.length ≤ 1000) (ha : ∀ q ∈ qs, vV q) :
    FnH H 75 [H.doA, .p (.sl (qs.map accQ))] [] (fun b => .p (.val (.bool b))) (fun _ => []) yes s0 (diskP qs) := by
  have g4 := accQ_cells qs
  unfold Hnd.doA
  refine vJ Tryd.func75 rfl Tryd.ntmps75 (Nat.le_of_ble_eq_true rfl) (by decide) (fine_disk ha) fun hok hns => ?_
  repeat' ((refine zX.is ?_; first | refine zX.seq ?_ | (refine zX.isR (id := 0) ?_; refine zX.zV [0, 1] [6, 1000, 1001, 1002] (by repeat' first | exact zZ.nil | apply zZ.p rfl | apply zZ.clo rfl) (by repeat' first | exact zW.nil | apply zW.some rfl | apply zW.skip) ?_; (refine zY.v rfl rfl (zK rfl rfl rfl (by decide)) ?_); refine zY.nil ?_) | (refine zX.isR (id := 1) ?_; refine zX.zV [0, 1, 4] [6, 1000, 1001, 1002] (by repeat' first | exact zZ.nil | apply zZ.p rfl | apply zZ.clo rfl) (by repeat' first | exact zW.nil | apply zW.some rfl | apply zW.skip) ?_; (refine zY.v rfl rfl (zQ rfl rfl rfl (by decide)) ?_); (refine zY.v rfl rfl (wC rfl rfl rfl (by decide)) ?_); (refine zY.v rfl rfl (zQ rfl rfl rfl (by decide)) ?_); refine zY.nil ?_) | refine zX.block ?_))
  refine zX.loop (fun p : Nat × H.σ => diskS H qs p) (fun p => p.1 ≤ qs.length ∧ H.ok p.2 ∧ (diskP (qs.drop p.1)).run H.st p.2 = (diskP qs).run H.st s0) (fun p => qs.length - p.1) (0, s0) ?h0 ⟨Nat.zero_le _, hok, rfl⟩ ?rd
  case h0 =>
    refine zN (is := [0, 4, 7, 8, 9]) (js := [1000, 1001, 1002]) ?_ ?_
    repeat' first | exact zZ.nil | apply zZ.p rfl | apply zZ.ptr rfl | apply zZ.own rfl | apply zZ.clo rfl | apply zZ.pt rfl | apply zZ.tup rfl | apply zZ.skip
    repeat' first | exact zW.nil | apply zW.boxP rfl rfl | apply zW.yG rfl | apply zW.some rfl | apply zW.skip
  case rd =>
    rintro ⟨k, s1⟩ ⟨hk, hok1, ho⟩
    dsimp only at hk hok1 ho ⊢
    unfold diskS Hnd.doA
    dsimp only
    by_cases hlt : k < qs.length
    · have hdec : decide ((k : Int) < ((qs.map accQ).length : Int)) = true := decide_eq_true (by simp; omega)
      have g5 : (qs.map accQ)[k]? = some (accQ qs[k]) := by rw [List.getElem?_map, List.getElem?_eq_getElem hlt]; rfl
      have hqa : vV qs[k] := ha _ (List.getElem_mem hlt)
      rw [List.drop_eq_getElem_cons hlt, diskP] at ho
      generalize qs[k] = q at *
      have g6 : IntKind.i64.wrap ((k : Int) + 1) = ((k + 1 : Nat) : Int) := by rw [wrap_i64 _ (by omega)]; omega
      rw [← ho] at hns ⊢
      rw [show (Pr.ask q fun r => bif r.fail then Pr.ret false else diskP (qs.drop (k + 1))) = (Pr.ask q .ret).bind fun r => bif r.fail then .ret false else diskP (qs.drop (k + 1)) from rfl] at ho hns ⊢
      repeat' (first | (refine zX.is ?_; first | refine zX.seq ?_ | (refine zX.isR (id := 2) ?_; refine zX.zV [0, 4, 6, 7, 8, 9, 10, 16] [6, 1000, 1001, 1002] (by repeat' first | exact zZ.nil | apply zZ.p rfl | apply zZ.clo rfl | apply zZ.skip) (by repeat' first | exact zW.nil | apply zW.some rfl | apply zW.skip) ?_; (refine zY.v rfl rfl (by exact yI rfl rfl rfl (by exact hdec) rfl (by decide)) ?_); refine zY.nil ?_) | (refine zX.isR (id := 3) ?_; refine zX.zV [0, 4, 6, 7, 8, 9, 10, 16] [6, 1000, 1001, 1002] (by repeat' first | exact zZ.nil | apply zZ.p rfl | apply zZ.clo rfl | apply zZ.skip) (by repeat' first | exact zW.nil | apply zW.some rfl | apply zW.skip) ?_; (refine zY.v rfl rfl (by exact yL rfl rfl rfl (by exact g4) (by exact g5) rfl (by decide)) ?_); (refine zY.v rfl rfl (by exact wS rfl rfl (by exact Nat.le_of_ble_eq_true rfl) rfl (by decide)) ?_); (refine zY.m rfl rfl (zG rfl (by decide) rfl (by decide)) ?_); (refine zY.w rfl (by exact zB rfl rfl rfl rfl rfl (by rfl) (by exact Nat.le_of_ble_eq_true rfl) rfl rfl) ?_); refine zY.nil ?_) | (refine zX.isR (id := 4) ?_; refine zX.zV [0, 4, 6, 7, 8, 9, 10, 16] [6, 1000, 1001, 1002] (by repeat' first | exact zZ.nil | apply zZ.p rfl | apply zZ.ptr rfl | apply zZ.clo rfl | apply zZ.skip) (by repeat' first | exact zW.nil | apply zW.boxP rfl rfl | apply zW.some rfl) ?_; (refine zY.v rfl rfl (zM rfl rfl rfl (by decide)) ?_); (refine zY.v rfl rfl (zD rfl rfl rfl (by rfl) (by rfl) rfl (by decide)) ?_); (refine zY.ofT rfl (zI.held H [] rfl (by decide) (xZ rfl rfl) (by rfl) (by decide) (by exact yJ rfl (H.nk _).1 (by repeat' first | exact KB.refl | apply KB.kill | decide)) (by exact yJ rfl (H.nk _).2.1 (by repeat' first | exact KB.refl | apply KB.kill | decide)) (by exact yJ rfl (H.nk _).2.2 (by repeat' first | exact KB.refl | apply KB.kill | decide)) (by repeat' exact trivial) rfl rfl (fun _ => rfl) (fun _ => ⟨rfl, rfl⟩) (by assumption) (do_h H _ q hqa) (fun x s e g hk => ?_) (fun q s e => ?_) ?_)); (refine zY.v rfl rfl (w_field1 rfl rfl rfl rfl (by decide)) ?_); refine zY.nil ?_) | (refine zX.isR (id := 5) ?_; refine zX.zV [0, 4, 6, 7, 8, 9, 10, 16] [6, 1000, 1001, 1002] (by repeat' first | exact zZ.nil | apply zZ.p rfl | apply zZ.ptr rfl | apply zZ.clo rfl) (by repeat' first | exact zW.nil | apply zW.boxP rfl rfl | apply zW.some rfl) ?_; (refine zY.v rfl rfl (zK rfl rfl rfl (by decide)) ?_); refine zY.nil ?_) | (refine zX.isR (id := 6) ?_; refine zX.zV [0, 4, 6, 7, 8, 9, 10, 16] [6, 1000, 1001, 1002] (by repeat' first | exact zZ.nil | apply zZ.p rfl | apply zZ.ptr rfl | apply zZ.clo rfl) (by repeat' first | exact zW.nil | apply zW.boxP rfl rfl | apply zW.some rfl) ?_; (refine zY.v rfl rfl (by exact yE rfl rfl rfl (by exact g6) rfl (by decide)) ?_); (refine zY.v rfl rfl (zQ rfl rfl rfl (by decide)) ?_); refine zY.nil ?_) | refine zX.yS rfl (by first | assumption | with_reducible rfl) ?_ | refine zX.cond rfl (fun h => ?_) (fun h => ?_) | refine zX.skip ?_ | refine zX.block ?_ | refine zX.ret ?_) | refine yH.n ?_ | refine yH.r ?_ | refine wH.r ?_)
      all_goals (first | exact fun e => hns (by clear ho; clear hns; simp only [run_bind, yQ, yY, Held.zO, Held.z8, Held.zP, cond_true, cond_false, *]) | exact .pan (q := q) rfl (by repeat' first | exact trivial | rfl | constructor) (by repeat' exact trivial) (by clear ho; simp only [run_bind, yQ, yY, Held.zO, Held.z8, Held.zP, cond_true, cond_false, *]) | exact .ret (by exact .inl rfl) (by exact .one rfl rfl) (by repeat' first | exact trivial | rfl | constructor) (by clear ho; simp only [run_bind, yQ, yY, Held.zO, Held.z8, Held.zP, cond_true, cond_false, *]) | skip)
      refine ⟨(k + 1, _), ?_, ⟨by omega, by assumption, ?_⟩, by dsimp only; omega⟩
      · refine zN (is := [0, 4, 7, 8, 9]) (js := [1000, 1001, 1002]) ?_ ?_
        repeat' first | exact zZ.nil | apply zZ.p rfl | apply zZ.ptr rfl | apply zZ.own rfl | apply zZ.clo rfl | apply zZ.pt rfl | apply zZ.tup rfl | apply zZ.skip
        repeat' first | exact zW.nil | apply zW.boxP rfl rfl | apply zW.yG rfl | apply zW.some rfl | apply zW.skip
      · clear ho
        simp only [run_bind, yQ, yY, Held.zO, cond_true, cond_false, *]
    · have hdec : decide ((k : Int) < ((qs.map accQ).length : Int)) = false := decide_eq_false (by simp; omega)
      obtain rfl : k = qs.length := by omega
      rw [List.drop_length, diskP] at ho
      rw [← ho] at hns ⊢
      repeat' ((refine zX.is ?_; first | refine zX.seq ?_ | (refine zX.isR (id := 2) ?_; refine zX.zV [0, 4, 6, 7, 8, 9, 10, 16] [6, 1000, 1001, 1002] (by repeat' first | exact zZ.nil | apply zZ.p rfl | apply zZ.clo rfl | apply zZ.skip) (by repeat' first | exact zW.nil | apply zW.some rfl | apply zW.skip) ?_; (refine zY.v rfl rfl (by exact yI rfl rfl rfl (by exact hdec) rfl (by decide)) ?_); refine zY.nil ?_) | (refine zX.isR (id := 7) ?_; refine zX.zV [4] [6, 1000, 1001, 1002] (by repeat' first | exact zZ.nil | apply zZ.p rfl) (by repeat' first | exact zW.nil | apply zW.some rfl | apply zW.skip) ?_; (refine zY.v rfl rfl (zK rfl rfl rfl (by decide)) ?_); refine zY.nil ?_) | refine zX.yN rfl (by first | assumption | with_reducible rfl) ?_ | refine zX.exit ?_ | refine zX.ret ?_))
      all_goals (exact .ret (by exact .inl rfl) (by exact .one rfl rfl) (by repeat' first | exact trivial | rfl | constructor) (by clear ho; simp only [run_bind, yQ, yY, Held.zO, Held.z8, Held.zP, cond_true, cond_false, *]))
theorem disk2_h (H : Hnd) (s0 : H.σ) (k s y u v x : Int) :
    FnH H 75 [H.doA, .p (.sl [accV 5 0 0 0 (.sl (byts (bytesE k s y u v x))), accV 6 0 0 0 y8])] [] (fun b => .p (.val (.bool b))) (fun _ => []) yes s0 (diskP (wrAcc k s y u v x)) :=
  disk_h H s0 (wrAcc k s y u v x) (by unfold wrAcc; simp) (asked_wr k s y u v x)
end Go.Proofs.YthnmfmdkdngggaaDoor
/- What a flag hasn't is made durable; save, dead: the program's, whatever makes its accesses: contracts. -/
namespace Go.Proofs.YthnmfmdkdngggaaDoor
set_option maxRecDepth 100000
set_option maxHeartbeats 16000000
open Go Go.RowKit
set_option linter.unusedSimpArgs false
set_option linter.unusedVariables false
attribute [local irreducible] zY zX Step zC Sub zL zI Fn
theorem rest_h (H : Hnd) (s0 : H.σ) {t r b f : Int} (hR : Rec t r) (hb : b = 1 ∨ b = 2) (hf : U f) :
    FnH H 56 [H.doA, .p (.val (.int .i64 t)), .p (.val (.int .i64 r)), .p (.val (.int .i64 b)), .p (.val (.int .u64 f))] [] (fun x => .p (.val (.bool x))) (fun _ => []) yes s0 (restP t r b f) := by
  have ch := has_fn f b hf.1 hf.2
  have cs0 := wstamp_fn f
  have hs : U (f / 4) := hf.quo
  have z : U 0 := U.zero
  unfold Hnd.doA
  refine vJ Tryd.func56 rfl Tryd.ntmps56 (Nat.le_of_ble_eq_true rfl) (by decide) (fine_rest t r b f hb) fun hok hns => ?_
  cases hh : hasF f b <;> rw [hh] at ch
  case true =>
    repeat' (first | (refine zX.is ?_; first | refine zX.seq ?_ | (refine zX.isR (id := 0) ?_; refine zX.zV [0, 1, 2, 3, 4] [5, 6, 7, 8, 11, 40, 1000, 1001, 1002] (by repeat' first | exact zZ.nil | apply zZ.p rfl | apply zZ.clo rfl) (by repeat' first | exact zW.nil | apply zW.some rfl | apply zW.skip) ?_; (refine zY.m rfl rfl (w_boxC rfl rfl rfl (by decide)) ?_); (refine zY.m rfl rfl (w_boxV rfl rfl rfl rfl (by decide)) ?_); (refine zY.m rfl rfl (w_boxV rfl rfl rfl rfl (by decide)) ?_); (refine zY.m rfl rfl (w_boxV rfl rfl rfl rfl (by decide)) ?_); (refine zY.v rfl rfl (zK rfl rfl rfl (by decide)) ?_); refine zY.nil ?_) | (refine zX.isR (id := 1) ?_; refine zX.zV [4, 5, 6, 7, 8, 10] [5, 6, 7, 8, 11, 40, 1000, 1001, 1002] (by repeat' first | exact zZ.nil | apply zZ.p rfl | apply zZ.ptr rfl) (by repeat' first | exact zW.nil | apply zW.boxP rfl rfl | apply zW.some rfl | apply zW.skip) ?_; (refine zY.v rfl rfl (zQ rfl rfl rfl (by decide)) ?_); (refine zY.v rfl rfl (zA rfl rfl rfl rfl rfl (by decide)) ?_); (refine zY.v rfl rfl (by exact zR (ch) rfl rfl rfl (by decide)) ?_); refine zY.nil ?_) | (refine zX.isR (id := 2) ?_; refine zX.zV [4, 5, 6, 7, 8, 10] [5, 6, 7, 8, 11, 40, 1000, 1001, 1002] (by repeat' first | exact zZ.nil | apply zZ.p rfl | apply zZ.ptr rfl) (by repeat' first | exact zW.nil | apply zW.boxP rfl rfl | apply zW.some rfl | apply zW.skip) ?_; (refine zY.v rfl rfl (zK rfl rfl rfl (by decide)) ?_); refine zY.nil ?_) | refine zX.yS rfl (by first | assumption | with_reducible rfl) ?_ | refine zX.ret ?_) | refine yH.r ?_)
    all_goals (exact .ret (by exact .inl rfl) (by exact .one rfl rfl) (by repeat' first | exact trivial | exact yJ rfl (H.nk _).1 (by repeat' first | exact KB.refl | apply KB.kill | decide) | exact yJ rfl (H.nk _).2.1 (by repeat' first | exact KB.refl | apply KB.kill | decide) | exact yJ rfl (H.nk _).2.2 (by repeat' first | exact KB.refl | apply KB.kill | decide) | constructor) (by simp only [restP, run_bind, yQ, yY, Held.zO, Held.z8, Held.zP, cond_true, cond_false, *]))
  case false =>
    repeat' (first | (refine zX.is ?_; first | refine zX.seq ?_ | (refine zX.isR (id := 0) ?_; refine zX.zV [0, 1, 2, 3, 4] [5, 6, 7, 8, 11, 40, 1000, 1001, 1002] (by repeat' first | exact zZ.nil | apply zZ.p rfl | apply zZ.clo rfl) (by repeat' first | exact zW.nil | apply zW.some rfl | apply zW.skip) ?_; (refine zY.m rfl rfl (w_boxC rfl rfl rfl (by decide)) ?_); (refine zY.m rfl rfl (w_boxV rfl rfl rfl rfl (by decide)) ?_); (refine zY.m rfl rfl (w_boxV rfl rfl rfl rfl (by decide)) ?_); (refine zY.m rfl rfl (w_boxV rfl rfl rfl rfl (by decide)) ?_); (refine zY.v rfl rfl (zK rfl rfl rfl (by decide)) ?_); refine zY.nil ?_) | (refine zX.isR (id := 1) ?_; refine zX.zV [4, 5, 6, 7, 8, 10] [5, 6, 7, 8, 11, 40, 1000, 1001, 1002] (by repeat' first | exact zZ.nil | apply zZ.p rfl | apply zZ.ptr rfl) (by repeat' first | exact zW.nil | apply zW.boxP rfl rfl | apply zW.some rfl | apply zW.skip) ?_; (refine zY.v rfl rfl (zQ rfl rfl rfl (by decide)) ?_); (refine zY.v rfl rfl (zA rfl rfl rfl rfl rfl (by decide)) ?_); (refine zY.v rfl rfl (by exact zR (ch) rfl rfl rfl (by decide)) ?_); refine zY.nil ?_) | (refine zX.isR (id := 3) ?_; refine zX.zV [4, 5, 6, 7, 8, 10] [5, 6, 7, 8, 11, 40, 1000, 1001, 1002] (by repeat' first | exact zZ.nil | apply zZ.p rfl | apply zZ.ptr rfl) (by repeat' first | exact zW.nil | apply zW.boxP rfl rfl | apply zW.some rfl | apply zW.skip) ?_; (refine zY.v rfl rfl (zQ rfl rfl rfl (by decide)) ?_); (refine zY.v rfl rfl (by exact zR (cs0) rfl rfl rfl (by decide)) ?_); (refine zY.v rfl rfl (zT rfl (by rfl) (by rfl) (by rfl) (by rfl) rfl (by decide)) ?_); (refine zY.m rfl rfl (zG rfl (by decide) rfl (by decide)) ?_); (refine zY.w rfl (by exact zB rfl rfl rfl rfl rfl (by rfl) (by exact Nat.le_of_ble_eq_true rfl) rfl rfl) ?_); refine zY.nil ?_) | (refine zX.isR (id := 4) ?_; refine zX.zV [5, 6, 7, 8, 10, 11] [5, 6, 7, 8, 11, 40, 1000, 1001, 1002] (by repeat' first | exact zZ.nil | apply zZ.p rfl | apply zZ.ptr rfl) (by repeat' first | exact zW.nil | apply zW.boxP rfl rfl | apply zW.some rfl | apply zW.skip) ?_; (refine zY.v rfl rfl (zA rfl rfl rfl rfl rfl (by decide)) ?_); (refine zY.v rfl rfl (yO rfl rfl rfl (by rfl) rfl (by decide)) ?_); refine zY.nil ?_) | (refine zX.isR (id := 5) ?_; refine zX.zV [5, 6, 7, 8, 10, 11] [5, 6, 7, 8, 11, 40, 1000, 1001, 1002] (by repeat' first | exact zZ.nil | apply zZ.p rfl | apply zZ.ptr rfl) (by repeat' first | exact zW.nil | apply zW.boxP rfl rfl | apply zW.some rfl | apply zW.skip) ?_; (refine zY.v rfl rfl (wO rfl (by rfl) rfl (by decide)) ?_); (refine zY.v rfl rfl (a_assignC rfl rfl rfl (by decide)) ?_); refine zY.nil ?_) | (refine zX.isR (id := 6) ?_; refine zX.zV [5, 6, 7, 8, 10, 11, 12] [5, 6, 7, 8, 11, 40, 1000, 1001, 1002] (by repeat' first | exact zZ.nil | apply zZ.p rfl | apply zZ.ptr rfl | apply zZ.clo rfl) (by repeat' first | exact zW.nil | apply zW.boxP rfl rfl | apply zW.some rfl | apply zW.skip) ?_; (refine zY.v rfl rfl (zJ rfl rfl rfl (by decide)) ?_); (refine zY.w rfl (by exact zB rfl rfl rfl rfl rfl (by rfl) (by exact Nat.le_of_ble_eq_true rfl) rfl rfl) ?_); refine zY.nil ?_) | (refine zX.isR (id := 7) ?_; refine zX.zV [5, 6, 7, 8, 10, 11, 12] [5, 6, 7, 8, 11, 40, 1000, 1001, 1002] (by repeat' first | exact zZ.nil | apply zZ.p rfl | apply zZ.ptr rfl | apply zZ.clo rfl) (by repeat' first | exact zW.nil | apply zW.boxP rfl rfl | apply zW.some rfl | apply zW.skip) ?_; (refine zY.v rfl rfl (zM rfl rfl rfl (by decide)) ?_); (refine zY.ofT rfl (zI.held H [5, 6, 7] rfl (by decide) (xZ rfl rfl) (by rfl) (by decide) (by exact yJ rfl (H.nk _).1 (by repeat' first | exact KB.refl | apply KB.kill | decide)) (by exact yJ rfl (H.nk _).2.1 (by repeat' first | exact KB.refl | apply KB.kill | decide)) (by exact yJ rfl (H.nk _).2.2 (by repeat' first | exact KB.refl | apply KB.kill | decide)) (by repeat' first | exact trivial | rfl | constructor) rfl rfl (fun _ => rfl) (fun _ => ⟨rfl, rfl⟩) (by assumption) (ld_h H _ hR (by decide)) (fun x s e g hk => ?_) (fun q s e => ?_) ?_)); (refine zY.v rfl rfl (zJ rfl rfl rfl (by decide)) ?_); (refine zY.w rfl (by exact zB rfl rfl rfl rfl rfl (by rfl) (by exact Nat.le_of_ble_eq_true rfl) rfl rfl) ?_); refine zY.nil ?_) | (refine zX.isR (id := 8) ?_; refine zX.zV [5, 6, 7, 8, 10, 11, 12] [5, 6, 7, 8, 11, 40, 1000, 1001, 1002] (by repeat' first | exact zZ.nil | apply zZ.p rfl | apply zZ.ptr rfl | apply zZ.clo rfl) (by repeat' first | exact zW.nil | apply zW.boxP rfl rfl | apply zW.some rfl | apply zW.skip) ?_; (refine zY.v rfl rfl (zM rfl rfl rfl (by decide)) ?_); (refine zY.ofT rfl (zI.held H [5, 6, 7] rfl (by decide) (xZ rfl rfl) (by rfl) (by decide) (by rfl) (by rfl) (by rfl) (by repeat' first | exact trivial | rfl | constructor) rfl rfl (fun _ => rfl) (fun _ => ⟨rfl, rfl⟩) (by assumption) (ld_h H _ hR (by decide)) (fun x s e g hk => ?_) (fun q s e => ?_) ?_)); (refine zY.v rfl rfl (zJ rfl rfl rfl (by decide)) ?_); (refine zY.w rfl (by exact zB rfl rfl rfl rfl rfl (by rfl) (by exact Nat.le_of_ble_eq_true rfl) rfl rfl) ?_); refine zY.nil ?_) | (refine zX.isR (id := 9) ?_; refine zX.zV [5, 6, 7, 8, 10, 11, 12] [5, 6, 7, 8, 11, 40, 1000, 1001, 1002] (by repeat' first | exact zZ.nil | apply zZ.p rfl | apply zZ.ptr rfl | apply zZ.clo rfl) (by repeat' first | exact zW.nil | apply zW.boxP rfl rfl | apply zW.some rfl | apply zW.skip) ?_; (refine zY.v rfl rfl (zM rfl rfl rfl (by decide)) ?_); (refine zY.ofT rfl (zI.held H [5, 6, 7] rfl (by decide) (xZ rfl rfl) (by rfl) (by decide) (by rfl) (by rfl) (by rfl) (by repeat' first | exact trivial | rfl | constructor) rfl rfl (fun _ => rfl) (fun _ => ⟨rfl, rfl⟩) (by assumption) (ld_h H _ hR (by decide)) (fun x s e g hk => ?_) (fun q s e => ?_) ?_)); (refine zY.v rfl rfl (zJ rfl rfl rfl (by decide)) ?_); (refine zY.w rfl (by exact zB rfl rfl rfl rfl rfl (by rfl) (by exact Nat.le_of_ble_eq_true rfl) rfl rfl) ?_); refine zY.nil ?_) | (refine zX.isR (id := 10) ?_; refine zX.zV [5, 6, 7, 8, 10, 11, 12] [5, 6, 7, 8, 11, 40, 1000, 1001, 1002] (by repeat' first | exact zZ.nil | apply zZ.p rfl | apply zZ.ptr rfl | apply zZ.clo rfl) (by repeat' first | exact zW.nil | apply zW.boxP rfl rfl | apply zW.some rfl | apply zW.skip) ?_; (refine zY.v rfl rfl (zM rfl rfl rfl (by decide)) ?_); (refine zY.ofT rfl (zI.held H [5, 6, 7] rfl (by decide) (xZ rfl rfl) (by rfl) (by decide) (by rfl) (by rfl) (by rfl) (by repeat' first | exact trivial | rfl | constructor) rfl rfl (fun _ => rfl) (fun _ => ⟨rfl, rfl⟩) (by assumption) (ld_h H _ hR (by decide)) (fun x s e g hk => ?_) (fun q s e => ?_) ?_)); (refine zY.v rfl rfl (zJ rfl rfl rfl (by decide)) ?_); (refine zY.w rfl (by exact zB rfl rfl rfl rfl rfl (by rfl) (by exact Nat.le_of_ble_eq_true rfl) rfl rfl) ?_); refine zY.nil ?_) | (refine zX.isR (id := 11) ?_; refine zX.yF [5, 6, 7, 8, 10, 11] [5, 6, 7, 8, 11, 40, 1000, 1001, 1002] (by repeat' first | exact zZ.nil | apply zZ.p rfl | apply zZ.ptr rfl) (by repeat' first | exact zW.nil | apply zW.boxP rfl rfl | apply zW.some rfl | apply zW.skip) (zX.draws ?_); all_goals (refine Draws.v rfl rfl (w_loadC rfl rfl rfl rfl rfl (by decide)) ?_); all_goals (refine Draws.v rfl rfl (zD rfl rfl rfl (by rfl) (by rfl) rfl (by decide)) ?_); all_goals (refine Draws.v rfl rfl (by exact zR (bytes_fn _ _ _ _ _ _ (by assumption) (by assumption) (by assumption) (by assumption) (by assumption)) rfl rfl rfl (by decide)) ?_); all_goals (refine Draws.v rfl rfl (zT rfl (by rfl) (by rfl) (by rfl) (by rfl) rfl (by decide)) ?_); all_goals (refine Draws.v rfl rfl (zT rfl (by rfl) (by rfl) (by rfl) (by rfl) rfl (by decide)) ?_); all_goals (refine Draws.v rfl rfl (wR rfl (by decide) (by decide) (by decide) (by decide) (by rfl) (by rfl) (by rfl) (by rfl) (by rfl) (by rfl) (by rfl) rfl (by decide)) ?_); all_goals ((refine Draws.done (by kernel_rfl) (by kernel_rfl) (by kernel_rfl) ?_; refine zL.ofT rfl (zI.held H [] rfl (by decide) (zH rfl) (by rfl) (by decide) (by first | rfl | exact yJ rfl (H.nk _).1 (by repeat' first | exact KB.refl | apply KB.kill | decide)) (by first | rfl | exact yJ rfl (H.nk _).2.1 (by repeat' first | exact KB.refl | apply KB.kill | decide)) (by first | rfl | exact yJ rfl (H.nk _).2.2 (by repeat' first | exact KB.refl | apply KB.kill | decide)) (by repeat' exact trivial) rfl rfl (fun _ => rfl) (fun _ => ⟨rfl, rfl⟩) (by assumption) (disk2_h H _ _ _ _ _ _ _) (fun x s e g hk => ?_) (fun q s e => ?_) ?_))); all_goals (first | refine zL.v rfl rfl (xU rfl rfl (by rfl) rfl (by decide)) ?_ | skip); all_goals (first | refine zL.nil ?_ | skip)) | (refine zX.isR (id := 12) ?_; refine zX.zV [5, 6, 7, 8, 10, 11] [5, 6, 7, 8, 11, 40, 1000, 1001, 1002] (by repeat' first | exact zZ.nil | apply zZ.p rfl | apply zZ.ptr rfl) (by repeat' first | exact zW.nil | apply zW.boxP rfl rfl | apply zW.some rfl | apply zW.skip) ?_; (refine zY.v rfl rfl (zK rfl rfl rfl (by decide)) ?_); refine zY.nil ?_) | (refine zX.isR (id := 13) ?_; refine zX.zV [5, 6, 7, 8, 10, 11] [5, 6, 7, 8, 11, 40, 1000, 1001, 1002] (by repeat' first | exact zZ.nil | apply zZ.p rfl | apply zZ.ptr rfl) (by repeat' first | exact zW.nil | apply zW.boxP rfl rfl | apply zW.some rfl | apply zW.skip) ?_; (refine zY.v rfl rfl (w_loadC rfl rfl rfl rfl rfl (by decide)) ?_); (refine zY.v rfl rfl (zA rfl rfl rfl rfl rfl (by decide)) ?_); (refine zY.v rfl rfl (zA rfl rfl rfl rfl rfl (by decide)) ?_); (refine zY.v rfl rfl (zA rfl rfl rfl rfl rfl (by decide)) ?_); (refine zY.v rfl rfl (wO rfl (by rfl) rfl (by decide)) ?_); (refine zY.ofT rfl (zI.held H [11, 8] rfl (by decide) (zH rfl) (by rfl) (by decide) (by rfl) (by rfl) (by rfl) (by repeat' first | exact trivial | rfl | constructor) rfl rfl (fun _ => rfl) (fun _ => ⟨rfl, rfl⟩) (by assumption) (set2_h H _ hR hb _ _ _ _ _ _) (fun x s e g hk => ?_) (fun q s e => ?_) ?_)); refine zY.nil ?_) | (refine zX.isR (id := 14) ?_; refine zX.zV [10] [5, 6, 7, 8, 11, 40, 1000, 1001, 1002] (by repeat' first | exact zZ.nil | apply zZ.p rfl) (by repeat' first | exact zW.nil | apply zW.boxP rfl rfl | apply zW.some rfl | apply zW.skip) ?_; (refine zY.v rfl rfl (zK rfl rfl rfl (by decide)) ?_); refine zY.nil ?_) | refine zX.yN rfl (by first | assumption | with_reducible rfl) ?_ | refine zX.cond rfl (fun h => ?_) (fun h => ?_) | refine zX.skip ?_ | refine zX.ret ?_) | refine yH.r ?_)
    all_goals try simp only [Bool.not_eq_true', Bool.not_eq_false'] at *
    all_goals (first | exact fun e => hns (by clear hns; simp only [restP, wrP, run_bind, yQ, yY, Held.zO, Held.z8, Held.zP, cond_true, cond_false, *]) | exact .pan (q := q) rfl (by repeat' first | exact trivial | rfl | constructor) (by repeat' exact trivial) (by simp only [restP, wrP, run_bind, yQ, yY, Held.zO, Held.z8, Held.zP, cond_true, cond_false, *]) | exact .ret (by exact .inl rfl) (by exact .one rfl rfl) (by repeat' first | exact trivial | rfl | constructor) (by simp only [restP, wrP, run_bind, yQ, yY, Held.zO, Held.z8, Held.zP, cond_true, cond_false, *]))
theorem save_h (H : Hnd) (s0 : H.σ) {t r b : Int} (hR : Rec t r) (hb : b = 1 ∨ b = 2) :
    FnH H 23 [H.doA, .p (.val (.int .i64 t)), .p (.val (.int .i64 r)), .p (.val (.int .i64 b))] [] (fun x => .p (.val (.bool x))) (fun _ => []) yes s0 (saveP t r b) := by
  unfold Hnd.doA
  refine vJ Tryd.func23 rfl Tryd.ntmps23 (Nat.le_of_ble_eq_true rfl) (by decide) (fine_save t r b hb) fun hok hns => ?_
  repeat' ((refine zX.is ?_; first | refine zX.seq ?_ | (refine zX.isR (id := 0) ?_; refine zX.zV [0, 1, 2, 3] [1000, 1001, 1002] (by repeat' first | exact zZ.nil | apply zZ.p rfl | apply zZ.clo rfl) (by repeat' first | exact zW.nil | apply zW.some rfl) ?_; (refine zY.v rfl rfl (zK rfl rfl rfl (by decide)) ?_); refine zY.nil ?_) | (refine zX.isR (id := 1) ?_; refine zX.zV [0, 1, 2, 3, 8] [1000, 1001, 1002] (by repeat' first | exact zZ.nil | apply zZ.p rfl | apply zZ.clo rfl) (by repeat' first | exact zW.nil | apply zW.some rfl) ?_; (refine zY.v rfl rfl (zM rfl rfl rfl (by decide)) ?_); (refine zY.v rfl rfl (zQ rfl rfl rfl (by decide)) ?_); (refine zY.v rfl rfl (zQ rfl rfl rfl (by decide)) ?_); (refine zY.v rfl rfl (zQ rfl rfl rfl (by decide)) ?_); (refine zY.v rfl rfl (zM rfl rfl rfl (by decide)) ?_); (refine zY.v rfl rfl (zQ rfl rfl rfl (by decide)) ?_); (refine zY.v rfl rfl (zQ rfl rfl rfl (by decide)) ?_); (refine zY.ofT rfl (zI.held H [] rfl (by decide) (zH rfl) (by rfl) (by decide) (by rfl) (by rfl) (by rfl) (by repeat' exact trivial) rfl rfl (fun _ => rfl) (fun _ => ⟨rfl, rfl⟩) (by assumption) (flag_h H _ hR) (fun x s e g hk => ?_) (fun q s e => ?_) ?_)); (refine zY.ofT rfl (zI.held H [] rfl (by decide) (zH rfl) (by rfl) (by decide) (by rfl) (by rfl) (by rfl) (by repeat' exact trivial) rfl rfl (fun _ => rfl) (fun _ => ⟨rfl, rfl⟩) (by assumption) (rest_h H _ hR hb (by assumption)) (fun x s e g hk => ?_) (fun q s e => ?_) ?_)); (refine zY.v rfl rfl (zK rfl rfl rfl (by decide)) ?_); refine zY.nil ?_) | refine zX.ret ?_))
  all_goals (first | exact fun e => hns (by clear hns; simp only [saveP, run_bind, yQ, yY, Held.zO, Held.z8, Held.zP, cond_true, cond_false, *]) | exact .pan (q := q) rfl (by repeat' first | exact trivial | rfl | constructor) (by repeat' exact trivial) (by simp only [saveP, run_bind, yQ, yY, Held.zO, Held.z8, Held.zP, cond_true, cond_false, *]) | exact .ret (by exact .inl rfl) (by exact .one rfl rfl) (by repeat' first | exact trivial | rfl | constructor) (by simp only [saveP, run_bind, yQ, yY, Held.zO, Held.z8, Held.zP, cond_true, cond_false, *]))
theorem dead_h (H : Hnd) (s0 : H.σ) {t r : Int} (s : Int) (hR : Rec t r) :
    FnH H 24 [H.doA, .p (.val (.int .i64 t)), .p (.val (.int .i64 r)), .p (.val (.int .u64 s))] [] (fun x => .p (.val (.bool x))) (fun _ => []) yes s0 (deadP t r s) := by
  unfold Hnd.doA
  refine vJ Tryd.func24 rfl Tryd.ntmps24 (Nat.le_of_ble_eq_true rfl) (by decide) (fine_dead t r s) fun hok hns => ?_
  repeat' ((refine zX.is ?_; first | refine zX.seq ?_ | (refine zX.isR (id := 0) ?_; refine zX.zV [0, 1, 2, 3] [1000, 1001, 1002] (by repeat' first | exact zZ.nil | apply zZ.p rfl | apply zZ.clo rfl) (by repeat' first | exact zW.nil | apply zW.some rfl) ?_; (refine zY.v rfl rfl (zK rfl rfl rfl (by decide)) ?_); refine zY.nil ?_) | (refine zX.isR (id := 1) ?_; refine zX.zV [0, 1, 2, 3, 8] [1000, 1001, 1002] (by repeat' first | exact zZ.nil | apply zZ.p rfl | apply zZ.clo rfl) (by repeat' first | exact zW.nil | apply zW.some rfl) ?_; (refine zY.v rfl rfl (zM rfl rfl rfl (by decide)) ?_); (refine zY.v rfl rfl (zQ rfl rfl rfl (by decide)) ?_); (refine zY.v rfl rfl (zQ rfl rfl rfl (by decide)) ?_); (refine zY.ofT rfl (zI.held H [] rfl (by decide) (zH rfl) (by rfl) (by decide) (by rfl) (by rfl) (by rfl) (by repeat' exact trivial) rfl rfl (fun _ => rfl) (fun _ => ⟨rfl, rfl⟩) (by assumption) (flag_h H _ hR) (fun x s e g hk => ?_) (fun q s e => ?_) ?_)); (refine zY.v rfl rfl (zK rfl rfl rfl (by decide)) ?_); refine zY.nil ?_) | (refine zX.isR (id := 2) ?_; refine zX.zV [0, 1, 2, 3, 8, 9] [1000, 1001, 1002] (by repeat' first | exact zZ.nil | apply zZ.p rfl | apply zZ.clo rfl) (by repeat' first | exact zW.nil | apply zW.some rfl) ?_; all_goals (refine zY.v rfl rfl (zQ rfl rfl rfl (by decide)) ?_); all_goals (refine zY.v rfl rfl (by exact zR (wstamp_fn _) rfl rfl rfl (by decide)) ?_); all_goals (refine zY.v rfl rfl (zQ rfl rfl rfl (by decide)) ?_); all_goals (refine zY.v rfl rfl (xR rfl rfl rfl (by rfl) rfl (by decide)) ?_); all_goals (refine zY.v rfl rfl (zQ rfl rfl rfl (by decide)) ?_); all_goals (((fail_if_success refine zY.known rfl rfl rfl (by fail) ?_); refine zY.split rfl rfl rfl (fun h => ?_) (fun h => ?_) <;> first | refine zY.gY rfl rfl (by decide) rfl (by assumption) rfl (by decide) (zM rfl rfl rfl (by decide)) ?_ | refine zY.gnF rfl rfl (by decide) rfl (by assumption) rfl (by decide) ?_)); all_goals (first | refine zY.gY rfl rfl (by decide) rfl (by assumption) rfl (by decide) (zQ rfl rfl rfl (by decide)) ?_ | refine zY.gnF rfl rfl (by decide) rfl (by assumption) rfl (by decide) ?_); all_goals (first | refine zY.gY rfl rfl (by decide) rfl (by assumption) rfl (by decide) (zQ rfl rfl rfl (by decide)) ?_ | refine zY.gnF rfl rfl (by decide) rfl (by assumption) rfl (by decide) ?_); all_goals (first | refine zY.gY rfl rfl (by decide) rfl (by assumption) rfl (by decide) (zQ rfl rfl rfl (by decide)) ?_ | refine zY.gnF rfl rfl (by decide) rfl (by assumption) rfl (by decide) ?_); all_goals (first | refine zY.gnF rfl rfl (by decide) rfl (by assumption) rfl (by decide) ?_ | refine zY.ofTg rfl rfl (by decide) rfl (by assumption) (zI.held H [] rfl (by decide) (zH rfl) (by rfl) (by decide) (by rfl) (by rfl) (by rfl) (by repeat' exact trivial) rfl rfl (fun _ => rfl) (fun _ => ⟨rfl, rfl⟩) (by assumption) (rest_h H _ hR (.inr rfl) (by assumption)) (fun x s e g hk => ?_) (fun q s e => ?_) ?_)); all_goals (first | refine zY.v rfl rfl (by first | exact yZ rfl rfl (by first | assumption | with_reducible rfl) rfl rfl (by decide) | exact yC rfl rfl (by assumption) rfl rfl (by decide)) ?_ | skip); all_goals (first | refine zY.v rfl rfl (zK rfl rfl rfl (by decide)) ?_ | skip); all_goals (first | refine zY.nil ?_ | skip)) | refine zX.ret ?_))
  all_goals try simp only [Bool.not_eq_true', Bool.not_eq_false'] at *
  all_goals (first | exact fun e => hns (by clear hns; simp only [deadP, run_bind, yQ, yY, Held.zO, Held.z8, Held.zP, cond_true, cond_false, *]) | exact .pan (q := q) rfl (by repeat' first | exact trivial | rfl | constructor) (by repeat' exact trivial) (by simp only [deadP, run_bind, yQ, yY, Held.zO, Held.z8, Held.zP, cond_true, cond_false, *]) | exact .ret (by exact .inl rfl) (by exact .one rfl rfl) (by repeat' first | exact trivial | rfl | constructor) (by simp only [deadP, run_bind, yQ, yY, Held.zO, Held.z8, Held.zP, cond_true, cond_false, *]))
end Go.Proofs.YthnmfmdkdngggaaDoor
/- A region that draws its order, walked in each order that may be. Generic over the program. -/
namespace Go.Proofs.YthnmfmdkdngggaaDoor
set_option maxRecDepth 100000
set_option maxHeartbeats 16000000
open Go Go.RowKit
/-- what may come next, these being done -/
def readyD (l : List Oper) (done : List Nat) : List Nat := (List.range l.length).filter fun i => !done.contains i && (match l[i]? with
  | some o => o.after.toList.all fun e => !Region.binds .any e || done.contains e.on
  | none => false)
theorem readyD_iff {l : List Oper} {listed : Array Bool} {done : List Nat} (hs : listed.size = l.length) (h : ∀ i, listed.getD i false = done.contains i) (i : Nat) : i ∈ Region.ready .any l.toArray listed ↔ i ∈ readyD l done := by
  unfold Region.ready readyD
  simp only [List.size_toArray, List.mem_filter, List.mem_range]
  refine ⟨fun ⟨h1, h2⟩ => ⟨h1, ?_⟩, fun ⟨h1, h2⟩ => ⟨h1, ?_⟩⟩
  · have e1 : listed.getD i true = listed.getD i false := by simp [Array.getD_eq_getD_getElem?, hs, h1]
    simp only [List.getElem?_toArray, List.getElem?_eq_getElem h1, Option.map_some, Option.getD_some, Bool.and_eq_true, Bool.not_eq_true', List.all_eq_true] at h2 ⊢
    refine ⟨?_, fun e he => ?_⟩
    · rw [← h i, ← e1]; exact h2.1
    · have := Array.all_eq_true'.1 h2.2 e (by simpa using he)
      rw [← h e.on]
      exact this
  · have e1 : listed.getD i true = listed.getD i false := by simp [Array.getD_eq_getD_getElem?, hs, h1]
    simp only [List.getElem?_toArray, List.getElem?_eq_getElem h1, Option.map_some, Option.getD_some, Bool.and_eq_true, Bool.not_eq_true', List.all_eq_true] at h2 ⊢
    refine ⟨?_, Array.all_eq_true'.2 fun e he => ?_⟩
    · rw [e1, h i]; exact h2.1
    · have := h2.2 e (by simpa using he)
      rw [← h e.on] at this
      exact this
def xW (P : Program) (n : Nat) (l : List Oper) (K : Exit → AS → Prop) : Nat → List Nat → AS → Prop
  | 0, done, S => readyD l done = [] ∧ K .normal S
  | m + 1, done, S => readyD l done ≠ [] ∧ ∀ i ∈ readyD l done, ∃ o, l[i]? = some o ∧ o.guard = none ∧ zI P n o S K fun S1 => xW P n l K m (i :: done) S1
def wE (P : Program) (n : Nat) (l : List Oper) (K : Exit → AS → Prop) (m : Nat) (done : List Nat) (S : AS) (i : Nat) : Prop :=
  ∃ o, l[i]? = some o ∧ o.guard = none ∧ zI P n o S K fun S1 => xW P n l K m (i :: done) S1
def xB (p : Nat → Prop) : List Nat → Prop
  | [] => True
  | i :: r => p i ∧ xB p r
theorem xB.all {p : Nat → Prop} : ∀ {rs : List Nat}, xB p rs → ∀ i ∈ rs, p i
  | [], _, i, hi => by simp at hi
  | j :: r, h, i, hi => by
    rcases List.mem_cons.1 hi with rfl | hi
    · exact h.1
    · exact xB.all h.2 i hi
theorem xB.nil {p : Nat → Prop} : xB p [] := trivial
theorem xB.cons {p : Nat → Prop} {i : Nat} {r : List Nat} (h : p i) (hr : xB p r) : xB p (i :: r) := ⟨h, hr⟩
section
variable {P : Program} {n : Nat} {l : List Oper} {K : Exit → AS → Prop} {fu : Nat} {done : List Nat} {S S1 : AS} {i d : Nat} {o : Oper}
theorem xW.is (h : xW P n l K fu done S) : xW P n l K fu done S := h
theorem xW.fin (hr : readyD l done = []) (h : K .normal S) : xW P n l K 0 done S := ⟨hr, h⟩
theorem xW.many (hr : (readyD l done).isEmpty = false) (h : xB (wE P n l K fu done S) (readyD l done)) : xW P n l K (fu + 1) done S :=
  ⟨(fun e => by rw [e] at hr; cases hr), h.all⟩
theorem wE.is (h : wE P n l K fu done S i) : wE P n l K fu done S i := h
theorem wE.v {bs : List Nat} {av : AV} (ho : l[i]? = some o) (hg : o.guard = none) (hd : o.dst = some d) (h : zC P n o S bs av none) (hr : xW P n l K fu (i :: done) (S.put d av)) : wE P n l K fu done S i :=
  ⟨o, ho, hg, Step.t h.step (by rw [hd]; exact hr)⟩
theorem wE.m {bs : List Nat} {av : AV} {b : Blk} (ho : l[i]? = some o) (hg : o.guard = none) (hd : o.dst = some d) (h : zC P n o S bs av (some b)) (hr : xW P n l K fu (i :: done) ((S.create d b).put d av)) : wE P n l K fu done S i :=
  ⟨o, ho, hg, Step.t h.step (by rw [hd]; exact hr)⟩
theorem wE.w (ho : l[i]? = some o) (hg : o.guard = none) (h : Step P n o S S1) (hr : xW P n l K fu (i :: done) S1) : wE P n l K fu done S i := ⟨o, ho, hg, h.t hr⟩
theorem wE.ofT (ho : l[i]? = some o) (hg : o.guard = none) (h : zI P n o S K fun S1 => xW P n l K fu (i :: done) S1) : wE P n l K fu done S i := ⟨o, ho, hg, h⟩
theorem zX.vU {id : Nat} (hm : P.follows .mixedOrders = true) (h : xW P n l K l.length [] S) : zX P n (.region id l.toArray true) S K := by
  intro M w0 ρ a w Q hs hK
  have main : ∀ (m : Nat) (listed : Array Bool) (done : List Nat) (S : AS) (ρ : Nat → Value) (a : Act) (w : World), listed.size = l.length → (∀ i, listed.getD i false = done.contains i) → xW P n l K m done S → Sat M n w0 S ρ a w → wpAny P .any l.toArray Q m listed a w := by
    intro m
    induction m with
    | zero =>
      intro listed done S ρ a w hz hl hd hs
      refine ⟨List.eq_nil_iff_forall_not_mem.2 fun i hi => ?_, hK .normal S ρ a w hd.2 hs trivial⟩
      have := (readyD_iff hz hl i).1 hi
      rw [hd.1] at this
      simp at this
    | succ m ih =>
      intro listed done S ρ a w hz hl hd hs
      refine ⟨fun hnil => ?_, fun i hi => ?_⟩
      · obtain ⟨j, hj⟩ := List.exists_mem_of_ne_nil _ hd.1
        have := (readyD_iff hz hl j).2 hj
        rw [hnil] at this
        simp at this
      · obtain ⟨hil, _, _⟩ := yP hi
        obtain ⟨o, ho, hg, ht⟩ := hd.2 i ((readyD_iff hz hl i).1 hi)
        unfold wpOp
        simp only [List.getElem?_toArray, ho]
        rw [if_pos (by simp [Region.wanted, hg])]
        refine .inl (ht M w0 ρ a w _ Q hs (fun S1 ρ' a' w' hd1 hs' => ?_) hK)
        refine ih _ _ S1 ρ' a' w' (by simp [hz]) (fun k => ?_) hd1 hs'
        simp only [Array.getD_eq_getD_getElem?, Array.getElem?_setIfInBounds, List.contains_cons]
        by_cases hik : i = k
        · subst hik
          simp [hz, hil]
        · have : (k == i) = false := by simpa using fun e => hik e.symm
          rw [if_neg hik, this, Bool.false_or, ← hl k, Array.getD_eq_getD_getElem?]
  refine wp_region_any hm ?_
  exact main _ _ [] S ρ a _ (by simp) (fun i => by rw [getD_replicate_false]; rfl) (by simpa using h) (hs.ext ((Below.refl _ _).drew))
end
attribute [irreducible] xW wE
end Go.Proofs.YthnmfmdkdngggaaDoor
/- An array's literal. Generic over the program. -/
namespace Go.Proofs.YthnmfmdkdngggaaDoor
set_option maxRecDepth 100000
set_option maxHeartbeats 16000000
open Go Go.RowKit
section
variable {P : Program} {n : Nat} {o : Oper} {S : AS} {d : Nat} {t : TypeId}
theorem run_buildArr {m e sz by_ : Nat} {z ze : Value} [ht : Und P t (.array m e)] [hi : InfoA P e ze sz by_] [hz : ZeroA P t z] (parts : List (Nat × Value)) (w : World) (cells : Array Value) (h : Instr.fill (fun i => some (i * sz, sz)) z.cells.toList.toArray parts = some cells) :
    (Instr.build t parts.toArray).run P w = .ok (.agg cells) w := by
  have hs : (sizeOf e).run P w = .ok sz w := by
    have h1 := hi.h
    cases h2 : P.info? e with
    | none => rw [h2] at h1; cases h1
    | some i =>
      rw [h2] at h1
      simp only [Option.map_some, Option.some.injEq, Prod.mk.injEq] at h1
      simp [sizeOf, typeInfo, h2, h1.2.1]
  unfold Instr.build
  simp only [Sem.run_bind, hz.h, Result.andThen_ok, run_underlying ht.h, hs]
  rw [Array.toArray_toList] at h
  rw [h]
  rfl
theorem w_buildArr {ps : Array (Nat × Operand)} {m e sz by_ : Nat} {z ze : Value} {zs : List AV} {cs : List PV} [ht : Und P t (.array m e)] [hi : InfoA P e ze sz by_] [hz : ZeroA P t z] (ho : o.op = .build t ps) (h1 : z.cells.toList.all (fun u => u.oneCell') = true)
    (hk : ps.toList.all (fun p => (S.get p.2).vR) = true)
    (hf : fillA (fun i => some (i * sz, sz)) (z.cells.toList.map fun u => .p (.val u)) (ps.toList.map fun p => (p.1, S.get p.2)) = some zs) (hp : pures zs = some cs) (hd : o.dst = some d) (hn : d < n) : zC P n o S [] (.p (.agg cs)) none :=
  zC.pure hd hn fun S2 hg _ M w0 ρ a w hs => by
    have hzs := vG hp
    have hargs : ∀ p ∈ ps.toList, S2.get p.2 = S.get p.2 := fun p hp => hg p.2 (by rw [ho]; simp only [Op.operands, List.mem_map]; exact ⟨p, hp, rfl⟩)
    obtain ⟨us, h3, h2⟩ := fill_rep (fun i => some (i * sz, sz)) S.get a.eval ps.toList _ zs z.cells.toList (parts_ok hs hargs hk) hf (zerosA fun u hu => List.all_eq_true.1 h1 u hu)
    refine ⟨.agg us.toArray, w, ?_, Below.refl _ _, .p (.agg _ _ (by rw [h2.len, hzs]; simp) (fun i c v h3 h4 => rep_p (h2.each i (.p c) v (by rw [hzs, List.getElem?_map, h3]; rfl) h4)) h2.one)⟩
    unfold execOp
    rw [ho]
    have e1 := run_buildArr (P := P) (t := t) (ps.toList.map fun p => (p.1, a.eval p.2)) w us.toArray h3
    have e2 : (ps.toList.map fun p => (p.1, a.eval p.2)).toArray = ps.map fun p => (p.1, a.eval p.2) := by apply Array.ext'; simp
    rw [e2] at e1
    simp [e1]
end
end Go.Proofs.YthnmfmdkdngggaaDoor
/- A record is made: the program's, whatever makes its accesses: a contract. -/
namespace Go.Proofs.YthnmfmdkdngggaaDoor
set_option maxRecDepth 100000
set_option maxHeartbeats 16000000
open Go Go.RowKit
set_option linter.unusedSimpArgs false
set_option linter.unusedVariables false
attribute [local irreducible] zY zX Step zC Sub zL zI Fn
def itemCells (s y e u v x : Int) : List PV := [.val (.int .i64 2), .val (.int .u64 (flagF s 0)), .val (.int .i64 1), .val (.int .u64 y), .val (.int .i64 3), .val (.int .u64 e), .val (.int .i64 4), .val (.int .u64 u), .val (.int .i64 5), .val (.int .u64 v), .val (.int .i64 6), .val (.int .u64 x)]
def makeS (H : Hnd) (t r s y e u v x : Int) (p : Nat × H.σ) : AS :=
  { t := [(0, H.doA), (1, .p (.val (.int .i64 t))), (2, .p (.val (.int .i64 r))), (11, .p (.val (.int .u64 s))), (34, .p (.agg (itemCells s y e u v x))), (35, .p (.val (.int .i64 p.1)))], s := [(1000, H.b0 p.2), (1001, H.b1 p.2), (1002, H.b2 p.2)] }
theorem item0 (t r s y e u v x : Int) : wZ t r ((x9 s y e u v x).drop 0) = (storeP (y9 t r 2) (flagF s 0)).bind fun _ => wZ t r ((x9 s y e u v x).drop 1) := rfl
theorem item1 (t r s y e u v x : Int) : wZ t r ((x9 s y e u v x).drop 1) = (storeP (y9 t r 1) y).bind fun _ => wZ t r ((x9 s y e u v x).drop 2) := rfl
theorem item2 (t r s y e u v x : Int) : wZ t r ((x9 s y e u v x).drop 2) = (storeP (y9 t r 3) e).bind fun _ => wZ t r ((x9 s y e u v x).drop 3) := rfl
theorem item3 (t r s y e u v x : Int) : wZ t r ((x9 s y e u v x).drop 3) = (storeP (y9 t r 4) u).bind fun _ => wZ t r ((x9 s y e u v x).drop 4) := rfl
theorem item4 (t r s y e u v x : Int) : wZ t r ((x9 s y e u v x).drop 4) = (storeP (y9 t r 5) v).bind fun _ => wZ t r ((x9 s y e u v x).drop 5) := rfl
theorem item5 (t r s y e u v x : Int) : wZ t r ((x9 s y e u v x).drop 5) = (storeP (y9 t r 6) x).bind fun _ => wZ t r ((x9 s y e u v x).drop 6) := rfl
theorem make_h (H : Hnd) (s0 : H.σ) {t r : Int} (k0 sx : Int) {y e0 u v x0 : Int} (hR : Rec t r) (hy : U y) (he : U e0) (hu : U u) (hv : U v) (hx : U x0) :
    FnH H 20 [H.doA, .p (.val (.int .i64 t)), .p (.val (.int .i64 r)), .p (entV k0 sx y u v x0), .p (.val (.int .u64 e0))] [] (fun x => .p (.val (.int .u64 x))) (fun _ => []) U s0 (makeP t r y e0 u v x0) := by
  have z1 : U 1 := by unfold U; decide
  unfold Hnd.doA
  refine vJ Tryd.func20 rfl Tryd.ntmps20 (Nat.le_of_ble_eq_true rfl) (by decide) (fine_make t r hy he hu hv hx) fun hok hns => ?_
  repeat' ((refine zX.is ?_; first | refine zX.seq ?_ | (refine zX.isR (id := 0) ?_; refine zX.zV [0, 1, 2, 3, 4] [8, 13, 1000, 1001, 1002] (by repeat' first | exact zZ.nil | apply zZ.p rfl | apply zZ.clo rfl) (by repeat' first | exact zW.nil | apply zW.some rfl | apply zW.skip) ?_; (refine zY.m rfl rfl (yX rfl rfl rfl (by decide)) ?_); (refine zY.v rfl rfl (zK rfl rfl rfl (by decide)) ?_); refine zY.nil ?_) | (refine zX.isR (id := 1) ?_; refine zX.zV [0, 1, 2, 4, 8, 10] [8, 13, 1000, 1001, 1002] (by repeat' first | exact zZ.nil | apply zZ.p rfl | apply zZ.ptr rfl | apply zZ.clo rfl) (by repeat' first | exact zW.nil | apply zW.boxP rfl rfl | apply zW.some rfl | apply zW.skip) ?_; (refine zY.v rfl rfl (zM rfl rfl rfl (by decide)) ?_); (refine zY.ofT rfl (zI.held H [] rfl (by decide) (zH rfl) (by rfl) (by decide) (by exact yJ rfl (H.nk _).1 (by repeat' first | exact KB.refl | apply KB.kill | decide)) (by exact yJ rfl (H.nk _).2.1 (by repeat' first | exact KB.refl | apply KB.kill | decide)) (by exact yJ rfl (H.nk _).2.2 (by repeat' first | exact KB.refl | apply KB.kill | decide)) (by repeat' exact trivial) rfl rfl (fun _ => rfl) (fun _ => ⟨rfl, rfl⟩) (by assumption) (add_h H _ 2 1 z1) (fun x s e g hk => ?_) (fun q s e => ?_) ?_)); (refine zY.v rfl rfl (yE rfl rfl rfl (by rfl) rfl (by decide)) ?_); (refine zY.v rfl rfl (zK rfl rfl rfl (by decide)) ?_); refine zY.nil ?_) | (refine zX.isR (id := 2) ?_; refine zX.yF [0, 1, 2, 4, 8, 10, 11] [8, 13, 1000, 1001, 1002] (by repeat' first | exact zZ.nil | apply zZ.p rfl | apply zZ.ptr rfl | apply zZ.clo rfl) (by repeat' first | exact zW.nil | apply zW.boxP rfl rfl | apply zW.some rfl | apply zW.skip) (zX.draws ?_); all_goals (refine Draws.v rfl rfl (zQ rfl rfl rfl (by decide)) ?_); all_goals (refine Draws.v rfl rfl (by exact zR (flag_fn _ 0) rfl rfl rfl (by decide)) ?_); all_goals (refine Draws.v rfl rfl (zT rfl (by rfl) (by rfl) (by rfl) (by rfl) rfl (by decide)) ?_); all_goals (refine Draws.v rfl rfl (zJ rfl rfl rfl (by decide)) ?_); all_goals (refine Draws.v rfl rfl (zA rfl rfl rfl rfl rfl (by decide)) ?_); all_goals (refine Draws.v rfl rfl (zT rfl (by rfl) (by rfl) (by rfl) (by rfl) rfl (by decide)) ?_); all_goals (refine Draws.v rfl rfl (zQ rfl rfl rfl (by decide)) ?_); all_goals (refine Draws.v rfl rfl (zT rfl (by rfl) (by rfl) (by rfl) (by rfl) rfl (by decide)) ?_); all_goals (refine Draws.v rfl rfl (zJ rfl rfl rfl (by decide)) ?_); all_goals (refine Draws.v rfl rfl (zA rfl rfl rfl rfl rfl (by decide)) ?_); all_goals (refine Draws.v rfl rfl (zT rfl (by rfl) (by rfl) (by rfl) (by rfl) rfl (by decide)) ?_); all_goals (refine Draws.v rfl rfl (zJ rfl rfl rfl (by decide)) ?_); all_goals (refine Draws.v rfl rfl (zA rfl rfl rfl rfl rfl (by decide)) ?_); all_goals (refine Draws.v rfl rfl (zT rfl (by rfl) (by rfl) (by rfl) (by rfl) rfl (by decide)) ?_); all_goals (refine Draws.v rfl rfl (zJ rfl rfl rfl (by decide)) ?_); all_goals (refine Draws.v rfl rfl (zA rfl rfl rfl rfl rfl (by decide)) ?_); all_goals (refine Draws.v rfl rfl (zT rfl (by rfl) (by rfl) (by rfl) (by rfl) rfl (by decide)) ?_); all_goals (refine Draws.v rfl rfl (w_buildArr rfl (by rfl) (by rfl) (by rfl) (by rfl) rfl (by decide)) ?_); all_goals (refine Draws.v rfl rfl (zQ rfl rfl rfl (by decide)) ?_); all_goals ((refine Draws.done (by kernel_rfl) (by kernel_rfl) (by kernel_rfl) ?_; refine zL.nil ?_))) | refine zX.block ?_))
  all_goals (first | exact fun e => hns (by clear hns; simp only [makeP, run_bind, yQ, yY, Held.zO, Held.z8, Held.zP, cond_true, cond_false, *]) | exact .pan (q := q) rfl (by repeat' first | exact trivial | rfl | constructor) (by repeat' exact trivial) (by simp only [makeP, run_bind, yQ, yY, Held.zO, Held.z8, Held.zP, cond_true, cond_false, *]) | skip)
  have ho0 : (makeP t r y e0 u v x0).run H.st s0 = ((wZ t r (x9 (IntKind.u64.wrap (x + 1)) y e0 u v x0)).run H.st s).bind fun _ s' => .done (IntKind.u64.wrap (x + 1)) s' := by simp only [makeP, run_bind, yQ, Held.zO, *]
  clear e
  have zs : U (flagF (IntKind.u64.wrap (x + 1)) 0) := flagF_U _ _
  generalize IntKind.u64.wrap (x + 1) = st at *
  refine zX.loop (makeS H t r st y e0 u v x0) (fun p => p.1 ≤ 6 ∧ H.ok p.2 ∧ (wZ t r ((x9 st y e0 u v x0).drop p.1)).run H.st p.2 = (wZ t r (x9 st y e0 u v x0)).run H.st s) (fun p => 6 - p.1) (0, s) ?h0 ⟨Nat.zero_le _, by assumption, rfl⟩ ?rd
  case h0 =>
    refine zN (is := [0, 1, 2, 11, 34, 35]) (js := [1000, 1001, 1002]) ?_ ?_
    repeat' first | exact zZ.nil | apply zZ.p rfl | apply zZ.ptr rfl | apply zZ.own rfl | apply zZ.clo rfl | apply zZ.pt rfl | apply zZ.tup rfl | apply zZ.skip
    repeat' first | exact zW.nil | apply zW.boxP rfl rfl | apply zW.yG rfl | apply zW.some rfl | apply zW.skip
  case rd =>
    rintro ⟨k, l⟩ ⟨hk, hok2, ho⟩
    simp only at hk hok2 ho
    have hk6 : k = 0 ∨ k = 1 ∨ k = 2 ∨ k = 3 ∨ k = 4 ∨ k = 5 ∨ k = 6 := by omega
    rcases hk6 with rfl | rfl | rfl | rfl | rfl | rfl | rfl
    · have gl : decide (((0 : Nat) : Int) < 6) = true := rfl
      have gw : IntKind.i64.wrap (((0 : Nat) : Int) + 1) = ((1 : Nat) : Int) := rfl
      have hs := item0 t r st y e0 u v x0
      rw [hs, run_bind] at ho
      repeat' (first | (refine zX.is ?_; first | refine zX.seq ?_ | (refine zX.isR (id := 3) ?_; refine zX.zV [0, 1, 2, 10, 11, 13, 34, 35, 36] [8, 13, 1000, 1001, 1002] (by repeat' first | exact zZ.nil | apply zZ.p rfl | apply zZ.clo rfl | apply zZ.skip) (by repeat' first | exact zW.nil | apply zW.some rfl | apply zW.skip) ?_; (refine zY.v rfl rfl (by exact yI rfl rfl rfl (by exact gl) rfl (by decide)) ?_); refine zY.nil ?_) | (refine zX.isR (id := 4) ?_; refine zX.zV [0, 1, 2, 10, 11, 13, 34, 35, 36] [8, 13, 1000, 1001, 1002] (by repeat' first | exact zZ.nil | apply zZ.p rfl | apply zZ.clo rfl | apply zZ.skip) (by repeat' first | exact zW.nil | apply zW.some rfl | apply zW.skip) ?_; (refine zY.v rfl rfl (by exact w_idxN rfl rfl rfl (by omega) rfl (by decide)) ?_); (refine zY.m rfl rfl (zG rfl (by decide) rfl (by decide)) ?_); (refine zY.w rfl (by exact zB rfl rfl rfl rfl rfl (by rfl) (by exact Nat.le_of_ble_eq_true rfl) rfl rfl) ?_); refine zY.nil ?_) | (refine zX.isR (id := 5) ?_; refine zX.yF [0, 1, 2, 10, 11, 13, 34, 35, 36] [8, 13, 1000, 1001, 1002] (by repeat' first | exact zZ.nil | apply zZ.p rfl | apply zZ.ptr rfl | apply zZ.clo rfl | apply zZ.skip) (by repeat' first | exact zW.nil | apply zW.boxP rfl rfl | apply zW.some rfl | apply zW.skip) (zX.draws ?_); all_goals (refine Draws.v rfl rfl (zM rfl rfl rfl (by decide)) ?_); all_goals (refine Draws.v rfl rfl (zQ rfl rfl rfl (by decide)) ?_); all_goals (refine Draws.v rfl rfl (zQ rfl rfl rfl (by decide)) ?_); all_goals (refine Draws.v rfl rfl (zJ rfl rfl rfl (by decide)) ?_); all_goals (refine Draws.v rfl rfl (zA rfl rfl rfl (by rfl) rfl (by decide)) ?_); all_goals (refine Draws.v rfl rfl (by exact zR (fieldR hR _ (by decide)) rfl rfl rfl (by decide)) ?_); all_goals (refine Draws.v rfl rfl (zJ rfl rfl rfl (by decide)) ?_); all_goals (refine Draws.v rfl rfl (zA rfl rfl rfl (by rfl) rfl (by decide)) ?_); all_goals ((refine Draws.done (by kernel_rfl) (by kernel_rfl) (by kernel_rfl) ?_; refine zL.ofT rfl (zI.held H [] rfl (by decide) (zH rfl) (by rfl) (by decide) (by exact yJ rfl (H.nk _).1 (by repeat' first | exact KB.refl | apply KB.kill | decide)) (by exact yJ rfl (H.nk _).2.1 (by repeat' first | exact KB.refl | apply KB.kill | decide)) (by exact yJ rfl (H.nk _).2.2 (by repeat' first | exact KB.refl | apply KB.kill | decide)) (by repeat' exact trivial) rfl rfl (fun _ => rfl) (fun _ => ⟨rfl, rfl⟩) (by assumption) (store_h H _ _ _ (by assumption)) (fun x s e g hk => ?_) (fun q s e => ?_) ?_))); all_goals (first | refine zL.nil ?_ | skip)) | (refine zX.isR (id := 6) ?_; refine zX.zV [0, 1, 2, 10, 11, 13, 34, 35, 36] [8, 13, 1000, 1001, 1002] (by repeat' first | exact zZ.nil | apply zZ.p rfl | apply zZ.ptr rfl | apply zZ.clo rfl | apply zZ.skip) (by repeat' first | exact zW.nil | apply zW.boxP rfl rfl | apply zW.some rfl | apply zW.skip) ?_; (refine zY.v rfl rfl (by exact yE rfl rfl rfl (by exact gw) rfl (by decide)) ?_); (refine zY.v rfl rfl (zQ rfl rfl rfl (by decide)) ?_); refine zY.nil ?_) | refine zX.yS rfl (by assumption) ?_ | refine zX.skip ?_ | refine zX.block ?_) | refine yH.n ?_)
      all_goals first
        | exact fun e => hns (by rw [ho0, ← ho, e]; rfl)
        | exact .pan (q := q) rfl (by repeat' first | exact trivial | rfl | constructor) (by repeat' exact trivial) (by rw [ho0, ← ho, e]; rfl)
        | skip
      refine ⟨(1, _), ?_, ⟨(by show 1 ≤ 6; decide), by assumption, ?_⟩, (by show 6 - 1 < 6 - 0; decide)⟩
      · refine zN (is := [0, 1, 2, 11, 34, 35]) (js := [1000, 1001, 1002]) ?_ ?_
        repeat' first | exact zZ.nil | apply zZ.p rfl | apply zZ.ptr rfl | apply zZ.own rfl | apply zZ.clo rfl | apply zZ.pt rfl | apply zZ.tup rfl | apply zZ.skip
        repeat' first | exact zW.nil | apply zW.boxP rfl rfl | apply zW.yG rfl | apply zW.some rfl | apply zW.skip
      · rw [← ho, e]; rfl
    · have gl : decide (((1 : Nat) : Int) < 6) = true := rfl
      have gw : IntKind.i64.wrap (((1 : Nat) : Int) + 1) = ((2 : Nat) : Int) := rfl
      have hs := item1 t r st y e0 u v x0
      rw [hs, run_bind] at ho
      repeat' (first | (refine zX.is ?_; first | refine zX.seq ?_ | (refine zX.isR (id := 3) ?_; refine zX.zV [0, 1, 2, 10, 11, 13, 34, 35, 36] [8, 13, 1000, 1001, 1002] (by repeat' first | exact zZ.nil | apply zZ.p rfl | apply zZ.clo rfl | apply zZ.skip) (by repeat' first | exact zW.nil | apply zW.some rfl | apply zW.skip) ?_; (refine zY.v rfl rfl (by exact yI rfl rfl rfl (by exact gl) rfl (by decide)) ?_); refine zY.nil ?_) | (refine zX.isR (id := 4) ?_; refine zX.zV [0, 1, 2, 10, 11, 13, 34, 35, 36] [8, 13, 1000, 1001, 1002] (by repeat' first | exact zZ.nil | apply zZ.p rfl | apply zZ.clo rfl | apply zZ.skip) (by repeat' first | exact zW.nil | apply zW.some rfl | apply zW.skip) ?_; (refine zY.v rfl rfl (by exact w_idxN rfl rfl rfl (by omega) rfl (by decide)) ?_); (refine zY.m rfl rfl (zG rfl (by decide) rfl (by decide)) ?_); (refine zY.w rfl (by exact zB rfl rfl rfl rfl rfl (by rfl) (by exact Nat.le_of_ble_eq_true rfl) rfl rfl) ?_); refine zY.nil ?_) | (refine zX.isR (id := 5) ?_; refine zX.yF [0, 1, 2, 10, 11, 13, 34, 35, 36] [8, 13, 1000, 1001, 1002] (by repeat' first | exact zZ.nil | apply zZ.p rfl | apply zZ.ptr rfl | apply zZ.clo rfl | apply zZ.skip) (by repeat' first | exact zW.nil | apply zW.boxP rfl rfl | apply zW.some rfl | apply zW.skip) (zX.draws ?_); all_goals (refine Draws.v rfl rfl (zM rfl rfl rfl (by decide)) ?_); all_goals (refine Draws.v rfl rfl (zQ rfl rfl rfl (by decide)) ?_); all_goals (refine Draws.v rfl rfl (zQ rfl rfl rfl (by decide)) ?_); all_goals (refine Draws.v rfl rfl (zJ rfl rfl rfl (by decide)) ?_); all_goals (refine Draws.v rfl rfl (zA rfl rfl rfl (by rfl) rfl (by decide)) ?_); all_goals (refine Draws.v rfl rfl (by exact zR (fieldR hR _ (by decide)) rfl rfl rfl (by decide)) ?_); all_goals (refine Draws.v rfl rfl (zJ rfl rfl rfl (by decide)) ?_); all_goals (refine Draws.v rfl rfl (zA rfl rfl rfl (by rfl) rfl (by decide)) ?_); all_goals ((refine Draws.done (by kernel_rfl) (by kernel_rfl) (by kernel_rfl) ?_; refine zL.ofT rfl (zI.held H [] rfl (by decide) (zH rfl) (by rfl) (by decide) (by exact yJ rfl (H.nk _).1 (by repeat' first | exact KB.refl | apply KB.kill | decide)) (by exact yJ rfl (H.nk _).2.1 (by repeat' first | exact KB.refl | apply KB.kill | decide)) (by exact yJ rfl (H.nk _).2.2 (by repeat' first | exact KB.refl | apply KB.kill | decide)) (by repeat' exact trivial) rfl rfl (fun _ => rfl) (fun _ => ⟨rfl, rfl⟩) (by assumption) (store_h H _ _ _ (by assumption)) (fun x s e g hk => ?_) (fun q s e => ?_) ?_))); all_goals (first | refine zL.nil ?_ | skip)) | (refine zX.isR (id := 6) ?_; refine zX.zV [0, 1, 2, 10, 11, 13, 34, 35, 36] [8, 13, 1000, 1001, 1002] (by repeat' first | exact zZ.nil | apply zZ.p rfl | apply zZ.ptr rfl | apply zZ.clo rfl | apply zZ.skip) (by repeat' first | exact zW.nil | apply zW.boxP rfl rfl | apply zW.some rfl | apply zW.skip) ?_; (refine zY.v rfl rfl (by exact yE rfl rfl rfl (by exact gw) rfl (by decide)) ?_); (refine zY.v rfl rfl (zQ rfl rfl rfl (by decide)) ?_); refine zY.nil ?_) | refine zX.yS rfl (by assumption) ?_ | refine zX.skip ?_ | refine zX.block ?_) | refine yH.n ?_)
      all_goals first
        | exact fun e => hns (by rw [ho0, ← ho, e]; rfl)
        | exact .pan (q := q) rfl (by repeat' first | exact trivial | rfl | constructor) (by repeat' exact trivial) (by rw [ho0, ← ho, e]; rfl)
        | skip
      refine ⟨(2, _), ?_, ⟨(by show 2 ≤ 6; decide), by assumption, ?_⟩, (by show 6 - 2 < 6 - 1; decide)⟩
      · refine zN (is := [0, 1, 2, 11, 34, 35]) (js := [1000, 1001, 1002]) ?_ ?_
        repeat' first | exact zZ.nil | apply zZ.p rfl | apply zZ.ptr rfl | apply zZ.own rfl | apply zZ.clo rfl | apply zZ.pt rfl | apply zZ.tup rfl | apply zZ.skip
        repeat' first | exact zW.nil | apply zW.boxP rfl rfl | apply zW.yG rfl | apply zW.some rfl | apply zW.skip
      · rw [← ho, e]; rfl
    · have gl : decide (((2 : Nat) : Int) < 6) = true := rfl
      have gw : IntKind.i64.wrap (((2 : Nat) : Int) + 1) = ((3 : Nat) : Int) := rfl
      have hs := item2 t r st y e0 u v x0
      rw [hs, run_bind] at ho
      repeat' (first | (refine zX.is ?_; first | refine zX.seq ?_ | (refine zX.isR (id := 3) ?_; refine zX.zV [0, 1, 2, 10, 11, 13, 34, 35, 36] [8, 13, 1000, 1001, 1002] (by repeat' first | exact zZ.nil | apply zZ.p rfl | apply zZ.clo rfl | apply zZ.skip) (by repeat' first | exact zW.nil | apply zW.some rfl | apply zW.skip) ?_; (refine zY.v rfl rfl (by exact yI rfl rfl rfl (by exact gl) rfl (by decide)) ?_); refine zY.nil ?_) | (refine zX.isR (id := 4) ?_; refine zX.zV [0, 1, 2, 10, 11, 13, 34, 35, 36] [8, 13, 1000, 1001, 1002] (by repeat' first | exact zZ.nil | apply zZ.p rfl | apply zZ.clo rfl | apply zZ.skip) (by repeat' first | exact zW.nil | apply zW.some rfl | apply zW.skip) ?_; (refine zY.v rfl rfl (by exact w_idxN rfl rfl rfl (by omega) rfl (by decide)) ?_); (refine zY.m rfl rfl (zG rfl (by decide) rfl (by decide)) ?_); (refine zY.w rfl (by exact zB rfl rfl rfl rfl rfl (by rfl) (by exact Nat.le_of_ble_eq_true rfl) rfl rfl) ?_); refine zY.nil ?_) | (refine zX.isR (id := 5) ?_; refine zX.yF [0, 1, 2, 10, 11, 13, 34, 35, 36] [8, 13, 1000, 1001, 1002] (by repeat' first | exact zZ.nil | apply zZ.p rfl | apply zZ.ptr rfl | apply zZ.clo rfl | apply zZ.skip) (by repeat' first | exact zW.nil | apply zW.boxP rfl rfl | apply zW.some rfl | apply zW.skip) (zX.draws ?_); all_goals (refine Draws.v rfl rfl (zM rfl rfl rfl (by decide)) ?_); all_goals (refine Draws.v rfl rfl (zQ rfl rfl rfl (by decide)) ?_); all_goals (refine Draws.v rfl rfl (zQ rfl rfl rfl (by decide)) ?_); all_goals (refine Draws.v rfl rfl (zJ rfl rfl rfl (by decide)) ?_); all_goals (refine Draws.v rfl rfl (zA rfl rfl rfl (by rfl) rfl (by decide)) ?_); all_goals (refine Draws.v rfl rfl (by exact zR (fieldR hR _ (by decide)) rfl rfl rfl (by decide)) ?_); all_goals (refine Draws.v rfl rfl (zJ rfl rfl rfl (by decide)) ?_); all_goals (refine Draws.v rfl rfl (zA rfl rfl rfl (by rfl) rfl (by decide)) ?_); all_goals ((refine Draws.done (by kernel_rfl) (by kernel_rfl) (by kernel_rfl) ?_; refine zL.ofT rfl (zI.held H [] rfl (by decide) (zH rfl) (by rfl) (by decide) (by exact yJ rfl (H.nk _).1 (by repeat' first | exact KB.refl | apply KB.kill | decide)) (by exact yJ rfl (H.nk _).2.1 (by repeat' first | exact KB.refl | apply KB.kill | decide)) (by exact yJ rfl (H.nk _).2.2 (by repeat' first | exact KB.refl | apply KB.kill | decide)) (by repeat' exact trivial) rfl rfl (fun _ => rfl) (fun _ => ⟨rfl, rfl⟩) (by assumption) (store_h H _ _ _ (by assumption)) (fun x s e g hk => ?_) (fun q s e => ?_) ?_))); all_goals (first | refine zL.nil ?_ | skip)) | (refine zX.isR (id := 6) ?_; refine zX.zV [0, 1, 2, 10, 11, 13, 34, 35, 36] [8, 13, 1000, 1001, 1002] (by repeat' first | exact zZ.nil | apply zZ.p rfl | apply zZ.ptr rfl | apply zZ.clo rfl | apply zZ.skip) (by repeat' first | exact zW.nil | apply zW.boxP rfl rfl | apply zW.some rfl | apply zW.skip) ?_; (refine zY.v rfl rfl (by exact yE rfl rfl rfl (by exact gw) rfl (by decide)) ?_); (refine zY.v rfl rfl (zQ rfl rfl rfl (by decide)) ?_); refine zY.nil ?_) | refine zX.yS rfl (by assumption) ?_ | refine zX.skip ?_ | refine zX.block ?_) | refine yH.n ?_)
      all_goals first
        | exact fun e => hns (by rw [ho0, ← ho, e]; rfl)
        | exact .pan (q := q) rfl (by repeat' first | exact trivial | rfl | constructor) (by repeat' exact trivial) (by rw [ho0, ← ho, e]; rfl)
        | skip
      refine ⟨(3, _), ?_, ⟨(by show 3 ≤ 6; decide), by assumption, ?_⟩, (by show 6 - 3 < 6 - 2; decide)⟩
      · refine zN (is := [0, 1, 2, 11, 34, 35]) (js := [1000, 1001, 1002]) ?_ ?_
        repeat' first | exact zZ.nil | apply zZ.p rfl | apply zZ.ptr rfl | apply zZ.own rfl | apply zZ.clo rfl | apply zZ.pt rfl | apply zZ.tup rfl | apply zZ.skip
        repeat' first | exact zW.nil | apply zW.boxP rfl rfl | apply zW.yG rfl | apply zW.some rfl | apply zW.skip
      · rw [← ho, e]; rfl
    · have gl : decide (((3 : Nat) : Int) < 6) = true := rfl
      have gw : IntKind.i64.wrap (((3 : Nat) : Int) + 1) = ((4 : Nat) : Int) := rfl
      have hs := item3 t r st y e0 u v x0
      rw [hs, run_bind] at ho
      repeat' (first | (refine zX.is ?_; first | refine zX.seq ?_ | (refine zX.isR (id := 3) ?_; refine zX.zV [0, 1, 2, 10, 11, 13, 34, 35, 36] [8, 13, 1000, 1001, 1002] (by repeat' first | exact zZ.nil | apply zZ.p rfl | apply zZ.clo rfl | apply zZ.skip) (by repeat' first | exact zW.nil | apply zW.some rfl | apply zW.skip) ?_; (refine zY.v rfl rfl (by exact yI rfl rfl rfl (by exact gl) rfl (by decide)) ?_); refine zY.nil ?_) | (refine zX.isR (id := 4) ?_; refine zX.zV [0, 1, 2, 10, 11, 13, 34, 35, 36] [8, 13, 1000, 1001, 1002] (by repeat' first | exact zZ.nil | apply zZ.p rfl | apply zZ.clo rfl | apply zZ.skip) (by repeat' first | exact zW.nil | apply zW.some rfl | apply zW.skip) ?_; (refine zY.v rfl rfl (by exact w_idxN rfl rfl rfl (by omega) rfl (by decide)) ?_); (refine zY.m rfl rfl (zG rfl (by decide) rfl (by decide)) ?_); (refine zY.w rfl (by exact zB rfl rfl rfl rfl rfl (by rfl) (by exact Nat.le_of_ble_eq_true rfl) rfl rfl) ?_); refine zY.nil ?_) | (refine zX.isR (id := 5) ?_; refine zX.yF [0, 1, 2, 10, 11, 13, 34, 35, 36] [8, 13, 1000, 1001, 1002] (by repeat' first | exact zZ.nil | apply zZ.p rfl | apply zZ.ptr rfl | apply zZ.clo rfl | apply zZ.skip) (by repeat' first | exact zW.nil | apply zW.boxP rfl rfl | apply zW.some rfl | apply zW.skip) (zX.draws ?_); all_goals (refine Draws.v rfl rfl (zM rfl rfl rfl (by decide)) ?_); all_goals (refine Draws.v rfl rfl (zQ rfl rfl rfl (by decide)) ?_); all_goals (refine Draws.v rfl rfl (zQ rfl rfl rfl (by decide)) ?_); all_goals (refine Draws.v rfl rfl (zJ rfl rfl rfl (by decide)) ?_); all_goals (refine Draws.v rfl rfl (zA rfl rfl rfl (by rfl) rfl (by decide)) ?_); all_goals (refine Draws.v rfl rfl (by exact zR (fieldR hR _ (by decide)) rfl rfl rfl (by decide)) ?_); all_goals (refine Draws.v rfl rfl (zJ rfl rfl rfl (by decide)) ?_); all_goals (refine Draws.v rfl rfl (zA rfl rfl rfl (by rfl) rfl (by decide)) ?_); all_goals ((refine Draws.done (by kernel_rfl) (by kernel_rfl) (by kernel_rfl) ?_; refine zL.ofT rfl (zI.held H [] rfl (by decide) (zH rfl) (by rfl) (by decide) (by exact yJ rfl (H.nk _).1 (by repeat' first | exact KB.refl | apply KB.kill | decide)) (by exact yJ rfl (H.nk _).2.1 (by repeat' first | exact KB.refl | apply KB.kill | decide)) (by exact yJ rfl (H.nk _).2.2 (by repeat' first | exact KB.refl | apply KB.kill | decide)) (by repeat' exact trivial) rfl rfl (fun _ => rfl) (fun _ => ⟨rfl, rfl⟩) (by assumption) (store_h H _ _ _ (by assumption)) (fun x s e g hk => ?_) (fun q s e => ?_) ?_))); all_goals (first | refine zL.nil ?_ | skip)) | (refine zX.isR (id := 6) ?_; refine zX.zV [0, 1, 2, 10, 11, 13, 34, 35, 36] [8, 13, 1000, 1001, 1002] (by repeat' first | exact zZ.nil | apply zZ.p rfl | apply zZ.ptr rfl | apply zZ.clo rfl | apply zZ.skip) (by repeat' first | exact zW.nil | apply zW.boxP rfl rfl | apply zW.some rfl | apply zW.skip) ?_; (refine zY.v rfl rfl (by exact yE rfl rfl rfl (by exact gw) rfl (by decide)) ?_); (refine zY.v rfl rfl (zQ rfl rfl rfl (by decide)) ?_); refine zY.nil ?_) | refine zX.yS rfl (by assumption) ?_ | refine zX.skip ?_ | refine zX.block ?_) | refine yH.n ?_)
      all_goals first
        | exact fun e => hns (by rw [ho0, ← ho, e]; rfl)
        | exact .pan (q := q) rfl (by repeat' first | exact trivial | rfl | constructor) (by repeat' exact trivial) (by rw [ho0, ← ho, e]; rfl)
        | skip
      refine ⟨(4, _), ?_, ⟨(by show 4 ≤ 6; decide), by assumption, ?_⟩, (by show 6 - 4 < 6 - 3; decide)⟩
      · refine zN (is := [0, 1, 2, 11, 34, 35]) (js := [1000, 1001, 1002]) ?_ ?_
        repeat' first | exact zZ.nil | apply zZ.p rfl | apply zZ.ptr rfl | apply zZ.own rfl | apply zZ.clo rfl | apply zZ.pt rfl | apply zZ.tup rfl | apply zZ.skip
        repeat' first | exact zW.nil | apply zW.boxP rfl rfl | apply zW.yG rfl | apply zW.some rfl | apply zW.skip
      · rw [← ho, e]; rfl
    · have gl : decide (((4 : Nat) : Int) < 6) = true := rfl
      have gw : IntKind.i64.wrap (((4 : Nat) : Int) + 1) = ((5 : Nat) : Int) := rfl
      have hs := item4 t r st y e0 u v x0
      rw [hs, run_bind] at ho
      repeat' (first | (refine zX.is ?_; first | refine zX.seq ?_ | (refine zX.isR (id := 3) ?_; refine zX.zV [0, 1, 2, 10, 11, 13, 34, 35, 36] [8, 13, 1000, 1001, 1002] (by repeat' first | exact zZ.nil | apply zZ.p rfl | apply zZ.clo rfl | apply zZ.skip) (by repeat' first | exact zW.nil | apply zW.some rfl | apply zW.skip) ?_; (refine zY.v rfl rfl (by exact yI rfl rfl rfl (by exact gl) rfl (by decide)) ?_); refine zY.nil ?_) | (refine zX.isR (id := 4) ?_; refine zX.zV [0, 1, 2, 10, 11, 13, 34, 35, 36] [8, 13, 1000, 1001, 1002] (by repeat' first | exact zZ.nil | apply zZ.p rfl | apply zZ.clo rfl | apply zZ.skip) (by repeat' first | exact zW.nil | apply zW.some rfl | apply zW.skip) ?_; (refine zY.v rfl rfl (by exact w_idxN rfl rfl rfl (by omega) rfl (by decide)) ?_); (refine zY.m rfl rfl (zG rfl (by decide) rfl (by decide)) ?_); (refine zY.w rfl (by exact zB rfl rfl rfl rfl rfl (by rfl) (by exact Nat.le_of_ble_eq_true rfl) rfl rfl) ?_); refine zY.nil ?_) | (refine zX.isR (id := 5) ?_; refine zX.yF [0, 1, 2, 10, 11, 13, 34, 35, 36] [8, 13, 1000, 1001, 1002] (by repeat' first | exact zZ.nil | apply zZ.p rfl | apply zZ.ptr rfl | apply zZ.clo rfl | apply zZ.skip) (by repeat' first | exact zW.nil | apply zW.boxP rfl rfl | apply zW.some rfl | apply zW.skip) (zX.draws ?_); all_goals (refine Draws.v rfl rfl (zM rfl rfl rfl (by decide)) ?_); all_goals (refine Draws.v rfl rfl (zQ rfl rfl rfl (by decide)) ?_); all_goals (refine Draws.v rfl rfl (zQ rfl rfl rfl (by decide)) ?_); all_goals (refine Draws.v rfl rfl (zJ rfl rfl rfl (by decide)) ?_); all_goals (refine Draws.v rfl rfl (zA rfl rfl rfl (by rfl) rfl (by decide)) ?_); all_goals (refine Draws.v rfl rfl (by exact zR (fieldR hR _ (by decide)) rfl rfl rfl (by decide)) ?_); all_goals (refine Draws.v rfl rfl (zJ rfl rfl rfl (by decide)) ?_); all_goals (refine Draws.v rfl rfl (zA rfl rfl rfl (by rfl) rfl (by decide)) ?_); all_goals ((refine Draws.done (by kernel_rfl) (by kernel_rfl) (by kernel_rfl) ?_; refine zL.ofT rfl (zI.held H [] rfl (by decide) (zH rfl) (by rfl) (by decide) (by exact yJ rfl (H.nk _).1 (by repeat' first | exact KB.refl | apply KB.kill | decide)) (by exact yJ rfl (H.nk _).2.1 (by repeat' first | exact KB.refl | apply KB.kill | decide)) (by exact yJ rfl (H.nk _).2.2 (by repeat' first | exact KB.refl | apply KB.kill | decide)) (by repeat' exact trivial) rfl rfl (fun _ => rfl) (fun _ => ⟨rfl, rfl⟩) (by assumption) (store_h H _ _ _ (by assumption)) (fun x s e g hk => ?_) (fun q s e => ?_) ?_))); all_goals (first | refine zL.nil ?_ | skip)) | (refine zX.isR (id := 6) ?_; refine zX.zV [0, 1, 2, 10, 11, 13, 34, 35, 36] [8, 13, 1000, 1001, 1002] (by repeat' first | exact zZ.nil | apply zZ.p rfl | apply zZ.ptr rfl | apply zZ.clo rfl | apply zZ.skip) (by repeat' first | exact zW.nil | apply zW.boxP rfl rfl | apply zW.some rfl | apply zW.skip) ?_; (refine zY.v rfl rfl (by exact yE rfl rfl rfl (by exact gw) rfl (by decide)) ?_); (refine zY.v rfl rfl (zQ rfl rfl rfl (by decide)) ?_); refine zY.nil ?_) | refine zX.yS rfl (by assumption) ?_ | refine zX.skip ?_ | refine zX.block ?_) | refine yH.n ?_)
      all_goals first
        | exact fun e => hns (by rw [ho0, ← ho, e]; rfl)
        | exact .pan (q := q) rfl (by repeat' first | exact trivial | rfl | constructor) (by repeat' exact trivial) (by rw [ho0, ← ho, e]; rfl)
        | skip
      refine ⟨(5, _), ?_, ⟨(by show 5 ≤ 6; decide), by assumption, ?_⟩, (by show 6 - 5 < 6 - 4; decide)⟩
      · refine zN (is := [0, 1, 2, 11, 34, 35]) (js := [1000, 1001, 1002]) ?_ ?_
        repeat' first | exact zZ.nil | apply zZ.p rfl | apply zZ.ptr rfl | apply zZ.own rfl | apply zZ.clo rfl | apply zZ.pt rfl | apply zZ.tup rfl | apply zZ.skip
        repeat' first | exact zW.nil | apply zW.boxP rfl rfl | apply zW.yG rfl | apply zW.some rfl | apply zW.skip
      · rw [← ho, e]; rfl
    · have gl : decide (((5 : Nat) : Int) < 6) = true := rfl
      have gw : IntKind.i64.wrap (((5 : Nat) : Int) + 1) = ((6 : Nat) : Int) := rfl
      have hs := item5 t r st y e0 u v x0
      rw [hs, run_bind] at ho
      repeat' (first | (refine zX.is ?_; first | refine zX.seq ?_ | (refine zX.isR (id := 3) ?_; refine zX.zV [0, 1, 2, 10, 11, 13, 34, 35, 36] [8, 13, 1000, 1001, 1002] (by repeat' first | exact zZ.nil | apply zZ.p rfl | apply zZ.clo rfl | apply zZ.skip) (by repeat' first | exact zW.nil | apply zW.some rfl | apply zW.skip) ?_; (refine zY.v rfl rfl (by exact yI rfl rfl rfl (by exact gl) rfl (by decide)) ?_); refine zY.nil ?_) | (refine zX.isR (id := 4) ?_; refine zX.zV [0, 1, 2, 10, 11, 13, 34, 35, 36] [8, 13, 1000, 1001, 1002] (by repeat' first | exact zZ.nil | apply zZ.p rfl | apply zZ.clo rfl | apply zZ.skip) (by repeat' first | exact zW.nil | apply zW.some rfl | apply zW.skip) ?_; (refine zY.v rfl rfl (by exact w_idxN rfl rfl rfl (by omega) rfl (by decide)) ?_); (refine zY.m rfl rfl (zG rfl (by decide) rfl (by decide)) ?_); (refine zY.w rfl (by exact zB rfl rfl rfl rfl rfl (by rfl) (by exact Nat.le_of_ble_eq_true rfl) rfl rfl) ?_); refine zY.nil ?_) | (refine zX.isR (id := 5) ?_; refine zX.yF [0, 1, 2, 10, 11, 13, 34, 35, 36] [8, 13, 1000, 1001, 1002] (by repeat' first | exact zZ.nil | apply zZ.p rfl | apply zZ.ptr rfl | apply zZ.clo rfl | apply zZ.skip) (by repeat' first | exact zW.nil | apply zW.boxP rfl rfl | apply zW.some rfl | apply zW.skip) (zX.draws ?_); all_goals (refine Draws.v rfl rfl (zM rfl rfl rfl (by decide)) ?_); all_goals (refine Draws.v rfl rfl (zQ rfl rfl rfl (by decide)) ?_); all_goals (refine Draws.v rfl rfl (zQ rfl rfl rfl (by decide)) ?_); all_goals (refine Draws.v rfl rfl (zJ rfl rfl rfl (by decide)) ?_); all_goals (refine Draws.v rfl rfl (zA rfl rfl rfl (by rfl) rfl (by decide)) ?_); all_goals (refine Draws.v rfl rfl (by exact zR (fieldR hR _ (by decide)) rfl rfl rfl (by decide)) ?_); all_goals (refine Draws.v rfl rfl (zJ rfl rfl rfl (by decide)) ?_); all_goals (refine Draws.v rfl rfl (zA rfl rfl rfl (by rfl) rfl (by decide)) ?_); all_goals ((refine Draws.done (by kernel_rfl) (by kernel_rfl) (by kernel_rfl) ?_; refine zL.ofT rfl (zI.held H [] rfl (by decide) (zH rfl) (by rfl) (by decide) (by exact yJ rfl (H.nk _).1 (by repeat' first | exact KB.refl | apply KB.kill | decide)) (by exact yJ rfl (H.nk _).2.1 (by repeat' first | exact KB.refl | apply KB.kill | decide)) (by exact yJ rfl (H.nk _).2.2 (by repeat' first | exact KB.refl | apply KB.kill | decide)) (by repeat' exact trivial) rfl rfl (fun _ => rfl) (fun _ => ⟨rfl, rfl⟩) (by assumption) (store_h H _ _ _ (by assumption)) (fun x s e g hk => ?_) (fun q s e => ?_) ?_))); all_goals (first | refine zL.nil ?_ | skip)) | (refine zX.isR (id := 6) ?_; refine zX.zV [0, 1, 2, 10, 11, 13, 34, 35, 36] [8, 13, 1000, 1001, 1002] (by repeat' first | exact zZ.nil | apply zZ.p rfl | apply zZ.ptr rfl | apply zZ.clo rfl | apply zZ.skip) (by repeat' first | exact zW.nil | apply zW.boxP rfl rfl | apply zW.some rfl | apply zW.skip) ?_; (refine zY.v rfl rfl (by exact yE rfl rfl rfl (by exact gw) rfl (by decide)) ?_); (refine zY.v rfl rfl (zQ rfl rfl rfl (by decide)) ?_); refine zY.nil ?_) | refine zX.yS rfl (by assumption) ?_ | refine zX.skip ?_ | refine zX.block ?_) | refine yH.n ?_)
      all_goals first
        | exact fun e => hns (by rw [ho0, ← ho, e]; rfl)
        | exact .pan (q := q) rfl (by repeat' first | exact trivial | rfl | constructor) (by repeat' exact trivial) (by rw [ho0, ← ho, e]; rfl)
        | skip
      refine ⟨(6, _), ?_, ⟨(by show 6 ≤ 6; decide), by assumption, ?_⟩, (by show 6 - 6 < 6 - 5; decide)⟩
      · refine zN (is := [0, 1, 2, 11, 34, 35]) (js := [1000, 1001, 1002]) ?_ ?_
        repeat' first | exact zZ.nil | apply zZ.p rfl | apply zZ.ptr rfl | apply zZ.own rfl | apply zZ.clo rfl | apply zZ.pt rfl | apply zZ.tup rfl | apply zZ.skip
        repeat' first | exact zW.nil | apply zW.boxP rfl rfl | apply zW.yG rfl | apply zW.some rfl | apply zW.skip
      · rw [← ho, e]; rfl
    · have gl : decide (((6 : Nat) : Int) < 6) = false := rfl
      repeat' ((refine zX.is ?_; first | refine zX.seq ?_ | (refine zX.isR (id := 3) ?_; refine zX.zV [0, 1, 2, 10, 11, 13, 34, 35, 36] [8, 13, 1000, 1001, 1002] (by repeat' first | exact zZ.nil | apply zZ.p rfl | apply zZ.clo rfl | apply zZ.skip) (by repeat' first | exact zW.nil | apply zW.some rfl | apply zW.skip) ?_; (refine zY.v rfl rfl (by exact yI rfl rfl rfl (by exact gl) rfl (by decide)) ?_); refine zY.nil ?_) | (refine zX.isR (id := 7) ?_; refine zX.zV [10, 11] [8, 13, 1000, 1001, 1002] (by repeat' first | exact zZ.nil | apply zZ.p rfl | apply zZ.skip) (by repeat' first | exact zW.nil | apply zW.some rfl | apply zW.skip) ?_; (refine zY.v rfl rfl (zQ rfl rfl rfl (by decide)) ?_); (refine zY.v rfl rfl (zK rfl rfl rfl (by decide)) ?_); refine zY.nil ?_) | refine zX.yN rfl (by assumption) ?_ | refine zX.exit ?_ | refine zX.ret ?_))
      all_goals exact .ret (by exact .inl rfl) (.one rfl rfl) (by repeat' first | exact trivial | rfl | constructor) (by rw [ho0, ← ho]; rfl)
end Go.Proofs.YthnmfmdkdngggaaDoor
/- Functions with one deferred call; the deferred function, that may recover. Generic over the program. -/
namespace Go.Proofs.YthnmfmdkdngggaaDoor
set_option maxRecDepth 100000
set_option maxHeartbeats 16000000
open Go Go.RowKit
section
variable {P : Program} {M : Nat → Nat → Prop} {n : Nat} {h : Home} {w : World} {S : AS} {ρ : Nat → Value} {a : Act}
theorem xS.defer (hb : xS h w) (D : List Deferred) : xS { h with d := D } w := ⟨hb.os, hb.tape, hb.output, hb.size, hb.block⟩
theorem xS.undefer {D : List Deferred} (hb : xS { h with d := D } w) : xS h w := ⟨hb.os, hb.tape, hb.output, hb.size, hb.block⟩
theorem Sat.frame {B : List Blk} (hs : Sat M 0 h (Proofs.YthnmfmdkdngggaaDoor.asB B) ρ wI w) {T : List (Nat × AV)} (hn : a.tmps.size = n) (h1000 : n ≤ 1000) (ht : ∀ i x, look T i = some x → yB (Mut M (Proofs.YthnmfmdkdngggaaDoor.asB B) ρ) ρ w x (a.tmps.getD i undef)) : Sat M n { h with d := a.defers } { t := T, s := numB 1000 B } ρ a w := by
  refine ⟨hs.below.defer _, hs.out, hs.tab, hn, rfl, fun i => ?_, hs.blks, hs.mine, hs.fix, fun k hk => h.lo k (by omega), hs.dist⟩
  show yB _ _ _ ((look T i).getD .any) _
  cases e : look T i with
  | none => exact .any _
  | some x => exact ht i x e
theorem Sat.unframe {B : List Blk} {D : List Deferred} (hs : Sat M n { h with d := D } S ρ a w) (hd : h.d = []) (hb : HasB S B) : Sat M 0 h (Proofs.YthnmfmdkdngggaaDoor.asB B) ρ wI w ∧ ∀ k c, Mut M (Proofs.YthnmfmdkdngggaaDoor.asB B) ρ k c → Mut M S ρ k c := by
  have hm : ∀ k c, Mut M (Proofs.YthnmfmdkdngggaaDoor.asB B) ρ k c → Mut M S ρ k c := by
    rintro k c (hk | ⟨id, b, hb1, hk⟩)
    · exact .inl hk
    · obtain ⟨i, rfl, h1⟩ := y7 hb1
      exact .inr ⟨_, b, hb i b h1, hk⟩
  refine ⟨⟨hs.below.undefer, hs.out, hs.tab, rfl, hd.symm, fun i => .any _, fun id b hb1 => ?_, fun id b k hb1 hk => ?_, hs.fix, fun k hk => by omega, fun i j bi bj k hi hj h1 h2 => ?_⟩, hm⟩
  · obtain ⟨i, rfl, h1⟩ := y7 hb1
    exact (hs.blks _ b (hb i b h1)).mono hm
  · obtain ⟨i, rfl, h1⟩ := y7 hb1
    exact hs.mine _ b k (hb i b h1) hk
  · obtain ⟨i', rfl, h3⟩ := y7 hi
    obtain ⟨j', rfl, h4⟩ := y7 hj
    exact hs.dist _ _ bi bj k (hb i' bi h3) (hb j' bj h4) h1 h2
theorem gives_res {fn : Func} {x : AV} {B : List Blk} {D : List Deferred} (hs' : Sat M n { h with d := D } S ρ a w) (hd : h.d = []) (hg : GivesA P fn S x) (hB : HasB S B) :
    ∃ v, (results fn a.tmps).run P w = .ok v w ∧ ∃ ρ', Sat M 0 h (asB B) ρ' wI w ∧ EvOK (Mut M (asB B) ρ') ρ' w (.ret x) (.returned v) := by
  obtain ⟨h1, h2⟩ := hs'.unframe hd hB
  cases hg with
  | none hr => exact ⟨_, results_none hr _ _ _, ρ, h1, _, rfl, .any _⟩
  | one hr ht =>
    subst ht
    exact ⟨_, results_tmp hr _ _ _, ρ, h1, _, rfl, (hs'.tmps _).mono fun k c _ hk => h2 k c hk⟩
  | p hr hx =>
    obtain ⟨v, g1, g2⟩ := res_oneM hs' hx
    have g3 := wY (P := P) (w := w) fn a.tmps (rs := [_]) (vs := [v]) hr (by simp only [List.mapM_cons, List.mapM_nil, Sem.run_bind, Sem.run_pure, g1, Result.andThen_ok])
    exact ⟨v, g3, ρ, h1, _, rfl, .p (g2.mono fun k c _ hk => h2 k c hk)⟩
  | tup hr hl hx =>
    obtain ⟨us, g1, g2, g4, g3⟩ := res_allM hs' hx
    have g5 := wY (P := P) (w := w) fn a.tmps hr g1
    rw [dif_neg (by simp only [List.size_toArray]; omega)] at g5
    refine ⟨_, g5, ρ, h1, _, rfl, .tup _ us (by simpa using g2) fun i c v hc hv => ?_⟩
    rw [List.getElem?_map, Option.map_eq_some_iff] at hc
    obtain ⟨y, hy, rfl⟩ := hc
    exact .p ((g3 i y v hy hv).mono fun k c _ hk => h2 k c hk)
end
/-- what is pending at a deferred call: nothing, or a panic -/
def Pending (M : Nat → Nat → Prop) (w : World) : Option PV → FrameMode → Prop
  | none, u => u = .returning
  | some x, u => ∃ v, u = .panicking [{ v := v, recovered := false }] ∧ Rep M w x v
/-- Function f, called deferred, of its callers' variables B: behind it nothing is pending. -/
def FnD (P : Program) (f : FuncId) (B : List Blk) (px : Option PV) (B' : List Blk) : Prop :=
  ∀ (M : Nat → Nat → Prop) (h : Home) (ρ : Nat → Value) (vs : List Value) (u : FrameMode), Handed h B ρ → Sat M 0 h (asB B) ρ wI h.w → vs.length = B.length →
    (∀ (i : Nat) v, vs[i]? = some v → yB (Mut M (asB B) ρ) ρ h.w (.ptr (1000 + i) 0) v) → Pending (Mut M (asB B) ρ) h.w px u →
    CallsD P f vs.toArray u h.w fun e u' w' => settle u' = .returning ∧ (∃ v, e = .returned v) ∧ ∃ ρ', Sat M 0 h (asB B') ρ' wI w'
section
variable {P : Program} {n : Nat}
theorem wpS_recover {id : Nat} {o0 : Oper} {l : List Oper} {ts : Array TypeId} {Q : Exit → Act → List Frame → World → Prop} {a : Act} {cs cs' : List Frame} {w : World} {v : Value} (ho : o0.op = .call { callee := .builtin .recover, args := #[], argTypes := ts }) (hg : o0.guard = none)
    (hrec : recoverD cs = some (v, cs') ∨ (recoverD cs = none ∧ v = .nilIface ∧ cs' = cs)) (h : wpList P (o0 :: l).toArray (fun e a' w' => Q e a' cs' w') l (a.put o0.dst v) w) : (Code.region id (o0 :: l).toArray false).wpS P Q a cs w := by
  intro b k hb hro
  have hr : (execOp a.eval o0).run P w = .ok .recover w := by unfold execOp; rw [ho]; rfl
  have hw : Region.wanted o0 (yielded (o0 :: l).toArray a.tmps) = true := by simp [Region.wanted, hg]
  have h0 : (o0 :: l).toArray[0]? = some o0 := rfl
  have e : List.range (o0 :: l).toArray.size = 0 :: List.range' 1 l.length := by
    rw [List.size_toArray, List.length_cons, List.range_eq_range', List.range'_succ]
  have h1 : step P (lone (b.at a (.code (.region id (o0 :: l).toArray false) :: k)) cs w) = .next (lone (b.at a (.inRegion (o0 :: l).toArray (0 :: List.range' 1 l.length) :: k)) cs w) := by rw [← e]; exact step_region
  have h2 : step P (lone (b.at a (.inRegion (o0 :: l).toArray (0 :: List.range' 1 l.length) :: k)) cs w) = .next (lone (b.at (a.put o0.dst v) (.inRegion (o0 :: l).toArray (List.range' 1 l.length) :: k)) cs' w) := by
    have hs := stepG_op (P := P) (b := b) (k := k) (cs := cs) (w := w) (rest := List.range' 1 l.length) h0 hw
    have hfin : ∀ v, (b.at a (.inRegion (o0 :: l).toArray (0 :: List.range' 1 l.length) :: k)).finish v = b.at (a.put o0.dst v) (.inRegion (o0 :: l).toArray (List.range' 1 l.length) :: k) := by
      intro v; rw [Frame.finish_at, h0]; rfl
    have hk : (b.at a (.inRegion (o0 :: l).toArray (0 :: List.range' 1 l.length) :: k)).kind = .deferred := hb
    have htr := tryRecover_deferred hk cs
    refine step_lone_go ?_
    rw [hs, ← hfin]
    simp only [Frame.at] at htr ⊢
    rcases hrec with hrec | ⟨hrec, rfl, rfl⟩
    · simp [stepG.apply, hr, htr, hrec]
    · simp [stepG.apply, hr, htr, hrec]
  have h3 : wpOps P (o0 :: l).toArray (fun e a' w' => Q e a' cs' w') (List.range' 1 l.length) (a.put o0.dst v) w := by
    rw [wpOps_eq_wpList l 1 (fun j => by simp [Nat.add_comm 1 j])]
    exact h
  obtain ⟨ex, a', w', hq, harr⟩ := wp_ops _ _ _ h3 b k cs'
  exact ⟨ex, a', cs', w', hq, .of_steps (.head h1 (.one h2)) harr⟩
def ptrsA (m : Nat) : List AV := (List.range m).map fun i => .ptr (1000 + i) 0
def pendV : Option PV → PV
  | none => .val .nilIface
  | some x => x
def EndR (B' : List Blk) (e : Exit) (S : AS) : Prop := (e = .ret ∨ e = .normal) ∧ HasB S B'
theorem fn_ofDef {f : FuncId} {fn : Func} {id d0 : Nat} {o0 : Oper} {l : List Oper} {rest : Code} {ts : Array TypeId} {B B' : List Blk} {px : Option PV} (hf : P.funcs[f]? = some fn) (hb : fn.body = some (.seq (.region id (o0 :: l).toArray false) rest)) (hn : fn.ntmps = n) (hle : B.length ≤ n) (h1000 : n ≤ 1000)
    (ho : o0.op = .call { callee := .builtin .recover, args := #[], argTypes := ts }) (hg : o0.guard = none) (hd : o0.dst = some d0) (hdn : d0 < n) (hr : fn.results = #[])
    (h : zY P n (o0 :: l).toArray l { t := (d0, .p (pendV px)) :: zipA 0 (ptrsA B.length), s := numB 1000 B } (yH (fun S => zX P n rest S (EndR B')) (EndR B'))) : FnD P f B px B' := by
  intro M hh ρ vs u hand hs0 hvl hvs hpend
  refine callsD_of_wpS hf hb fun c₀ cs hu => ?_
  have hm : ({ c₀ with mode := u } : Frame) = c₀ := by subst hu; rfl
  obtain ⟨v, u', hrec, hset, hv⟩ : ∃ v u', ((recoverD (c₀ :: cs) = some (v, { c₀ with mode := u' } :: cs)) ∨ (recoverD (c₀ :: cs) = none ∧ v = .nilIface ∧ { c₀ with mode := u' } :: cs = c₀ :: cs)) ∧ settle u' = .returning ∧ Rep (Mut M (asB B) ρ) hh.w (pendV px) v := by
    cases px with
    | none =>
      obtain rfl : u = .returning := hpend
      exact ⟨.nilIface, .returning, .inr ⟨by simp [recoverD, hu], rfl, by rw [hm]⟩, rfl, .val _⟩
    | some x =>
      obtain ⟨v, rfl, hv⟩ := hpend
      exact ⟨v, .panicking [{ v := v, recovered := true }], .inl (by simp [recoverD, hu]), by simp [settle], hv⟩
  have hsat : Sat M n hh { t := zipA 0 (ptrsA B.length), s := numB 1000 B } ρ { tmps := vs.toArray ++ Array.replicate (fn.ntmps - vs.toArray.size) undef, defers := [] } hh.w := by
    refine ⟨hs0.below, hs0.out, hs0.tab, by simp; omega, hs0.defers, fun i => ?_, hs0.blks, hs0.mine, hs0.fix, fun k hk => hh.lo k (by omega), hs0.dist⟩
    show yB _ _ _ ((look (zipA 0 (ptrsA B.length)) i).getD .any) _
    rw [look_zipA]
    simp only [Nat.zero_le, if_true, Nat.sub_zero]
    cases hx : (ptrsA B.length)[i]? with
    | none => exact .any _
    | some x =>
      have hi : i < vs.length := by
        have := (List.getElem?_eq_some_iff.1 hx).1
        simp [ptrsA] at this
        omega
      have e : ({ tmps := vs.toArray ++ Array.replicate (fn.ntmps - vs.toArray.size) undef, defers := [] } : Act).tmps.getD i undef = vs[i] := by
        simp [Array.getD_eq_getD_getElem?, Array.getElem?_append, hi]
      rw [e]
      have hx2 : x = .ptr (1000 + i) 0 := by
        unfold ptrsA at hx
        rw [List.getElem?_map, List.getElem?_range (by omega)] at hx
        exact (Option.some.inj hx).symm
      subst hx2
      exact hvs i vs[i] (List.getElem?_eq_getElem hi)
  have hsat2 := hsat.put hdn (.p hv)
  have fin : ∀ e S1 ρ1 a1 w1, EndR B' (bare e) S1 → Sat M n hh S1 ρ1 a1 w1 → bodyPostS P fn c₀ cs (fun e u' w' => settle u' = .returning ∧ (∃ v, e = .returned v) ∧ ∃ ρ', Sat M 0 hh (asB B') ρ' wI w') e a1 ({ c₀ with mode := u' } :: cs) w1 := by
    rintro e S1 ρ1 a1 w1 ⟨he, hB⟩ hs1
    have main : a1.defers = [] ∧ ∃ u'', ({ c₀ with mode := u' } :: cs : List Frame) = { c₀ with mode := u'' } :: cs ∧ ∃ v, (results fn a1.tmps).run P w1 = .ok v w1 ∧ (settle u'' = .returning ∧ (∃ v', Ending.returned v = .returned v') ∧ ∃ ρ', Sat M 0 hh (asB B') ρ' wI w1) :=
      ⟨hs1.defers.trans hs0.defers.symm, u', rfl, _, results_none hr _ _ _, hset, ⟨_, rfl⟩, ρ1, (hs1.asB hs0.defers.symm hB).1⟩
    cases e with
    | ret => exact main
    | normal => exact main
    | exit id => rcases he with h | h <;> cases h
    | goto l => rcases he with h | h <;> cases h
    | panic c => rcases he with h | h <;> cases h
    | outgrown => rcases he with h | h <;> cases h
  refine wpS_seq (wpS_recover ho hg hrec ?_)
  rw [hd]
  refine h M hh ρ _ hh.w _ hsat2 fun e S1 ρ1 a1 w1 hk hs1 _ => ?_
  cases e with
  | normal => exact wpS_of_wp (hk M hh ρ1 a1 w1 _ hs1 fun e S2 ρ2 a2 w2 hk2 hs2 _ => fin e S2 ρ2 a2 w2 hk2 hs2)
  | ret => exact fin .ret S1 ρ1 a1 w1 hk hs1
  | exit id => exact fin (.exit id) S1 ρ1 a1 w1 hk hs1
  | goto l => exact fin (.goto l) S1 ρ1 a1 w1 hk hs1
  | panic c => exact fin (.panic c) S1 ρ1 a1 w1 hk hs1
  | outgrown => exact fin .outgrown S1 ρ1 a1 w1 hk hs1
end
end Go.Proofs.YthnmfmdkdngggaaDoor
/- Functions with one deferred call. Generic over the program. -/
namespace Go.Proofs.YthnmfmdkdngggaaDoor
set_option maxRecDepth 100000
set_option maxHeartbeats 16000000
open Go Go.RowKit
/-- how the body ends that has deferred function fd over its variables dj -/
def EndD (P : Program) (fn : Func) (fd : FuncId) (dj : List Nat) (x : AV) (B' : List Blk) (e : Exit) (S : AS) : Prop :=
  ∃ (px : Option PV) (Bd Bd' : List Blk), FnD P fd Bd px Bd' ∧ ((px = none ∧ (e = .ret ∨ e = .normal)) ∨ (∃ y, px = some y ∧ e = .panic [] ∧ S.x = .p y)) ∧ Hands S dj Bd ∧ Bd'.length = Bd.length ∧ Bd'.all (Blk.okE Bd.length) = true ∧
    GivesA P fn (S.after dj Bd') x ∧ HasB (S.after dj Bd') B'
theorem look_mem2 {α : Type} : ∀ {l : List (Nat × α)} {i : Nat} {x : α}, look l i = some x → (i, x) ∈ l
  | [], _, _, h => by simp [look] at h
  | (k, y) :: r, i, x, h => by
    unfold look at h
    split at h
    · rename_i hk
      obtain rfl := Option.some.inj h
      subst hk
      simp
    · exact List.mem_cons_of_mem _ (look_mem2 h)
section
variable {P : Program} {n : Nat}
def PendA (M : Nat → Nat → Prop) (w : World) : Option PV → FrameMode → List Value → Prop
  | none, u, pv => u = .returning ∧ pv = []
  | some x, u, pv => ∃ v, pv = [v] ∧ u = .panicking [{ v := v, recovered := false }] ∧ Rep M w x v
/-- the deferred call, out of the frame -/
theorem def_call {fd : FuncId} {dj : List Nat} {px : Option PV} {Bd Bd' : List Blk} {M : Nat → Nat → Prop} {w0 : Home} {S : AS} {ρ : Nat → Value} {a : Act} {w : World} {cvs pv : List Value} {u : FrameMode} (hfd : FnD P fd Bd px Bd') (hh : Hands S dj Bd) (hl : Bd'.length = Bd.length) (hok : Bd'.all (Blk.okE Bd.length) = true)
    (hs : Sat M n w0 S ρ a w) (hcv : cvs.length = dj.length) (hcw : ∀ (i : Nat) k v, dj[i]? = some k → cvs[i]? = some v → ∃ g, zU (ρ k) = some g ∧ v = .pointer (some ⟨g, 0, none⟩)) (hp : PendA (Mut M S ρ) w px u pv) :
    CallsD P fd cvs.toArray u w fun e u' w' => settle u' = .returning ∧ (∃ v, e = .returned v) ∧ Sat M n w0 (S.after dj Bd') ρ a w' := by
  have hdl : dj.length = Bd.length := hh.len
  have hptr : (ptrsA Bd.length).length = Bd.length := by simp [ptrsA]
  have hat : ∀ i, i < Bd.length → (ptrsA Bd.length)[i]? = some (.ptr (1000 + i) 0) := fun i hi => by
    unfold ptrsA
    rw [List.getElem?_map, List.getElem?_range hi]
    rfl
  have c := call_effC (C := fun R0 => CallsD P fd cvs.toArray u w fun e u' w' => settle u' = .returning ∧ (∃ v, e = .returned v) ∧ R0 e w') (fun R1 R2 h12 hc => hc.mono fun e u' w' ⟨q1, q2, q3⟩ => ⟨q1, q2, h12 e w' q3⟩)
    (xs := ptrsA Bd.length ++ px.toList.map AV.p) (ids := dj) (B := Bd) (B' := Bd') (ev := .ret .any) hh hl hok (by
      rw [List.all_append, Bool.and_eq_true]
      refine ⟨List.all_eq_true.2 fun y hy => ?_, List.all_eq_true.2 fun y hy => ?_⟩
      · obtain ⟨i, hi, rfl⟩ := List.mem_map.1 hy
        have := List.mem_range.1 hi
        simp [AV.okE, this]
      · obtain ⟨z, _, rfl⟩ := List.mem_map.1 hy
        rfl) hs (vs := cvs ++ pv) (fun i y v h1 h2 => ?_) (fun M' h' ρ' hw _ hand hsat hreps _ => ?_)
  · exact c.mono fun e u' w' ⟨q1, q2, q3, _⟩ => ⟨q1, q2, q3⟩
  · by_cases hi : i < Bd.length
    · rw [List.getElem?_append_left (by omega)] at h1 h2
      rw [hat i hi] at h1
      obtain rfl := Option.some.inj h1
      have hk : dj[i]? = some (dj[i]'(by omega)) := List.getElem?_eq_getElem _
      obtain ⟨g, hg1, rfl⟩ := hcw i _ v hk h2
      show yB _ ρ w (.ptr (sig dj (1000 + i)) 0) _
      rw [sig_at hk]
      exact .ptr _ 0 g hg1
    · rw [List.getElem?_append_right (by omega), hptr] at h1
      rw [List.getElem?_append_right (by omega), hcv, hdl] at h2
      cases px with
      | none => simp at h1
      | some x =>
        obtain ⟨v', rfl, _, hr⟩ := hp
        obtain ⟨j, hj⟩ : ∃ j, i - Bd.length = j := ⟨_, rfl⟩
        rw [hj] at h1 h2
        cases j with
        | zero =>
          simp at h1 h2
          subst h1
          subst h2
          exact .p hr
        | succ j => simp at h1
  · subst hw
    have hpend : Pending (Mut M' (asB Bd) ρ') h'.w px u := by
      cases px with
      | none => exact hp.1
      | some x =>
        obtain ⟨v', rfl, hu, _⟩ := hp
        refine ⟨v', hu, ?_⟩
        have h3 := hreps Bd.length (.p x) v' (by rw [List.getElem?_append_right (by omega), hptr]; simp) (by rw [List.getElem?_append_right (by omega), hcv, hdl]; simp)
        cases h3 with
        | p h4 => exact h4
    refine (hfd M' h' ρ' cvs u hand hsat (by omega) (fun i v hv => hreps i _ v ?_ ?_) hpend).mono fun e u' w' ⟨q1, ⟨v, q2⟩, ρ2, q3⟩ => ⟨q1, ⟨v, q2⟩, ρ2, q3, v, q2, .any _⟩
    · have hi := (List.getElem?_eq_some_iff.1 hv).1
      rw [List.getElem?_append_left (by omega)]
      exact hat i (by omega)
    · rw [List.getElem?_append_left (List.getElem?_eq_some_iff.1 hv).1]
      exact hv
/-- What is behind the body, once the deferred call has been made. -/
theorem leave_one {fn : Func} {fd : FuncId} {dj : List Nat} {x : AV} {B' : List Blk} {M : Nat → Nat → Prop} {h : Home} {D : List Deferred} {S : AS} {ρ : Nat → Value} {a : Act} {w : World} {e : Exit} {cvs : List Value} {R : Ending → World → Prop} [hcf : HasFn P fd]
    (hs : Sat M n { h with d := D } S ρ a w) (hd : h.d = []) (hD : D = [{ target := .fn (.func fd) cvs.toArray, args := #[] }]) (he : EndD P fn fd dj x B' (bare e) S) (hex : ExOK M S ρ w e) (hcv : cvs.length = dj.length)
    (hcw : ∀ (i : Nat) k v, dj[i]? = some k → cvs[i]? = some v → ∃ g, zU (ρ k) = some g ∧ v = .pointer (some ⟨g, 0, none⟩))
    (hR : ∀ e w', (∃ ρ', Sat M 0 h (asB B') ρ' wI w' ∧ EvOK (Mut M (asB B') ρ') ρ' w' (.ret x) e) → R e w') : bodyPostD P fn R e a w := by
  obtain ⟨px, Bd, Bd', hfd, hpx, hh, hl, hok, hg, hB⟩ := he
  have hinv : (invoke (.fn (.func fd) cvs.toArray) #[]).run P w = .ok (.enter fd cvs.toArray) w := by simp [invoke, hcf.h]
  have hdf : a.defers = [{ target := .fn (.func fd) cvs.toArray, args := #[] }] := hs.defers.trans hD
  have fin : ∀ (u : FrameMode) (pv : List Value), u ≠ .run → PendA (Mut M S ρ) w px u pv → Leaves P fn a.tmps R a.defers u w := by
    intro u pv hu hp
    rw [hdf]
    refine leaves_cons hu hinv ((def_call hfd hh hl hok hs hcv hcw hp).mono fun e u' w' ⟨q1, ⟨v, q2⟩, q3⟩ => ?_)
    subst q2
    show Leaves P fn a.tmps R [] (settle u') w'
    rw [q1]
    obtain ⟨v', r1, r2⟩ := gives_res q3 hd hg hB
    exact ⟨v', r1, hR _ _ r2⟩
  rcases hpx with ⟨rfl, he⟩ | ⟨y, rfl, he, hy⟩
  · cases e with
    | ret => exact fin .returning [] (by simp) ⟨rfl, rfl⟩
    | normal => exact fin .returning [] (by simp) ⟨rfl, rfl⟩
    | exit id => rcases he with h | h <;> cases h
    | goto l => rcases he with h | h <;> cases h
    | panic c => rcases he with h | h <;> cases h
    | outgrown => rcases he with h | h <;> cases h
  · cases e with
    | panic c =>
      obtain ⟨v, rfl, hv⟩ := hex
      rw [hy] at hv
      cases hv with
      | p hv => exact fin (.panicking [{ v := v, recovered := false }]) [v] (by simp) ⟨v, rfl, rfl, hv⟩
    | ret => cases he
    | normal => cases he
    | exit id => cases he
    | goto l => cases he
    | outgrown => cases he
theorem fn_ofD {f : FuncId} {fn : Func} {c0 rest : Code} {id d fd : Nat} {o1 o2 : Oper} {caps : Array Operand} {ts : Array TypeId} {args : List AV} {B B' Bi Bi' : List Blk} {x : AV} {S1 : AS} {dids dj ids : List Nat} {T : List (Nat × AV)} [hcf : HasFn P fd]
    (hf : P.funcs[f]? = some fn) (hb : fn.body = some (.seq c0 (.seq (.region id [o1, o2].toArray false) rest))) (hn : fn.ntmps = n) (hle : args.length ≤ n) (h1000 : n ≤ 1000)
    (h0 : zX P n c0 { t := zipA 0 args, s := numB 1000 B } (fun e S => e = .normal ∧ S = S1))
    (hg1 : o1.guard = none) (hd1 : o1.dst = some d) (hdn : d < n) (ho1 : o1.op = .makeFunc (.func fd) #[] caps) (hc : readIds (caps.toList.map S1.get) = some dids)
    (hg2 : o2.guard = none) (hd2 : o2.dst = none) (ho2 : o2.op = .defer { callee := .value (.tmp d), args := #[], argTypes := ts })
    (hdj : dids = dj.map (sig ids)) (hdr : dj.all (fun k => decide (1000 ≤ k ∧ k < 1000 + Bi.length)) = true)
    (hh : Hands S1 ids Bi) (hBi' : Bi'.length = Bi.length) (hok' : Bi'.all (Blk.okE Bi.length) = true)
    (hT : T.all (fun p => p.2.okE Bi.length) = true) (hT1 : ∀ p ∈ T, S1.tmp p.1 = p.2.ren (sig ids) ∧ d ≠ p.1)
    (h2 : zX P n rest { t := T, s := numB 1000 Bi } (EndD P fn fd dj x Bi')) (hx : x.okE Bi.length = true) (hxr : x.ren (sig ids) = x) (hB' : HasB (S1.after ids Bi') B') : FnE P f args B (.ret x) B' := by
  intro M hh0 ρ vs hand hs0 hvl hvs
  refine calls_of_wp_defers hf hb ?_
  have hsat : Sat M n hh0 { t := zipA 0 args, s := numB 1000 B } ρ { tmps := vs.toArray ++ Array.replicate (fn.ntmps - vs.toArray.size) undef, defers := [] } hh0.w := by
    refine ⟨hs0.below, hs0.out, hs0.tab, by simp; omega, hs0.defers, fun i => ?_, hs0.blks, hs0.mine, hs0.fix, fun k hk => hh0.lo k (by omega), hs0.dist⟩
    show yB _ _ _ ((look (zipA 0 args) i).getD .any) _
    rw [look_zipA]
    simp only [Nat.zero_le, if_true, Nat.sub_zero]
    cases hx : args[i]? with
    | none => exact .any _
    | some x =>
      have hi : i < vs.length := by rw [hvl]; exact (List.getElem?_eq_some_iff.1 hx).1
      have e : ({ tmps := vs.toArray ++ Array.replicate (fn.ntmps - vs.toArray.size) undef, defers := [] } : Act).tmps.getD i undef = vs[i] := by
        simp [Array.getD_eq_getD_getElem?, Array.getElem?_append, hi]
      rw [e]
      exact hvs i x vs[i] hx (List.getElem?_eq_getElem hi)
  refine wp_seq (h0 M hh0 ρ _ hh0.w _ hsat ?_)
  rintro e S' ρ1 a1 w1 ⟨he, rfl⟩ hs1 _
  cases e with
  | ret => cases he
  | exit id => cases he
  | goto l => cases he
  | panic c => cases he
  | outgrown => cases he
  | normal =>
  refine wp_seq (wp_region_lit ?_)
  unfold wpList
  rw [if_pos (by simp [Region.wanted, hg1])]
  refine .inl ((wO ho1 hc hd1 hdn).step M hh0 ρ1 a1 w1 _ _ hs1 fun ρ2 a2 w2 hs2 => ?_)
  rw [hd1] at hs2
  have hs2 : Sat M n hh0 (S'.put d (.clo fd dids)) ρ2 a2 w2 := hs2
  have hv := hs2.tmps d
  rw [AS.tmp_put, if_pos rfl] at hv
  obtain ⟨cvs, hva, hcl, hcw⟩ : ∃ cvs : List Value, a2.tmps.getD d undef = .func (.func fd) #[] cvs.toArray ∧ cvs.length = dids.length ∧ ∀ (i : Nat) k v, dids[i]? = some k → cvs[i]? = some v → ∃ g, zU (ρ2 k) = some g ∧ v = .pointer (some ⟨g, 0, none⟩) := by
    generalize a2.tmps.getD d undef = u at hv
    cases hv with
    | clo _ _ vs hl h => exact ⟨vs, rfl, hl, h⟩
  unfold wpList
  rw [if_pos (by simp [Region.wanted, hg2])]
  refine .inl ?_
  have hrun : (execOp a2.eval o2).run P w2 = .ok (.defer { target := .fn (.func fd) cvs.toArray, args := #[] }) w2 := by
    unfold execOp
    rw [ho2]
    have hev : a2.eval (.tmp d) = .func (.func fd) #[] cvs.toArray := hva
    simp [resolve, Deferred.ofValue, hev]
  unfold Oper.wp
  rw [hrun, Oper.upon_defer, hd2]
  show rest.wp P _ { a2 with defers := { target := .fn (.func fd) cvs.toArray, args := #[] } :: a2.defers } w2
  rw [hs2.defers.trans hs0.defers.symm]
  -- the rest, in its own frame
  have key := call_effC (C := fun R => ∀ R' : Ending → World → Prop, (∀ e w', R e w' → R' e w') → rest.wp P (bodyPostD P fn R') { a2 with defers := [{ target := .fn (.func fd) cvs.toArray, args := #[] }] } w2) (fun R1 R2 h12 hc R' h' => hc R' fun e w' q => h' e w' (h12 e w' q))
    (xs := T.map Prod.snd) (ids := ids) (B := Bi) (B' := Bi') (ev := .ret x) (S := S'.put d (.clo fd dids)) ⟨hh.len, hh.nodup, hh.ok, hh.at_⟩ hBi' hok' (by rw [List.all_map]; exact hT) hs2 (vs := T.map fun p => a2.tmps.getD p.1 undef) (fun i y v h1 h3 => ?_) (fun M' h' ρ' hw hd' hand' hsat' hreps hfix R' hR' => ?_)
  · refine key _ fun e w' ⟨q1, q2⟩ => ?_
    obtain ⟨r1, r2⟩ := q1.asB hs0.defers.symm hB'
    obtain ⟨v, rfl, r3⟩ := q2 hx
    rw [hxr] at r3
    exact ⟨ρ2, r1, v, rfl, r3.mono fun k c _ hk => r2 k c hk⟩
  · rw [List.getElem?_map, Option.map_eq_some_iff] at h1 h3
    obtain ⟨p, hp, rfl⟩ := h1
    obtain ⟨p', hp', rfl⟩ := h3
    rw [hp] at hp'
    obtain rfl := Option.some.inj hp'
    obtain ⟨q1, q2⟩ := hT1 p (List.mem_of_getElem? hp)
    rw [← q1]
    have := hs2.tmps p.1
    rw [AS.tmp_put, if_neg q2] at this
    exact this
  · have hfr : Sat M' n { h' with d := [{ target := .fn (.func fd) cvs.toArray, args := #[] }] } { t := T, s := numB 1000 Bi } ρ' { a2 with defers := [{ target := .fn (.func fd) cvs.toArray, args := #[] }] } w2 := by
      refine Sat.frame (a := { a2 with defers := [{ target := .fn (.func fd) cvs.toArray, args := #[] }] }) hsat' hs2.size h1000 fun i y hy => ?_
      obtain ⟨j, hj⟩ := List.getElem?_of_mem (look_mem2 hy)
      exact hreps j y _ (by rw [List.getElem?_map, hj]; rfl) (by rw [List.getElem?_map, hj]; rfl)
    refine h2 M' _ ρ' _ w2 _ hfr fun e S2 ρ3 a4 w4 hend hs4 hx4 => ?_
    refine leave_one hs4 hd' rfl hend hx4 (by rw [hcl, hdj, List.length_map]) (fun i k v hk hv => ?_) hR'
    have hkr := List.all_eq_true.1 hdr k (List.mem_of_getElem? hk)
    simp only [decide_eq_true_eq] at hkr
    obtain ⟨g, g1, g2⟩ := hcw i (sig ids k) v (by rw [hdj, List.getElem?_map, hk]; rfl) hv
    refine ⟨g, ?_, g2⟩
    have e1 : ρ3 k = ρ' k := by
      have := hand'.r (k - 1000) (by omega)
      rw [show 1000 + (k - 1000) = k by omega] at this
      exact hs4.fix k _ this
    rw [e1, hfix k hkr.1 hkr.2]
    exact g1
end
end Go.Proofs.YthnmfmdkdngggaaDoor
/- What recovers what a program over a log panics with: contracts. -/
namespace Go.Proofs.YthnmfmdkdngggaaDoor
set_option maxRecDepth 100000
set_option maxHeartbeats 16000000
open Go Go.RowKit
set_option linter.unusedSimpArgs false
attribute [local irreducible] zY zX Step zC Sub zL zI Fn
section
variable {P : Program} {n : Nat} {o : Oper} {S : AS} {d : Nat} {x : Operand}
theorem w_assertY {s t : Nat} {y : PV} {pl : List (Nat × Nat)} [hb : BuildA P t pl] (ho : o.op = .typeAssert x s t true) (hx : S.get x = .p (.ifc t y)) (hd : o.dst = some d) (hn : d < n) : zC P n o S [] (.tup [.p y, .p (.val (.bool true))]) none :=
  zC.pure hd hn fun S2 hg _ M w0 ρ a w hs => by
    have h1 := yR hs ((hg x (by rw [ho]; simp [Op.operands])).trans hx)
    generalize hv : a.eval x = v at h1
    cases h1 with
    | ifc _ _ u h =>
      refine ⟨.tuple [u, .bool true].toArray, w, ?_, Below.refl _ _, .tup _ [u, .bool true] rfl fun i c v hc hv => ?_⟩
      · unfold execOp
        rw [ho]
        simp [Instr.typeAssert, run_underlying hb.st, hv]
      · match i with
        | 0 => cases hc; cases hv; exact .p h
        | 1 => cases hc; cases hv; exact .p (.val _)
        | i + 2 => simp at hc
theorem w_assertN {s t : Nat} {pl : List (Nat × Nat)} {z : Value} {cl : List Value} [hb : BuildA P t pl] [hz : ZeroA P t z] (ho : o.op = .typeAssert x s t true) (hx : S.get x = .p (.val .nilIface)) (hc0 : z = .agg cl.toArray) (h1 : cl.all (fun u => u.oneCell') = true) (hd : o.dst = some d) (hn : d < n) : zC P n o S [] (.tup [.p (.agg (cl.map PV.val)), .p (.val (.bool false))]) none :=
  zC.pure hd hn fun S2 hg _ M w0 ρ a w hs => by
    have h2 := yR hs ((hg x (by rw [ho]; simp [Op.operands])).trans hx)
    generalize hv : a.eval x = v at h2
    cases h2
    refine ⟨.tuple [z, .bool false].toArray, w, ?_, Below.refl _ _, .tup _ [z, .bool false] rfl fun i c v hc hv => ?_⟩
    · unfold execOp
      rw [ho]
      simp [Instr.typeAssert, run_underlying hb.st, hv, hz.h]
    · match i with
      | 0 =>
        cases hc; cases hv
        subst hc0
        refine .p (.agg _ cl (by simp) (fun i c v hc hv => ?_) fun u hu => List.all_eq_true.1 h1 u hu)
        rw [List.getElem?_map, hv] at hc
        cases hc
        exact .val _
      | 1 => cases hc; cases hv; exact .p (.val _)
      | i + 2 => simp at hc
end
def accB (kind cell a b : Int) (data : PV) : Blk := .box 55 [.p (.val (.int .i64 kind)), .p (.val (.int .i64 cell)), .p (.val (.int .u64 a)), .p (.val (.int .u64 b)), .p data, .p y8]
def outB (e : Int) (is : Bool) (n w : Int) : Blk := .box 38 [.p (.val (.int .i64 e)), .p (.val (.bool is)), .p (.val (.int .i64 n)), .p (.val (.int .u64 w)), .p y8]
theorem run1_none (e : Int) (is : Bool) (n w : Int) (b : Bool) : FnD Tryd.prog 63 [accB 0 0 0 0 y8, outB e is n w, isB b] none [accB 0 0 0 0 y8, outB e is n w, isB b] := by
  refine fn_ofDef Tryd.func63 rfl Tryd.ntmps63 (Nat.le_of_ble_eq_true rfl) (by decide) rfl rfl rfl (by decide) rfl ?_
  repeat' (first | (refine zY.is ?_; first | refine zY.nil ?_ | refine zY.v rfl rfl (by first | exact zK rfl rfl rfl (by decide) | exact zF rfl rfl rfl rfl (by decide) | exact yD rfl rfl rfl (by decide) | exact w_assertN rfl rfl rfl rfl rfl (by decide)) ?_ | refine zY.m rfl rfl (zG rfl (by decide) rfl (by decide)) ?_ | refine zY.w rfl (by exact zB rfl rfl rfl rfl rfl (by rfl) (by exact Nat.le_of_ble_eq_true rfl) rfl rfl) ?_) | (refine zX.is ?_; first | refine zX.seq ?_ | (refine zX.isR (id := 1) ?_; refine zX.zV [0, 1, 2, 3, 4] [3, 1000, 1001, 1002] (by repeat' first | exact zZ.nil | apply zZ.p rfl | apply zZ.ptr rfl) (by repeat' first | exact zW.nil | apply zW.boxP rfl rfl) ?_; (refine zY.v rfl rfl (zQ rfl rfl rfl (by decide)) ?_); refine zY.nil ?_) | refine zX.yN rfl (by with_reducible rfl) ?_ | refine zX.skip ?_))
  all_goals exact ⟨by first | exact .inl rfl | exact .inr rfl, xK (by repeat' first | exact trivial | rfl | constructor)⟩
theorem run1_need (kind cell a b : Int) (data : PV) (e : Int) (is : Bool) (n w : Int) (c : Bool) : FnD Tryd.prog 63 [accB 0 0 0 0 y8, outB e is n w, isB c] (some (.ifc 119 (accV kind cell a b data))) [accB kind cell a b data, outB 0 false 0 0, isB false] := by
  refine fn_ofDef Tryd.func63 rfl Tryd.ntmps63 (Nat.le_of_ble_eq_true rfl) (by decide) rfl rfl rfl (by decide) rfl ?_
  repeat' (first | (refine zY.is ?_; first | refine zY.nil ?_ | refine zY.v rfl rfl (by first | exact zK rfl rfl rfl (by decide) | exact zF rfl rfl rfl rfl (by decide) | exact yD rfl rfl rfl (by decide) | exact w_assertY rfl rfl rfl (by decide)) ?_ | refine zY.m rfl rfl (zG rfl (by decide) rfl (by decide)) ?_ | refine zY.w rfl (by exact zB rfl rfl rfl rfl rfl (by rfl) (by exact Nat.le_of_ble_eq_true rfl) rfl rfl) ?_) | (refine zX.is ?_; first | refine zX.seq ?_ | (refine zX.isR (id := 1) ?_; refine zX.zV [0, 1, 2, 3, 4] [3, 1000, 1001, 1002] (by repeat' first | exact zZ.nil | apply zZ.p rfl | apply zZ.ptr rfl) (by repeat' first | exact zW.nil | apply zW.boxP rfl rfl) ?_; (refine zY.v rfl rfl (zQ rfl rfl rfl (by decide)) ?_); refine zY.nil ?_) | (refine zX.isR (id := 2) ?_; refine zX.zV [0, 1, 2, 3] [3, 1000, 1001, 1002] (by repeat' first | exact zZ.nil | apply zZ.ptr rfl) (by repeat' first | exact zW.nil | apply zW.boxP rfl rfl) ?_; (refine zY.v rfl rfl (zJ rfl rfl rfl (by decide)) ?_); (refine zY.v rfl rfl (zD rfl rfl rfl (by rfl) (by rfl) rfl (by decide)) ?_); (refine zY.v rfl rfl (zT rfl (by rfl) (by rfl) (by rfl) (by rfl) rfl (by decide)) ?_); (refine zY.w rfl (by exact zB rfl rfl rfl rfl rfl (by rfl) (by exact Nat.le_of_ble_eq_true rfl) rfl rfl) ?_); (refine zY.w rfl (by exact zB rfl rfl rfl rfl rfl (by rfl) (by exact Nat.le_of_ble_eq_true rfl) rfl rfl) ?_); (refine zY.w rfl (by exact zB rfl rfl rfl rfl rfl (by rfl) (by exact Nat.le_of_ble_eq_true rfl) rfl rfl) ?_); refine zY.nil ?_) | refine zX.yS rfl (by with_reducible rfl) ?_))
  all_goals exact ⟨by first | exact .inl rfl | exact .inr rfl, xK (by repeat' first | exact trivial | rfl | constructor)⟩
end Go.Proofs.YthnmfmdkdngggaaDoor
/- What an operation of records does, as a tree; and what it asks next, of a log: the program's: contracts. -/
namespace Go.Proofs.YthnmfmdkdngggaaDoor
set_option maxRecDepth 100000
set_option maxHeartbeats 16000000
open Go Go.RowKit
set_option linter.unusedSimpArgs false
set_option linter.unusedVariables false
attribute [local irreducible] zY zX Step zC Sub zL zI Fn
def opP (t k u v w : Int) : Pr OutI :=
  bif decide (k = 20) then (makeP t u w 0 0 0 0).bind fun x => .ret ⟨0, false, x⟩ else
  bif decide (k = 22) then (aliveP t u w).bind fun x => .ret ⟨0, x, 0⟩ else
  bif decide (k = 23) then (setP (ov1 v) (y9 t u 2) v).bind fun _ => .ret ⟨0, false, 0⟩ else
  bif decide (k = 7) then (saveP t u v).bind fun x => .ret ⟨0, x, 0⟩ else
  bif decide (k = 21) then (deadP t u w).bind fun x => .ret ⟨0, x, 0⟩ else .ret ⟨1, false, 0⟩
theorem decT {k n : Int} (h : decide (k = n) = true) : k = n := of_decide_eq_true h
theorem fine_op {t k u v w : Int} (h : OpOK t k u v w) : (opP t k u v w).wX yes :=
  .condB (fun _ => .bind (fine_make t u h.w U.zero U.zero U.zero U.zero) fun _ _ => trivial) fun _ => .condB (fun _ => .bind (fine_alive t u w) fun _ _ => trivial) fun _ =>
  .condB (fun e => .bind (fine_set (h.bit (.inr (decT e))) fun _ h => h) fun _ _ => trivial) fun _ => .condB (fun e => .bind (fine_save t u v (h.bit (.inl (decT e)))) fun _ _ => trivial) fun _ =>
  .condB (fun _ => .bind (fine_dead t u w) fun _ _ => trivial) fun _ => trivial
theorem next1_h (H : Hnd) (s0 : H.σ) {t k u v w : Int} (hO : OpOK t k u v w) : FnH H 37 [H.doA, .ptr 1003 0, .ptr 1004 0] [opB k u v w, vT t] outR (fun _ => [opB k u v w, vT t]) yes s0 (opP t k u v w) := by
  have z := U.zero
  have hw := hO.w
  unfold Hnd.doA
  refine vJ Tryd.func37 rfl Tryd.ntmps37 (Nat.le_of_ble_eq_true rfl) (by decide) (fine_op hO) fun hok hns => ?_
  repeat' ((refine zX.is ?_; first | refine zX.seq ?_ | (refine zX.isR (id := 0) ?_; refine zX.zV [0, 1, 2] [4, 1000, 1001, 1002, 1003, 1004] (by repeat' first | exact zZ.nil | apply zZ.ptr rfl | apply zZ.clo rfl) (by repeat' first | exact zW.nil | apply zW.boxP rfl rfl | apply zW.some rfl | apply zW.skip) ?_; (refine zY.m rfl rfl (zG rfl (by decide) rfl (by decide)) ?_); refine zY.nil ?_) | (refine zX.isR (id := 1) ?_; refine zX.zV [0, 1, 2, 4] [4, 1000, 1001, 1002, 1003, 1004] (by repeat' first | exact zZ.nil | apply zZ.ptr rfl | apply zZ.clo rfl) (by repeat' first | exact zW.nil | apply zW.boxP rfl rfl | apply zW.some rfl) ?_; (refine zY.v rfl rfl (zJ rfl rfl rfl (by decide)) ?_); (refine zY.v rfl rfl (zA rfl rfl rfl rfl rfl (by decide)) ?_); refine zY.nil ?_) | (refine zX.isR (id := 3) ?_; refine zX.zV [0, 1, 2, 4, 6] [4, 1000, 1001, 1002, 1003, 1004] (by repeat' first | exact zZ.nil | apply zZ.p rfl | apply zZ.ptr rfl | apply zZ.clo rfl) (by repeat' first | exact zW.nil | apply zW.boxP rfl rfl | apply zW.some rfl) ?_; (refine zY.v rfl rfl (yO rfl rfl rfl (by rfl) rfl (by decide)) ?_); (refine zY.v rfl rfl (zK rfl rfl rfl (by decide)) ?_); refine zY.nil ?_) | (refine zX.isR (id := 4) ?_; refine zX.zV [0, 1, 2, 4, 6] [4, 1000, 1001, 1002, 1003, 1004] (by repeat' first | exact zZ.nil | apply zZ.p rfl | apply zZ.ptr rfl | apply zZ.clo rfl) (by repeat' first | exact zW.nil | apply zW.boxP rfl rfl | apply zW.some rfl) ?_; (refine zY.v rfl rfl (zM rfl rfl rfl (by decide)) ?_); (refine zY.v rfl rfl (zA rfl rfl rfl rfl rfl (by decide)) ?_); (refine zY.v rfl rfl (zJ rfl rfl rfl (by decide)) ?_); (refine zY.v rfl rfl (zA rfl rfl rfl rfl rfl (by decide)) ?_); (refine zY.v rfl rfl (zJ rfl rfl rfl (by decide)) ?_); (refine zY.v rfl rfl (zA rfl rfl rfl rfl rfl (by decide)) ?_); (refine zY.v rfl rfl (zT rfl (by rfl) (by rfl) (by rfl) (by rfl) rfl (by decide)) ?_); (refine zY.ofT rfl (zI.held H [] rfl (by decide) (zH rfl) (by rfl) (by decide) (by exact yJ rfl (H.nk _).1 (by repeat' first | exact KB.refl | apply KB.kill | decide)) (by exact yJ rfl (H.nk _).2.1 (by repeat' first | exact KB.refl | apply KB.kill | decide)) (by exact yJ rfl (H.nk _).2.2 (by repeat' first | exact KB.refl | apply KB.kill | decide)) (by repeat' exact trivial) rfl rfl (fun _ => rfl) (fun _ => ⟨rfl, rfl⟩) (by assumption) (make_h H _ _ _ (hO.rec_ (.inl (decT (by assumption)))) hw z z z z) (fun x s e g hk => ?_) (fun q s e => ?_) ?_)); (refine zY.v rfl rfl (zJ rfl rfl rfl (by decide)) ?_); (refine zY.w rfl (by exact zB rfl rfl rfl rfl rfl (by rfl) (by exact Nat.le_of_ble_eq_true rfl) rfl rfl) ?_); refine zY.nil ?_) | (refine zX.isR (id := 5) ?_; refine zX.zV [0, 1, 2, 4, 6] [4, 1000, 1001, 1002, 1003, 1004] (by repeat' first | exact zZ.nil | apply zZ.p rfl | apply zZ.ptr rfl | apply zZ.clo rfl) (by repeat' first | exact zW.nil | apply zW.boxP rfl rfl | apply zW.some rfl) ?_; (refine zY.v rfl rfl (yO rfl rfl rfl (by rfl) rfl (by decide)) ?_); (refine zY.v rfl rfl (zK rfl rfl rfl (by decide)) ?_); refine zY.nil ?_) | (refine zX.isR (id := 6) ?_; refine zX.zV [0, 1, 2, 4, 6] [4, 1000, 1001, 1002, 1003, 1004] (by repeat' first | exact zZ.nil | apply zZ.p rfl | apply zZ.ptr rfl | apply zZ.clo rfl) (by repeat' first | exact zW.nil | apply zW.boxP rfl rfl | apply zW.some rfl) ?_; (refine zY.v rfl rfl (zM rfl rfl rfl (by decide)) ?_); (refine zY.v rfl rfl (zA rfl rfl rfl rfl rfl (by decide)) ?_); (refine zY.v rfl rfl (zJ rfl rfl rfl (by decide)) ?_); (refine zY.v rfl rfl (zA rfl rfl rfl rfl rfl (by decide)) ?_); (refine zY.v rfl rfl (zJ rfl rfl rfl (by decide)) ?_); (refine zY.v rfl rfl (zA rfl rfl rfl rfl rfl (by decide)) ?_); (refine zY.ofT rfl (zI.held H [] rfl (by decide) (zH rfl) (by rfl) (by decide) (by exact yJ rfl (H.nk _).1 (by repeat' first | exact KB.refl | apply KB.kill | decide)) (by exact yJ rfl (H.nk _).2.1 (by repeat' first | exact KB.refl | apply KB.kill | decide)) (by exact yJ rfl (H.nk _).2.2 (by repeat' first | exact KB.refl | apply KB.kill | decide)) (by repeat' exact trivial) rfl rfl (fun _ => rfl) (fun _ => ⟨rfl, rfl⟩) (by assumption) (alive_h H _ _ (hO.rec_ (.inr (.inr (.inl (decT (by assumption))))))) (fun x s e g hk => ?_) (fun q s e => ?_) ?_)); (refine zY.v rfl rfl (zJ rfl rfl rfl (by decide)) ?_); (refine zY.w rfl (by exact zB rfl rfl rfl rfl rfl (by rfl) (by exact Nat.le_of_ble_eq_true rfl) rfl rfl) ?_); refine zY.nil ?_) | (refine zX.isR (id := 7) ?_; refine zX.zV [0, 1, 2, 4, 6] [4, 1000, 1001, 1002, 1003, 1004] (by repeat' first | exact zZ.nil | apply zZ.p rfl | apply zZ.ptr rfl | apply zZ.clo rfl) (by repeat' first | exact zW.nil | apply zW.boxP rfl rfl | apply zW.some rfl) ?_; (refine zY.v rfl rfl (yO rfl rfl rfl (by rfl) rfl (by decide)) ?_); (refine zY.v rfl rfl (zK rfl rfl rfl (by decide)) ?_); refine zY.nil ?_) | (refine zX.isR (id := 8) ?_; refine zX.zV [0, 1, 2, 4, 6] [4, 1000, 1001, 1002, 1003, 1004] (by repeat' first | exact zZ.nil | apply zZ.p rfl | apply zZ.ptr rfl | apply zZ.clo rfl) (by repeat' first | exact zW.nil | apply zW.boxP rfl rfl | apply zW.some rfl) ?_; (refine zY.v rfl rfl (zM rfl rfl rfl (by decide)) ?_); (refine zY.v rfl rfl (zA rfl rfl rfl rfl rfl (by decide)) ?_); (refine zY.v rfl rfl (zJ rfl rfl rfl (by decide)) ?_); (refine zY.v rfl rfl (zA rfl rfl rfl rfl rfl (by decide)) ?_); (refine zY.v rfl rfl (zJ rfl rfl rfl (by decide)) ?_); (refine zY.v rfl rfl (zA rfl rfl rfl rfl rfl (by decide)) ?_); (refine zY.ofT rfl (zI.held H [] rfl (by decide) (zH rfl) (by rfl) (by decide) (by exact yJ rfl (H.nk _).1 (by repeat' first | exact KB.refl | apply KB.kill | decide)) (by exact yJ rfl (H.nk _).2.1 (by repeat' first | exact KB.refl | apply KB.kill | decide)) (by exact yJ rfl (H.nk _).2.2 (by repeat' first | exact KB.refl | apply KB.kill | decide)) (by repeat' exact trivial) rfl rfl (fun _ => rfl) (fun _ => ⟨rfl, rfl⟩) (by assumption) (setOp_h H _ (hO.rec_ (.inr (.inr (.inr (.inl (decT (by assumption))))))) (hO.bit (.inr (decT (by assumption))))) (fun x s e g hk => ?_) (fun q s e => ?_) ?_)); refine zY.nil ?_) | (refine zX.isR (id := 9) ?_; refine zX.zV [0, 1, 2, 4, 6] [4, 1000, 1001, 1002, 1003, 1004] (by repeat' first | exact zZ.nil | apply zZ.p rfl | apply zZ.ptr rfl | apply zZ.clo rfl) (by repeat' first | exact zW.nil | apply zW.boxP rfl rfl | apply zW.some rfl) ?_; (refine zY.v rfl rfl (yO rfl rfl rfl (by rfl) rfl (by decide)) ?_); (refine zY.v rfl rfl (zK rfl rfl rfl (by decide)) ?_); refine zY.nil ?_) | (refine zX.isR (id := 10) ?_; refine zX.zV [0, 1, 2, 4, 6] [4, 1000, 1001, 1002, 1003, 1004] (by repeat' first | exact zZ.nil | apply zZ.p rfl | apply zZ.ptr rfl | apply zZ.clo rfl) (by repeat' first | exact zW.nil | apply zW.boxP rfl rfl | apply zW.some rfl) ?_; (refine zY.v rfl rfl (zM rfl rfl rfl (by decide)) ?_); (refine zY.v rfl rfl (zA rfl rfl rfl rfl rfl (by decide)) ?_); (refine zY.v rfl rfl (zJ rfl rfl rfl (by decide)) ?_); (refine zY.v rfl rfl (zA rfl rfl rfl rfl rfl (by decide)) ?_); (refine zY.v rfl rfl (zJ rfl rfl rfl (by decide)) ?_); (refine zY.v rfl rfl (zA rfl rfl rfl rfl rfl (by decide)) ?_); (refine zY.ofT rfl (zI.held H [] rfl (by decide) (zH rfl) (by rfl) (by decide) (by exact yJ rfl (H.nk _).1 (by repeat' first | exact KB.refl | apply KB.kill | decide)) (by exact yJ rfl (H.nk _).2.1 (by repeat' first | exact KB.refl | apply KB.kill | decide)) (by exact yJ rfl (H.nk _).2.2 (by repeat' first | exact KB.refl | apply KB.kill | decide)) (by repeat' exact trivial) rfl rfl (fun _ => rfl) (fun _ => ⟨rfl, rfl⟩) (by assumption) (save_h H _ (hO.rec_ (.inr (.inr (.inr (.inr (decT (by assumption))))))) (hO.bit (.inl (decT (by assumption))))) (fun x s e g hk => ?_) (fun q s e => ?_) ?_)); (refine zY.v rfl rfl (zJ rfl rfl rfl (by decide)) ?_); (refine zY.w rfl (by exact zB rfl rfl rfl rfl rfl (by rfl) (by exact Nat.le_of_ble_eq_true rfl) rfl rfl) ?_); refine zY.nil ?_) | (refine zX.isR (id := 11) ?_; refine zX.zV [0, 1, 2, 4, 6] [4, 1000, 1001, 1002, 1003, 1004] (by repeat' first | exact zZ.nil | apply zZ.p rfl | apply zZ.ptr rfl | apply zZ.clo rfl) (by repeat' first | exact zW.nil | apply zW.boxP rfl rfl | apply zW.some rfl) ?_; (refine zY.v rfl rfl (yO rfl rfl rfl (by rfl) rfl (by decide)) ?_); (refine zY.v rfl rfl (zK rfl rfl rfl (by decide)) ?_); refine zY.nil ?_) | (refine zX.isR (id := 12) ?_; refine zX.zV [0, 1, 2, 4] [4, 1000, 1001, 1002, 1003, 1004] (by repeat' first | exact zZ.nil | apply zZ.ptr rfl | apply zZ.clo rfl) (by repeat' first | exact zW.nil | apply zW.boxP rfl rfl | apply zW.some rfl) ?_; (refine zY.v rfl rfl (zM rfl rfl rfl (by decide)) ?_); (refine zY.v rfl rfl (zA rfl rfl rfl rfl rfl (by decide)) ?_); (refine zY.v rfl rfl (zJ rfl rfl rfl (by decide)) ?_); (refine zY.v rfl rfl (zA rfl rfl rfl rfl rfl (by decide)) ?_); (refine zY.v rfl rfl (zJ rfl rfl rfl (by decide)) ?_); (refine zY.v rfl rfl (zA rfl rfl rfl rfl rfl (by decide)) ?_); (refine zY.ofT rfl (zI.held H [] rfl (by decide) (zH rfl) (by rfl) (by decide) (by exact yJ rfl (H.nk _).1 (by repeat' first | exact KB.refl | apply KB.kill | decide)) (by exact yJ rfl (H.nk _).2.1 (by repeat' first | exact KB.refl | apply KB.kill | decide)) (by exact yJ rfl (H.nk _).2.2 (by repeat' first | exact KB.refl | apply KB.kill | decide)) (by repeat' exact trivial) rfl rfl (fun _ => rfl) (fun _ => ⟨rfl, rfl⟩) (by assumption) (dead_h H _ _ (hO.rec_ (.inr (.inl (decT (by assumption)))))) (fun x s e g hk => ?_) (fun q s e => ?_) ?_)); (refine zY.v rfl rfl (zJ rfl rfl rfl (by decide)) ?_); (refine zY.w rfl (by exact zB rfl rfl rfl rfl rfl (by rfl) (by exact Nat.le_of_ble_eq_true rfl) rfl rfl) ?_); refine zY.nil ?_) | (refine zX.isR (id := 2) ?_; refine zX.zV [4] [4, 1000, 1001, 1002, 1003, 1004] (by repeat' first | exact zZ.nil | apply zZ.ptr rfl) (by repeat' first | exact zW.nil | apply zW.boxP rfl rfl | apply zW.some rfl) ?_; (refine zY.v rfl rfl (zJ rfl rfl rfl (by decide)) ?_); (refine zY.w rfl (by exact zB rfl rfl rfl rfl rfl (by rfl) (by exact Nat.le_of_ble_eq_true rfl) rfl rfl) ?_); refine zY.nil ?_) | (refine zX.isR (id := 13) ?_; refine zX.zV [4] [4, 1000, 1001, 1002, 1003, 1004] (by repeat' first | exact zZ.nil | apply zZ.ptr rfl) (by repeat' first | exact zW.nil | apply zW.boxP rfl rfl | apply zW.some rfl) ?_; (refine zY.v rfl rfl (zD rfl rfl rfl (by rfl) (by rfl) rfl (by decide)) ?_); (refine zY.w rfl (by exact zB rfl rfl rfl rfl rfl (by rfl) (by exact Nat.le_of_ble_eq_true rfl) rfl rfl) ?_); refine zY.nil ?_) | refine zX.cond rfl (fun h => ?_) (fun h => ?_) | refine zX.block ?_ | refine zX.ret ?_))
  all_goals (first | exact fun e => hns (by clear hns; simp only [opP, run_bind, yQ, yY, Held.zO, Held.z8, Held.zP, cond_true, cond_false, *]) | exact .pan (q := q) rfl (by repeat' first | exact trivial | rfl | constructor) (by repeat' first | exact trivial | exact ⟨_, rfl, rfl⟩ | constructor) (by simp only [opP, run_bind, yQ, yY, Held.zO, Held.z8, Held.zP, cond_true, cond_false, *]) | exact .ret (x := ⟨_, _, _⟩) (by exact .inl rfl) (by exact .p rfl (.cellN rfl rfl (by rfl) (by rfl))) (by repeat' first | exact trivial | rfl | exact yJ rfl (H.nk _).1 (by repeat' first | exact KB.refl | apply KB.kill | decide) | exact yJ rfl (H.nk _).2.1 (by repeat' first | exact KB.refl | apply KB.kill | decide) | exact yJ rfl (H.nk _).2.2 (by repeat' first | exact KB.refl | apply KB.kill | decide) | constructor) (by simp only [opP, run_bind, yQ, yY, Held.zO, Held.z8, Held.zP, cond_true, cond_false, *]))
/-- the frame behind Run's results -/
def runS1 (k u v w t : Int) (L : List xM) : AS := { t := [(6, .ptr 6 0), (5, .ptr 5 0), (4, .ptr 4 0), (3, .ptr 3 0), (0, .clo 37 [1000, 1001]), (1, .p (logV L))], s := [(6, isB false), (5, outB 0 false 0 0), (4, accB 0 0 0 0 y8), (3, logB L), (1000, opB k u v w), (1001, vT t)] }
def runT : List (Nat × AV) := [(0, .clo 37 [1004, 1005]), (3, .ptr 1000 0), (4, .ptr 1001 0), (5, .ptr 1002 0), (6, .ptr 1003 0)]
theorem run_done (L : List xM) (hL : LogOK L) {t k u v w : Int} (h : OpOK t k u v w) {o : OutI} {j : Nat} (hm : (opP t k u v w).run (wK L) 0 = .done o j) :
    FnE Tryd.prog 36 [.clo 37 [1000, 1001], .p (logV L)] [opB k u v w, vT t] (.ret (.tup ([accV 0 0 0 0 y8, outV o.e o.is 0 o.w, .val (.bool true)].map .p))) [opB k u v w, vT t] := by
  have hn := (next1_h (hLog L hL) (0 : Nat) h).done (Nat.zero_le _) hm
  have hn2 : FnE Tryd.prog 37 [.clo 64 [1000, 1001], .ptr 1003 0, .ptr 1004 0] [atB 0, logB L, isB false, opB k u v w, vT t] (.ret (outR o)) [atB j, logB L, isB false, opB k u v w, vT t] := hn.2.2
  refine fn_ofD (S1 := runS1 k u v w t L) (ids := [3, 4, 5, 6, 1000, 1001]) (Bi := [logB L, accB 0 0 0 0 y8, outB 0 false 0 0, isB false, opB k u v w, vT t]) (Bi' := [logB L, accB 0 0 0 0 y8, outB o.e o.is 0 o.w, isB true, opB k u v w, vT t]) (T := runT) (dj := [1001, 1002, 1003])
    Tryd.func36 rfl Tryd.ntmps36 (Nat.le_of_ble_eq_true rfl) (by decide) ?_ rfl rfl (by decide) rfl (by rfl) rfl rfl rfl (by rfl) (by rfl) (zS (by decide) rfl (by repeat' first | exact trivial | rfl | constructor)) rfl rfl rfl (by
      intro p hp
      simp only [runT, List.mem_cons, List.not_mem_nil, or_false] at hp
      rcases hp with rfl | rfl | rfl | rfl | rfl <;> exact ⟨rfl, by decide⟩) ?_ rfl rfl (xK (by repeat' first | exact trivial | rfl | constructor))
  case refine_1 =>
    repeat' ((refine zX.is ?_; (refine zX.isR (id := 0) ?_; refine zX.zV [0, 1] [3, 4, 5, 6, 7, 1000, 1001] (by repeat' first | exact zZ.nil | apply zZ.p rfl | apply zZ.clo rfl) (by repeat' first | exact zW.nil | apply zW.boxP rfl rfl | apply zW.skip) ?_; (refine zY.m rfl rfl (w_boxS rfl rfl rfl (by decide)) ?_); (refine zY.m rfl rfl (zG rfl (by decide) rfl (by decide)) ?_); (refine zY.m rfl rfl (zG rfl (by decide) rfl (by decide)) ?_); (refine zY.m rfl rfl (zG rfl (by decide) rfl (by decide)) ?_); refine zY.nil ?_)))
    exact ⟨rfl, rfl⟩
  case refine_2 =>
    unfold runT
    repeat' ((refine zX.is ?_; first | refine zX.seq ?_ | (refine zX.isR (id := 2) ?_; refine zX.zV [0, 3, 4, 5, 6] [3, 4, 5, 6, 7, 1000, 1001, 1002, 1003, 1004, 1005] (by repeat' first | exact zZ.nil | apply zZ.ptr rfl | apply zZ.clo rfl) (by repeat' first | exact zW.nil | apply zW.boxP rfl rfl | apply zW.skip) ?_; (refine zY.m rfl rfl (zG rfl (by decide) rfl (by decide)) ?_); (refine zY.w rfl (by exact zB rfl rfl rfl rfl rfl (by rfl) (by exact Nat.le_of_ble_eq_true rfl) rfl rfl) ?_); refine zY.nil ?_) | (refine zX.isR (id := 3) ?_; refine zX.zV [0, 3, 4, 5, 6, 7] [3, 4, 5, 6, 7, 1000, 1001, 1002, 1003, 1004, 1005] (by repeat' first | exact zZ.nil | apply zZ.ptr rfl | apply zZ.clo rfl) (by repeat' first | exact zW.nil | apply zW.boxP rfl rfl | apply zW.skip) ?_; (refine zY.v rfl rfl (zM rfl rfl rfl (by decide)) ?_); (refine zY.v rfl rfl (wO rfl (by rfl) rfl (by decide)) ?_); (refine zY.ofT rfl (zI.wL [7, 1000, 1003, 1004, 1005] (hn2) rfl (by decide) (xZ rfl rfl) (by rfl) (zS (by decide) rfl (by repeat' first | exact trivial | rfl | constructor)) rfl rfl rfl rfl ?_)); (refine zY.w rfl (by exact zB rfl rfl rfl rfl rfl (by rfl) (by exact Nat.le_of_ble_eq_true rfl) rfl rfl) ?_); refine zY.nil ?_) | (refine zX.isR (id := 4) ?_; refine zX.yF [4, 5, 6] [3, 4, 5, 6, 7, 1000, 1001, 1002, 1003, 1004, 1005] (by repeat' first | exact zZ.nil | apply zZ.ptr rfl) (by repeat' first | exact zW.nil | apply zW.boxP rfl rfl | apply zW.skip) (zX.vU (by kernel_rfl) ?_); repeat' (first | refine xW.many (by rfl) ?_ | refine xB.cons ?_ ?_ | exact xB.nil | refine wE.v rfl rfl rfl (by first | exact zT rfl (by rfl) (by rfl) (by rfl) (by rfl) rfl (by decide) | exact zD rfl rfl rfl (by rfl) (by rfl) rfl (by decide)) ?_ | refine wE.w rfl rfl (by exact zB rfl rfl rfl rfl rfl (by rfl) (by exact Nat.le_of_ble_eq_true rfl) rfl rfl) ?_ | refine xW.fin (by rfl) ?_)) | refine zX.ret ?_))
    all_goals exact ⟨_, _, _, run1_none o.e o.is 0 o.w true, .inl ⟨rfl, by first | exact .inl rfl | exact .inr rfl⟩, zS (by decide) rfl (by repeat' first | exact trivial | rfl | constructor), rfl, rfl, .tup rfl (by decide) (.cons (.cellN rfl rfl (by rfl) (by rfl)) (.cons (.cellN rfl rfl (by rfl) (by rfl)) (.cons (.cell1 rfl rfl rfl) .nil))), xK (by repeat' first | exact trivial | rfl | constructor)⟩
theorem run_need (L : List xM) (hL : LogOK L) {t k u v w : Int} (h : OpOK t k u v w) {q : Ned} {j : Nat} (hm : (opP t k u v w).run (wK L) 0 = .need q j) :
    FnE Tryd.prog 36 [.clo 37 [1000, 1001], .p (logV L)] [opB k u v w, vT t] (.ret (.tup ([accQ q, outV 0 false 0 0, .val (.bool false)].map .p))) [(opB k u v w).forget, (vT t).forget] := by
  have hn := (next1_h (hLog L hL) (0 : Nat) h).need (Nat.zero_le _) hm
  have hn2 : FnE Tryd.prog 37 [.clo 64 [1000, 1001], .ptr 1003 0, .ptr 1004 0] [atB 0, logB L, isB false, opB k u v w, vT t] (.pan (needA (accQ q))) [atB j, logB L, isB false, (opB k u v w).forget, (vT t).forget] := hn.2
  unfold accQ at hn2 ⊢
  refine fn_ofD (S1 := runS1 k u v w t L) (ids := [3, 4, 5, 6, 1000, 1001]) (Bi := [logB L, accB 0 0 0 0 y8, outB 0 false 0 0, isB false, opB k u v w, vT t]) (Bi' := [logB L, accB q.kind q.cell q.a q.b q.d, outB 0 false 0 0, isB false, (opB k u v w).forget, (vT t).forget]) (T := runT) (dj := [1001, 1002, 1003])
    Tryd.func36 rfl Tryd.ntmps36 (Nat.le_of_ble_eq_true rfl) (by decide) ?_ rfl rfl (by decide) rfl (by rfl) rfl rfl rfl (by rfl) (by rfl) (zS (by decide) rfl (by repeat' first | exact trivial | rfl | constructor)) rfl rfl rfl (by
      intro p hp
      simp only [runT, List.mem_cons, List.not_mem_nil, or_false] at hp
      rcases hp with rfl | rfl | rfl | rfl | rfl <;> exact ⟨rfl, by decide⟩) ?_ rfl rfl (xK (by repeat' first | exact trivial | rfl | constructor))
  case refine_1 =>
    repeat' ((refine zX.is ?_; (refine zX.isR (id := 0) ?_; refine zX.zV [0, 1] [3, 4, 5, 6, 7, 1000, 1001] (by repeat' first | exact zZ.nil | apply zZ.p rfl | apply zZ.clo rfl) (by repeat' first | exact zW.nil | apply zW.boxP rfl rfl | apply zW.skip) ?_; (refine zY.m rfl rfl (w_boxS rfl rfl rfl (by decide)) ?_); (refine zY.m rfl rfl (zG rfl (by decide) rfl (by decide)) ?_); (refine zY.m rfl rfl (zG rfl (by decide) rfl (by decide)) ?_); (refine zY.m rfl rfl (zG rfl (by decide) rfl (by decide)) ?_); refine zY.nil ?_)))
    exact ⟨rfl, rfl⟩
  case refine_2 =>
    unfold runT
    repeat' (first | (refine zY.is ?_; first | refine zY.v rfl rfl (by first | exact wO rfl (by rfl) rfl (by decide) | exact zM rfl rfl rfl (by decide)) ?_ | refine zY.ofT rfl (zI.ePan [7, 1000, 1003, 1004, 1005] (hn2) (xZ rfl rfl) (by rfl) (zS (by decide) rfl (by repeat' first | exact trivial | rfl | constructor)) rfl rfl rfl rfl ?_)) | (refine zX.is ?_; first | refine zX.seq ?_ | (refine zX.isR (id := 2) ?_; refine zX.zV [0, 3, 4, 5, 6] [3, 4, 5, 6, 7, 1000, 1001, 1002, 1003, 1004, 1005] (by repeat' first | exact zZ.nil | apply zZ.ptr rfl | apply zZ.clo rfl) (by repeat' first | exact zW.nil | apply zW.boxP rfl rfl | apply zW.skip) ?_; (refine zY.m rfl rfl (zG rfl (by decide) rfl (by decide)) ?_); (refine zY.w rfl (by exact zB rfl rfl rfl rfl rfl (by rfl) (by exact Nat.le_of_ble_eq_true rfl) rfl rfl) ?_); refine zY.nil ?_) | (refine zX.isR (id := 3) ?_; refine zX.zV [0, 3, 4, 5, 6, 7] [3, 4, 5, 6, 7, 1000, 1001, 1002, 1003, 1004, 1005] (by repeat' first | exact zZ.nil | apply zZ.ptr rfl | apply zZ.clo rfl) (by repeat' first | exact zW.nil | apply zW.boxP rfl rfl | apply zW.skip) ?_)))
    all_goals exact ⟨_, _, _, run1_need q.kind q.cell q.a q.b q.d 0 false 0 0 false, .inr ⟨_, rfl, rfl, rfl⟩, zS (by decide) rfl (by repeat' first | exact trivial | rfl | constructor), rfl, rfl, .tup rfl (by decide) (.cons (.cellN rfl rfl (by rfl) (by rfl)) (.cons (.cellN rfl rfl (by rfl) (by rfl)) (.cons (.cell1 rfl rfl rfl) .nil))), xK (by repeat' first | exact trivial | rfl | constructor)⟩
theorem next_done (L : List xM) (hL : LogOK L) {t : Int} (c me : Int) {k u v w : Int} (h : OpOK t k u v w) {o : OutI} {j : Nat} (hm : (opP t k u v w).run (wK L) 0 = .done o j) :
    Fn Tryd.prog 14 [.val (.int .i64 t), .val (.int .i64 c), .val (.int .i64 me), opV k u v w, logV L] (.tup [accV 0 0 0 0 y8, outV o.e o.is 0 o.w, .val (.bool true)]) := by
  have hr := run_done L hL h hm
  refine yM Tryd.func14 rfl Tryd.ntmps14 (Nat.le_of_ble_eq_true rfl) ?_
  repeat' ((refine zX.is ?_; first | refine zX.seq ?_ | (refine zX.isR (id := 0) ?_; refine zX.zV [0, 3, 4] [5, 8, 10, 11] (by repeat' first | exact zZ.nil | apply zZ.p rfl) (by repeat' first | exact zW.nil | apply zW.skip) ?_; (refine zY.m rfl rfl (w_boxV rfl rfl rfl rfl (by decide)) ?_); (refine zY.m rfl rfl (yX rfl rfl rfl (by decide)) ?_); (refine zY.m rfl rfl (zG rfl (by decide) rfl (by decide)) ?_); (refine zY.m rfl rfl (zG rfl (by decide) rfl (by decide)) ?_); (refine zY.v rfl rfl (zK rfl rfl rfl (by decide)) ?_); refine zY.nil ?_) | (refine zX.isR (id := 1) ?_; refine zX.zV [4, 5, 8, 10, 11, 12] [5, 8, 10, 11] (by repeat' first | exact zZ.nil | apply zZ.p rfl | apply zZ.ptr rfl) (by repeat' first | exact zW.nil | apply zW.boxP rfl rfl) ?_; (refine zY.v rfl rfl (wO rfl (by rfl) rfl (by decide)) ?_); (refine zY.v rfl rfl (zQ rfl rfl rfl (by decide)) ?_); (refine zY.ofT rfl (zI.wL [8, 5] (hr) rfl (by decide) (zH rfl) (by rfl) (zS (by decide) rfl (by repeat' first | exact trivial | rfl | constructor)) rfl rfl rfl rfl ?_)); (refine zY.v rfl rfl (zF rfl rfl rfl rfl (by decide)) ?_); (refine zY.v rfl rfl (zF rfl rfl rfl rfl (by decide)) ?_); (refine zY.v rfl rfl (zF rfl rfl rfl rfl (by decide)) ?_); (refine zY.w rfl (by exact zB rfl rfl rfl rfl rfl (by rfl) (by exact Nat.le_of_ble_eq_true rfl) rfl rfl) ?_); (refine zY.w rfl (by exact zB rfl rfl rfl rfl rfl (by rfl) (by exact Nat.le_of_ble_eq_true rfl) rfl rfl) ?_); (refine zY.v rfl rfl (zK rfl rfl rfl (by decide)) ?_); refine zY.nil ?_) | refine zX.ret ?_))
  all_goals exact ⟨by first | exact .inl rfl | exact .inr rfl, _, Sub.refl _, .tupE rfl (by decide) (.cons (.cellN rfl rfl (by rfl) (by rfl)) (.cons (.cellN rfl rfl (by rfl) (by rfl)) (.cons (.tmp rfl) .nil))) rfl⟩
theorem next_need (L : List xM) (hL : LogOK L) {t : Int} (c me : Int) {k u v w : Int} (h : OpOK t k u v w) {q : Ned} {j : Nat} (hm : (opP t k u v w).run (wK L) 0 = .need q j) :
    Fn Tryd.prog 14 [.val (.int .i64 t), .val (.int .i64 c), .val (.int .i64 me), opV k u v w, logV L] (.tup [accQ q, outV 0 false 0 0, .val (.bool false)]) := by
  have hr := run_need L hL h hm
  unfold accQ at hr ⊢
  refine yM Tryd.func14 rfl Tryd.ntmps14 (Nat.le_of_ble_eq_true rfl) ?_
  repeat' ((refine zX.is ?_; first | refine zX.seq ?_ | (refine zX.isR (id := 0) ?_; refine zX.zV [0, 3, 4] [5, 8, 10, 11] (by repeat' first | exact zZ.nil | apply zZ.p rfl) (by repeat' first | exact zW.nil | apply zW.skip) ?_; (refine zY.m rfl rfl (w_boxV rfl rfl rfl rfl (by decide)) ?_); (refine zY.m rfl rfl (yX rfl rfl rfl (by decide)) ?_); (refine zY.m rfl rfl (zG rfl (by decide) rfl (by decide)) ?_); (refine zY.m rfl rfl (zG rfl (by decide) rfl (by decide)) ?_); (refine zY.v rfl rfl (zK rfl rfl rfl (by decide)) ?_); refine zY.nil ?_) | (refine zX.isR (id := 1) ?_; refine zX.zV [4, 5, 8, 10, 11, 12] [5, 8, 10, 11] (by repeat' first | exact zZ.nil | apply zZ.p rfl | apply zZ.ptr rfl) (by repeat' first | exact zW.nil | apply zW.boxP rfl rfl) ?_; (refine zY.v rfl rfl (wO rfl (by rfl) rfl (by decide)) ?_); (refine zY.v rfl rfl (zQ rfl rfl rfl (by decide)) ?_); (refine zY.ofT rfl (zI.wL [8, 5] (hr) rfl (by decide) (zH rfl) (by rfl) (zS (by decide) rfl (by repeat' first | exact trivial | rfl | constructor)) rfl rfl rfl rfl ?_)); (refine zY.v rfl rfl (zF rfl rfl rfl rfl (by decide)) ?_); (refine zY.v rfl rfl (zF rfl rfl rfl rfl (by decide)) ?_); (refine zY.v rfl rfl (zF rfl rfl rfl rfl (by decide)) ?_); (refine zY.w rfl (by exact zB rfl rfl rfl rfl rfl (by rfl) (by exact Nat.le_of_ble_eq_true rfl) rfl rfl) ?_); (refine zY.w rfl (by exact zB rfl rfl rfl rfl rfl (by rfl) (by exact Nat.le_of_ble_eq_true rfl) rfl rfl) ?_); (refine zY.v rfl rfl (zK rfl rfl rfl (by decide)) ?_); refine zY.nil ?_) | refine zX.ret ?_))
  all_goals exact ⟨by first | exact .inl rfl | exact .inr rfl, _, Sub.refl _, .tupE rfl (by decide) (.cons (.cellN rfl rfl (by rfl) (by rfl)) (.cons (.cellN rfl rfl (by rfl) (by rfl)) (.cons (.tmp rfl) .nil))) rfl⟩
end Go.Proofs.YthnmfmdkdngggaaDoor
/- Own rows of pure elements; rows that are frozen wherever they are spoken of; calls of function values. Generic over the program. -/
namespace Go.Proofs.YthnmfmdkdngggaaDoor
set_option maxRecDepth 100000
set_option maxHeartbeats 16000000
open Go Go.RowKit
/-! ### Rows of pure elements -/
def rowV (e sz : Nat) (es : List PV) : Blk := .prow e sz es.length (flat es)
theorem rowV_alike (e sz : Nat) (es : List PV) : Alike (.row e sz es.length ((flat es).map AV.p)) (rowV e sz es) := .rp _ _ _ _
theorem rowV_alike' (e sz : Nat) (es : List PV) : Alike (rowV e sz es) (.row e sz es.length ((flat es).map AV.p)) := .pr _ _ _ _
theorem flat_append (xs ys : List PV) : flat (xs ++ ys) = flat xs ++ flat ys := by simp [flat]
section
variable {P : Program} {n : Nat} {o : Oper} {S : AS} {d : Nat} {t : TypeId} {x y : Operand}
theorem w_appV {id e sz by_ : Nat} {z : Value} {cs bs : List PV} [ht : Und P t (.slice e)] [hi : InfoA P e z sz by_] (ho : o.op = .call { callee := .builtin .append, args := #[x, y], argTypes := #[t, t] }) (hx : S.get x = .own id) (hb : S.blk id = some (rowV e sz cs))
    (hy : S.get y = .p (.sl bs)) (hes : ∀ e ∈ bs, e.cells.length = sz) (hlim : (cs.length + bs.length) * by_ ≤ 140737488355328 ∧ cs.length + bs.length ≤ maxLen) (hzs : z.cells.size = sz) (hsz : 0 < sz) (hd : o.dst = some d) (hn : d < n) :
    Step P n o S ((S.create id (rowV e sz (cs ++ bs))).put d (.own id)) := by
  have h := w_appendP (P := P) (S := S.tag id (.row e sz cs.length ((flat cs).map AV.p))) (o := o) (d := d) ho (by rw [AS.wF]; exact hx) (by rw [AS.xD, if_pos rfl]) (by rw [AS.wF]; exact hy) hes hlim hzs hsz hd hn
  have e1 : Blk.row e sz (cs.length + bs.length) ((flat cs).map AV.p ++ (flat bs).map AV.p) = .row e sz (cs ++ bs).length ((flat (cs ++ bs)).map AV.p) := by
    rw [flat_append, List.map_append, List.length_append]
  rw [e1] at h
  exact h.same (w9 hb (rowV_alike' e sz cs)) (((vZ hb (rowV_alike e sz cs)).create id (rowV_alike e sz (cs ++ bs))).put d _)
theorem vE {ix : Operand} {id e ty sz : Nat} {j : Int} {k : IntKind} {es : List PV} {agg : Bool} [ht : Und P t (.slice e)] [he : TyA P e agg sz] (ho : o.op = .indexAddr t x ix) (hx : S.get x = .own id) (hb : S.blk id = some (rowV ty sz es)) (hi : S.get ix = .p (.val (.int k j)))
    (hj : 0 ≤ j ∧ j < es.length) (hd : o.dst = some d) (hn : d < n) : zC P n o S [id] (.ptr id (j.toNat * sz)) none :=
  zC.tag hb (rowV_alike' ty sz es) (rowV_alike ty sz es) (by simp) (w_indexO (S := S.tag id (.row ty sz es.length ((flat es).map AV.p))) ho (by rw [AS.wF]; exact hx) (by rw [AS.xD, if_pos rfl]) (by rw [AS.wF]; exact hi) hj hd hn)
theorem flat_set {sz : Nat} : ∀ {es : List PV} {i : Nat} {v : PV}, (∀ e ∈ es, e.cells.length = sz) → v.cells.length = sz → i < es.length → splice (flat es) (i * sz) v.cells = flat (es.set i v)
  | [], i, v, _, _, h => by simp at h
  | e :: es, 0, v, he, hv, _ => by
    have h1 := he e (by simp)
    have : flat (e :: es) = e.cells ++ flat es := by simp [flat]
    rw [Nat.zero_mul, this, List.set_cons_zero]
    have h2 : flat (v :: es) = v.cells ++ flat es := by simp [flat]
    rw [h2]
    apply List.ext_getElem?
    intro j
    rw [xX (by simp; omega)]
    by_cases hj : j < v.cells.length
    · rw [if_neg (by omega), if_pos (by omega), List.getElem?_append_left hj, Nat.sub_zero]
    · rw [if_neg (by omega), if_neg (by omega), List.getElem?_append_right (by omega), List.getElem?_append_right (by omega), h1, hv]
  | e :: es, i + 1, v, he, hv, hi => by
    have h1 := he e (by simp)
    have ih := flat_set (es := es) (i := i) (v := v) (fun e h => he e (by simp [h])) hv (by simpa using hi)
    have h3 : flat (e :: es) = e.cells ++ flat es := by simp [flat]
    have h4 : flat ((e :: es).set (i + 1) v) = e.cells ++ flat (es.set i v) := by simp [flat]
    have hfl := flat_len (es := es) (sz := sz) (fun e h => he e (by simp [h]))
    have hi' : i < es.length := by simpa using hi
    have hle : i * sz + sz ≤ (flat es).length := by
      rw [hfl]
      have : (i + 1) * sz ≤ es.length * sz := Nat.mul_le_mul_right _ hi'
      rw [Nat.add_mul] at this
      omega
    rw [h3, h4, ← ih]
    apply List.ext_getElem?
    intro j
    have e1 : (i + 1) * sz = sz + i * sz := by rw [Nat.add_mul]; omega
    rw [xX (by rw [List.length_append, h1, hv, e1]; omega), e1]
    by_cases hj : j < e.cells.length
    · rw [if_pos (show j < sz + i * sz by omega), List.getElem?_append_left hj, List.getElem?_append_left hj]
    · rw [List.getElem?_append_right (by omega), List.getElem?_append_right (by omega), xX (by rw [hv]; omega), h1, hv]
      by_cases h5 : j < sz + i * sz
      · rw [if_pos h5, if_pos (show j - sz < i * sz by omega)]
      · rw [if_neg h5, if_neg (show ¬ j - sz < i * sz by omega)]
        by_cases h6 : j < sz + i * sz + sz
        · rw [if_pos h6, if_pos (show j - sz < i * sz + sz by omega)]
          congr 1
          omega
        · rw [if_neg h6, if_neg (show ¬ j - sz < i * sz + sz by omega)]
theorem splice_map {α β : Type} (f : α → β) (l : List α) (o : Nat) (v : List α) : splice (l.map f) o (v.map f) = (splice l o v).map f := by simp [splice, List.map_take, List.map_drop]
theorem w_storeV {id off i e sz : Nat} {es : List PV} {v : PV} {agg : Bool} [h : TyA P t agg sz] (ho : o.op = .store t x y) (hx : S.get x = .ptr id off) (hb : S.blk id = some (rowV e sz es)) (hy : S.get y = .p v) (hk : (AV.p v).vR = true) (hes : ∀ e ∈ es, e.cells.length = sz) (hv : v.cells.length = sz) (hoff : off = i * sz) (hi : i < es.length) (hd : o.dst = none) :
    Step P n o S (S.tag id (rowV e sz (es.set i v))) := by
  subst hoff
  have hfl := flat_len hes
  have hle : i * sz + sz ≤ (flat es).length := by
    rw [hfl]
    have : (i + 1) * sz ≤ es.length * sz := Nat.mul_le_mul_right _ hi
    rw [Nat.add_mul] at this
    omega
  have h1 := zB (P := P) (n := n) (S := S.tag id (.row e sz es.length ((flat es).map AV.p))) (o := o) (agg := agg) (m := sz) ho (by rw [AS.wF]; exact hx) (by rw [AS.xD, if_pos rfl]) (by rw [AS.wF, hy]) hk (by show (v.cells.map AV.p).length = sz; rw [List.length_map, hv]) (by show i * sz + sz ≤ ((flat es).map AV.p).length; rw [List.length_map]; exact hle) rfl hd
  have e1 : (Blk.row e sz es.length ((flat es).map AV.p)).setXs (splice (Blk.row e sz es.length ((flat es).map AV.p)).xs (i * sz) (AV.p v).xQ) = .row e sz (es.set i v).length ((flat (es.set i v)).map AV.p) := by
    show Blk.row e sz es.length (splice ((flat es).map AV.p) (i * sz) (v.cells.map AV.p)) = _
    rw [splice_map, flat_set hes hv hi, List.length_set]
  rw [e1] at h1
  refine h1.same (w9 hb (rowV_alike' e sz es)) ⟨fun _ => rfl, fun j => ?_⟩
  show (if id = j then some _ else if id = j then some _ else S.blk j) = none ∧ (if id = j then some _ else S.blk j) = none ∨ ∃ b b', (if id = j then some _ else if id = j then some _ else S.blk j) = some b ∧ (if id = j then some _ else S.blk j) = some b' ∧ Alike b b'
  by_cases hj : id = j
  · subst hj
    rw [if_pos rfl, if_pos rfl]
    exact .inr ⟨_, _, rfl, rfl, rowV_alike e sz (es.set i v)⟩
  · rw [if_neg hj, if_neg hj, if_neg hj]
    cases S.blk j with
    | none => exact .inl ⟨rfl, rfl⟩
    | some b => exact .inr ⟨b, b, rfl, rfl, .refl b⟩
theorem flat_at {sz : Nat} {es : List PV} (hes : ∀ e ∈ es, e.cells.length = sz) {i : Nat} {c : PV} (hc : es[i]? = some c) : ((flat es).drop (i * sz)).take sz = c.cells := flat_get hes hc
theorem w_loadVN {id off i e sz : Nat} {es cs : List PV} [h : TyA P t true sz] (ho : o.op = .load t x) (hx : S.get x = .ptr id off) (hb : S.blk id = some (rowV e sz es)) (hes : ∀ e ∈ es, e.cells.length = sz) (hoff : off = i * sz) (hc : es[i]? = some (.agg cs)) (hd : o.dst = some d) (hn : d < n) : zC P n o S [id] (.p (.agg cs)) none := by
  subst hoff
  refine a_loadRN (b := rowV e sz es) ho hx hb ?_ (hes _ (List.mem_of_getElem? hc)) h.ag h.sz hd hn
  show (((flat es).map AV.p).drop (i * sz)).take sz = cs.map AV.p
  rw [← List.map_drop, ← List.map_take, flat_at hes hc]
  rfl
theorem flat_rep {zp : PV} {sz : Nat} (hz : zp.cells.length = sz) (hsz : 0 < sz) : ∀ {m j : Nat}, j < m * sz → (flat (List.replicate m zp))[j]? = zp.cells[j % sz]?
  | 0, j, h => by omega
  | m + 1, j, h => by
    have e : flat (List.replicate (m + 1) zp) = zp.cells ++ flat (List.replicate m zp) := by simp [flat, List.replicate_succ]
    rw [e]
    by_cases hj : j < sz
    · rw [List.getElem?_append_left (by omega), Nat.mod_eq_of_lt hj]
    · rw [Nat.add_mul] at h
      rw [List.getElem?_append_right (by omega), hz, flat_rep hz hsz (by omega), Nat.mod_eq_sub_mod (show sz ≤ j by omega)]
theorem w_makeV {e sz by_ m : Nat} {k : IntKind} {z : Value} {xl xc : Operand} [ht : Und P t (.slice e)] [hi : InfoA P e z sz by_] (ho : o.op = .makeSlice t xl xc) (hl : S.get xl = .p (.val (.int k (m : Int)))) (hc : S.get xc = .p (.val (.int k (m : Int)))) (hlim : m * sz ≤ 16777216 ∧ by_ * m ≤ 281474976710656 ∧ m ≤ maxLen)
    (hzs : z.cells.size = sz) (hsz : 0 < sz) {zp : PV} (hzp : zp.cells = z.cells.toList.map PV.val) (h1 : z.cells.toList.all (fun u => u.oneCell') = true) (hd : o.dst = some d) (hn : d < n) : zC P n o S [] (.own d) (some (rowV e sz (List.replicate m zp))) :=
  zC.made hd hn fun S2 hg _ M w0 ρ a w hs => by
    have r1 := hs.val ((hg xl (by rw [ho]; simp [Op.operands])).trans hl)
    have r2 := hs.val ((hg xc (by rw [ho]; simp [Op.operands])).trans hc)
    obtain ⟨i, hi1, hi2⟩ := Option.map_eq_some_iff.1 hi.h
    simp only [Prod.mk.injEq] at hi2
    obtain ⟨hz, hisz, hiby⟩ := hi2
    obtain ⟨w', hr, hown, hgr⟩ := run_makeSlice_full (P := P) w 0 t e i z sz ht.h hi1 hz hisz k k m hlim.1 (by rw [hiby]; exact hlim.2.1) hlim.2.2 (Nat.zero_le _)
    refine ⟨.slice (some ⟨w.heap.size, 0, none⟩) m m, w', ?_, hgr, fun k hk => ?_, ?_, .inl rfl⟩
    · unfold execOp
      rw [ho]
      simp only [r1, r2, Sem.run_bind, hr]
      rfl
    · simp only [zU, Option.some.injEq] at hk; omega
    · have hlen : (madeCells z.cells (m * sz)).toList.length = m * sz := by rw [Array.length_toList, size_madeCells]
      have hzl : z.cells.toList.length = sz := by rw [Array.length_toList]; exact hzs
      have hat : ∀ j, j < m * sz → (madeCells z.cells (m * sz)).toList[j]? = z.cells.toList[j % sz]? := fun j hj => by
        have hjs : j % sz < z.cells.size := by rw [hzs]; exact Nat.mod_lt _ hsz
        simp only [madeCells, Array.toList_map, Array.toList_range, List.getElem?_map, List.getElem?_range hj, Option.map_some, Array.getElem?_toList, hzs]
        rw [getElem!_pos z.cells _ hjs, Array.getElem?_eq_getElem hjs]
      have hfl : flat (List.replicate m zp) = (madeCells z.cells (m * sz)).toList.map PV.val := by
        apply List.ext_getElem?
        intro j
        by_cases hj : j < m * sz
        · rw [flat_rep (sz := sz) (by rw [hzp, List.length_map, hzl]) hsz hj, hzp, List.getElem?_map, List.getElem?_map, hat j hj]
        · rw [List.getElem?_eq_none (l := (madeCells z.cells (m * sz)).toList.map PV.val) (by rw [List.length_map, hlen]; omega), List.getElem?_eq_none]
          rw [flat_len (sz := sz) (fun e he => by rw [List.eq_of_mem_replicate he, hzp, List.length_map, hzl]), List.length_replicate]
          omega
      refine ⟨_, by rw [List.length_replicate]; exact hown, ⟨by rw [hfl, List.length_map, List.length_map], fun j c v h2 h3 => ?_, fun v hv => ?_⟩⟩
      · rw [hfl, List.map_map, List.getElem?_map, h3] at h2
        cases h2
        exact .p (.val _)
      · obtain ⟨j, hj⟩ := List.getElem?_of_mem hv
        have hjl : j < m * sz := by
          have := (List.getElem?_eq_some_iff.1 hj).1
          rw [hlen] at this
          exact this
        rw [hat j hjl] at hj
        exact List.all_eq_true.1 h1 v (List.mem_of_getElem? hj)
end
end Go.Proofs.YthnmfmdkdngggaaDoor
/- Rows that are frozen wherever they are spoken of; rows that are lent and grow; calls of function values; arrays. Generic over the program. -/
namespace Go.Proofs.YthnmfmdkdngggaaDoor
set_option maxRecDepth 100000
set_option maxHeartbeats 16000000
open Go Go.RowKit
/-! ### Frozen wherever it is spoken of -/
def AV.frz (id : Nat) (x : PV) : AV → AV
  | .own j => if j = id then .p x else .own j
  | y => y.kill id
def Blk.frz (id : Nat) (x : PV) : Blk → Blk
  | .row t s n xs => .row t s n (xs.map (AV.frz id x))
  | .prow t s n xs => .prow t s n xs
  | .box t xs => .box t (xs.map (AV.frz id x))
  | .lent t s n xs => .lent t s n xs
def AS.frz (S : AS) (id : Nat) (x : PV) : AS := { t := S.t.map fun p => (p.1, p.2.frz id x), s := (dropL S.s id).map fun p => (p.1, p.2.frz id x) }
theorem AS.tmp_frz (S : AS) (id : Nat) (x : PV) (i : Nat) : (S.frz id x).tmp i = (S.tmp i).frz id x := by
  simp only [AS.tmp, AS.frz, look_map]
  cases look S.t i <;> rfl
theorem AS.blk_frz (S : AS) (id : Nat) (x : PV) (j : Nat) : (S.frz id x).blk j = if id = j then none else (S.blk j).map (Blk.frz id x) := by
  simp only [AS.blk, AS.frz, look_map, look_dropL]
  by_cases hj : id = j
  · rw [if_pos hj, if_pos hj]; rfl
  · rw [if_neg hj, if_neg hj]
theorem Blk.turns_frz (b : Blk) (id : Nat) (x : PV) (c : Nat) : (b.frz id x).turns c ↔ b.turns c := by cases b <;> exact Iff.rfl
theorem yB.frz {M : Nat → Nat → Prop} {ρ : Nat → Value} {w : World} {y : AV} {v : Value} {id : Nat} {x : PV} (h : yB M ρ w y v) (hx : Rep M w x (ρ id)) : yB M ρ w (y.frz id x) v := by
  have hk := h.killed id (ρ id)
  rw [upd_self] at hk
  cases y with
  | own j =>
    show yB M ρ w (if j = id then .p x else .own j) v
    by_cases hj : j = id
    · subst hj
      rw [if_pos rfl, vN h]
      exact .p hx
    · rw [if_neg hj]
      exact h
  | _ => exact hk
theorem yA.frz {M : Nat → Nat → Prop} {ρ : Nat → Value} {w : World} {xs : List AV} {ys : List Value} {id : Nat} {x : PV} (h : yA M ρ w xs ys) (hx : Rep M w x (ρ id)) : yA M ρ w (xs.map (AV.frz id x)) ys :=
  ⟨by simp [h.len], fun i c v hc hv => by
    rw [List.getElem?_map, Option.map_eq_some_iff] at hc
    obtain ⟨c', hc', rfl⟩ := hc
    exact (h.each i c' v hc' hv).frz hx, h.one⟩
section
variable {M : Nat → Nat → Prop} {n : Nat} {w0 : Home} {w w' : World} {S : AS} {ρ : Nat → Value} {a : Act}
theorem Mut.frz {id k c : Nat} {x : PV} (h : Mut M (S.frz id x) ρ k c) : Mut M (S.drop id) ρ k c := by
  rcases h with h | ⟨j, b, hb, hk, ht⟩
  · exact .inl h
  · rw [AS.blk_frz] at hb
    split at hb
    · cases hb
    · rename_i hne
      obtain ⟨b1, h1, rfl⟩ := Option.map_eq_some_iff.1 hb
      exact .inr ⟨j, b1.kill id, by rw [AS.xO, if_neg hne, h1]; rfl, hk, (Blk.turns_kill b1 id c).2 ((Blk.turns_frz b1 id x c).1 ht)⟩
theorem Sat.frz_of (h : Sat M n w0 S ρ a w) {id : Nat} {x : PV} (hx : Rep (Mut M (S.drop id) ρ) w x (ρ id)) : Sat M n w0 (S.frz id x) ρ a w := by
  have hx' : Rep (Mut M (S.frz id x) ρ) w x (ρ id) := hx.mono fun _ _ _ hk => Mut.frz hk
  have hm : ∀ k c, k < w.heap.size → Mut M (S.frz id x) ρ k c → Mut M S ρ k c := fun k c _ hk => Mut.drop (Mut.frz hk)
  refine ⟨h.below, h.out, h.tab, h.size, h.defers, fun i => ?_, fun j b hb => ?_, fun j b k hb hk => ?_, h.fix, h.free, fun i j bi bj k hi hj => ?_⟩
  · rw [AS.tmp_frz]
    exact ((h.tmps i).mono hm).frz hx'
  · rw [AS.blk_frz] at hb
    split at hb
    · cases hb
    · obtain ⟨b1, h1, rfl⟩ := Option.map_eq_some_iff.1 hb
      have := h.blks j b1 h1
      cases b1 with
      | row t size m xs =>
        obtain ⟨ys, ho, hc⟩ := this
        exact ⟨ys, ho, (hc.mono hm).frz hx'⟩
      | prow t size m xs =>
        obtain ⟨ys, ho, hc⟩ := this
        exact ⟨ys, ho, hc.mono hm⟩
      | lent t size m xs =>
        obtain ⟨ys, ho, hc⟩ := this
        exact ⟨ys, ho, hc.mono hm⟩
      | box t xs =>
        obtain ⟨g, ys, hv, hg, hh, hc⟩ := this
        exact ⟨g, ys, hv, hg, hh, (hc.mono hm).frz hx'⟩
  · rw [AS.blk_frz] at hb
    split at hb
    · cases hb
    · obtain ⟨b1, h1, _⟩ := Option.map_eq_some_iff.1 hb
      exact h.mine j b1 k h1 hk
  · rw [AS.blk_frz] at hi hj
    split at hi
    · cases hi
    · split at hj
      · cases hj
      · obtain ⟨b1, h1, _⟩ := Option.map_eq_some_iff.1 hi
        obtain ⟨b2, h2, _⟩ := Option.map_eq_some_iff.1 hj
        exact h.dist i j b1 b2 k h1 h2
end
theorem sub_frz {S : AS} {id e sz : Nat} {es : List PV} (hb : S.blk id = some (rowV e sz es)) : Sub S (S.frz id (.sl es)) :=
  fun M n w0 ρ a w hs => by
    refine ⟨ρ, hs.frz_of ?_⟩
    have h1 := ((w9 hb (rowV_alike' e sz es)).sat hs).frozen (id := id) (es := es) (by rw [AS.xD, if_pos rfl]) rfl
    refine h1.mono fun k c _ hk => ?_
    rcases hk with hk | ⟨j, b, hj, hk, ht⟩
    · exact .inl hk
    · rw [AS.xO] at hj
      split at hj
      · cases hj
      · rename_i hne
        refine .inr ⟨j, b, ?_, hk, ht⟩
        rw [AS.xO, if_neg hne, AS.xD, if_neg hne]
        exact hj
/-! ### Rows that are lent -/
def lentV (e sz : Nat) (es : List PV) : Blk := .lent e sz es.length (flat es)
theorem sub_lend {S : AS} {id e sz : Nat} {es : List PV} (hb : S.blk id = some (rowV e sz es)) : Sub S (S.tag id (lentV e sz es)) :=
  fun M n w0 ρ a w h => by
    have hm : ∀ k c, k < w.heap.size → Mut M (S.tag id (lentV e sz es)) ρ k c → Mut M S ρ k c := fun k c _ hk => by
      rcases hk with hk | ⟨j, b, hj, hk, ht⟩
      · exact .inl hk
      · rw [AS.xD] at hj
        split at hj
        · rename_i he
          subst he
          exact .inr ⟨id, _, hb, hk, trivial⟩
        · exact .inr ⟨j, b, hj, hk, ht⟩
    have some_of : ∀ j b, (S.tag id (lentV e sz es)).blk j = some b → ∃ b1, S.blk j = some b1 := fun j b hj => by
      rw [AS.xD] at hj
      split at hj
      · rename_i he; subst he; exact ⟨_, hb⟩
      · exact ⟨b, hj⟩
    refine ⟨ρ, h.below, h.out, h.tab, h.size, h.defers, fun i => (h.tmps i).mono hm, fun j b hj => ?_, fun j b k hj hk => ?_, h.fix, h.free, fun i j bi bj k hi hj => ?_⟩
    · rw [AS.xD] at hj
      split at hj
      · rename_i he
        subst he
        obtain rfl := Option.some.inj hj
        obtain ⟨ys, ho, hc⟩ := h.blks id _ hb
        exact ⟨ys, ho, hc.mono hm⟩
      · have := h.blks j b hj
        cases b with
        | row t size m xs => obtain ⟨ys, ho, hc⟩ := this; exact ⟨ys, ho, hc.mono hm⟩
        | prow t size m xs => obtain ⟨ys, ho, hc⟩ := this; exact ⟨ys, ho, hc.mono hm⟩
        | lent t size m xs => obtain ⟨ys, ho, hc⟩ := this; exact ⟨ys, ho, hc.mono hm⟩
        | box t xs => obtain ⟨g, ys, hv, hg, hh, hc⟩ := this; exact ⟨g, ys, hv, hg, hh, hc.mono hm⟩
    · obtain ⟨b1, h1⟩ := some_of j b hj
      exact h.mine j b1 k h1 hk
    · obtain ⟨b1, h1⟩ := some_of i bi hi
      obtain ⟨b2, h2⟩ := some_of j bj hj
      exact h.dist i j b1 b2 k h1 h2
/-- what is lent reads as a slice that nobody turns -/
theorem Sat.lentRep {M : Nat → Nat → Prop} {n : Nat} {w0 : Home} {w : World} {S : AS} {ρ : Nat → Value} {a : Act} (h : Sat M n w0 S ρ a w) {id e sz : Nat} {es : List PV} (hb : S.blk id = some (lentV e sz es)) : Rep (Mut M S ρ) w (.sl es) (ρ id) := by
  obtain ⟨ys, ho, hc⟩ := h.blks id _ hb
  have hyl : ys.length = es.length * sz := ho.1
  rcases ho.2 with ⟨hv, hm0⟩ | ⟨g, cap, cur, hv, hg, hh, hn, hcm, hs, ht⟩
  · rw [hv]
    have : es = [] := List.eq_nil_of_length_eq_zero hm0
    subst this
    exact .nil
  · rw [hv]
    have hgm : zU (ρ id) = some g := by rw [hv]; rfl
    refine .sl es g 0 es.length cap ys rfl (by simpa using hc.len) (fun j y hy => ?_) (fun j c y hcj hy => ?_) hc.one ?_ (Array.getElem?_eq_some_iff.1 hh).1 hn hcm
    · rw [Nat.zero_add, cell_of_row w g j cur e (0, 0) hh]
      rw [← ht, List.getElem?_take] at hy
      split at hy
      · simpa using hy
      · cases hy
    · exact rep_p (hc.each j (.p c) y (by rw [List.getElem?_map, hcj]; rfl) hy)
    · rintro i hi (hk | ⟨j, b, hbj, hkj, htj⟩)
      · exact h.out g _ hk (h.mine id _ g hb hgm)
      · have := h.dist id j _ b g hb hbj hgm hkj
        subst this
        rw [hb] at hbj
        obtain rfl := Option.some.inj hbj
        have : es.length * sz ≤ 0 + i := htj
        omega
theorem sub_view {S : AS} {d id e sz : Nat} {es : List PV} (hd : S.tmp d = .own id) (hb : S.blk id = some (lentV e sz es)) : Sub S (S.put d (.p (.sl es))) :=
  fun M n w0 ρ a w hs => by
    refine ⟨ρ, hs.retype (.p ?_)⟩
    have h1 := hs.tmps d
    rw [hd] at h1
    rw [vN h1]
    exact hs.lentRep hb
end Go.Proofs.YthnmfmdkdngggaaDoor
/- A lent row grows; calls of function values; arrays in variables; slices that are compared with nil. Generic over the program. -/
namespace Go.Proofs.YthnmfmdkdngggaaDoor
set_option maxRecDepth 100000
set_option maxHeartbeats 16000000
open Go Go.RowKit
section
variable {P : Program} {n : Nat} {o : Oper} {S : AS} {d : Nat} {t : TypeId} {x y : Operand}
theorem s_appL {id e sz by_ : Nat} {z : Value} {cs bs : List PV} [ht : Und P t (.slice e)] [hi : InfoA P e z sz by_] (ho : o.op = .call { callee := .builtin .append, args := #[x, y], argTypes := #[t, t] }) (hx : S.get x = .own id) (hb : S.blk id = some (lentV e sz cs))
    (hy : S.get y = .p (.sl bs)) (hes : ∀ e ∈ bs, e.cells.length = sz) (hlim : (cs.length + bs.length) * by_ ≤ 140737488355328 ∧ cs.length + bs.length ≤ maxLen) (hzs : z.cells.size = sz) (hsz : 0 < sz) (hd : o.dst = some d) (hn : d < n) :
    Step P n o S ((S.create id (lentV e sz (cs ++ bs))).put d (.own id)) := by
  intro M w0 ρ a w K Q hs hK
  obtain ⟨i, hi1, hi2⟩ := Option.map_eq_some_iff.1 hi.h
  simp only [Prod.mk.injEq] at hi2
  obtain ⟨hz, hisz, hiby⟩ := hi2
  have h1 := hs.rep x
  rw [hx] at h1
  have hv := vN h1
  obtain ⟨ys, hown, hys⟩ := hs.blks id _ hb
  have hown : w.ownsRow 0 e sz (ρ id) cs.length ys := hown
  obtain ⟨us, hus, hnews⟩ := news_p (ρ := ρ) (yR hs hy) hes
  have e1 : zU (ρ id) = (ρ id).ownBlock := own_slice hown
  have hfree : w0.r id = none := row_free hs hown
  have main : ∀ v' w' row, (Builtin.append_ #[t, t] o.type #[ρ id, a.eval y]).run P w = .ok v' w' → w.grownBy w' row → w'.ownsRow 0 e sz v' (cs.length + bs.length) (ys ++ us) → (row = none ∨ row = (ρ id).ownBlock) →
      (∀ k, zU v' = some k → w.heap.size ≤ k ∨ row = some k) → (∀ k c, row = some k → c < cs.length * sz → w'.cell? ⟨k, c, none⟩ = w.cell? ⟨k, c, none⟩) → o.wp P a w K Q := by
    intro v' w' row hr hg hown' hrow hv' hcell
    have hall : yA (Mut M S ρ) ρ w ((flat (cs ++ bs)).map AV.p) (ys ++ us) := by
      rw [flat_append, List.map_append]
      exact ⟨by simp [hys.len, hus.len], fun i c v h1 h2 => by
        by_cases hi : i < ((flat cs).map AV.p).length
        · rw [List.getElem?_append_left hi] at h1
          rw [List.getElem?_append_left (by rw [hys.len]; exact hi)] at h2
          exact hys.each i c v h1 h2
        · rw [List.getElem?_append_right (by omega)] at h1
          rw [List.getElem?_append_right (by rw [hys.len]; omega), hys.len] at h2
          exact hus.each _ c v h1 h2, fun v hv => by
        rcases List.mem_append.1 hv with hv | hv
        · exact hys.one v hv
        · exact hus.one v hv⟩
    have hks : Keeps (fun k c => Mut M S ρ k c ∨ (zU v' = some k ∧ (lentV e sz (cs ++ bs)).turns c)) w w' := ⟨hg.size, fun k c hk hnm => by
      by_cases hrk : row = some k
      · refine hcell k c hrk (Nat.lt_of_not_le fun hle => hnm (.inl (.inr ⟨id, _, hb, ?_, hle⟩)))
        rcases hrow with h | h
        · rw [h] at hrk; cases hrk
        · rw [e1, ← h]; exact hrk
      · exact World.cell?_of_block (w := w) (hg.block k hk fun e => hrk e.symm)⟩
    have hmut : ∀ k c, k < w.heap.size → (Mut M S ρ k c ∨ (zU v' = some k ∧ (lentV e sz (cs ++ bs)).turns c)) → Mut M S ρ k c := fun k c hk h => by
      rcases h with h | ⟨h, ht⟩
      · exact h
      · rcases hv' k h with h2 | h2
        · omega
        · rcases hrow with h3 | h3
          · rw [h3] at h2; cases h2
          · refine .inr ⟨id, _, hb, by rw [e1, ← h3]; exact h2, ?_⟩
            have h4 : (cs ++ bs).length * sz ≤ c := ht
            have h5 : cs.length * sz ≤ (cs ++ bs).length * sz := Nat.mul_le_mul_right _ (by rw [List.length_append]; omega)
            exact Nat.le_trans h5 h4
    have hs' := hs.change id (lentV e sz (cs ++ bs)) v' row hfree hg (fun k hk => ?_) hv' ⟨ys ++ us, by rw [List.length_append]; exact hown', (hall.mono hmut).keep hks⟩
    · unfold Oper.wp execOp
      simp only [ho, resolve, invoke, builtin, Sem.run_bind, Sem.run_pure, Result.andThen_ok, List.map_toArray, List.map_cons, List.map_nil, hv, hr]
      show K (a.put o.dst v') w'
      rw [hd]
      refine hK _ _ w' (hs'.put hn ?_)
      have := yB.own (M := Mut M (S.create id (lentV e sz (cs ++ bs))) (upd ρ id v')) (ρ := upd ρ id v') (w := w') id
      simpa [upd] using this
    · refine ⟨_, hb, ?_, fun c ht => ?_, fun c hnt => hcell k c hk (Nat.lt_of_not_le hnt)⟩
      · rcases hrow with h | h
        · rw [h] at hk; cases hk
        · rw [e1, ← h]; exact hk
      · have h4 : (cs ++ bs).length * sz ≤ c := ht
        have h5 : cs.length * sz ≤ (cs ++ bs).length * sz := Nat.mul_le_mul_right _ (by rw [List.length_append]; omega)
        exact Nat.le_trans h5 h4
  rcases hnews with ⟨hyv, hk0, hu0⟩ | ⟨ad, c, hyv, hul, hcell⟩
  · have hb0 : bs = [] := List.eq_nil_of_length_eq_zero hk0
    subst hu0
    subst hb0
    exact main (ρ id) w (ρ id).ownBlock (by rw [hyv]; exact run_append_owned_none (P := P) w 0 t o.type e i sz ht.h hi1 (ρ id) cs.length ys hown) ⟨rfl, rfl, rfl, Nat.le_refl _, fun _ _ _ => rfl⟩ (by simpa using hown) (.inr rfl) (fun k hk => .inr (by rw [← e1]; exact hk)) (fun _ _ _ _ => rfl)
  · obtain ⟨v', w', hr, hown', hg, _, hob⟩ := run_append_own_at (P := P) w 0 t o.type e i z sz by_ ht.h hi1 hz hisz hiby hzs hsz (ρ id) cs.length ys hown ad bs.length c us hul hcell hus.one hlim.2 hlim.1 (Nat.zero_le _)
    have e2 : zU v' = v'.ownBlock := own_slice hown'
    rcases hown.2 with ⟨hnil, hc0⟩ | ⟨g, cap, cur, hvg, _, hh, hncap, hcm, hcs, htk⟩
    · rw [← hyv] at hr
      refine main v' w' none hr (by rw [hnil] at hg; exact hg) hown' (.inl rfl) (fun k hk => ?_) (fun k c h => by cases h)
      rw [e2] at hk
      rcases hob with h3 | h3
      · rw [h3, hnil] at hk; cases hk
      · rw [h3] at hk; simp at hk; exact .inl (by omega)
    · have hin : ∀ j u, ys[j]? = some u → w.cell? ⟨g, 0 + j, none⟩ = some u := fun j u hu => by
        rw [Nat.zero_add, cell_of_row w g j cur e (0, 0) hh]
        rw [← htk, List.getElem?_take] at hu
        split at hu
        · simpa using hu
        · cases hu
      by_cases hroom : cs.length + bs.length ≤ cap
      · have hr2 := run_append_room_cells (P := P) w t o.type e i ht.h hi1 g 0 cs.length cap ad bs.length c us (by rw [hisz]; exact hul) hcell hus.one hroom (fun j hj => ?_) (fun j hj => frozen_of_row w g _ cur e hh)
        · rw [hvg] at hr
          have he := hr.symm.trans hr2
          injection he with he1 he2
          subst he1
          subst he2
          rw [← hyv, ← hvg] at hr
          refine main _ _ (some g) hr (by rw [hvg] at hg; exact hg) hown' (.inr (by rw [hvg]; rfl)) (fun k hk => .inr (by simpa [zU] using hk)) (fun k c' hk hc' => ?_)
          obtain rfl : g = k := by simpa using hk
          refine World.cell?_setCells_out g us _ w ⟨g, c', none⟩ (fun _ _ => .inl ?_)
          show c' < 0 + cs.length * i.size
          rw [hisz]; omega
        · rw [cell_of_row w g _ cur e (0, 0) hh]
          have h6 : 0 + cs.length * i.size + j < cur.size := by
            rw [hcs, hisz]
            have : (cs.length + bs.length) * sz ≤ cap * sz := Nat.mul_le_mul_right _ hroom
            rw [Nat.add_mul] at this
            omega
          rw [Array.getElem?_eq_getElem h6]
          rfl
      · obtain ⟨v2, w2, hr2, hown2, hg2⟩ := run_append_arg_grows (P := P) w t o.type e i z sz by_ ht.h hi1 hz hisz hiby hzs hsz ⟨g, 0, none⟩ cs.length cap ys hown.1 (fun j u hu => by rw [add_lit]; exact hin j u hu) ad bs.length c us hul hcell (by omega) hlim.2 hlim.1
        rw [hvg] at hr
        have he := hr.symm.trans hr2
        injection he with he1 he2
        subst he1
        subst he2
        rw [← hyv, ← hvg] at hr
        refine main _ _ none hr hg2 hown' (.inl rfl) (fun k hk => ?_) (fun k c' hk => by cases hk)
        rcases hown2.2 with ⟨he3, _⟩ | ⟨g2, _, _, he3, hg3, _⟩
        · rw [he3] at hk; cases hk
        · rw [he3] at hk
          simp only [zU, Option.some.injEq] at hk
          exact .inl (by omega)
/-! ### Calls of function values -/
theorem vI {f : FuncId} {args : Array Operand} {ts : Array TypeId} [hc : HasFn P f] (ho : o.op = .call { callee := .value x, args := args, argTypes := ts }) (hx : S.get x = .p (.val (.func (.func f) #[] #[]))) : Enters P o S f (args.toList.map S.get) :=
  fun M n w0 ρ a w hs => by
    have hv := hs.val hx
    refine ⟨args.toList.map a.eval, ?_, by simp, reps_get hs args.toList⟩
    have e : (args.toList.map a.eval).toArray = args.map a.eval := by apply Array.ext'; simp
    unfold execOp
    rw [ho, e]
    simp [resolve, Deferred.ofValue, hv, invoke, hc.h]
/-- a pure contract, as one of variables -/
theorem FnE.ofFn {f : FuncId} {xs : List PV} {r : PV} (h : Fn P f xs (.p r)) : FnE P f (xs.map AV.p) [] (.ret (.p r)) [] := by
  intro M hh ρ vs _ hs hvl hvs
  have := h (Mut M (asB []) ρ) hh.w vs ⟨hs.lays, hs.tabs⟩ (fun k c hk => Mut.lt hs hk) (by simpa using hvl) (fun i x v h1 h2 => rep_p (hvs i (.p x) v (by rw [List.getElem?_map, h1]; rfl) h2))
  exact this.mono fun e w' ⟨v, he, hr, hb⟩ => ⟨ρ, hs.ext hb, v, he, .p hr⟩
theorem FnE.ofFnT {f : FuncId} {xs : List PV} {l : List PV} (h : Fn P f xs (.tup l)) : FnE P f (xs.map AV.p) [] (.ret (.tup (l.map AV.p))) [] := by
  intro M hh ρ vs _ hs hvl hvs
  have := h (Mut M (asB []) ρ) hh.w vs ⟨hs.lays, hs.tabs⟩ (fun k c hk => Mut.lt hs hk) (by simpa using hvl) (fun i x v h1 h2 => rep_p (hvs i (.p x) v (by rw [List.getElem?_map, h1]; rfl) h2))
  refine this.mono fun e w' ⟨v, he, ⟨us, hu, hul, hue⟩, hb⟩ => ⟨ρ, hs.ext hb, v, he, ?_⟩
  subst hu
  refine .tup _ us (by simpa using hul) fun i c u h1 h2 => ?_
  rw [List.getElem?_map, Option.map_eq_some_iff] at h1
  obtain ⟨y, hy, rfl⟩ := h1
  exact .p (hue i y u hy h2)
/-! ### Compared with nil -/
theorem r_eqlNil {yt : TypeId} {es : List PV} {r : Bool} {e : TypeId} [ht : Und P t (.slice e)] (ho : o.op = .binOp .eql t x y yt) (hx : S.get x = .p (.sl es)) (hy : S.get y = .p (.val (.slice none 0 0))) (hne : es ≠ []) (hr : false = r) (hd : o.dst = some d) (hn : d < n) : zC P n o S [] (.p (.val (.bool r))) none := by
  subst hr
  exact zC.pure hd hn fun S2 hg _ M w0 ρ a w hs => by
    have r1 := yR hs ((hg x (by rw [ho]; simp [Op.operands])).trans hx)
    have r2 := hs.val ((hg y (by rw [ho]; simp [Op.operands])).trans hy)
    rcases rep_sl r1 with ⟨_, h0⟩ | ⟨g, off, cap, ys, hv, _⟩
    · exact (hne h0).elim
    · refine ⟨.bool false, w, ?_, Below.refl _ _, .p (.val _)⟩
      unfold execOp
      rw [ho]
      simp only [hv, r2, Sem.run_bind]
      simp [eqGuard, binOp, run_equal_slice_nil w t e (some ⟨g, off, none⟩) es.length cap ht.h]
/-! ### Arrays in variables -/
theorem xJ {ix : Operand} {id off m e sz : Nat} {j : Int} {k : IntKind} {agg : Bool} [ht : Und P t (.array m e)] [he : TyA P e agg sz] (ho : o.op = .indexAddr t x ix) (hx : S.get x = .ptr id off) (hi : S.get ix = .p (.val (.int k j))) (hj : 0 ≤ j ∧ j < m) (hd : o.dst = some d) (hn : d < n) : zC P n o S [] (.ptr id (off + j.toNat * sz)) none :=
  zC.pure hd hn fun S2 hg _ M w0 ρ a w hs => by
    have h1 := hs.rep x
    rw [hg x (by rw [ho]; simp [Op.operands]), hx] at h1
    have h2 := hs.val ((hg ix (by rw [ho]; simp [Op.operands])).trans hi)
    obtain ⟨g, hgv, hv⟩ := vP h1
    refine ⟨.pointer (some ⟨g, off + j.toNat * sz, none⟩), w, ?_, Below.refl _ _, .ptr id _ g hgv⟩
    have hel : P.elem t = e := by simp [Program.elem, ht.h]
    have hal : P.arrayLen t = m := by simp [Program.arrayLen, ht.h]
    unfold execOp
    rw [ho]
    simp only [hv, h2, Sem.run_bind]
    rw [run_indexAt_array w t _ _ _ (by rw [hel, hal]; exact ht.h), hal, if_pos hj, hel, he.sz w]
    simp [Result.andThen, add_lit]
end
end Go.Proofs.YthnmfmdkdngggaaDoor
/- Calls that give an own row; ends that do. Generic over the program. -/
namespace Go.Proofs.YthnmfmdkdngggaaDoor
set_option maxRecDepth 100000
set_option maxHeartbeats 16000000
set_option linter.unusedSimpArgs false
open Go Go.RowKit
section
variable {P : Program} {n : Nat} {o : Oper} {S : AS} {d : Nat} {t : TypeId} {x y : Operand}
theorem w_build0V {e sz by_ : Nat} {z : Value} [ht : Und P t (.slice e)] [hi : InfoA P e z sz by_] (ho : o.op = .buildSlice t 0 #[]) (hd : o.dst = some d) (hn : d < n) : zC P n o S [] (.own d) (some (rowV e sz [])) := (w_build0 ho hd hn).nb (rowV_alike e sz [])
theorem w_callRowV {f : Nat} {args : Array Operand} {ts : Array TypeId} {xs : List PV} {e sz : Nat} {es : List PV} [hc : HasFn P f] (hf : Fn P f xs (.row e sz es.length (flat es))) (ho : o.op = .call { callee := .value (.func f), args := args, argTypes := ts })
    (hx : args.toList.map S.get = xs.map AV.p) (hd : o.dst = some d) (hn : d < n) : zC P n o S [] (.own d) (some (rowV e sz es)) := by
  intro S2 hg _ M w0 ρ a w K Q hs hK
  have hargs : ∀ x ∈ args.toList, S2.get x = S.get x := fun x hx => hg x (by rw [ho]; simp [Op.operands, Call.operands]; exact .inr (by simpa using hx))
  have he : (execOp a.eval o).run P w = .ok (.enter f (args.map a.eval)) w := by
    unfold execOp
    rw [ho]
    simp [resolve, Deferred.ofValue, Act.eval, invoke, hc.h]
  unfold Oper.wp
  rw [he, Oper.upon_enter]
  have hlen : (args.toList.map a.eval).length = xs.length := by
    have := congrArg List.length hx
    simpa using this
  have := hf (Mut M S2 ρ) w (args.toList.map a.eval) ⟨hs.lays, hs.tabs⟩ (fun k c hk => Mut.lt hs hk) hlen (fun i x v h1 h2 => by
    rw [List.getElem?_map, Option.map_eq_some_iff] at h2
    obtain ⟨y, hy, rfl⟩ := h2
    have h3 : S.get y = .p x := by
      have h4 : (args.toList.map S.get)[i]? = (xs.map AV.p)[i]? := by rw [hx]
      rw [List.getElem?_map, List.getElem?_map, hy, h1] at h4
      simpa using h4
    exact yR hs ((hargs y (List.mem_of_getElem? hy)).trans h3))
  have e1 : (args.toList.map a.eval).toArray = args.map a.eval := by apply Array.ext'; simp
  rw [e1] at this
  refine this.mono ?_
  rintro en w' ⟨v, rfl, ⟨ys, hown, hl⟩, hb⟩
  show K (a.put o.dst v) w'
  rw [hd] at hK ⊢
  have hnew : ∀ k, zU v = some k → w.heap.size ≤ k := fun k hk => by
    rcases hown.2 with ⟨rfl, _⟩ | ⟨g, cap, cur, rfl, hg2, _⟩
    · cases hk
    · simp only [zU, Option.some.injEq] at hk; omega
  have hs' := hs.change d (rowV e sz es) v none (hs.free d hn) (w' := w') ⟨hb.os, hb.tape, hb.output, hb.size, fun k hk _ => hb.block k hk⟩ (fun k hk => by cases hk) (fun k hk => .inl (hnew k hk))
    ⟨ys, ownsRow_rebase hown (fun _ _ => Nat.zero_le _), ⟨by simpa using hl.len, fun i c u h1 h2 => by
      rw [List.getElem?_map, Option.map_eq_some_iff] at h1
      obtain ⟨y, hy, rfl⟩ := h1
      exact .p ((hl.each i y u hy h2).mono fun k c _ hk => hk.elim .inl fun h => .inr h.1), hl.one⟩⟩
  refine hK _ _ w' (hs'.put hn ?_)
  have := yB.own (M := Mut M (S2.create d (rowV e sz es)) (upd ρ d v)) (ρ := upd ρ d v) (w := w') d
  simpa [upd] using this
def Blk.isRow : Blk → Bool
  | .box _ _ => false
  | _ => true
/-- a store of an own row's slice -/
theorem s_storeO {id off id2 : Nat} {b b2 : Blk} (ho : o.op = .store t x y) (hx : S.get x = .ptr id off) (hb : S.blk id = some b) (hy : S.get y = .own id2) (hb2 : S.blk id2 = some b2) (hrow : b2.isRow = true) (hm : ∀ w, (sizeOf t).run P w = .ok 1 w)
    (hle : off + 1 ≤ b.xs.length) (hlb : b.lentB = false) (hd : o.dst = none) : Step P n o S { S with s := putL S.s id (b.setXs (splice b.xs off (AV.own id2).xQ)) } := by
  have hlen : (AV.own id2).xQ.length = 1 := rfl
  intro M w0 ρ a w K Q hs hK
  have hfr := Blk.turns_of hlb
  have h1 := hs.rep x
  rw [hx] at h1
  obtain ⟨g, hgv, hv⟩ := vP h1
  have h2 := hs.rep y
  rw [hy] at h2
  have hcy : yA (Mut M S ρ) ρ w (AV.own id2).xQ (a.eval y).cells.toList := by
    have hown : ∃ e sz m2 ys, w.ownsRow 0 e sz (ρ id2) m2 ys := by
      have h := hs.blks id2 _ hb2
      cases b2 with
      | box _ _ => cases hrow
      | _ => exact let ⟨ys, h, _⟩ := h; ⟨_, _, _, ys, h⟩
    obtain ⟨_, _, _, _, hown⟩ := hown
    have e1 : a.eval y = ρ id2 := by
      generalize a.eval y = v at h2
      cases h2
      rfl
    rw [e1]
    rcases hown.2 with ⟨e, _⟩ | ⟨g', cap, cur, e, _⟩
    · rw [e]
      exact ⟨rfl, fun i c u h1 h3 => by
        cases i with
        | zero => simp [Value.cells, AV.xQ] at h1 h3; subst h1; subst h3; rw [← e]; exact .own id2
        | succ i => simp [AV.xQ] at h1, fun u hu => by simp [Value.cells] at hu; subst hu; rfl⟩
    · rw [e]
      exact ⟨rfl, fun i c u h1 h3 => by
        cases i with
        | zero => simp [Value.cells, AV.xQ] at h1 h3; subst h1; subst h3; rw [← e]; exact .own id2
        | succ i => simp [AV.xQ] at h1, fun u hu => by simp [Value.cells] at hu; subst hu; rfl⟩
  have hB := hs.blks id b hb
  have key : ∃ cur ty, w.heap[g]? = some (.cells cur ty (0, 0)) ∧ off + (a.eval y).cells.toList.length ≤ cur.size ∧
      (∀ w' : World, w.grownBy w' (some g) → w'.heap[g]? = some (.cells (splice cur.toList off (a.eval y).cells.toList).toArray ty (0, 0)) → xH (Mut M S ρ) 0 ρ w' (ρ id) (b.setXs (splice b.xs off (AV.own id2).xQ))) := by
    have keeps : ∀ {w' : World}, w.grownBy w' (some g) → Keeps (Mut M S ρ) w w' := fun {w'} hg => ⟨hg.size, fun k c hk hnm => World.cell?_of_block (w := w) (hg.block k hk (fun e => hnm (.inr ⟨id, b, hb, by rw [hgv]; exact e.symm, hfr c⟩)))⟩
    cases b with
    | lent ty size k xs => cases hlb
    | box ty xs =>
      obtain ⟨g', ys, e, hg, hh, hc⟩ := hB
      have eg : g' = g := by rw [e] at hgv; simpa [zU] using hgv
      subst eg
      refine ⟨ys.toArray, ty, hh, ?_, fun w' hgr hh' => ⟨g', splice ys off (a.eval y).cells.toList, e, hg, by simpa using hh', (hc.splice hcy (by rw [hlen]; exact hle)).keep (keeps hgr)⟩⟩
      have e1 := hcy.len
      have e2 := hc.len
      have e3 : off + 1 ≤ xs.length := hle
      simp only [List.size_toArray]
      omega
    | row ty size k xs =>
      obtain ⟨ys, ⟨hl, ho2⟩, hc⟩ := hB
      have e1 := hcy.len
      have e2 := hc.len
      have e3 : off + 1 ≤ xs.length := hle
      rcases ho2 with ⟨e, _⟩ | ⟨g', cap, cur, e, hbg, hh, hkc, hcm, hcs, htk⟩
      · rw [e] at hgv; simp [zU] at hgv
      · have eg : g' = g := by rw [e] at hgv; simpa [zU] using hgv
        subst eg
        have hsz : k * size ≤ cur.size := by rw [hcs]; exact Nat.mul_le_mul_right _ hkc
        refine ⟨cur, ty, hh, by omega, fun w' hgr hh' => ⟨splice ys off (a.eval y).cells.toList, ⟨by rw [wB (by omega)]; exact hl, .inr ⟨g', cap, _, e, hbg, hh', hkc, hcm, ?_, ?_⟩⟩, (hc.splice hcy (by rw [hlen]; exact hle)).keep (keeps hgr)⟩⟩
        · simp only [List.size_toArray]
          rw [wB (by simp only [Array.length_toList] at *; omega)]
          simpa using hcs
        · apply List.ext_getElem?
          intro i
          rw [List.getElem?_take]
          rw [xX (by simp only [Array.length_toList] at *; omega), xX (by omega)]
          have hi : ∀ (i : Nat), i < k * size → cur.toList[i]? = ys[i]? := fun i hi => by rw [← htk, List.getElem?_take, if_pos hi]
          by_cases h3 : i < k * size
          · rw [if_pos h3]
            split
            · exact hi i h3
            · split
              · rfl
              · exact hi i h3
          · rw [if_neg h3]
            rw [if_neg (by omega), if_neg (by omega)]
            exact (List.getElem?_eq_none (by omega)).symm
    | prow ty size k xs =>
      obtain ⟨ys, ⟨hl, ho2⟩, hc⟩ := hB
      have e1 := hcy.len
      have e2 := hc.len
      have e3 : off + 1 ≤ (xs.map AV.p).length := hle
      rcases ho2 with ⟨e, _⟩ | ⟨g', cap, cur, e, hbg, hh, hkc, hcm, hcs, htk⟩
      · rw [e] at hgv; simp [zU] at hgv
      · have eg : g' = g := by rw [e] at hgv; simpa [zU] using hgv
        subst eg
        have hsz : k * size ≤ cur.size := by rw [hcs]; exact Nat.mul_le_mul_right _ hkc
        refine ⟨cur, ty, hh, by omega, fun w' hgr hh' => ⟨splice ys off (a.eval y).cells.toList, ⟨by rw [wB (by omega)]; exact hl, .inr ⟨g', cap, _, e, hbg, hh', hkc, hcm, ?_, ?_⟩⟩, (hc.splice hcy (by rw [hlen]; exact hle)).keep (keeps hgr)⟩⟩
        · simp only [List.size_toArray]
          rw [wB (by simp only [Array.length_toList] at *; omega)]
          simpa using hcs
        · apply List.ext_getElem?
          intro i
          rw [List.getElem?_take]
          rw [xX (by simp only [Array.length_toList] at *; omega), xX (by omega)]
          have hi : ∀ (i : Nat), i < k * size → cur.toList[i]? = ys[i]? := fun i hi => by rw [← htk, List.getElem?_take, if_pos hi]
          by_cases h3 : i < k * size
          · rw [if_pos h3]
            split
            · exact hi i h3
            · split
              · rfl
              · exact hi i h3
          · rw [if_neg h3]
            rw [if_neg (by omega), if_neg (by omega)]
            exact (List.getElem?_eq_none (by omega)).symm
  obtain ⟨cur, ty, hh, hfit, hfin⟩ := key
  have hst := run_storeCells_at P g off ty (a.eval y).cells.toList 0 cur w hh (by simpa using hfit) hcy.one
  have hsz : (a.eval y).cells.size = 1 := by have := hcy.len; rw [hlen] at this; simpa using this
  have hrun : (execOp a.eval o).run P w = .ok .skip (w.setRow g (splice cur.toList off (a.eval y).cells.toList).toArray) := by
    unfold execOp
    rw [ho]
    simp only [hv, Instr.storeAt, Instr.sureAddr, storeVar, Sem.run_bind, Sem.run_pure, Result.andThen_ok, hm, hsz, ne_eq, not_true_eq_false, if_false]
    simp only [Nat.add_zero] at hst
    rw [hst]
    rfl
  have hgr : w.grownBy (w.setRow g (splice cur.toList off (a.eval y).cells.toList).toArray) (some g) := ⟨rfl, rfl, rfl, by simp, fun k _ hk => setRow_other w g k _ (fun e => hk (by rw [e]))⟩
  unfold Oper.wp
  rw [hrun]
  show K (a.put o.dst undef) _
  rw [hd]
  exact hK ρ a _ (hs.turn hb hgv hgr hfr (hfin _ hgr (setRow_heap w g cur _ ty _ hh)))
theorem w_storeO {id off id2 : Nat} {b b2 : Blk} {agg : Bool} [h : TyA P t agg 1] (ho : o.op = .store t x y) (hx : S.get x = .ptr id off) (hb : S.blk id = some b) (hy : S.get y = .own id2) (hb2 : S.blk id2 = some b2) (hrow : b2.isRow = true)
    (hle : off + 1 ≤ b.xs.length) (hlb : b.lentB = false) (hd : o.dst = none) : Step P n o S { S with s := putL S.s id (b.setXs (splice b.xs off [AV.own id2])) } :=
  s_storeO ho hx hb hy hb2 hrow h.sz hle hlb hd
end
theorem givesRowV {P : Program} {fn : Func} {S : AS} {t id e sz : Nat} {es : List PV} (hr : fn.results = #[.tmp t]) (ht : S.tmp t = .own id) (hb : S.blk id = some (rowV e sz es)) : ∃ S', Sub S S' ∧ GivesV P fn S' (.row e sz es.length (flat es)) :=
  ⟨_, (w9 hb (rowV_alike' e sz es)).sub, .row hr ht (by rw [AS.xD, if_pos rfl])⟩
end Go.Proofs.YthnmfmdkdngggaaDoor
