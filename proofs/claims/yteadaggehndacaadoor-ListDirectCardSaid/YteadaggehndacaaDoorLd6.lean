/- For every input ListDirect returns true, and leaves its arguments as they were; tied: Rows.ListDirectCardSaid. Conditions: none beyond the given statement's own. (Part 6 of 8.) -/
import Derived.Test.YteadaggehndacaaDoorLd5
import Derived.Scope
import Derived.Recover
/- A scope whose code jumps back to its label. Generic over the program. -/
namespace Go.Proofs.YteadaggehndacaaDoor
set_option maxRecDepth 100000
set_option maxHeartbeats 16000000
open Go Go.RowKit
/-- by a goto to label l: J; by any other goto: no way out -/
def vM (l : Nat) (J : AS → Prop) (K : Exit → AS → Prop) : Exit → AS → Prop
  | .goto l', S => l' = l ∧ J S
  | e, S => K e S
theorem vM.n {S : AS} {l : Nat} {J : AS → Prop} {K : Exit → AS → Prop} (h : K .normal S) : vM l J K .normal S := h
theorem vM.r {S : AS} {l : Nat} {J : AS → Prop} {K : Exit → AS → Prop} (h : K .ret S) : vM l J K .ret S := h
theorem vM.e {S : AS} {l i : Nat} {J : AS → Prop} {K : Exit → AS → Prop} (h : K (.exit i) S) : vM l J K (.exit i) S := h
theorem vM.p {S : AS} {l : Nat} {J : AS → Prop} {K : Exit → AS → Prop} {c} (h : K (.panic c) S) : vM l J K (.panic c) S := h
theorem vM.g {S : AS} {l : Nat} {J : AS → Prop} {K : Exit → AS → Prop} (h : J S) : vM l J K (.goto l) S := ⟨rfl, h⟩
section
variable {P : Program} {n : Nat} {S : AS}
/-- the label stands at the scope's beginning -/
theorem zZ.scopeL {rest : Code} {K : Exit → AS → Prop} {ι : Type} (l : Nat) (inv : ι → AS) (ok : ι → Prop) (μ : ι → Nat) (i0 : ι) (h0 : Sub S (inv i0)) (hi0 : ok i0)
    (round : ∀ i, ok i → zZ P n rest (inv i) (vM l (fun S' => ∃ j, Sub S' (inv j) ∧ ok j ∧ μ j < μ i) K)) : zZ P n (.scope (.seq (.label l) rest)) S K := by
  intro M w0 ρ a w Q hs hK
  obtain ⟨ρ0, hs0⟩ := h0 M n w0 ρ a w hs
  intro b k cs
  have hg : gotoIn l (.inScope (.seq (.label l) rest) :: k) = some (.code (.seq .skip rest) :: .inScope (.seq (.label l) rest) :: k) := by simp [gotoIn, findLabel]
  have key : ∀ (m : Nat) (i : ι) (ρ : Nat → Value) (a : Act) (w : World), μ i = m → ok i → Sat M n w0 (inv i) ρ a w →
      ∃ e a' w', Q e a' w' ∧ Arrives P (lone (b.at a (.code rest :: .inScope (.seq (.label l) rest) :: k)) cs w) b k cs e a' w' := by
    intro m
    induction m using Nat.strongRecOn with
    | _ m ih =>
      intro i ρ a w hm hi hsi
      have hr := round i hi M w0 ρ a w (fun e a' w' => match e with
          | .goto l' => l' = l ∧ ∃ j ρ', ok j ∧ μ j < μ i ∧ Sat M n w0 (inv j) ρ' a' w'
          | e => Q e a' w') hsi (fun e S' ρ' a' w' hk hs' hx => by
        cases e with
        | goto l' =>
          obtain ⟨h1, j, hsub, hj, hlt⟩ := hk
          obtain ⟨ρ'', hs''⟩ := hsub M n w0 ρ' a' w' hs'
          exact ⟨h1, j, ρ'', hj, hlt, hs''⟩
        | normal => exact hK .normal S' ρ' a' w' hk hs' hx
        | exit id => exact hK (.exit id) S' ρ' a' w' hk hs' hx
        | ret => exact hK .ret S' ρ' a' w' hk hs' hx
        | panic c => exact hK (.panic c) S' ρ' a' w' hk hs' hx
        | outgrown => exact hK .outgrown S' ρ' a' w' hk hs' hx)
      obtain ⟨e, a₁, w₁, hq, harr⟩ := hr b (.inScope (.seq (.label l) rest) :: k) cs
      cases e with
      | normal => exact ⟨.normal, a₁, w₁, hq, Steps.trans harr (.one step_inScope)⟩
      | exit id => exact ⟨.exit id, a₁, w₁, hq, fun k' hk => harr k' (by simp [exitTo, hk])⟩
      | goto l' =>
        obtain ⟨rfl, j, ρ', hj, hlt, hs'⟩ := hq
        obtain ⟨e₂, a₂, w₂, hq₂, harr₂⟩ := ih (μ j) (by omega) j ρ' a₁ w₁ rfl hj hs'
        exact ⟨e₂, a₂, w₂, hq₂, .of_steps (Steps.trans (harr _ hg) (.head step_seq (.one step_skip))) harr₂⟩
      | ret => exact ⟨_, a₁, w₁, hq, harr⟩
      | panic ch => exact ⟨_, a₁, w₁, hq, harr⟩
      | outgrown => exact ⟨_, a₁, w₁, hq, harr⟩
  obtain ⟨e, a', w', hq, harr⟩ := key _ i0 ρ0 a w rfl hi0 hs0
  exact ⟨e, a', w', hq, .of_steps (.head step_scope (.head step_seq (.one step_label))) harr⟩
end
end Go.Proofs.YteadaggehndacaaDoor
/- Where functions that make accesses, or go through a log, panic: what is said then is not of slots; nor by jumps. -/
namespace Go.Proofs.YteadaggehndacaaDoor
set_option maxRecDepth 100000
set_option maxHeartbeats 16000000
open Go Go.RowKit
instance {l : Nat} {J : AS → Prop} {K : Exit → AS → Prop} [h : PanK K] : PanK (vM l J K) := ⟨fun S hk => h.h S hk⟩
theorem hasL_bare {S : AS} : ∀ (B : List Blk) (i : Nat), hasL S i B → hasL { S with t := [] } i B
  | [], _, _ => trivial
  | _ :: r, i, h => ⟨h.1, hasL_bare r (i + 1) h.2⟩
theorem fgL_bare {S : AS} : ∀ (B : List Blk) (i : Nat), fgL S i B → fgL { S with t := [] } i B
  | [], _, _ => trivial
  | _ :: r, i, h => ⟨h.1, fgL_bare r (i + 1) h.2⟩
instance {α : Type} {H : Hnd} {fn : Func} {res : α → AV} {bk : List Blk} {bk' : α → List Blk} {m : Held H.σ α} : PanK (EndH H fn res bk bk' m) := ⟨fun S hk => by
  cases hk with
  | pan hx hB hF h => exact .pan hx (hasL_bare _ _ hB) (fgL_bare _ _ hF) h
  | ret he hg hB h => rcases he with h | h <;> cases h⟩
end Go.Proofs.YteadaggehndacaaDoor
/- A record is given back; a walk's steps: the program's, whatever makes its accesses: contracts. -/
namespace Go.Proofs.YteadaggehndacaaDoor
set_option maxRecDepth 100000
set_option maxHeartbeats 16000000
open Go Go.RowKit
set_option linter.unusedSimpArgs false
set_option linter.unusedVariables false
attribute [local irreducible] zY zZ Step zQ Sub zM zP Fn zS yE
theorem limbo_fn (e : Int) (h0 : 0 ≤ e) : Fn Tryd.prog 85 [.val (.int .u64 e)] (.p (.val (.int .i64 (xG e)))) := by
  have g1 : e.tmod 3 = e % 3 := Int.tmod_eq_emod_of_nonneg h0
  have g2 : IntKind.i64.wrap (e % 3) = e % 3 := wrap_i64 _ (by omega)
  have g3 : IntKind.i64.wrap (4 + e % 3) = xG e := wrap_i64 _ (by omega)
  refine kY Tryd.func85 rfl Tryd.ntmps85 (Nat.le_of_ble_eq_true rfl) ?_
  repeat' (first | (refine zY.nil ?_) | (refine zZ.is ?_; first | refine zZ.seq ?_ | (refine zZ.isR (id := 0) ?_; refine zZ.rc [0] [] (r := (.v zO .e)) (h := ?_)) | (refine zZ.isR (id := 1) ?_; refine zZ.rc [0, 2] [] (r := (.v zB (.v vK (.v kQ (.v vL (.v zO .e)))))) (h := ?_)) | refine zZ.ret ?_) | refine zS.n ?_)
  all_goals exact ⟨.inl rfl, gives1 rfl rfl rfl⟩
def retS (H : Hnd) (t r at_ : Int) (d : Bool) (s : H.σ) : AS :=
  { t := [(0, H.doA), (1, .p (.val (.int .i64 t))), (2, .p (.val (.int .i64 r))), (6, .p (.val (.int .i64 at_))), (7, .p (.val (.bool d)))], s := [(1000, H.b0 s), (1001, H.b1 s), (1002, H.b2 s)] }
/-- what is left behind a round -/
def retRest (t r at_ : Int) (n : Nat) (d : Bool) : Pr Unit := bif d then .ret () else .loop (retRound t r at_) n ()
theorem retire_h (H : Hnd) (s0 : H.σ) {t r : Int} (ht : Small t) (hr : Rf r) : FnH H 70 [H.doA, .p (.val (.int .i64 t)), .p (.val (.int .i64 r))] [] (fun _ => .any) (fun _ => []) yes s0 (retireP t r) := by
  have wr : IntKind.u64.wrap r = r := wrap_u64 _ ⟨hr.lo, by have := hr.hi; omega⟩
  have hru := hr.u
  have cf := fieldR (hr.rc ht) 7 (by decide)
  unfold Hnd.doA
  refine wY Tryd.func70 rfl Tryd.ntmps70 (Nat.le_of_ble_eq_true rfl) (by decide) (fine_retire t hr.u) fun hok hns => ?_
  repeat' (first | (refine zY.is ?_; first | refine zY.nil ?_ | (refine zY.at_ 6 rfl ?_; refine zY.rc (.v zO .e) ?_) | (refine zY.in_ [11] rfl ?_; refine zY.v rfl rfl (yY (limbo_fn _ (U.lo (by assumption))) rfl rfl rfl (by decide)) ?_) | (refine zY.in_ [10] rfl ?_; refine zY.ofT rfl (zP.hd (i := []) (f := load_h H _ 3) (r := fun x s e g hk => ?_) (p := fun q s e => ?_) (t := ?_)))) | (refine zZ.is ?_; first | refine zZ.seq ?_ | (refine zZ.isR (id := 0) ?_; refine zZ.rc [0, 1, 2] [1000, 1001, 1002] (r := (.v wC .e)) (h := ?_)) | (refine zZ.isR (id := 1) ?_; refine zZ.rc [0, 1, 2, 6] [1000, 1001, 1002] (r := (.v zO .e)) (h := ?_)) | refine zZ.block ?_) | refine zS.n ?_ | refine zS.p ?_)
  all_goals (first | exact fun e => hns (by clear hns; simp only [retireP, run_bind, zL, zI, Held.zC, Held.zH, Held.zF, cond_true, cond_false, *]) | exact .pan (q := q) rfl (by repeat' first | exact trivial | rfl | constructor) (by repeat' exact trivial) (by simp only [retireP, run_bind, zL, zI, Held.zC, Held.zH, Held.zF, cond_true, cond_false, *]) | skip)
  have ho0 : (retireP t r).run H.st s0 = (retLoop t r (xG x)).run H.st s := by simp only [retireP, run_bind, zL, Held.zC, *]
  rw [ho0] at hns ⊢
  generalize xG x = at_ at *
  refine zZ.loop (fun p : Bool × Nat × H.σ => retS H t r at_ p.1 p.2.2) (fun p => H.ok p.2.2 ∧ (retRest t r at_ p.2.1 p.1).run H.st p.2.2 = (retLoop t r at_).run H.st s) (fun p => p.2.1) (false, many, s) ?h0 ⟨by assumption, rfl⟩ ?rd
  case h0 =>
    refine zN (is := [0, 1, 2, 6, 7]) (js := [1000, 1001, 1002]) ?_ ?_
    repeat' first | exact zW.nil | apply zW.p rfl | apply zW.ptr rfl | apply zW.own rfl | apply zW.clo rfl | apply zW.ifp rfl | apply zW.pt rfl | apply zW.tup rfl | apply zW.skip
    repeat' first | exact zX.nil | apply zX.boxP rfl rfl | apply zX.yG rfl | (apply zX.at0; exact zK rfl (H.nk _).1 (by repeat' exact KB.refl)) | (apply zX.at1; exact zK rfl (H.nk _).2.1 (by repeat' exact KB.refl)) | (apply zX.at2; exact zK rfl (H.nk _).2.2 (by repeat' exact KB.refl)) | apply zX.some rfl | apply zX.skip
  case rd =>
    rintro ⟨d, n, s1⟩ ⟨hok1, ho⟩
    dsimp only at hok1 ho ⊢
    unfold retS Hnd.doA
    cases d with
    | true =>
      have ho : Held.done () s1 = (retLoop t r at_).run H.st s := ho
      rw [← ho] at hns ⊢
      repeat' (first | (refine zY.nil ?_) | (refine zZ.is ?_; first | refine zZ.seq ?_ | (refine zZ.isR (id := 2) ?_; refine zZ.rc [0, 1, 2, 6, 7, 8, 13] [1000, 1001, 1002] (r := (.v zB (.v wV .e))) (h := ?_)) | refine zZ.y9 rfl bA ?_ | refine zZ.exit ?_) | refine zS.n ?_ | refine yE.eY ?_ | refine zS.e ?_)
      all_goals (exact .ret (x := ()) (by exact .inr rfl) (by exact .none rfl) (by repeat' first | exact trivial | rfl | constructor) (by simp only [run_bind, zL, zI, Held.zC, Held.zH, Held.zF, cond_true, cond_false, *] <;> rfl))
    | false =>
      have ho : (Pr.loop (retRound t r at_) n ()).run H.st s1 = (retLoop t r at_).run H.st s := ho
      cases n with
      | zero => exact absurd ho.symm hns
      | succ n =>
        rw [Pr.loop_succ] at ho
        rw [← ho] at hns ⊢
        repeat' (first | (refine zY.is ?_; first | refine zY.nil ?_ | (refine zY.at_ 21 rfl ?_; refine zY.rc (.v zB .e) ?_) | (refine zY.at_ 7 rfl ?_; refine zY.rc (.v zO .e) ?_) | (refine zY.at_ 8 rfl ?_; refine zY.rc (.v zO .e) ?_) | (refine zY.in_ [20] rfl ?_; refine zY.v rfl rfl (yY (cf) rfl rfl rfl (by decide)) ?_) | (refine zY.in_ [16] rfl ?_; refine zY.ofT rfl (zP.hd (i := []) (f := load_h H _ _) (r := fun x s e g hk => ?_) (p := fun q s e => ?_) (t := ?_))) | (refine zY.in_ [22] rfl ?_; refine zY.ofT rfl (zP.hd (i := []) (f := store_h H _ _ _ (by assumption)) (r := fun x s e g hk => ?_) (p := fun q s e => ?_) (t := ?_))) | (refine zY.in_ [28] rfl ?_; refine zY.ofT rfl (zP.hd (i := []) (f := cas_h H _ _ _ _ (by assumption) hru) (r := fun x s e g hk => ?_) (p := fun q s e => ?_) (t := ?_)))) | (refine zZ.is ?_; first | refine zZ.seq ?_ | (refine zZ.isR (id := 2) ?_; refine zZ.rc [0, 1, 2, 6, 7, 8, 13] [1000, 1001, 1002] (r := (.v zB (.v v52_4 .e))) (h := ?_)) | (refine zZ.isR (id := 3) ?_; refine zZ.rc [0, 1, 2, 6, 7, 8, 13] [1000, 1001, 1002] (r := (.v wC (.v zB .e))) (h := ?_)) | (refine zZ.isR (id := 4) ?_; refine zZ.rc [0, 1, 2, 6, 7, 8, 13] [1000, 1001, 1002] (r := (.v wC (.v zB (.v zB .e)))) (h := ?_)) | (refine zZ.isR (id := 5) ?_; refine zZ.rc [0, 1, 2, 6, 7, 8, 13] [1000, 1001, 1002] (r := (.v wC (.v zB (.v zB (.v zB (.v kQ .e)))))) (h := ?_)) | refine zZ.xV rfl bA ?_ | refine zZ.skip ?_ | refine zZ.block ?_) | refine zS.n ?_ | refine zS.p ?_ | refine yE.n ?_ | refine yE.p ?_)
        all_goals (first | exact fun e => hns (by clear hns; simp only [retRound, run_bind, zL, zI, Held.zC, Held.zH, Held.zF, cond_true, cond_false, *]) | exact .pan (q := q) rfl (by repeat' first | exact trivial | rfl | constructor) (by repeat' exact trivial) (by simp only [retRound, run_bind, zL, zI, Held.zC, Held.zH, Held.zF, cond_true, cond_false, *]) | skip)
        refine ⟨(x, n, s), ?_, ⟨by assumption, ?_⟩, Nat.lt_succ_self n⟩
        · refine zN (is := [0, 1, 2, 6, 7]) (js := [1000, 1001, 1002]) ?_ ?_
          repeat' first | exact zW.nil | apply zW.p rfl | apply zW.ptr rfl | apply zW.own rfl | apply zW.clo rfl | apply zW.ifp rfl | apply zW.pt rfl | apply zW.tup rfl | apply zW.skip
          repeat' first | exact zX.nil | apply zX.boxP rfl rfl | apply zX.yG rfl | (apply zX.at0; exact zK rfl (H.nk _).1 (by repeat' exact KB.refl)) | (apply zX.at1; exact zK rfl (H.nk _).2.1 (by repeat' exact KB.refl)) | (apply zX.at2; exact zK rfl (H.nk _).2.2 (by repeat' exact KB.refl)) | apply zX.some rfl | apply zX.skip
        · clear ho hns
          simp only [retRound, run_bind, zL, Held.zC, *]
          cases x <;> rfl
/-! ### A walk's variable, and its steps -/
def vH (H : Hnd) (t p x : Int) : Blk := .box 85 [H.doA, .p (.val (.int .i64 t)), .p (.val (.int .i64 p)), .p (.val (.int .i64 x))]
theorem start_h (H : Hnd) (s0 : H.σ) {t p x : Int} (ht : Small t) : FnH H 53 [.ptr 1003 0] [vH H t p x] (fun _ => .any) (fun w => [vH H t 0 (xM w)]) U s0 (wE 0) := by
  have cn : Fn Tryd.prog 36 [.val (.int .i64 t), .val (.int .i64 0)] (.p (.val (.int .i64 0))) := cnext_fn t 0 ht (by decide)
  unfold vH Hnd.doA
  refine wY Tryd.func53 rfl Tryd.ntmps53 (Nat.le_of_ble_eq_true rfl) (by decide) (yT _) fun hok hns => ?_
  repeat' (first | (refine zZ.is ?_; (refine zZ.isR (id := 0) ?_; refine zZ.rk [0] [1000, 1001, 1002, 1003] ?_; refine zZ.drawGo (by kernel_rfl) ?_)) | (refine DGo.at_ [] ?_; refine DGo.fr 0 ?_) | (refine DGo.at_ [0] ?_; refine DGo.fr 1 ?_) | (refine DGo.at_ [1, 0] ?_; refine DGo.fr 2 ?_) | (refine DGo.at_ [2, 1, 0] ?_; refine DGo.fr 3 ?_) | (refine DGo.at_ [3, 2, 1, 0] ?_; refine DGo.fr 4 ?_) | (refine DGo.at_ [4, 3, 2, 1, 0] ?_; refine DGo.fr 6 ?_) | (refine DGo.at_ [6, 4, 3, 2, 1, 0] ?_; refine DGo.fr 7 ?_) | (refine DGo.at_ [7, 6, 4, 3, 2, 1, 0] ?_; refine DGo.fr 8 ?_) | (refine DGo.at_ [8, 7, 6, 4, 3, 2, 1, 0] ?_; refine DGo.all [5, 9] (by kernel_rfl) ?_) | (refine DGo.at_ [9, 8, 7, 6, 4, 3, 2, 1, 0] ?_; refine DGo.all [5, 10] (by kernel_rfl) ?_) | (refine DGo.at_ [10, 9, 8, 7, 6, 4, 3, 2, 1, 0] ?_; refine DGo.all [5] (by kernel_rfl) ?_) | (refine DGo.at_ [5, 10, 9, 8, 7, 6, 4, 3, 2, 1, 0] ?_; refine DGo.all [11] (by kernel_rfl) ?_) | (refine DGo.at_ [11, 5, 10, 9, 8, 7, 6, 4, 3, 2, 1, 0] ?_; refine DGo.all [12] (by kernel_rfl) ?_) | (refine DGo.at_ [12, 11, 5, 10, 9, 8, 7, 6, 4, 3, 2, 1, 0] ?_; refine DGo.fr 13 ?_) | (refine DGo.at_ [13, 12, 11, 5, 10, 9, 8, 7, 6, 4, 3, 2, 1, 0] ?_; refine DGo.fr 14 ?_) | (refine DGo.at_ [14, 13, 12, 11, 5, 10, 9, 8, 7, 6, 4, 3, 2, 1, 0] ?_; refine DGo.all [15] (by kernel_rfl) ?_) | (refine DGo.at_ [15, 14, 13, 12, 11, 5, 10, 9, 8, 7, 6, 4, 3, 2, 1, 0] ?_; refine DGo.fr 16 ?_) | (refine DGo.at_ [16, 15, 14, 13, 12, 11, 5, 10, 9, 8, 7, 6, 4, 3, 2, 1, 0] ?_; refine DGo.fr 17 ?_) | (refine DGo.at_ [17, 16, 15, 14, 13, 12, 11, 5, 10, 9, 8, 7, 6, 4, 3, 2, 1, 0] ?_; refine DGo.all [18] (by kernel_rfl) ?_) | (refine DGo.at_ [18, 17, 16, 15, 14, 13, 12, 11, 5, 10, 9, 8, 7, 6, 4, 3, 2, 1, 0] ?_; refine DGo.fin (by kernel_rfl) ?_) | (refine DGo.at_ [5, 9, 8, 7, 6, 4, 3, 2, 1, 0] ?_; refine DGo.all [10] (by kernel_rfl) ?_) | (refine DGo.at_ [10, 5, 9, 8, 7, 6, 4, 3, 2, 1, 0] ?_; refine DGo.all [11] (by kernel_rfl) ?_) | (refine DGo.at_ [11, 10, 5, 9, 8, 7, 6, 4, 3, 2, 1, 0] ?_; refine DGo.all [12] (by kernel_rfl) ?_) | (refine DGo.at_ [12, 11, 10, 5, 9, 8, 7, 6, 4, 3, 2, 1, 0] ?_; refine DGo.fr 13 ?_) | (refine DGo.at_ [13, 12, 11, 10, 5, 9, 8, 7, 6, 4, 3, 2, 1, 0] ?_; refine DGo.fr 14 ?_) | (refine DGo.at_ [14, 13, 12, 11, 10, 5, 9, 8, 7, 6, 4, 3, 2, 1, 0] ?_; refine DGo.all [15] (by kernel_rfl) ?_) | (refine DGo.at_ [15, 14, 13, 12, 11, 10, 5, 9, 8, 7, 6, 4, 3, 2, 1, 0] ?_; refine DGo.fr 16 ?_) | (refine DGo.at_ [16, 15, 14, 13, 12, 11, 10, 5, 9, 8, 7, 6, 4, 3, 2, 1, 0] ?_; refine DGo.fr 17 ?_) | (refine DGo.at_ [17, 16, 15, 14, 13, 12, 11, 10, 5, 9, 8, 7, 6, 4, 3, 2, 1, 0] ?_; refine DGo.all [18] (by kernel_rfl) ?_) | (refine DGo.at_ [18, 17, 16, 15, 14, 13, 12, 11, 10, 5, 9, 8, 7, 6, 4, 3, 2, 1, 0] ?_; refine DGo.fin (by kernel_rfl) ?_) | (refine DGo.at_ [5, 8, 7, 6, 4, 3, 2, 1, 0] ?_; refine DGo.all [9] (by kernel_rfl) ?_) | (refine DGo.at_ [9, 5, 8, 7, 6, 4, 3, 2, 1, 0] ?_; refine DGo.all [10] (by kernel_rfl) ?_) | (refine DGo.at_ [10, 9, 5, 8, 7, 6, 4, 3, 2, 1, 0] ?_; refine DGo.all [11] (by kernel_rfl) ?_) | (refine DGo.at_ [11, 10, 9, 5, 8, 7, 6, 4, 3, 2, 1, 0] ?_; refine DGo.all [12] (by kernel_rfl) ?_) | (refine DGo.at_ [12, 11, 10, 9, 5, 8, 7, 6, 4, 3, 2, 1, 0] ?_; refine DGo.fr 13 ?_) | (refine DGo.at_ [13, 12, 11, 10, 9, 5, 8, 7, 6, 4, 3, 2, 1, 0] ?_; refine DGo.fr 14 ?_) | (refine DGo.at_ [14, 13, 12, 11, 10, 9, 5, 8, 7, 6, 4, 3, 2, 1, 0] ?_; refine DGo.all [15] (by kernel_rfl) ?_) | (refine DGo.at_ [15, 14, 13, 12, 11, 10, 9, 5, 8, 7, 6, 4, 3, 2, 1, 0] ?_; refine DGo.fr 16 ?_) | (refine DGo.at_ [16, 15, 14, 13, 12, 11, 10, 9, 5, 8, 7, 6, 4, 3, 2, 1, 0] ?_; refine DGo.fr 17 ?_) | (refine DGo.at_ [17, 16, 15, 14, 13, 12, 11, 10, 9, 5, 8, 7, 6, 4, 3, 2, 1, 0] ?_; refine DGo.all [18] (by kernel_rfl) ?_) | (refine DGo.at_ [18, 17, 16, 15, 14, 13, 12, 11, 10, 9, 5, 8, 7, 6, 4, 3, 2, 1, 0] ?_; refine DGo.fin (by kernel_rfl) ?_) | refine yV.cons ?_ ?_ | exact yV.nil | (refine yK.at_ 5 ?_; refine yK.v rfl rfl rfl (w_loadC rfl rfl rfl rfl rfl (by decide)) ?_) | (refine yK.at_ 9 ?_; refine yK.v rfl rfl rfl (zD rfl rfl rfl rfl rfl (by decide)) ?_) | (refine yK.at_ 10 ?_; refine yK.v rfl rfl rfl (by exact yY (cn) rfl rfl rfl (by decide)) ?_) | (refine yK.at_ 11 ?_; refine yK.ofT rfl rfl (zP.hd (i := []) (f := load_h H _ _) (r := fun x s e g hk => ?_) (p := fun q s e => ?_) (t := ?_))) | (refine yK.at_ 12 ?_; refine yK.v rfl rfl rfl (by exact yY (ref_fn _ (U.lo (by assumption)) (U.hi (by assumption))) rfl rfl rfl (by decide)) ?_) | (refine yK.at_ 15 ?_; refine yK.w rfl rfl (by exact zT rfl rfl rfl rfl rfl (by rfl) (by exact Nat.le_of_ble_eq_true rfl) rfl rfl) ?_) | (refine yK.at_ 18 ?_; refine yK.w rfl rfl (by exact zT rfl rfl rfl rfl rfl (by rfl) (by exact Nat.le_of_ble_eq_true rfl) rfl rfl) ?_))
  all_goals (first | exact fun e => hns (by clear hns; simp only [run_bind, zL, zI, Held.zC, Held.zH, Held.zF, cond_true, cond_false, *]) | exact .pan (q := q) rfl (by repeat' first | exact trivial | rfl | constructor) (by repeat' first | exact trivial | exact ⟨_, rfl, rfl⟩ | constructor) (by simp only [run_bind, zL, zI, Held.zC, Held.zH, Held.zF, cond_true, cond_false, *]) | exact .ret (x := x) (by exact .inr rfl) (by exact .none rfl) (by repeat' first | exact trivial | rfl | constructor) (by simp only [run_bind, zL, zI, Held.zC, Held.zH, Held.zF, cond_true, cond_false, *] <;> rfl))
theorem field_h (H : Hnd) (s0 : H.σ) {t p x f : Int} (hx : Rc t x) (hf : 0 ≤ f ∧ f ≤ 7) : FnH H 33 [.ptr 1003 0, .p (.val (.int .i64 f))] [vH H t p x] (fun w => .p (.val (.int .u64 w))) (fun _ => [vH H t p x]) U s0 (wE (zG t x f)) := by
  have cf := fieldR hx f hf
  unfold vH Hnd.doA
  refine wY Tryd.func33 rfl Tryd.ntmps33 (Nat.le_of_ble_eq_true rfl) (by decide) (yT _) fun hok hns => ?_
  repeat' (first | (refine zY.nil ?_) | (refine zZ.is ?_; first | refine zZ.seq ?_ | (refine zZ.isR (id := 0) ?_; refine zZ.rc [0, 1] [1000, 1001, 1002, 1003] (r := (.v zO .e)) (h := ?_)) | (refine zZ.isR (id := 1) ?_; refine zZ.rk [0, 1, 4] [1000, 1001, 1002, 1003] ?_; refine zZ.draws ?_) | refine zZ.ret ?_) | refine zS.n ?_ | refine zS.p ?_ | (refine Draws.is ?_; first | refine Draws.rc (.v v0_2 (.v v4_0 (.v yI (.v v2_13 (.v v0_2 (.v v4_0 (.v yI (.v yO (.v v0_2 (.v v4_0 (.v yI (.v yO (.v zB .e))))))))))))) ?_ | (refine Draws.in_ [18] rfl ?_; refine Draws.v rfl rfl (yY (cf) rfl rfl rfl (by decide)) ?_) | refine Draws.done (by kernel_rfl) (by kernel_rfl) (by kernel_rfl) ?_) | (refine zM.is ?_; first | refine zM.nil ?_ | (refine zM.at_ 4 rfl ?_; refine zM.rc (.v zO .e) ?_) | (refine zM.in_ [19] rfl ?_; refine zM.ofT rfl (zP.hd (i := []) (f := load_h H _ _) (r := fun x s e g hk => ?_) (p := fun q s e => ?_) (t := ?_)))))
  all_goals (first | exact fun e => hns (by clear hns; simp only [run_bind, zL, zI, Held.zC, Held.zH, Held.zF, cond_true, cond_false, *]) | exact .pan (q := q) rfl (by repeat' first | exact trivial | rfl | constructor) (by repeat' first | exact trivial | exact ⟨_, rfl, rfl⟩ | constructor) (by simp only [run_bind, zL, zI, Held.zC, Held.zH, Held.zF, cond_true, cond_false, *]) | exact .ret (by exact .inl rfl) (by exact .one rfl rfl) (by repeat' first | exact trivial | rfl | constructor) (by simp only [run_bind, zL, zI, Held.zC, Held.zH, Held.zF, cond_true, cond_false, *] <;> rfl))
theorem on_h (H : Hnd) (s0 : H.σ) {t p x w : Int} (hw : U w) : FnH H 45 [.ptr 1003 0, .p (.val (.int .u64 w))] [vH H t p x] (fun _ => .any) (fun _ => [vH H t x (xM w)]) yes s0 (.ret ()) := by
  have cr := ref_fn w hw.1 hw.2
  unfold vH Hnd.doA
  refine wY Tryd.func45 rfl Tryd.ntmps45 (Nat.le_of_ble_eq_true rfl) (by decide) trivial fun hok hns => ?_
  repeat' (first | (refine zZ.is ?_; (refine zZ.isR (id := 0) ?_; refine zZ.rk [0, 1] [1000, 1001, 1002, 1003] ?_; refine zZ.drawGo (by kernel_rfl) ?_)) | (refine DGo.at_ [] ?_; refine DGo.fr 0 ?_) | (refine DGo.at_ [0] ?_; refine DGo.fr 1 ?_) | (refine DGo.at_ [1, 0] ?_; refine DGo.fr 2 ?_) | (refine DGo.at_ [2, 1, 0] ?_; refine DGo.fr 3 ?_) | (refine DGo.at_ [3, 2, 1, 0] ?_; refine DGo.fr 4 ?_) | (refine DGo.at_ [4, 3, 2, 1, 0] ?_; refine DGo.fr 6 ?_) | (refine DGo.at_ [6, 4, 3, 2, 1, 0] ?_; refine DGo.all [5, 7] (by kernel_rfl) ?_) | (refine DGo.at_ [7, 6, 4, 3, 2, 1, 0] ?_; refine DGo.all [5] (by kernel_rfl) ?_) | (refine DGo.at_ [5, 7, 6, 4, 3, 2, 1, 0] ?_; refine DGo.fr 8 ?_) | (refine DGo.at_ [8, 5, 7, 6, 4, 3, 2, 1, 0] ?_; refine DGo.fr 9 ?_) | (refine DGo.at_ [9, 8, 5, 7, 6, 4, 3, 2, 1, 0] ?_; refine DGo.all [10] (by kernel_rfl) ?_) | (refine DGo.at_ [10, 9, 8, 5, 7, 6, 4, 3, 2, 1, 0] ?_; refine DGo.fr 11 ?_) | (refine DGo.at_ [11, 10, 9, 8, 5, 7, 6, 4, 3, 2, 1, 0] ?_; refine DGo.fr 12 ?_) | (refine DGo.at_ [12, 11, 10, 9, 8, 5, 7, 6, 4, 3, 2, 1, 0] ?_; refine DGo.all [13] (by kernel_rfl) ?_) | (refine DGo.at_ [13, 12, 11, 10, 9, 8, 5, 7, 6, 4, 3, 2, 1, 0] ?_; refine DGo.fin (by kernel_rfl) ?_) | (refine DGo.at_ [5, 6, 4, 3, 2, 1, 0] ?_; refine DGo.all [7] (by kernel_rfl) ?_) | (refine DGo.at_ [7, 5, 6, 4, 3, 2, 1, 0] ?_; refine DGo.fr 8 ?_) | (refine DGo.at_ [8, 7, 5, 6, 4, 3, 2, 1, 0] ?_; refine DGo.fr 9 ?_) | (refine DGo.at_ [9, 8, 7, 5, 6, 4, 3, 2, 1, 0] ?_; refine DGo.all [10] (by kernel_rfl) ?_) | (refine DGo.at_ [10, 9, 8, 7, 5, 6, 4, 3, 2, 1, 0] ?_; refine DGo.fr 11 ?_) | (refine DGo.at_ [11, 10, 9, 8, 7, 5, 6, 4, 3, 2, 1, 0] ?_; refine DGo.fr 12 ?_) | (refine DGo.at_ [12, 11, 10, 9, 8, 7, 5, 6, 4, 3, 2, 1, 0] ?_; refine DGo.all [13] (by kernel_rfl) ?_) | (refine DGo.at_ [13, 12, 11, 10, 9, 8, 7, 5, 6, 4, 3, 2, 1, 0] ?_; refine DGo.fin (by kernel_rfl) ?_) | refine yV.cons ?_ ?_ | exact yV.nil | (refine yK.at_ 5 ?_; refine yK.v rfl rfl rfl (zD rfl rfl rfl rfl rfl (by decide)) ?_) | (refine yK.at_ 7 ?_; refine yK.v rfl rfl rfl (by exact yY (cr) rfl rfl rfl (by decide)) ?_) | (refine yK.at_ 10 ?_; refine yK.w rfl rfl (by exact zT rfl rfl rfl rfl rfl (by rfl) (by exact Nat.le_of_ble_eq_true rfl) rfl rfl) ?_) | (refine yK.at_ 13 ?_; refine yK.w rfl rfl (by exact zT rfl rfl rfl rfl rfl (by rfl) (by exact Nat.le_of_ble_eq_true rfl) rfl rfl) ?_))
  all_goals (exact .ret (x := ()) (by exact .inr rfl) (by exact .none rfl) (by repeat' first | exact trivial | rfl | constructor) (by simp only [run_bind, zL, zI, Held.zC, Held.zH, Held.zF, cond_true, cond_false, *] <;> rfl))
theorem save2_h (H : Hnd) (s0 : H.σ) {t x : Int} (hx : Rc t x) : FnH H 69 [H.doA, .p (.val (.int .i64 t)), .p (.val (.int .i64 x)), .p (.val (.int .i64 2))] [] (fun x => .p (.val (.bool x))) (fun _ => []) yes s0 (saveP t x 2) := save_h H s0 hx (.inr rfl)
def tookB (H : Hnd) (t p x w : Int) (r : Took) : Blk := vH H t p (bif r.d then xM w else x)
theorem out_h (H : Hnd) (s0 : H.σ) {t p x w : Int} (ht : Small t) (hW : WOK p x) (hw : U w) : FnH H 54 [.ptr 1003 0, .p (.val (.int .u64 w))] [vH H t p x] (fun r => .tup ([.val (.bool r.d), .val (.bool r.ok)].map .p)) (fun r => [tookB H t p x w r]) yes s0 (takeP t p x w) := by
  have cn := cnext_fn t p ht hW.p.le
  have c1 := link_fn x hW.x.le
  have c2 := link_fn (xM w) (kJ w).le
  have c3 := ref_fn w hw.1 hw.2
  have u1 := hW.x.u2
  have u2 := (kJ w).u2
  have hf := fine_take t p w hW.x
  have hx := hW.x.rc ht
  unfold tookB vH Hnd.doA
  refine wY Tryd.func54 rfl Tryd.ntmps54 (Nat.le_of_ble_eq_true rfl) (by decide) hf fun hok hns => ?_
  repeat' (first | (refine zY.is ?_; first | refine zY.nil ?_ | (refine zY.at_ 58 rfl ?_; refine zY.rc (.v v4_0 (.v yI (.w yZ .e))) ?_) | (refine zY.in_ [57] rfl ?_; refine zY.v rfl rfl (yY (c3) rfl rfl rfl (by decide)) ?_)) | (refine zZ.is ?_; first | refine zZ.seq ?_ | (refine zZ.isR (id := 0) ?_; refine zZ.rc [0, 1] [1000, 1001, 1002, 1003] (r := (.v zO (.v zO .e))) (h := ?_)) | (refine zZ.isR (id := 1) ?_; refine zZ.rk [0, 1, 4, 5] [1000, 1001, 1002, 1003] ?_; refine zZ.draws ?_) | (refine zZ.isR (id := 2) ?_; refine zZ.rc [0, 1, 4, 5] [1000, 1001, 1002, 1003] (r := (.v zO (.v zO .e))) (h := ?_)) | (refine zZ.isR (id := 3) ?_; refine zZ.rc [0, 1, 4, 5] [1000, 1001, 1002, 1003] (r := (.v v0_2 (.v v4_0 (.v yI (.v yO (.v zO .e)))))) (h := ?_)) | (refine zZ.isR (id := 4) ?_; refine zZ.rk [0, 1, 4, 5, 6] [1000, 1001, 1002, 1003] ?_; refine zZ.draws ?_) | (refine zZ.isR (id := 5) ?_; refine zZ.rc [0, 1, 4, 5, 6] [1000, 1001, 1002, 1003] (r := (.v zO (.v zO .e))) (h := ?_)) | (refine zZ.isR (id := 6) ?_; refine zZ.rk [0, 1, 4, 5, 6] [1000, 1001, 1002, 1003] ?_; refine zZ.draws ?_) | (refine zZ.isR (id := 7) ?_; refine zZ.rc [0, 1, 4, 5] [1000, 1001, 1002, 1003] (r := (.v v0_2 (.v zB .e))) (h := ?_)) | (refine zZ.isR (id := 8) ?_; refine zZ.rc [4, 5] [1000, 1001, 1002, 1003] (r := (.v zO (.v zO .e))) (h := ?_)) | refine zZ.cond rfl (fun h => ?_) (fun h => ?_) | refine zZ.skip ?_ | refine zZ.ret ?_) | refine zS.n ?_ | refine zS.r ?_ | refine zS.p ?_ | (refine Draws.is ?_; first | refine Draws.rc (.v zB .e) ?_ | refine Draws.rc (.v v0_2 (.v v4_0 (.v yI (.v v2_13 (.v v0_2 (.v v4_0 (.v yI (.v yO (.v zB .e))))))))) ?_ | refine Draws.rc (.v v0_2 (.v v4_0 (.v yI (.v v2_13 (.v v0_2 (.v v4_0 (.v yI (.v yO (.v v0_2 (.v v4_0 (.v yI (.v yO .e)))))))))))) ?_ | (refine Draws.in_ [37] rfl ?_; refine Draws.v rfl rfl (yY (cn) rfl rfl rfl (by decide)) ?_) | (refine Draws.in_ [39] rfl ?_; refine Draws.v rfl rfl (yY (c1) rfl rfl rfl (by decide)) ?_) | (refine Draws.in_ [42] rfl ?_; refine Draws.v rfl rfl (yY (c2) rfl rfl rfl (by decide)) ?_) | (refine Draws.in_ [41] rfl ?_; refine Draws.v rfl rfl (yY (c3) rfl rfl rfl (by decide)) ?_) | refine Draws.done (by kernel_rfl) (by kernel_rfl) (by kernel_rfl) ?_) | (refine zM.is ?_; first | refine zM.nil ?_ | (refine zM.at_ 20 rfl ?_; refine zM.rc (.v v52_8 .e) ?_) | (refine zM.at_ 44 rfl ?_; refine zM.rc (.v v52_8 .e) ?_) | (refine zM.in_ [19] rfl ?_; refine zM.ofT rfl (zP.hd (i := []) (f := save2_h H _ hx) (r := fun x s e g hk => ?_) (p := fun q s e => ?_) (t := ?_))) | (refine zM.in_ [43] rfl ?_; refine zM.ofT rfl (zP.hd (i := []) (f := cas_h H _ _ _ _ u1 u2) (r := fun x s e g hk => ?_) (p := fun q s e => ?_) (t := ?_))) | (refine zM.in_ [54] rfl ?_; refine zM.ofT rfl (zP.hd (i := []) (f := retire_h H _ ht hW.x) (r := fun x s e g hk => ?_) (p := fun q s e => ?_) (t := ?_)))))
  all_goals try simp only [Bool.not_eq_true', Bool.not_eq_false'] at *
  all_goals first
    | exact .ret (x := .fail) (.inl rfl) (.tup rfl (by decide) (.cons (.tmp rfl) (.cons (.tmp rfl) .nil))) (by repeat' first | exact trivial | rfl | constructor) (by simp only [takeP, run_bind, zL, zI, Held.zC, cond_true, cond_false, *])
    | exact .ret (x := .miss) (.inl rfl) (.tup rfl (by decide) (.cons (.tmp rfl) (.cons (.tmp rfl) .nil))) (by repeat' first | exact trivial | rfl | constructor) (by simp only [takeP, run_bind, zL, zI, Held.zC, cond_true, cond_false, *])
    | skip
  all_goals (first | exact fun e => hns (by clear hns; simp only [takeP, run_bind, zL, zI, Held.zC, Held.zH, Held.zF, cond_true, cond_false, *]) | exact .pan (q := q) rfl (by repeat' first | exact trivial | rfl | constructor) (by repeat' first | exact trivial | exact ⟨_, rfl, rfl⟩ | constructor) (by simp only [takeP, run_bind, zL, zI, Held.zC, Held.zH, Held.zF, cond_true, cond_false, *]) | exact .ret (x := .done) (by exact .inl rfl) (by exact .tup rfl (by decide) (.cons (.tmp rfl) (.cons (.tmp rfl) .nil))) (by repeat' first | exact trivial | rfl | constructor) (by simp only [takeP, run_bind, zL, zI, Held.zC, Held.zH, Held.zF, cond_true, cond_false, *] <;> rfl))
end Go.Proofs.YteadaggehndacaaDoor
/- Functions that make variables, and hand them back to their callers. Generic over the program. -/
namespace Go.Proofs.YteadaggehndacaaDoor
set_option maxRecDepth 100000
set_option maxHeartbeats 16000000
open Go Go.RowKit
set_option linter.unusedSimpArgs false
set_option linter.unusedVariables false
/-- What function f does: of such arguments, and such variables of its callers'; it hands back new variables, numbered behind those. -/
def FnX (P : Program) (f : FuncId) (args : List AV) (B : List Blk) (x : AV) (B' New : List Blk) : Prop :=
  ∀ (M : Nat → Nat → Prop) (h : Home) (ρ : Nat → Value) (vs : List Value), Handed h B ρ → (∀ k, 1000 + B.length ≤ k → h.r k = none) → Sat M 0 h (asB B) ρ vQ h.w → vs.length = args.length →
    (∀ (i : Nat) x v, args[i]? = some x → vs[i]? = some v → yH (Mut M (asB B) ρ) ρ h.w x v) →
    Calls P f vs.toArray h.w fun e w' => ∃ ρ' v, e = .returned v ∧ Sat M 0 h (asB (B' ++ New)) ρ' vQ w' ∧ yH (Mut M (asB (B' ++ New)) ρ') ρ' w' x v
section
variable {M : Nat → Nat → Prop} {n : Nat} {w0 : Home} {w : World} {S : AS} {ρ : Nat → Value} {a : Act}
theorem Sat.dropU (h : Sat M n w0 S ρ a w) (id : Nat) (u : Value) (hr : w0.r id = none) : Sat M n w0 (S.drop id) (upd ρ id u) a w := by
  have hu : ∀ j, j ≠ id → upd ρ id u j = ρ j := fun j hj => by simp [upd, hj]
  have hm : ∀ k c, Mut M (S.drop id) (upd ρ id u) k c → Mut M S ρ k c := fun k c hk => by
    rcases hk with hk | ⟨j, b, hb, hk, ht⟩
    · exact .inl hk
    · rw [AS.wH] at hb
      split at hb
      · cases hb
      · rename_i hne
        obtain ⟨b1, h1, rfl⟩ := Option.map_eq_some_iff.1 hb
        rw [hu j (fun e => hne e.symm)] at hk
        exact .inr ⟨j, b1, h1, hk, (Blk.turns_kill b1 id c).1 ht⟩
  have hk : ∀ {x : AV} {v : Value}, yH (Mut M S ρ) ρ w x v → yH (Mut M (S.drop id) (upd ρ id u)) (upd ρ id u) w (x.kill id) v := fun {x v} hx => (hx.killed id u).mono fun k c _ hk => hm k c hk
  refine ⟨h.below, h.out, h.tab, h.size, h.defers, fun i => ?_, fun j b hb => ?_, fun j b k hb hk => ?_, fun k v hv => ?_, h.free, fun i j bi bj k hi hj h1 h2 => ?_⟩
  · have e : (S.drop id).tmp i = (S.tmp i).kill id := S.tmp_kill id i
    rw [e]
    exact hk (h.tmps i)
  · rw [AS.wH] at hb
    split at hb
    · cases hb
    · rename_i hne
      obtain ⟨b1, h1, rfl⟩ := Option.map_eq_some_iff.1 hb
      have := h.blks j b1 h1
      rw [hu j (fun e => hne e.symm)]
      cases b1 with
      | row t size m xs =>
        obtain ⟨ys, ho, hc⟩ := this
        exact ⟨ys, ho, (hc.killed id u).mono fun k c _ hk => hm k c hk⟩
      | prow t size m xs =>
        obtain ⟨ys, ho, hc⟩ := this
        exact ⟨ys, ho, (vN xs id ▸ hc.killed id u : yM _ _ _ (xs.map AV.p) ys).mono fun k c _ hk => hm k c hk⟩
      | box t xs =>
        obtain ⟨g, ys, hv, hg, hh, hc⟩ := this
        exact ⟨g, ys, hv, hg, hh, (hc.killed id u).mono fun k c _ hk => hm k c hk⟩
      | lent t size m xs =>
        obtain ⟨ys, ho, hc⟩ := this
        exact ⟨ys, ho, (vN xs id ▸ hc.killed id u : yM _ _ _ (xs.map AV.p) ys).mono fun k c _ hk => hm k c hk⟩
      | obj mp Q => exact this
  · rw [AS.wH] at hb
    split at hb
    · cases hb
    · rename_i hne
      obtain ⟨b1, h1, _⟩ := Option.map_eq_some_iff.1 hb
      rw [hu j (fun e => hne e.symm)] at hk
      exact h.mine j b1 k h1 hk
  · by_cases e : k = id
    · subst e
      rw [hr] at hv; cases hv
    · rw [hu k e]
      exact h.fix k v hv
  · rw [AS.wH] at hi hj
    split at hi
    · cases hi
    · rename_i hi1
      split at hj
      · cases hj
      · rename_i hj1
        obtain ⟨b1, h3, _⟩ := Option.map_eq_some_iff.1 hi
        obtain ⟨b2, h4, _⟩ := Option.map_eq_some_iff.1 hj
        rw [hu i (fun e => hi1 e.symm)] at h1
        rw [hu j (fun e => hj1 e.symm)] at h2
        exact h.dist i j b1 b2 k h3 h4 h1 h2
theorem wW.monoW {M M' : Nat → Nat → Prop} {B : Nat} {ρ : Nat → Value} {w : World} {v : Value} {b : Blk} (h : wW M B ρ w v b) (hM : ∀ k c, k < w.heap.size → M' k c → M k c) : wW M' B ρ w v b := by
  cases b with
  | row t size m xs => obtain ⟨ys, ho, hc⟩ := h; exact ⟨ys, ho, hc.mono hM⟩
  | prow t size m xs => obtain ⟨ys, ho, hc⟩ := h; exact ⟨ys, ho, hc.mono hM⟩
  | lent t size m xs => obtain ⟨ys, ho, hc⟩ := h; exact ⟨ys, ho, hc.mono hM⟩
  | obj mp Q => exact h
  | box t xs => obtain ⟨g, ys, hv, hg, hh, hc⟩ := h; exact ⟨g, ys, hv, hg, hh, hc.mono hM⟩
def AS.drops (S : AS) (ids : List Nat) : AS := ids.foldl AS.drop S
theorem Sat.drops : ∀ (ids : List Nat) {S : AS} {ρ : Nat → Value}, Sat M n w0 S ρ a w → (∀ j ∈ ids, w0.r j = none) → ∀ ρ', (∀ j, j ∉ ids → ρ' j = ρ j) → Sat M n w0 (S.drops ids) ρ' a w
  | [], S, ρ, h, _, ρ', e => by
    have : ρ' = ρ := funext fun j => e j (by simp)
    subst this
    exact h
  | id :: r, S, ρ, h, hr, ρ', e => by
    show Sat M n w0 ((S.drop id).drops r) ρ' a w
    refine Sat.drops r (h.dropU id (ρ' id) (hr id (by simp))) (fun j hj => hr j (by simp [hj])) ρ' fun j hj => ?_
    by_cases h1 : j = id
    · subst h1
      simp [upd]
    · rw [e j (by simp [h1, hj])]
      simp [upd, h1]
theorem drops_none : ∀ (ids : List Nat) {S : AS} {j : Nat}, S.blk j = none → (S.drops ids).blk j = none
  | [], _, _, h => h
  | id :: r, S, j, h => drops_none r (S := S.drop id) (by rw [AS.wH, h]; simp)
theorem drops_blk : ∀ (ids : List Nat) {S : AS} {j : Nat}, j ∈ ids → (S.drops ids).blk j = none
  | id :: r, S, j, h => by
    show ((S.drop id).drops r).blk j = none
    by_cases h1 : id = j
    · exact drops_none r (by rw [AS.wH, if_pos h1])
    · exact drops_blk r ((List.mem_cons.1 h).resolve_left fun e => h1 e.symm)
theorem drops_mut : ∀ (ids : List Nat) {S : AS} {k c : Nat}, Mut M (S.drops ids) ρ k c → Mut M S ρ k c
  | [], _, _, _, h => h
  | id :: r, S, k, c, h => Mut.drop (drops_mut r (S := S.drop id) h)
end
section
variable {P : Program} {n : Nat} {o : Oper} {S : AS} {d : Nat}
theorem call_new {f : FuncId} {xs : List AV} {ids nids : List Nat} {B B' New : List Blk} {rx : AV} (hf : FnX P f xs B rx B' New) (hh : Hands S ids B) (hB' : B'.length = B.length) (hnl : nids.length = New.length) (hnd : (ids ++ nids).Nodup)
    (hok' : (B' ++ New).all (Blk.okE (B' ++ New).length) = true) (hxs : xs.all (AV.okE B.length) = true) (hrx : rx.okE (B' ++ New).length = true) (hno : ∀ j ∈ nids, S.blk j = none)
    {M : Nat → Nat → Prop} {w0 : Home} {ρ : Nat → Value} {a : Act} {w : World} (hs : Sat M n w0 S ρ a w) (hfree : ∀ ρ', (∀ j, j ∉ nids → ρ' j = ρ j) → Sat M n w0 S ρ' a w) {vs : List Value} (hvl : vs.length = xs.length)
    (hvs : ∀ (i : Nat) x v, xs[i]? = some x → vs[i]? = some v → yH (Mut M S ρ) ρ w (x.ren (sig ids)) v) :
    Calls P f vs.toArray w fun e w' => ∃ ρ' v, e = .returned v ∧ Sat M n w0 (S.after (ids ++ nids) (B' ++ New)) ρ' a w' ∧ yH (Mut M (S.after (ids ++ nids) (B' ++ New)) ρ') ρ' w' (rx.ren (sig (ids ++ nids))) v := by
  have hlen := hh.len
  have hLL : (ids ++ nids).length = (B' ++ New).length := by simp [hlen, hB', hnl]
  have at_i : ∀ i, i < B.length → ∃ id b, ids[i]? = some id ∧ B[i]? = some b ∧ S.blk id = some (b.ren (sig ids)) ∧ sig ids (1000 + i) = id := fun i hi => by
    have h1 : ids[i]? = some (ids[i]'(by omega)) := List.getElem?_eq_getElem _
    have h2 : B[i]? = some B[i] := List.getElem?_eq_getElem _
    exact ⟨_, _, h1, h2, hh.at_ i _ _ h1 h2, sig_at h1⟩
  have box_i : ∀ i, i < B.length → ∃ mp g, ρ (sig ids (1000 + i)) = objV mp g := fun i hi => by
    obtain ⟨id, b, h1, h2, h3, h4⟩ := at_i i hi
    have hb := hs.blks id _ h3
    have hbo := List.all_eq_true.1 hh.ok b (List.mem_of_getElem? h2)
    rw [h4]
    cases b with
    | box t cs =>
      obtain ⟨g, ys, hv, _⟩ := hb
      exact ⟨false, g, hv⟩
    | row t s m cs => cases hbo
    | prow t s m cs => cases hbo
    | lent t s m cs => cases hbo
    | obj mp Q =>
      obtain ⟨g, o, hv, _⟩ := hb
      exact ⟨mp, g, hv⟩
  let T : Nat → Prop := fun k => ∃ i, i < B.length ∧ yA (ρ (sig ids (1000 + i))) = some k
  have T_mut : ∀ k c, T k → Mut M S ρ k c := fun k c ⟨i, hi, hk⟩ => by
    obtain ⟨id, b, h1, h2, h3, h4⟩ := at_i i hi
    rw [h4] at hk
    exact .inr ⟨id, _, h3, hk, (Blk.ren_turns c).2 (Blk.qZ (List.all_eq_true.1 hh.ok b (List.mem_of_getElem? h2)) c)⟩
  have T_has : ∀ k, T k → w0.has k := fun k ⟨i, hi, hk⟩ => by
    obtain ⟨id, b, h1, h2, h3, h4⟩ := at_i i hi
    rw [h4] at hk
    exact hs.mine id _ k h3 hk
  let M' : Nat → Nat → Prop := fun k c => Mut M S ρ k c ∧ ¬ T k
  let h : Home := ⟨w, T, hs.lays, (fun g hg ht => hs.tabs g 0 hg (T_mut g 0 ht)), fun k => if 1000 ≤ k ∧ k < 1000 + B.length then some (ρ (sig ids k)) else none, (fun k v hk => by
      by_cases hc : 1000 ≤ k ∧ k < 1000 + B.length
      · simp only [hc, and_self, if_true, Option.some.injEq] at hk
        obtain ⟨mp, g, hg⟩ := box_i (k - 1000) (by omega)
        have e : 1000 + (k - 1000) = k := by omega
        rw [e] at hg
        exact ⟨mp, g, by rw [← hk, hg]⟩
      · rw [if_neg hc] at hk; cases hk), (fun k hk => if_neg (by omega)), []⟩
  have hr_i : ∀ k, 1000 ≤ k → k < 1000 + B.length → h.r k = some (ρ (sig ids k)) := fun k h1 h2 => if_pos ⟨h1, h2⟩
  have mutc : ∀ k c, Mut M' (asB B) (fun k => ρ (sig ids k)) k c → Mut M S ρ k c := by
    rintro k c (hk | ⟨id, b, hb, hk, _⟩)
    · exact hk.1
    · obtain ⟨i, rfl, hbi⟩ := xX hb
      exact T_mut k c ⟨i, (List.getElem?_eq_some_iff.1 hbi).1, hk⟩
  have hsat : Sat M' 0 h (asB B) (fun k => ρ (sig ids k)) vQ h.w := by
    refine ⟨wF.refl h, fun k c hk hh2 => ?_, fun g c hg hk => ?_, rfl, rfl, fun i => .any _, fun id b hb => ?_, fun id b k hb hk => ?_, fun k v hk => ?_, fun k hk => by omega, fun i j bi bj k hi hj h1 h2 => ?_⟩
    · rcases hh2 with hh2 | hh2
      · exact absurd (Mut.lt hs hk.1) (Nat.not_lt.2 hh2)
      · exact hk.2 hh2
    · exact hs.tabs g c hg hk.1
    · obtain ⟨i, rfl, hbi⟩ := xX hb
      have hi : i < B.length := (List.getElem?_eq_some_iff.1 hbi).1
      obtain ⟨id, b2, h1, h2, h3, h4⟩ := at_i i hi
      rw [hbi] at h2
      obtain rfl := Option.some.inj h2
      have hbo := List.all_eq_true.1 hh.ok b (List.mem_of_getElem? hbi)
      have hb2 := hs.blks id _ h3
      cases b with
      | box t cs =>
        obtain ⟨g, ys, hv, hg, hhp, hc⟩ := hb2
        exact ⟨g, ys, by show ρ (sig ids (1000 + i)) = _; rw [h4]; exact hv, hg, hhp, yM.inn hc hbo fun k c _ hk => mutc k c hk⟩
      | row t s m cs => cases hbo
      | prow t s m cs => cases hbo
      | lent t s m cs => cases hbo
      | obj mp Q =>
        obtain ⟨g, o, hv, hg, hhp, hq⟩ := hb2
        exact ⟨g, o, by show ρ (sig ids (1000 + i)) = _; rw [h4]; exact hv, hg, hhp, hq⟩
    · obtain ⟨i, rfl, hbi⟩ := xX hb
      exact .inr ⟨i, (List.getElem?_eq_some_iff.1 hbi).1, hk⟩
    · by_cases hc : 1000 ≤ k ∧ k < 1000 + B.length
      · rw [hr_i k hc.1 hc.2] at hk
        exact Option.some.inj hk
      · have : h.r k = none := if_neg hc
        rw [this] at hk; cases hk
    · obtain ⟨i', rfl, hbi⟩ := xX hi
      obtain ⟨j', rfl, hbj⟩ := xX hj
      obtain ⟨id, b1, p1, p2, p3, p4⟩ := at_i i' (List.getElem?_eq_some_iff.1 hbi).1
      obtain ⟨jd, b2, q1, q2, q3, q4⟩ := at_i j' (List.getElem?_eq_some_iff.1 hbj).1
      rw [p4] at h1
      rw [q4] at h2
      have e := hs.dist id jd _ _ k p3 q3 h1 h2
      subst e
      rw [nodup_inj hh.nodup p1 q1]
  have hcall := hf M' h _ vs ⟨fun i hi => hr_i _ (by omega) (by omega), fun k hk => hk⟩ (fun k hk => if_neg (by omega)) hsat hvl (fun i x v h1 h2 => yH.inn (hvs i x v h1 h2) (List.all_eq_true.1 hxs x (List.mem_of_getElem? h1)) fun k c _ hk => mutc k c hk)
  refine Calls.mono hcall ?_
  rintro e w' ⟨ρ2, v, rfl, hs2, hrep⟩
  have hρ1 : ∀ k, 1000 ≤ k → k < 1000 + B.length → ρ2 k = ρ (sig ids k) := fun k h1 h2 => hs2.fix k _ (hr_i k h1 h2)
  -- the names' values behind the call
  let ρ3 : Nat → Value := fun j => if j ∈ nids then ρ2 (1000 + (ids ++ nids).idxOf j) else ρ j
  have hs3 : Sat M n w0 S ρ3 a w := hfree ρ3 fun j hj => if_neg hj
  have idx_at : ∀ i j, (ids ++ nids)[i]? = some j → (ids ++ nids).idxOf j = i := fun i j hi => by
    have hm : j ∈ ids ++ nids := List.mem_of_getElem? hi
    have h1 : (ids ++ nids).idxOf j < (ids ++ nids).length := List.idxOf_lt_length_of_mem hm
    have h2 : (ids ++ nids)[(ids ++ nids).idxOf j]? = some j := by rw [List.getElem?_eq_getElem h1, List.getElem_idxOf h1]
    exact nodup_inj hnd h2 hi
  have old_not : ∀ j, j ∈ ids → j ∉ nids := fun j h1 h2 => (List.nodup_append.1 hnd).2.2 j h1 j h2 rfl
  have old3 : ∀ j, j ∈ ids → ρ3 j = ρ j := fun j hj => if_neg (old_not j hj)
  have hρ : ∀ k, 1000 ≤ k → k < 1000 + (B' ++ New).length → ρ2 k = ρ3 (sig (ids ++ nids) k) := fun k h1 h2 => by
    obtain ⟨i, rfl⟩ : ∃ i, k = 1000 + i := ⟨k - 1000, by omega⟩
    have hi : i < (ids ++ nids).length := by omega
    have hat : (ids ++ nids)[i]? = some (ids ++ nids)[i] := List.getElem?_eq_getElem hi
    rw [sig_at hat]
    by_cases hlt : i < ids.length
    · have e1 : (ids ++ nids)[i] = ids[i] := List.getElem_append_left hlt
      have e2 : ids[i]? = some ids[i] := List.getElem?_eq_getElem hlt
      rw [e1, old3 _ (List.getElem_mem _), hρ1 (1000 + i) (by omega) (by omega), sig_at e2]
    · have e1 : (ids ++ nids)[i] ∈ nids := by
        rw [List.getElem_append_right (by omega)]
        exact List.getElem_mem _
      show _ = if _ then _ else _
      rw [if_pos e1, idx_at i _ hat]
  have hblk : ∀ j, (S.after (ids ++ nids) (B' ++ New)).blk j = if j ∈ ids ++ nids then ((B' ++ New).map (Blk.ren (sig (ids ++ nids))))[(ids ++ nids).idxOf j]? else S.blk j := fun j => look_putBs _ _ S.s j (by rw [List.length_map]; exact hLL) hnd
  have mem_at : ∀ j, j ∈ ids ++ nids → ∃ i b, (ids ++ nids).idxOf j = i ∧ i < (B' ++ New).length ∧ (ids ++ nids)[i]? = some j ∧ (B' ++ New)[i]? = some b ∧ sig (ids ++ nids) (1000 + i) = j := fun j hj => by
    have h1 : (ids ++ nids).idxOf j < (ids ++ nids).length := List.idxOf_lt_length_of_mem hj
    have h2 : (ids ++ nids)[(ids ++ nids).idxOf j]? = some j := by rw [List.getElem?_eq_getElem h1, List.getElem_idxOf h1]
    have h3 : (ids ++ nids).idxOf j < (B' ++ New).length := by omega
    exact ⟨_, _, rfl, h3, h2, List.getElem?_eq_getElem h3, sig_at h2⟩
  have T_old : ∀ j k, j ∈ ids → yA (ρ j) = some k → T k := fun j k hj hk => by
    obtain ⟨i, hi, he⟩ := List.getElem_of_mem hj
    refine ⟨i, by omega, ?_⟩
    have : ids[i]? = some j := by rw [List.getElem?_eq_getElem hi, he]
    rw [sig_at this]; exact hk
  have new_ge : ∀ j k, j ∈ nids → yA (ρ3 j) = some k → w.heap.size ≤ k := fun j k hj hk => by
    obtain ⟨i, b, h1, h2, h3, h4, h5⟩ := mem_at j (List.mem_append_right _ hj)
    have e3 : ρ2 (1000 + i) = ρ3 j := by rw [hρ (1000 + i) (by omega) (by omega), h5]
    have hb : (asB (B' ++ New)).blk (1000 + i) = some b := by rw [asB_blk]; exact h4
    rcases hs2.mine (1000 + i) b k hb (by rw [e3]; exact hk) with h6 | ⟨i', h6, h7⟩
    · exact h6
    · have h8 : i' < (B' ++ New).length := by simp; omega
      have hb' : (asB (B' ++ New)).blk (1000 + i') = some (B' ++ New)[i'] := by rw [asB_blk]; exact List.getElem?_eq_getElem h8
      have e := hs2.dist _ _ _ _ k hb hb' (by rw [e3]; exact hk) (by rw [hρ1 (1000 + i') (by omega) (by omega)]; exact h7)
      have e' : i = i' := by omega
      subst e'
      have : (ids ++ nids)[i]? = ids[i]? := List.getElem?_append_left (by omega)
      rw [this] at h3
      exact absurd hj (old_not j (List.mem_of_getElem? h3))
  have mut3 : ∀ k c, Mut M (S.after (ids ++ nids) (B' ++ New)) ρ3 k c → Mut M' (asB (B' ++ New)) ρ2 k c := fun k c hk => by
    by_cases ht : T k
    · obtain ⟨i, hi, hk2⟩ := ht
      have h8 : i < (B' ++ New).length := by simp; omega
      refine .inr ⟨1000 + i, (B' ++ New)[i], by rw [asB_blk]; exact List.getElem?_eq_getElem h8, ?_, Blk.qZ (List.all_eq_true.1 hok' _ (List.getElem_mem _)) c⟩
      rw [hρ1 (1000 + i) (by omega) (by omega)]
      exact hk2
    · rcases hk with hk | ⟨j, b, hb, hk, htn⟩
      · exact .inl ⟨.inl hk, ht⟩
      · rw [hblk] at hb
        by_cases hj : j ∈ ids ++ nids
        · obtain ⟨i, b', h1, h2, h3, h4, h5⟩ := mem_at j hj
          refine .inr ⟨1000 + i, b', by rw [asB_blk]; exact h4, ?_, Blk.qZ (List.all_eq_true.1 hok' b' (List.mem_of_getElem? h4)) c⟩
          rw [hρ (1000 + i) (by omega) (by omega), h5]
          exact hk
        · rw [if_neg hj] at hb
          refine .inl ⟨.inr ⟨j, b, hb, ?_, htn⟩, ht⟩
          have : ρ3 j = ρ j := if_neg fun h => hj (List.mem_append_right _ h)
          rw [← this]; exact hk
  have mut1 : ∀ k c, k < w.heap.size → Mut M (S.after (ids ++ nids) (B' ++ New)) ρ3 k c → Mut M S ρ3 k c := by
    rintro k c hlt (hk | ⟨j, b, hb, hk, ht⟩)
    · exact .inl hk
    · rw [hblk] at hb
      by_cases hj : j ∈ ids ++ nids
      · rcases List.mem_append.1 hj with hj | hj
        · rw [old3 j hj] at hk
          obtain ⟨i, hi, he⟩ := List.getElem_of_mem hj
          obtain ⟨id, b0, h1, h2, h3, h4⟩ := at_i i (by omega)
          have : ids[i]? = some j := by rw [List.getElem?_eq_getElem hi, he]
          rw [this] at h1
          obtain rfl := Option.some.inj h1
          exact .inr ⟨j, _, h3, by rw [old3 j hj]; exact hk, (Blk.ren_turns c).2 (Blk.qZ (List.all_eq_true.1 hh.ok b0 (List.mem_of_getElem? h2)) c)⟩
        · have := new_ge j k hj hk
          omega
      · rw [if_neg hj] at hb
        exact .inr ⟨j, b, hb, hk, ht⟩
  have mutS : ∀ k c, Mut M S ρ3 k c ↔ Mut M S ρ k c := fun k c => by
    constructor
    all_goals
      rintro (hk | ⟨j, b, hb, hk, ht⟩)
      · exact .inl hk
      · have hj : j ∉ nids := fun h => by rw [hno j h] at hb; cases hb
        have e : ρ3 j = ρ j := if_neg hj
        exact .inr ⟨j, b, hb, by first | rw [← e]; exact hk | rw [e]; exact hk, ht⟩
  have grow : Keeps (Mut M S ρ3) w w' := ⟨hs2.below.size, fun k c hk hnm => World.cell?_of_block (w := w) (hs2.below.block k hk (fun ht => hnm ((mutS k c).2 (T_mut k c ht))))⟩
  refine ⟨ρ3, v, rfl, ?_, yH.outw hrep hrx (fun k c _ hk => mut3 k c hk) hρ⟩
  refine ⟨⟨hs2.below.os.trans hs.below.os, hs2.below.tape.trans hs.below.tape, hs2.below.output.trans hs.below.output, Nat.le_trans hs.below.size hs2.below.size, fun k hk ht => ?_⟩, hs.out, hs.tab, hs.size, hs.defers, fun i => ?_, fun j b hb => ?_, fun j b k hb hk => ?_, hs3.fix, hs.free, fun i j bi bj k hi hj h1 h2 => ?_⟩
  · refine (hs2.below.block k (Nat.lt_of_lt_of_le hk hs.below.size) (fun hT => ?_)).trans (hs.below.block k hk ht)
    rcases T_has k hT with h1 | h1
    · omega
    · exact ht h1
  · exact ((hs3.tmps i).mono (M' := Mut M (S.after (ids ++ nids) (B' ++ New)) ρ3) mut1).keep ⟨hs2.below.size, fun k c hk hnm => World.cell?_of_block (w := w) (hs2.below.block k hk (fun ht => hnm (by
      obtain ⟨i, hi, hk2⟩ := ht
      obtain ⟨id, b0, h1, h2, h3, h4⟩ := at_i i hi
      rw [h4] at hk2
      have hm : id ∈ ids := List.mem_of_getElem? h1
      obtain ⟨i2, b2, q1, q2, q3, q4, q5⟩ := mem_at id (List.mem_append_left _ hm)
      refine .inr ⟨id, b2.ren (sig (ids ++ nids)), ?_, by rw [old3 id hm]; exact hk2, (Blk.ren_turns c).2 (Blk.qZ (List.all_eq_true.1 hok' b2 (List.mem_of_getElem? q4)) c)⟩
      rw [hblk, if_pos (List.mem_append_left _ hm), q1, List.getElem?_map, q4]; rfl)))⟩
  · rw [hblk] at hb
    by_cases hj : j ∈ ids ++ nids
    · obtain ⟨i, b', h1, hi, h2, h4, h6⟩ := mem_at j hj
      rw [if_pos hj, h1, List.getElem?_map, h4] at hb
      obtain rfl := Option.some.inj hb
      have hb2 := hs2.blks (1000 + i) b' (by rw [asB_blk]; exact h4)
      have hbo := List.all_eq_true.1 hok' b' (List.mem_of_getElem? h4)
      cases b' with
      | box t cs =>
        obtain ⟨g, ys, hv, hg, hhp, hc⟩ := hb2
        rw [hρ (1000 + i) (by omega) (by omega), h6] at hv
        exact ⟨g, ys, hv, hg, hhp, yM.outw hc hbo (fun k c _ hk => mut3 k c hk) hρ⟩
      | row t s m cs => cases hbo
      | prow t s m cs => cases hbo
      | lent t s m cs => cases hbo
      | obj mp Q =>
        obtain ⟨g, o, hv, hg, hhp, hq⟩ := hb2
        rw [hρ (1000 + i) (by omega) (by omega), h6] at hv
        exact ⟨g, o, hv, hg, hhp, hq⟩
    · rw [if_neg hj] at hb
      have hjn : j ∉ nids := fun h => hj (List.mem_append_right _ h)
      have e3 : ρ3 j = ρ j := if_neg hjn
      have hlt : ∀ k, yA (ρ3 j) = some k → k < w.heap.size := fun k hk => Mut.blk_lt hs3 hb hk
      have hb3 := (hs3.blks j b hb).monoW (M' := Mut M (S.after (ids ++ nids) (B' ++ New)) ρ3) mut1
      refine wW.keep hb3 (fun k hk => ?_) ⟨hs2.below.size, fun k c hk hnm => World.cell?_of_block (w := w) (hs2.below.block k hk (fun ht => hnm (by
        obtain ⟨i, hi, hk2⟩ := ht
        obtain ⟨id, b0, h1, h2, h3, h4⟩ := at_i i hi
        rw [h4] at hk2
        have hm : id ∈ ids := List.mem_of_getElem? h1
        obtain ⟨i2, b2, q1, q2, q3, q4, q5⟩ := mem_at id (List.mem_append_left _ hm)
        refine .inr ⟨id, b2.ren (sig (ids ++ nids)), ?_, by rw [old3 id hm]; exact hk2, (Blk.ren_turns c).2 (Blk.qZ (List.all_eq_true.1 hok' b2 (List.mem_of_getElem? q4)) c)⟩
        rw [hblk, if_pos (List.mem_append_left _ hm), q1, List.getElem?_map, q4]; rfl)))⟩ (fun k c _ hk => hk)
      refine hs2.below.block k (hlt k hk) (fun ⟨i, hi, hk2⟩ => ?_)
      obtain ⟨id, b2, p1, p2, p3, p4⟩ := at_i i hi
      rw [p4] at hk2
      rw [e3] at hk
      have := hs.dist j id _ _ k hb p3 hk hk2
      subst this
      exact hj (List.mem_append_left _ (List.mem_of_getElem? p1))
  · rw [hblk] at hb
    by_cases hj : j ∈ ids ++ nids
    · rcases List.mem_append.1 hj with hj2 | hj2
      · rw [old3 j hj2] at hk
        exact T_has k (T_old j k hj2 hk)
      · exact .inl (Nat.le_trans hs.below.size (new_ge j k hj2 hk))
    · rw [if_neg hj] at hb
      exact hs3.mine j b k hb hk
  · rw [hblk] at hi hj
    by_cases hi2 : i ∈ ids ++ nids
    · obtain ⟨ii, bI, p1, p2, p3, p4, p5⟩ := mem_at i hi2
      have eI : ρ2 (1000 + ii) = ρ3 i := by rw [hρ (1000 + ii) (by omega) (by omega), p5]
      by_cases hj2 : j ∈ ids ++ nids
      · obtain ⟨jj, bJ, q1, q2, q3, q4, q5⟩ := mem_at j hj2
        have eJ : ρ2 (1000 + jj) = ρ3 j := by rw [hρ (1000 + jj) (by omega) (by omega), q5]
        have e := hs2.dist (1000 + ii) (1000 + jj) bI bJ k (by rw [asB_blk]; exact p4) (by rw [asB_blk]; exact q4) (by rw [eI]; exact h1) (by rw [eJ]; exact h2)
        have e' : ii = jj := by omega
        subst e'
        rw [p3] at q3
        exact Option.some.inj q3
      · rw [if_neg hj2] at hj
        have hlt := Mut.blk_lt hs3 hj h2
        rcases List.mem_append.1 hi2 with hi3 | hi3
        · rw [old3 i hi3] at h1
          obtain ⟨i', h6, h7⟩ := T_old i k hi3 h1
          obtain ⟨id, b0, r1, r2, r3, r4⟩ := at_i i' h6
          have e3 : ρ3 j = ρ j := if_neg fun h => hj2 (List.mem_append_right _ h)
          rw [r4] at h7
          rw [e3] at h2
          have e := hs.dist id j _ _ k r3 hj h7 h2
          subst e
          exact absurd (List.mem_append_left _ (List.mem_of_getElem? r1)) hj2
        · have := new_ge i k hi3 h1
          omega
    · rw [if_neg hi2] at hi
      have hlt := Mut.blk_lt hs3 hi h1
      by_cases hj2 : j ∈ ids ++ nids
      · rcases List.mem_append.1 hj2 with hj3 | hj3
        · rw [old3 j hj3] at h2
          obtain ⟨i', h6, h7⟩ := T_old j k hj3 h2
          obtain ⟨id, b0, r1, r2, r3, r4⟩ := at_i i' h6
          have e3 : ρ3 i = ρ i := if_neg fun h => hi2 (List.mem_append_right _ h)
          rw [r4] at h7
          rw [e3] at h1
          have e := hs.dist id i _ _ k r3 hi h7 h1
          subst e
          exact absurd (List.mem_append_left _ (List.mem_of_getElem? r1)) hi2
        · have := new_ge j k hj3 h2
          omega
      · rw [if_neg hj2] at hj
        exact hs3.dist i j bi bj k hi hj h1 h2
/-- A call by a contract, that comes back with new variables. -/
theorem zP.eNew {f : FuncId} {avs xs : List AV} {B B' New : List Blk} {rx : AV} {K : Exit → AS → Prop} {N : AS → Prop} (ids nids : List Nat) (hf : FnX P f xs B rx B' New) (hd : o.dst = some d) (hn : d < n) (he : Enters P o S f avs) (hx : avs = xs.map (AV.ren (sig ids))) (hh : Hands (S.drops nids) ids B) (hlo : nids.all (fun k => decide (k < 1000)) = true)
    (hB' : B'.length = B.length) (hnl : nids.length = New.length) (hnd : (ids ++ nids).Nodup) (hok' : (B' ++ New).all (Blk.okE (B' ++ New).length) = true) (hxs : xs.all (AV.okE B.length) = true) (hrx : rx.okE (B' ++ New).length = true)
    (hr : N (((S.drops nids).after (ids ++ nids) (B' ++ New)).put d (rx.ren (sig (ids ++ nids))))) : zP P n o S K N := by
  intro M w0 ρ a w KK Q hs hK _
  obtain ⟨vs, he1, he2, he3⟩ := he M n w0 ρ a w hs
  unfold Oper.wp
  rw [he1, Oper.upon_enter]
  have hlo' : ∀ j ∈ nids, w0.r j = none := fun j hj => w0.lo j (by simpa using List.all_eq_true.1 hlo j hj)
  have hall := Sat.drops nids hs hlo'
  refine Calls.mono (call_new hf hh hB' hnl hnd hok' hxs hrx (fun j hj => drops_blk nids hj) (hall ρ fun _ _ => rfl) hall (by rw [he2, hx, List.length_map]) fun i x v h1 h2 => ?_) ?_
  · exact (reps_ren hx he3 i x v h1 h2).mono fun k c _ hk => drops_mut nids hk
  · rintro e w' ⟨ρ', v, rfl, hs', hv⟩
    show KK (a.put o.dst v) w'
    rw [hd]
    exact hK _ ρ' _ w' hr (hs'.put hn hv)
theorem fn_ofX {f : FuncId} {fn : Func} {c : Code} {args : List AV} {B B' New : List Blk} {x : AV} (IDS : List Nat) (hf : P.funcs[f]? = some fn) (hb : fn.body = some c) (hn : fn.ntmps = n) (hle : args.length ≤ n) (h1000 : n ≤ 1000) (hids : IDS.take B.length = (List.range B.length).map (1000 + ·)) (hrx : x.okE (B' ++ New).length = true)
    (h : zZ P n c { t := zipA 0 args, s := numB 1000 B } (fun e S => (e = .ret ∨ e = .normal) ∧ ∃ S', Sub S S' ∧ GivesA P fn S' (x.ren (sig IDS)) ∧ Hands S' IDS (B' ++ New))) : FnX P f args B x B' New := by
  intro M hh ρ vs hand hnone hs0 hvl hvs
  refine calls_of_wp hf hb ?_
  have hsat : Sat M n hh { t := zipA 0 args, s := numB 1000 B } ρ { tmps := vs.toArray ++ Array.replicate (fn.ntmps - vs.toArray.size) undef, defers := [] } hh.w := by
    refine ⟨hs0.below, hs0.out, hs0.tab, by simp; omega, hs0.defers, fun i => ?_, hs0.blks, hs0.mine, hs0.fix, fun k hk => hh.lo k (by omega), hs0.dist⟩
    show yH _ _ _ ((look (zipA 0 args) i).getD .any) _
    rw [look_zipA]
    simp only [Nat.zero_le, if_true, Nat.sub_zero]
    cases hx : args[i]? with
    | none => exact .any _
    | some x =>
      have hi : i < vs.length := by rw [hvl]; exact (List.getElem?_eq_some_iff.1 hx).1
      have e : ({ tmps := vs.toArray ++ Array.replicate (fn.ntmps - vs.toArray.size) undef, defers := [] } : Act).tmps.getD i undef = vs[i] := by
        simp [Array.getD_eq_getD_getElem?, Array.getElem?_append, hi]
      rw [e]
      exact hvs i x vs[i] hx (List.getElem?_eq_getElem hi)
  refine h M hh ρ _ hh.w _ hsat ?_
  rintro e S0 ρ0 a' w' ⟨he, S', hsub, hg, hH⟩ hs1 hx
  obtain ⟨ρ', hs'⟩ := hsub M n hh ρ0 a' w' hs1
  have at_i : ∀ i b, (B' ++ New)[i]? = some b → ∃ id, IDS[i]? = some id ∧ S'.blk id = some (b.ren (sig IDS)) ∧ sig IDS (1000 + i) = id := fun i b hb => by
    have hi : i < IDS.length := by rw [hH.len]; exact (List.getElem?_eq_some_iff.1 hb).1
    have h1 : IDS[i]? = some IDS[i] := List.getElem?_eq_getElem hi
    exact ⟨_, h1, hH.at_ i _ b h1 hb, sig_at h1⟩
  have low : ∀ i, i < B.length → sig IDS (1000 + i) = 1000 + i := fun i hi => by
    have h1 : (IDS.take B.length)[i]? = some (1000 + i) := by rw [hids, List.getElem?_map, List.getElem?_range hi]; rfl
    rw [List.getElem?_take, if_pos hi] at h1
    exact sig_at h1
  have mutc : ∀ k c, Mut M (asB (B' ++ New)) (fun k => ρ' (sig IDS k)) k c → Mut M S' ρ' k c := by
    rintro k c (hk | ⟨id, b, hb, hk, ht⟩)
    · exact .inl hk
    · obtain ⟨i, rfl, hbi⟩ := xX hb
      obtain ⟨id, h1, h2, h3⟩ := at_i i b hbi
      exact .inr ⟨id, _, h2, by rw [← h3]; exact hk, (Blk.ren_turns c).2 ht⟩
  have hfin : Sat M 0 hh (asB (B' ++ New)) (fun k => ρ' (sig IDS k)) vQ w' := by
    refine ⟨hs'.below, hs'.out, hs'.tab, rfl, hs0.defers, fun i => .any _, fun id b hb => ?_, fun id b k hb hk => ?_, fun k v hk => ?_, fun k hk => by omega, fun i j bi bj k hi hj h1 h2 => ?_⟩
    · obtain ⟨i, rfl, hbi⟩ := xX hb
      obtain ⟨id, h1, h2, h3⟩ := at_i i b hbi
      have hbo := List.all_eq_true.1 hH.ok b (List.mem_of_getElem? hbi)
      have hb2 := hs'.blks id _ h2
      cases b with
      | box t cs =>
        obtain ⟨g, ys, hv, hg, hhp, hc⟩ := hb2
        exact ⟨g, ys, by show ρ' (sig IDS (1000 + i)) = _; rw [h3]; exact hv, hg, hhp, yM.inn hc hbo fun k c _ hk => mutc k c hk⟩
      | row t s m cs => cases hbo
      | prow t s m cs => cases hbo
      | lent t s m cs => cases hbo
      | obj mp Q =>
        obtain ⟨g, o, hv, hg, hhp, hq⟩ := hb2
        exact ⟨g, o, by show ρ' (sig IDS (1000 + i)) = _; rw [h3]; exact hv, hg, hhp, hq⟩
    · obtain ⟨i, rfl, hbi⟩ := xX hb
      obtain ⟨id, h1, h2, h3⟩ := at_i i b hbi
      exact hs'.mine id _ k h2 (by rw [← h3]; exact hk)
    · rcases Nat.lt_or_ge k 1000 with h1 | h1
      · rw [hh.lo k h1] at hk; cases hk
      · rcases Nat.lt_or_ge k (1000 + B.length) with h2 | h2
        · have e := low (k - 1000) (by omega)
          have e2 : 1000 + (k - 1000) = k := by omega
          rw [e2] at e
          show ρ' (sig IDS k) = v
          rw [e]
          exact hs'.fix k v hk
        · rw [hnone k h2] at hk; cases hk
    · obtain ⟨i', rfl, hbi⟩ := xX hi
      obtain ⟨j', rfl, hbj⟩ := xX hj
      obtain ⟨id, p1, p2, p3⟩ := at_i i' bi hbi
      obtain ⟨jd, q1, q2, q3⟩ := at_i j' bj hbj
      have e := hs'.dist id jd _ _ k p2 q2 (by rw [← p3]; exact h1) (by rw [← q3]; exact h2)
      subst e
      rw [nodup_inj hH.nodup p1 q1]
  have fin : a'.defers = [] ∧ ∃ v, (results fn a'.tmps).run P w' = .ok v w' ∧ (∃ ρ' v2, Ending.returned v = .returned v2 ∧ Sat M 0 hh (asB (B' ++ New)) ρ' vQ w' ∧ yH (Mut M (asB (B' ++ New)) ρ') ρ' w' x v2) := by
    refine ⟨hs'.defers.trans hs0.defers.symm, ?_⟩
    generalize hy : x.ren (sig IDS) = y at hg
    cases hg with
    | none hr => exact ⟨_, results_none hr _ _ _, _, _, rfl, hfin, yH.inn (ids := IDS) (ρ := ρ') (M := Mut M S' ρ') (by rw [hy]; exact .any _) hrx fun k c _ hk => mutc k c hk⟩
    | one hr ht =>
      refine ⟨_, results_tmp hr _ _ _, _, _, rfl, hfin, yH.inn (ids := IDS) (ρ := ρ') (M := Mut M S' ρ') ?_ hrx fun k c _ hk => mutc k c hk⟩
      rw [hy, ← ht]
      exact hs'.tmps _
    | p hr hx =>
      obtain ⟨v, g1, g2⟩ := res_oneM hs' hx
      have g3 := xO (P := P) (w := w') fn a'.tmps (rs := [_]) (vs := [v]) hr (by simp only [List.mapM_cons, List.mapM_nil, Sem.run_bind, Sem.run_pure, g1, Result.andThen_ok])
      exact ⟨v, g3, _, _, rfl, hfin, yH.inn (ids := IDS) (ρ := ρ') (M := Mut M S' ρ') (by rw [hy]; exact .p g2) hrx fun k c _ hk => mutc k c hk⟩
    | tup hr hl hx =>
      obtain ⟨us, g1, g2, g4, g3⟩ := res_allM hs' hx
      have g5 := xO (P := P) (w := w') fn a'.tmps hr g1
      rw [dif_neg (by simp only [List.size_toArray]; omega)] at g5
      refine ⟨_, g5, _, _, rfl, hfin, yH.inn (ids := IDS) (ρ := ρ') (M := Mut M S' ρ') ?_ hrx fun k c _ hk => mutc k c hk⟩
      rw [hy]
      refine .tup _ us (by simpa using g2) fun i c v hc hv => ?_
      rw [List.getElem?_map, Option.map_eq_some_iff] at hc
      obtain ⟨y, hy, rfl⟩ := hc
      exact .p (g3 i y v hy hv)
  cases e with
  | ret => exact fin
  | normal => exact fin
  | exit id => rcases he with h | h <;> cases h
  | goto l => rcases he with h | h <;> cases h
  | panic c => rcases he with h | h <;> cases h
  | outgrown => rcases he with h | h <;> cases h
theorem w_boxPtr {t : TypeId} {x : Operand} {id off : Nat} (ho : o.op = .box t x) (hx : S.get x = .ptr id off) (hd : o.dst = some d) (hn : d < n) : zQ P n o S [] (.ptr d 0) (some (.box t [.ptr id off])) :=
  zQ.made hd hn fun S2 hg _ M w0 ρ a w hs => by
    have hr := hs.rep x
    rw [hg x (by rw [ho]; simp [Op.operands]), hx] at hr
    refine ⟨.pointer (some ⟨w.heap.size, 0, none⟩), w.alloc (.cells (a.eval x).cells t), ?_, World.grownBy_alloc w _ none, fun k hk => ?_, ?_, .inr ⟨rfl, _, rfl⟩⟩
    · unfold execOp
      rw [ho]
      simp [Instr.box, newVar, newRow]
    · simp only [yA, Option.some.injEq] at hk; omega
    · have hc := repA_cells hr rfl
      refine ⟨w.heap.size, (a.eval x).cells.toList, rfl, Nat.zero_le _, by rw [heap_alloc_new], ⟨hc.len, fun i c u h2 h3 => ?_, hc.one⟩⟩
      refine ((hc.each i c u h2 h3).mono fun k c hk h => ?_).keep (.of_below _ ((Below.refl _ _).alloc (Nat.le_refl _) _))
      rcases h with h | h
      · exact h
      · simp only [yA, Option.some.injEq] at h; omega
end
end Go.Proofs.YteadaggehndacaaDoor
/- Calls that make no access. Generic over the program. -/
namespace Go.Proofs.YteadaggehndacaaDoor
set_option maxRecDepth 100000
set_option maxHeartbeats 16000000
open Go Go.RowKit
set_option linter.unusedVariables false
section
variable {n : Nat} {o : Oper} {S : AS} {d : Nat} {K : Exit → AS → Prop}
/-- a call of what makes no access -/
theorem zP.h0 {α : Type} {f0 : FuncId} {avs xs : List AV} {bk : List Blk} {res : α → AV} {bk' : α → List Blk} {good : α → Prop} {H : Hnd} {s : H.σ} {x : α} {N : AS → Prop} (i : List Nat) (hd : o.dst = some d := by rfl) (hn : d < n := by decide) (he : Enters Tryd.prog o S f0 avs := by exact enA)
    (hx : avs = xs.map (AV.ren (sig (1000 :: 1001 :: 1002 :: i))) := by rfl) (hnd : (1000 :: 1001 :: 1002 :: i).Nodup := by decide)
    (h0 : S.blk 1000 = some (H.b0 s) := by first | rfl | exact zK rfl (H.nk _).1 (by repeat' first | exact KB.refl | apply KB.kill | decide)) (h1 : S.blk 1001 = some (H.b1 s) := by first | rfl | exact zK rfl (H.nk _).2.1 (by repeat' first | exact KB.refl | apply KB.kill | decide)) (h2 : S.blk 1002 = some (H.b2 s) := by first | rfl | exact zK rfl (H.nk _).2.2 (by repeat' first | exact KB.refl | apply KB.kill | decide))
    (hat : AtB S (1000 :: 1001 :: 1002 :: i) i bk := by repeat' first | exact trivial | rfl | constructor) (hbk : bk.all (Blk.okE (bk.length + 3)) = true := by rfl) (hxs : xs.all (AV.okE (bk.length + 3)) = true := by rfl) (hrx : ∀ x, (res x).okE (bk.length + 3) = true := by exact fun _ => rfl)
    (hbk' : ∀ x, (bk' x).length = bk.length ∧ (bk' x).all (Blk.okE (bk.length + 3)) = true := by exact fun _ => ⟨rfl, rfl⟩) (hok : H.ok s := by assumption) (f : FnH H f0 xs bk res bk' good s (.ret x))
    (r : good x → N (({ S with s := qX (1000 :: 1001 :: 1002 :: i) (H.b0 s :: H.b1 s :: H.b2 s :: (bk' x).map (Blk.ren (sig (1000 :: 1001 :: 1002 :: i)))) S.s } : AS).put d ((res x).ren (sig (1000 :: 1001 :: 1002 :: i))))) : zP Tryd.prog n o S K N :=
  zP.held H i hd hn he hx hnd h0 h1 h2 hat hbk hxs hrx hbk' hok f (fun y s' e g _ => by rw [zL] at e; cases e; exact r g) (fun q s' e => by rw [zL] at e; cases e) (by rw [zL]; intro e; cases e)
/-- a call, two ways by what is answered -/
theorem zP.hdB {α : Type} {f0 : FuncId} {avs xs : List AV} {bk : List Blk} {res : α → AV} {bk' : α → List Blk} {good : α → Prop} {H : Hnd} {s : H.σ} {p0 : Pr α} {N : AS → Prop} (c : α → Bool) (i : List Nat) (hd : o.dst = some d := by rfl) (hn : d < n := by decide) (he : Enters Tryd.prog o S f0 avs := by exact enA)
    (hx : avs = xs.map (AV.ren (sig (1000 :: 1001 :: 1002 :: i))) := by rfl) (hnd : (1000 :: 1001 :: 1002 :: i).Nodup := by decide)
    (h0 : S.blk 1000 = some (H.b0 s) := by first | rfl | exact zK rfl (H.nk _).1 (by repeat' first | exact KB.refl | apply KB.kill | decide)) (h1 : S.blk 1001 = some (H.b1 s) := by first | rfl | exact zK rfl (H.nk _).2.1 (by repeat' first | exact KB.refl | apply KB.kill | decide)) (h2 : S.blk 1002 = some (H.b2 s) := by first | rfl | exact zK rfl (H.nk _).2.2 (by repeat' first | exact KB.refl | apply KB.kill | decide))
    (hat : AtB S (1000 :: 1001 :: 1002 :: i) i bk := by repeat' first | exact trivial | rfl | constructor) (hbk : bk.all (Blk.okE (bk.length + 3)) = true := by rfl) (hxs : xs.all (AV.okE (bk.length + 3)) = true := by rfl) (hrx : ∀ x, (res x).okE (bk.length + 3) = true := by exact fun _ => rfl)
    (hbk' : ∀ x, (bk' x).length = bk.length ∧ (bk' x).all (Blk.okE (bk.length + 3)) = true := by exact fun _ => ⟨rfl, rfl⟩) (hok : H.ok s := by assumption) (f : FnH H f0 xs bk res bk' good s p0)
    (r0 : ∀ x s', p0.run H.st s = .done x s' → good x → H.ok s' → c x = false → N (({ S with s := qX (1000 :: 1001 :: 1002 :: i) (H.b0 s' :: H.b1 s' :: H.b2 s' :: (bk' x).map (Blk.ren (sig (1000 :: 1001 :: 1002 :: i)))) S.s } : AS).put d ((res x).ren (sig (1000 :: 1001 :: 1002 :: i)))))
    (r1 : ∀ x s', p0.run H.st s = .done x s' → good x → H.ok s' → c x = true → N (({ S with s := qX (1000 :: 1001 :: 1002 :: i) (H.b0 s' :: H.b1 s' :: H.b2 s' :: (bk' x).map (Blk.ren (sig (1000 :: 1001 :: 1002 :: i)))) S.s } : AS).put d ((res x).ren (sig (1000 :: 1001 :: 1002 :: i)))))
    (p : ∀ q s', p0.run H.st s = .need q s' → K (.panic []) { S with s := qX (1000 :: 1001 :: 1002 :: i) (H.b0 s' :: H.b1 s' :: H.b2 s' :: (bk.map Blk.forget).map (Blk.ren (sig (1000 :: 1001 :: 1002 :: i)))) S.s, x := needA (accQ q) })
    (t : p0.run H.st s ≠ .stuck) : zP Tryd.prog n o S K N := zP.held H i hd hn he hx hnd h0 h1 h2 hat hbk hxs hrx hbk' hok f (fun x s' e g k => by
      cases hc : c x
      · exact r0 x s' e g k hc
      · exact r1 x s' e g k hc) p t
end
end Go.Proofs.YteadaggehndacaaDoor
/- A call of what takes a record out: three ways. (No walk here: a text with walks is cut, and what is found by itself would be cut, too.) -/
namespace Go.Proofs.YteadaggehndacaaDoor
set_option maxRecDepth 100000
set_option maxHeartbeats 16000000
open Go Go.RowKit
set_option linter.unusedVariables false
section
variable {n : Nat} {o : Oper} {S : AS} {d : Nat} {K : Exit → AS → Prop}
/-- a call of what takes a record out -/
theorem zP.hdT {f0 : FuncId} {avs xs : List AV} {bk : List Blk} {res : Took → AV} {bk' : Took → List Blk} {good : Took → Prop} {H : Hnd} {s : H.σ} {p0 : Pr Took} {N : AS → Prop} (i : List Nat) (hd : o.dst = some d := by rfl) (hn : d < n := by decide) (he : Enters Tryd.prog o S f0 avs := by exact enA)
    (hx : avs = xs.map (AV.ren (sig (1000 :: 1001 :: 1002 :: i))) := by rfl) (hnd : (1000 :: 1001 :: 1002 :: i).Nodup := by decide)
    (h0 : S.blk 1000 = some (H.b0 s) := by first | rfl | exact zK rfl (H.nk _).1 (by repeat' first | exact KB.refl | apply KB.kill | decide)) (h1 : S.blk 1001 = some (H.b1 s) := by first | rfl | exact zK rfl (H.nk _).2.1 (by repeat' first | exact KB.refl | apply KB.kill | decide)) (h2 : S.blk 1002 = some (H.b2 s) := by first | rfl | exact zK rfl (H.nk _).2.2 (by repeat' first | exact KB.refl | apply KB.kill | decide))
    (hat : AtB S (1000 :: 1001 :: 1002 :: i) i bk := by repeat' first | exact trivial | rfl | constructor) (hbk : bk.all (Blk.okE (bk.length + 3)) = true := by rfl) (hxs : xs.all (AV.okE (bk.length + 3)) = true := by rfl) (hrx : ∀ x, (res x).okE (bk.length + 3) = true := by exact fun _ => rfl)
    (hbk' : ∀ x, (bk' x).length = bk.length ∧ (bk' x).all (Blk.okE (bk.length + 3)) = true := by exact fun _ => ⟨rfl, rfl⟩) (hok : H.ok s := by assumption) (f : FnH H f0 xs bk res bk' good s p0)
    (r0 : ∀ s', p0.run H.st s = .done .fail s' → good .fail → H.ok s' → N (({ S with s := qX (1000 :: 1001 :: 1002 :: i) (H.b0 s' :: H.b1 s' :: H.b2 s' :: (bk' .fail).map (Blk.ren (sig (1000 :: 1001 :: 1002 :: i)))) S.s } : AS).put d ((res .fail).ren (sig (1000 :: 1001 :: 1002 :: i)))))
    (r1 : ∀ s', p0.run H.st s = .done .miss s' → good .miss → H.ok s' → N (({ S with s := qX (1000 :: 1001 :: 1002 :: i) (H.b0 s' :: H.b1 s' :: H.b2 s' :: (bk' .miss).map (Blk.ren (sig (1000 :: 1001 :: 1002 :: i)))) S.s } : AS).put d ((res .miss).ren (sig (1000 :: 1001 :: 1002 :: i)))))
    (r2 : ∀ s', p0.run H.st s = .done .done s' → good .done → H.ok s' → N (({ S with s := qX (1000 :: 1001 :: 1002 :: i) (H.b0 s' :: H.b1 s' :: H.b2 s' :: (bk' .done).map (Blk.ren (sig (1000 :: 1001 :: 1002 :: i)))) S.s } : AS).put d ((res .done).ren (sig (1000 :: 1001 :: 1002 :: i)))))
    (p : ∀ q s', p0.run H.st s = .need q s' → K (.panic []) { S with s := qX (1000 :: 1001 :: 1002 :: i) (H.b0 s' :: H.b1 s' :: H.b2 s' :: (bk.map Blk.forget).map (Blk.ren (sig (1000 :: 1001 :: 1002 :: i)))) S.s, x := needA (accQ q) })
    (t : p0.run H.st s ≠ .stuck) : zP Tryd.prog n o S K N := zP.held H i hd hn he hx hnd h0 h1 h2 hat hbk hxs hrx hbk' hok f (fun x => match x with
    | .fail => r0
    | .miss => r1
    | .done => r2) p t
end
end Go.Proofs.YteadaggehndacaaDoor
/- Searches, seeks, links and marks: the program's, whatever makes its accesses: contracts. -/
namespace Go.Proofs.YteadaggehndacaaDoor
set_option maxRecDepth 100000
set_option maxHeartbeats 16000000
open Go Go.RowKit
set_option linter.unusedSimpArgs false
set_option linter.unusedVariables false
attribute [local irreducible] zY zZ Step zQ Sub zM zP Fn zS yE vM
theorem notT {b : Bool} (h : (!b) = true) : b = false := by cases b <;> simp_all
theorem or1 (w : Int) (hw : U w) (he : decide (w % 2 = 1) = false) : bits .or .u64 w 1 = w + 1 := by
  refine (orBit w 1 hw.lo hw.hi (.inl rfl) ?_).1
  unfold qY
  simpa using he
theorem mark_h (H : Hnd) (s0 : H.σ) {t x w : Int} (ht : Small t) (hx : Rf x) (hw : U w) (he : decide (w % 2 = 1) = false) : FnH H 40 [H.doA, .p (.val (.int .i64 t)), .p (.val (.int .i64 x)), .p (.val (.int .u64 w))] [] (fun x => .p (.val (.bool x))) (fun _ => []) yes s0 (setMark t x w) := by
  have cn := cnext_fn t x ht hx.le
  have g1 := or1 w hw he
  have u1 := hw.succ he
  unfold Hnd.doA
  refine wY Tryd.func40 rfl Tryd.ntmps40 (Nat.le_of_ble_eq_true rfl) (by decide) (kV _ hw u1) fun hok hns => ?_
  repeat' (first | (refine zY.is ?_; first | refine zY.nil ?_ | (refine zY.at_ 13 rfl ?_; refine zY.rc (.v zB (.v zB (.v v36_0 .e))) ?_) | (refine zY.at_ 8 rfl ?_; refine zY.rc (.v zO .e) ?_) | (refine zY.in_ [12] rfl ?_; refine zY.v rfl rfl (yY (cn) rfl rfl rfl (by decide)) ?_) | (refine zY.in_ [16] rfl ?_; refine zY.ofT rfl (zP.hd (i := []) (f := cas_h H _ _ _ _ hw u1) (r := fun x s e g hk => ?_) (p := fun q s e => ?_) (t := ?_)))) | (refine zZ.is ?_; first | refine zZ.seq ?_ | (refine zZ.isR (id := 0) ?_; refine zZ.rc [0, 1, 2, 3] [1000, 1001, 1002] (r := (.v zO .e)) (h := ?_)) | (refine zZ.isR (id := 1) ?_; refine zZ.rc [0, 1, 2, 3, 8] [1000, 1001, 1002] (r := (.v wC (.v zB (.v zB .e)))) (h := ?_)) | refine zZ.ret ?_) | refine zS.n ?_ | refine zS.p ?_)
  all_goals (first | exact fun e => hns (by clear hns; simp only [setMark, run_bind, zL, zI, Held.zC, Held.zH, Held.zF, cond_true, cond_false, *]) | exact .pan (q := q) rfl (by repeat' first | exact trivial | rfl | constructor) (by repeat' exact trivial) (by simp only [setMark, run_bind, zL, zI, Held.zC, Held.zH, Held.zF, cond_true, cond_false, *]) | exact .ret (by exact .inl rfl) (by exact .one rfl rfl) (by repeat' first | exact trivial | rfl | constructor) (by simp only [setMark, run_bind, zL, zI, Held.zC, Held.zH, Held.zF, cond_true, cond_false, *] <;> rfl))
theorem markOp_h (H : Hnd) (s0 : H.σ) {t x : Int} (ht : Small t) (hx : Rf x) : FnH H 19 [H.doA, .p (.val (.int .i64 t)), .p (.val (.int .i64 x))] [] (fun x => .p (.val (.bool x))) (fun _ => []) yes s0 (markP t x) := by
  have cn := cnext_fn t x ht hx.le
  unfold Hnd.doA
  refine wY Tryd.func19 rfl Tryd.ntmps19 (Nat.le_of_ble_eq_true rfl) (by decide) (fine_mark t x) fun hok hns => ?_
  repeat' (first | (refine zY.is ?_; first | refine zY.nil ?_ | (refine zY.at_ 15 rfl ?_; refine zY.rc (.v v52_8 (.v zB .e)) ?_) | (refine zY.at_ 17 rfl ?_; refine zY.rc (.gY wC (.gY zB (.gY zB (.gY zB .e)))) ?_) | (refine zY.at_ 17 rfl ?_; refine zY.rc (.gT (.gT (.gT (.gT (.gT (.v xL (.v zO .e))))))) ?_) | (refine zY.at_ 22 rfl ?_; refine zY.rc (.v kZ (.v zO .e)) ?_) | (refine zY.at_ 7 rfl ?_; refine zY.rc (.v zO .e) ?_) | (refine zY.in_ [11] rfl ?_; refine zY.v rfl rfl (yY (cn) rfl rfl rfl (by decide)) ?_) | (refine zY.in_ [14] rfl ?_; refine zY.v rfl rfl (yY (mark_fn _ (U.lo (by assumption)) (U.hi (by assumption))) rfl rfl rfl (by decide)) ?_) | (refine zY.in_ [12] rfl ?_; refine zY.ofT rfl (zP.hd (i := []) (f := load_h H _ _) (r := fun x s e g hk => ?_) (p := fun q s e => ?_) (t := ?_))) | (refine zY.in_ [21] rfl ?_; refine zY.ofTg rfl rfl (by decide) rfl bA (zP.hd (i := []) (f := mark_h H _ ht hx (by assumption) (notT (by assumption))) (r := fun x s e g hk => ?_) (p := fun q s e => ?_) (t := ?_))) | (fail_if_success refine zY.known rfl rfl rfl (by fail) ?_); refine zY.split rfl rfl rfl (fun h => ?_) (fun h => ?_)) | (refine zZ.is ?_; first | refine zZ.seq ?_ | (refine zZ.isR (id := 0) ?_; refine zZ.rc [0, 1, 2] [1000, 1001, 1002] (r := (.v zO .e)) (h := ?_)) | (refine zZ.isR (id := 1) ?_; refine zZ.rc [0, 1, 2, 6] [1000, 1001, 1002] (r := (.v wC (.v zB (.v zB .e)))) (h := ?_)) | (refine zZ.isR (id := 2) ?_; refine zZ.rc [0, 1, 2, 6, 7] [1000, 1001, 1002] (r := (.v zB .e)) (h := ?_)) | refine zZ.ret ?_) | refine zS.n ?_ | refine zS.p ?_)
  all_goals try simp only [Bool.not_eq_true', Bool.not_eq_false'] at *
  all_goals (first | exact fun e => hns (by clear hns; simp only [markP, run_bind, zL, zI, Held.zC, Held.zH, Held.zF, cond_true, cond_false, *]) | exact .pan (q := q) rfl (by repeat' first | exact trivial | rfl | constructor) (by repeat' exact trivial) (by simp only [markP, run_bind, zL, zI, Held.zC, Held.zH, Held.zF, cond_true, cond_false, *]) | exact .ret (by exact .inl rfl) (by exact .one rfl rfl) (by repeat' first | exact trivial | rfl | constructor) (by simp only [markP, run_bind, zL, zI, Held.zC, Held.zH, Held.zF, cond_true, cond_false, *] <;> rfl))
theorem link_h (H : Hnd) (s0 : H.σ) {t p x r : Int} (ht : Small t) (hp : Rf p) (hx : Rf x) (hr : Rf r) : FnH H 18 [H.doA, .p (.val (.int .i64 t)), .p (.val (.int .i64 p)), .p (.val (.int .i64 x)), .p (.val (.int .i64 r))] [] (fun x => .p (.val (.bool x))) (fun _ => []) yes s0 (linkP t p x r) := by
  have cn := cnext_fn t p ht hp.le
  have cm := cnext_fn t r ht hr.le
  have cx := link_fn x hx.le
  have cr := link_fn r hr.le
  have ux := hx.u2
  have ur := hr.u2
  unfold Hnd.doA
  refine wY Tryd.func18 rfl Tryd.ntmps18 (Nat.le_of_ble_eq_true rfl) (by decide) (fine_link t p hx hr) fun hok hns => ?_
  repeat' (first | (refine zY.is ?_; first | refine zY.nil ?_ | (refine zY.at_ 10 rfl ?_; refine zY.rc (.v zO .e) ?_) | (refine zY.at_ 11 rfl ?_; refine zY.rc (.v zO .e) ?_) | (refine zY.at_ 18 rfl ?_; refine zY.rc (.v zB .e) ?_) | (refine zY.at_ 24 rfl ?_; refine zY.rc (.v zB (.v zB .e)) ?_) | (refine zY.in_ [23] rfl ?_; refine zY.v rfl rfl (yY (cn) rfl rfl rfl (by decide)) ?_) | (refine zY.in_ [17] rfl ?_; refine zY.v rfl rfl (yY (cm) rfl rfl rfl (by decide)) ?_) | (refine zY.in_ [13] rfl ?_; refine zY.v rfl rfl (yY (cx) rfl rfl rfl (by decide)) ?_) | (refine zY.in_ [26] rfl ?_; refine zY.v rfl rfl (yY (cr) rfl rfl rfl (by decide)) ?_) | (refine zY.in_ [19] rfl ?_; refine zY.ofT rfl (zP.hd (i := []) (f := store_h H _ _ _ ux) (r := fun x s e g hk => ?_) (p := fun q s e => ?_) (t := ?_))) | (refine zY.in_ [27] rfl ?_; refine zY.ofT rfl (zP.hd (i := []) (f := cas_h H _ _ _ _ ux ur) (r := fun x s e g hk => ?_) (p := fun q s e => ?_) (t := ?_)))) | (refine zZ.is ?_; first | refine zZ.seq ?_ | (refine zZ.isR (id := 0) ?_; refine zZ.rc [0, 1, 2, 3, 4] [1000, 1001, 1002] (r := (.v zO .e)) (h := ?_)) | (refine zZ.isR (id := 1) ?_; refine zZ.rc [0, 1, 2, 3, 4, 10] [1000, 1001, 1002] (r := (.v zB .e)) (h := ?_)) | (refine zZ.isR (id := 2) ?_; refine zZ.rc [0, 1, 2, 4, 10, 11] [1000, 1001, 1002] (r := (.v wC (.v zB (.v zB .e)))) (h := ?_)) | (refine zZ.isR (id := 3) ?_; refine zZ.rc [0, 1, 2, 4, 10, 11] [1000, 1001, 1002] (r := (.v wC (.v zB (.v zB .e)))) (h := ?_)) | refine zZ.ret ?_) | refine zS.n ?_ | refine zS.p ?_)
  all_goals (first | exact fun e => hns (by clear hns; simp only [linkP, run_bind, zL, zI, Held.zC, Held.zH, Held.zF, cond_true, cond_false, *]) | exact .pan (q := q) rfl (by repeat' first | exact trivial | rfl | constructor) (by repeat' exact trivial) (by simp only [linkP, run_bind, zL, zI, Held.zC, Held.zH, Held.zF, cond_true, cond_false, *]) | exact .ret (by exact .inl rfl) (by exact .one rfl rfl) (by repeat' first | exact trivial | rfl | constructor) (by simp only [linkP, run_bind, zL, zI, Held.zC, Held.zH, Held.zF, cond_true, cond_false, *] <;> rfl))
/-! ### Seeks -/
def seekS (H : Hnd) (t k p x : Int) (s : H.σ) : AS :=
  { t := [(3, .p (.val (.int .u64 k))), (8, .p (.val (.int .i64 0))), (9, .p (.val (.bool false))), (10, .ptr 21 0)], s := [(1000, H.b0 s), (1001, H.b1 s), (1002, H.b2 s), (21, vH H t p x)] }
theorem seek_h (H : Hnd) (s0 : H.σ) {t f k : Int} (ht : Small t) (hf : Rf f) : FnH H 21 [H.doA, .p (.val (.int .i64 t)), .p (.val (.int .i64 f)), .p (.val (.int .u64 k))] [] (fun r => .tup ([.val (.int .i64 r.1), .val (.bool r.2)].map .p)) (fun _ => []) SFound s0 (seekP t f k) := by
  have cn := cnext_fn t f ht hf.le
  unfold Hnd.doA
  refine wY Tryd.func21 rfl Tryd.ntmps21 (Nat.le_of_ble_eq_true rfl) (by decide) (fine_seek t f k) fun hok hns => ?_
  repeat' (first | (refine zY.is ?_; first | refine zY.nil ?_ | (refine zY.at_ 10 rfl ?_; refine zY.rc (.v v1_2 .e) ?_) | (refine zY.in_ [17] rfl ?_; refine zY.v rfl rfl (yY (cn) rfl rfl rfl (by decide)) ?_) | (refine zY.in_ [19] rfl ?_; refine zY.v rfl rfl (yY (ref_fn _ (U.lo (by assumption)) (U.hi (by assumption))) rfl rfl rfl (by decide)) ?_) | (refine zY.in_ [18] rfl ?_; refine zY.ofT rfl (zP.hd (i := []) (f := load_h H _ _) (r := fun x s e g hk => ?_) (p := fun q s e => ?_) (t := ?_))) | refine zY.buildBx rfl rfl rfl rfl rfl rfl (by decide) (by decide) rfl rfl rfl rfl ?_) | (refine zZ.is ?_; first | refine zZ.seq ?_ | (refine zZ.isR (id := 0) ?_; refine zZ.rc [0, 1, 2, 3] [21, 1000, 1001, 1002] (r := (.v zO (.v zO .e))) (h := ?_)) | (refine zZ.isR (id := 1) ?_; refine zZ.rc [0, 1, 2, 3, 8, 9] [21, 1000, 1001, 1002] (r := (.v wC (.v zB (.v wC (.v zB (.v zB .e)))))) (h := ?_)) | refine zZ.block ?_) | refine zS.n ?_ | refine zS.p ?_)
  all_goals (first | exact fun e => hns (by clear hns; simp only [seekP, run_bind, zL, zI, Held.zC, Held.zH, Held.zF, cond_true, cond_false, *]) | exact .pan (q := q) rfl (by repeat' first | exact trivial | rfl | constructor) (by repeat' exact trivial) (by simp only [seekP, run_bind, zL, zI, Held.zC, Held.zH, Held.zF, cond_true, cond_false, *]) | skip)
  have ho0 : (seekP t f k).run H.st s0 = (contS t k many (xM x)).run H.st s := by
    simp only [seekP, run_bind, zL, Held.zC, *]
    rfl
  rw [ho0] at hns ⊢
  refine zZ.loop (fun q : Nat × (Int × Int) × H.σ => seekS H t k q.2.1.1 q.2.1.2 q.2.2) (fun q => H.ok q.2.2 ∧ Rf q.2.1.2 ∧ (contS t k q.1 q.2.1.2).run H.st q.2.2 = (contS t k many (xM x)).run H.st s) (fun q => q.1) (many, (0, xM x), s) ?h0 ⟨by assumption, kJ _, rfl⟩ ?rd
  case h0 =>
    refine zN (is := [3, 8, 9, 10]) (js := [1000, 1001, 1002, 21]) ?_ ?_
    repeat' first | exact zW.nil | apply zW.p rfl | apply zW.ptr rfl | apply zW.own rfl | apply zW.clo rfl | apply zW.ifp rfl | apply zW.pt rfl | apply zW.tup rfl | apply zW.skip
    repeat' first | exact zX.nil | apply zX.boxP rfl rfl | apply zX.yG rfl | (apply zX.at0; exact zK rfl (H.nk _).1 (by repeat' first | exact KB.refl | apply KB.kill | decide)) | (apply zX.at1; exact zK rfl (H.nk _).2.1 (by repeat' first | exact KB.refl | apply KB.kill | decide)) | (apply zX.at2; exact zK rfl (H.nk _).2.2 (by repeat' first | exact KB.refl | apply KB.kill | decide)) | apply zX.some rfl | apply zX.skip
  case rd =>
    clear e
    generalize xM x = y0 at *
    rintro ⟨n, ⟨p, x1⟩, s1⟩ ⟨hok1, hx, ho⟩
    dsimp only at hok1 hx ho ⊢
    rw [← ho] at hns ⊢
    unfold seekS
    unfold contS at *
    cases hz : decide (x1 = 0)
    case true =>
      rw [hz] at ho hns
      have hz' : (!decide (x1 = 0)) = false := by rw [hz]; rfl
      unfold vH Hnd.doA
      repeat' (first | (refine zY.nil ?_) | (refine zZ.is ?_; first | refine zZ.seq ?_ | (refine zZ.isR (id := 2) ?_; refine zZ.rc [3, 8, 9, 10, 11, 26, 31] [21, 1000, 1001, 1002] (r := (.v v0_2 (.v v4_0 (.v yI (.v yO (.v qV .e)))))) (h := ?_)) | (refine zZ.isR (id := 7) ?_; refine zZ.rc [8, 9] [21, 1000, 1001, 1002] (r := (.v zO (.v zO .e))) (h := ?_)) | refine zZ.y9 rfl bA ?_ | refine zZ.exit ?_ | refine zZ.ret ?_) | refine zS.n ?_ | refine yE.eY ?_ | refine zS.e ?_)
      all_goals (exact .ret (x := (_, _)) (by exact .inl rfl) (by exact .tup rfl (by decide) (.cons (.tmp rfl) (.cons (.tmp rfl) .nil))) (by repeat' first | exact trivial | rfl | constructor) (by simp only [run_bind, zL, zI, Held.zC, Held.zH, Held.zF, cond_true, cond_false, *] <;> rfl))
    case false =>
      rw [hz] at ho hns
      have hz' : (!decide (x1 = 0)) = true := by rw [hz]; rfl
      have hxr := hx.rc ht
      rw [cond_false] at ho hns ⊢
      cases n with
      | zero => exact absurd rfl hns
      | succ n =>
        rw [qU] at ho hns ⊢
        repeat' (first | (refine zY.is ?_; first | refine zY.nil ?_ | (refine zY.at_ 11 rfl ?_; refine zY.rc (.v zO .e) ?_) | (refine zY.in_ [28, 41] rfl ?_; refine zY.ofT rfl (zP.hd (i := [21]) (f := field_h H _ hxr (by decide)) (r := fun x s e g hk => ?_) (p := fun q s e => ?_) (t := ?_))) | (refine zY.in_ [42] rfl ?_; refine zY.ofT rfl (zP.h0 (i := [21]) (f := on_h H _ (by assumption)) (r := fun g => ?_)))) | (refine zZ.is ?_; first | refine zZ.seq ?_ | (refine zZ.isR (id := 2) ?_; refine zZ.rc [3, 8, 9, 10, 11, 26, 31] [21, 1000, 1001, 1002] (r := (.v v0_2 (.v v4_0 (.v yI (.v yO (.v qV .e)))))) (h := ?_)) | (refine zZ.isR (id := 3) ?_; refine zZ.rc [3, 8, 9, 10, 11, 26, 31] [21, 1000, 1001, 1002] (r := (.v v0_2 .e)) (h := ?_)) | (refine zZ.isR (id := 4) ?_; refine zZ.rc [3, 8, 9, 10, 11, 26, 31] [21, 1000, 1001, 1002] (r := (.v zB (.v zB (.v v46_8 .e)))) (h := ?_)) | (refine zZ.isR (id := 5) ?_; refine zZ.rc [3, 8, 9, 10, 11, 26, 31] [21, 1000, 1001, 1002] (r := (.v v0_2 (.v v4_0 (.v yI (.v yO (.v zB (.v zB (.v v41_8 (.v zO (.v zO .e)))))))))) (h := ?_)) | (refine zZ.isR (id := 6) ?_; refine zZ.rc [3, 8, 9, 10, 11, 26, 31] [21, 1000, 1001, 1002] (r := (.v v0_2 (.v v0_2 .e))) (h := ?_)) | refine zZ.xV rfl bA ?_ | refine zZ.cond rfl (fun h => ?_) (fun h => ?_) | refine zZ.skip ?_ | refine zZ.block ?_ | refine zZ.ret ?_) | refine zS.n ?_ | refine zS.r ?_ | refine zS.p ?_ | refine yE.n ?_ | refine yE.r ?_ | refine yE.p ?_)
        all_goals (first | exact fun e => hns (by clear hns; simp only [wS, run_bind, zL, zI, Held.zC, Held.zH, Held.zF, cond_true, cond_false, *]) | exact .pan (q := q) rfl (by repeat' first | exact trivial | rfl | constructor) (by repeat' exact trivial) (by simp only [wS, run_bind, zL, zI, Held.zC, Held.zH, Held.zF, cond_true, cond_false, *]) | exact .ret (x := (_, _)) (by exact .inl rfl) (by exact .tup rfl (by decide) (.cons (.tmp rfl) (.cons (.tmp rfl) .nil))) (by repeat' first | exact trivial | rfl | constructor) (by simp only [wS, run_bind, zL, zI, Held.zC, Held.zH, Held.zF, cond_true, cond_false, *] <;> rfl) | skip)
        refine ⟨(n, (x1, xM x), s), ?_, ⟨hk, kJ _, ?_⟩, Nat.lt_succ_self n⟩
        · refine zN (is := [3, 8, 9, 10]) (js := [1000, 1001, 1002, 21]) ?_ ?_
          repeat' first | exact zW.nil | apply zW.p rfl | apply zW.ptr rfl | apply zW.own rfl | apply zW.clo rfl | apply zW.ifp rfl | apply zW.pt rfl | apply zW.tup rfl | apply zW.skip
          repeat' first | exact zX.nil | apply zX.boxP rfl rfl | apply zX.yG rfl | (apply zX.at0; exact zK rfl (H.nk _).1 (by repeat' exact KB.refl)) | (apply zX.at1; exact zK rfl (H.nk _).2.1 (by repeat' exact KB.refl)) | (apply zX.at2; exact zK rfl (H.nk _).2.2 (by repeat' exact KB.refl)) | apply zX.some rfl | apply zX.skip
        · have e1 : (wS t k x1).run H.st s1 = .done (endS (xM x)) s := by
            clear ho hns ho0
            simp only [wS, run_bind, zL, zI, Held.zC, cond_false, *]
          rw [run_bind, e1, Held.zC]
          exact congrArg (fun p => Pr.run H.st p s) (contS_eq t k n (xM x)).symm
/-! ### A walk that is told where to stop -/
def ptrB (i : Nat) : Blk := .box 83 [.ptr i 0]
def keyB (k : Int) : Blk := .box 27 [.p (.val (.int .u64 k))]
theorem search1_h (H : Hnd) (s0 : H.σ) {t p x k w : Int} (f : Bool) (hx : Rc t x) : FnH H 32 [.p (.val (.int .u64 w)), .ptr 1004 0, .ptr 1005 0, .ptr 1006 0] [vH H t p x, ptrB 1003, keyB k, isB f] (fun n => .tup ([.val (.bool (decide (k ≤ n))), .val (.bool false)].map .p)) (fun n => [vH H t p x, ptrB 1003, keyB k, isB (decide (n = k))]) U s0 (wE (zG t x 1)) := by
  unfold ptrB keyB
  refine wY Tryd.func32 rfl Tryd.ntmps32 (Nat.le_of_ble_eq_true rfl) (by decide) (yT _) fun hok hns => ?_
  repeat' (first | (refine zY.is ?_; first | refine zY.nil ?_ | (refine zY.at_ 7 rfl ?_; refine zY.rc (.v zO .e) ?_) | (refine zY.in_ [9] rfl ?_; refine zY.ofT rfl (zP.hd (i := [1003]) (f := field_h H _ hx (by decide)) (r := fun x s e g hk => ?_) (p := fun q s e => ?_) (t := ?_)))) | (refine zZ.is ?_; first | refine zZ.seq ?_ | (refine zZ.isR (id := 0) ?_; refine zZ.rc [1, 2, 3] [1000, 1001, 1002, 1003, 1004, 1005, 1006] (r := (.v zO (.v zO .e))) (h := ?_)) | (refine zZ.isR (id := 1) ?_; refine zZ.rc [1, 2, 3, 5, 6] [1000, 1001, 1002, 1003, 1004, 1005, 1006] (r := (.v v2_12 .e)) (h := ?_)) | (refine zZ.isR (id := 2) ?_; refine zZ.rc [2, 3, 5, 6, 7] [1000, 1001, 1002, 1003, 1004, 1005, 1006] (r := (.v zB (.v yO (.v v41_8 (.w yZ .e))))) (h := ?_)) | (refine zZ.isR (id := 3) ?_; refine zZ.rc [2, 5, 6, 7] [1000, 1001, 1002, 1003, 1004, 1005, 1006] (r := (.v zB (.v yO (.v v46_8 (.v zO (.v zO .e)))))) (h := ?_)) | refine zZ.ret ?_) | refine zS.n ?_ | refine zS.p ?_)
  all_goals (first | exact fun e => hns (by clear hns; simp only [run_bind, zL, zI, Held.zC, Held.zH, Held.zF, cond_true, cond_false, *]) | exact .pan (q := q) rfl (by repeat' first | exact trivial | rfl | constructor) (by repeat' first | exact trivial | exact ⟨_, rfl, rfl⟩ | constructor) (by simp only [run_bind, zL, zI, Held.zC, Held.zH, Held.zF, cond_true, cond_false, *]) | exact .ret (x := x) (by exact .inl rfl) (by exact .tup rfl (by decide) (.cons (.tmp rfl) (.cons (.tmp rfl) .nil))) (by repeat' first | exact trivial | rfl | constructor) (by simp only [run_bind, zL, zI, Held.zC, Held.zH, Held.zF, cond_true, cond_false, *] <;> rfl))
def alongF (H : Hnd) (t k p x : Int) (s : H.σ) : AS :=
  { t := [(0, .ptr 1003 0), (1, .clo 32 [1004, 1005, 1006]), (4, .p (.val (.bool false)))], s := [(1000, H.b0 s), (1001, H.b1 s), (1002, H.b2 s), (1003, vH H t p x), (1004, ptrB 1003), (1005, keyB k), (1006, isB false)] }
theorem along_h (H : Hnd) (s0 : H.σ) {t k : Int} (ht : Small t) : FnH H 31 [.ptr 1003 0, .clo 32 [1004, 1005, 1006]] [vH H t 0 0, ptrB 1003, keyB k, isB false] (fun r => .p (.val (.bool r.ok))) (fun r => [vH H t r.p r.x, ptrB 1003, keyB k, isB r.is]) FOK s0 (alongP t k) := by
  refine wY Tryd.func31 rfl Tryd.ntmps31 (Nat.le_of_ble_eq_true rfl) (by decide) (fine_along t k) fun hok hns => ?_
  repeat' (first | (refine zY.nil ?_) | (refine zZ.is ?_; first | refine zZ.seq ?_ | (refine zZ.isR (id := 0) ?_; refine zZ.rc [0, 1] [1000, 1001, 1002, 1003, 1004, 1005, 1006] (r := (.v zO .e)) (h := ?_))) | refine zS.n ?_)
  refine zZ.scopeL 0 (fun q : Nat × (Int × Int) × H.σ => alongF H t k q.2.1.1 q.2.1.2 q.2.2) (fun q => H.ok q.2.2 ∧ (Pr.loop (yB t (xA t k)) q.1 none).run H.st q.2.2 = (alongP t k).run H.st s0) (fun q => q.1) (many, (0, 0), s0) ?h0 ⟨hok, rfl⟩ ?rd
  case h0 =>
    refine zN (is := [0, 1, 4]) (js := [1000, 1001, 1002, 1003, 1004, 1005, 1006]) ?_ ?_
    repeat' first | exact zW.nil | apply zW.p rfl | apply zW.ptr rfl | apply zW.own rfl | apply zW.clo rfl | apply zW.ifp rfl | apply zW.pt rfl | apply zW.tup rfl | apply zW.skip
    repeat' first | exact zX.nil | apply zX.boxP rfl rfl | apply zX.yG rfl | (apply zX.at0; exact zK rfl (H.nk _).1 (by repeat' exact KB.refl)) | (apply zX.at1; exact zK rfl (H.nk _).2.1 (by repeat' exact KB.refl)) | (apply zX.at2; exact zK rfl (H.nk _).2.2 (by repeat' exact KB.refl)) | apply zX.some rfl | apply zX.skip
  case rd =>
    rintro ⟨n, ⟨p, x⟩, s1⟩ ⟨hok1, ho⟩
    dsimp only at hok1 ho ⊢
    rw [← ho] at hns ⊢
    unfold alongF
    cases n with
    | zero => exact absurd rfl hns
    | succ n =>
      rw [qU] at ho hns ⊢
      repeat' (first | (refine zY.is ?_; first | refine zY.nil ?_ | (refine zY.in_ [11] rfl ?_; refine zY.ofT rfl (zP.hd (i := [1003]) (f := start_h H _ ht) (r := fun x s e g hk => ?_) (p := fun q s e => ?_) (t := ?_)))) | (refine zZ.is ?_; first | refine zZ.seq ?_ | (refine zZ.isR (id := 1) ?_; refine zZ.rc [0, 1, 4] [1000, 1001, 1002, 1003, 1004, 1005, 1006] (r := (.v v0_2 .e)) (h := ?_)) | refine zZ.block ?_) | refine zS.n ?_ | refine zS.p ?_ | refine vM.p ?_)
      all_goals (first | exact fun e => hns (by clear hns; simp only [yB, run_bind, zL, zI, Held.zC, Held.zH, Held.zF, cond_true, cond_false, *]) | exact .pan (q := q) rfl (by repeat' first | exact trivial | rfl | constructor) (by repeat' first | exact trivial | exact ⟨_, rfl, rfl⟩ | constructor) (by simp only [yB, run_bind, zL, zI, Held.zC, Held.zH, Held.zF, cond_true, cond_false, *]) | skip)
      have e1 : (yB t (xA t k) none).run H.st s1 = .done (endW 0 (xM x)) s := by
        clear ho hns
        simp only [yB, run_bind, zL, Held.zC, *]
      rw [run_bind, e1, Held.zC, vJ] at ho hns ⊢
      refine zZ.loop (fun q : Nat × (Int × Int) × H.σ => alongF H t k q.2.1.1 q.2.1.2 q.2.2) (fun q => q.1 ≤ n ∧ H.ok q.2.2 ∧ Rf q.2.1.1 ∧ Rf q.2.1.2 ∧ (contL t (xA t k) q.1 q.2.1.1 q.2.1.2).run H.st q.2.2 = (contL t (xA t k) n 0 (xM x)).run H.st s) (fun q => q.1) (n, (0, xM x), s) ?h0 ⟨Nat.le_refl _, hk, rf_0, kJ _, rfl⟩ ?rd
      case h0 =>
        refine zN (is := [0, 1, 4]) (js := [1000, 1001, 1002, 1003, 1004, 1005, 1006]) ?_ ?_
        repeat' first | exact zW.nil | apply zW.p rfl | apply zW.ptr rfl | apply zW.own rfl | apply zW.clo rfl | apply zW.ifp rfl | apply zW.pt rfl | apply zW.tup rfl | apply zW.skip
        repeat' first | exact zX.nil | apply zX.boxP rfl rfl | apply zX.yG rfl | (apply zX.at0; exact zK rfl (H.nk _).1 (by repeat' exact KB.refl)) | (apply zX.at1; exact zK rfl (H.nk _).2.1 (by repeat' exact KB.refl)) | (apply zX.at2; exact zK rfl (H.nk _).2.2 (by repeat' exact KB.refl)) | apply zX.some rfl | apply zX.skip
      case rd =>
        rintro ⟨m, ⟨p1, x1⟩, s2⟩ ⟨hmn, hok2, hp1, hx1, ho2⟩
        dsimp only at hmn hok2 hp1 hx1 ho2 ⊢
        clear e1 e hk
        rw [← ho2] at ho hns ⊢
        unfold alongF
        unfold contL at ho hns ⊢
        cases hz : decide (x1 = 0)
        case true =>
          rw [hz] at ho hns
          obtain rfl : x1 = 0 := of_decide_eq_true hz
          have hz' : (!decide ((0 : Int) = 0)) = false := rfl
          repeat' (first | (refine zY.nil ?_) | (refine zZ.is ?_; first | refine zZ.seq ?_ | (refine zZ.isR (id := 2) ?_; refine zZ.rc [0, 1, 4, 5, 6, 7, 8, 9, 16, 20, 28, 30, 37, 39] [1000, 1001, 1002, 1003, 1004, 1005, 1006] (r := (.v v0_2 (.v v4_0 (.v yI (.v yO (.v qV .e)))))) (h := ?_)) | (refine zZ.isR (id := 14) ?_; refine zZ.rc [4] [1000, 1001, 1002, 1003, 1004, 1005, 1006] (r := (.v zO .e)) (h := ?_)) | refine zZ.y9 rfl bA ?_ | refine zZ.exit ?_ | refine zZ.ret ?_) | refine zS.n ?_ | refine yE.eY ?_ | refine zS.e ?_ | refine vM.r ?_)
          all_goals (exact .ret (x := ⟨_, _, _, _⟩) (by exact .inl rfl) (by exact .one rfl rfl) (by repeat' first | exact trivial | rfl | constructor) (by simp only [run_bind, zL, zI, Held.zC, Held.zH, Held.zF, cond_true, cond_false, *] <;> rfl))
        case false =>
          rw [hz] at ho hns
          have hz' : (!decide (x1 = 0)) = true := by rw [hz]; rfl
          have hxr := hx1.rc ht
          have hw : WOK p1 x1 := ⟨hp1, hx1, hz⟩
          have hnk : ∀ n : Int, decide (k ≤ n) = false → decide (n = k) = false := fun n h => by
            have := of_decide_eq_false h
            exact decide_eq_false (by omega)
          rw [cond_false] at ho hns ⊢
          cases m with
          | zero => exact absurd rfl hns
          | succ m =>
            rw [qU] at ho hns ⊢
            repeat' (first | (refine zY.is ?_; first | refine zY.nil ?_ | (refine zY.at_ 21 rfl ?_; refine zY.rc (.v vX (.v yF (.v yF (.v zO (.v zO .e))))) ?_) | (refine zY.at_ 31 rfl ?_; refine zY.rc (.v vX (.v yF (.v yF (.v zO (.v zO .e))))) ?_) | (refine zY.at_ 5 rfl ?_; refine zY.rc (.v zO .e) ?_) | (refine zY.in_ [20] rfl ?_; refine zY.v rfl rfl (yY (mark_fn _ (U.lo (by assumption)) (U.hi (by assumption))) rfl rfl rfl (by decide)) ?_) | (refine zY.in_ [18] rfl ?_; refine zY.ofT rfl (zP.hd (i := [1003]) (f := field_h H _ hxr (by decide)) (r := fun x s e g hk => ?_) (p := fun q s e => ?_) (t := ?_))) | (refine zY.in_ [34] rfl ?_; refine zY.ofT rfl (zP.hd (i := [1003, 1004, 1005, 1006]) (f := search1_h H _ _ hxr) (r := fun x s e g hk => ?_) (p := fun q s e => ?_) (t := ?_))) | (refine zY.in_ [24] rfl ?_; refine zY.ofT rfl (zP.hdT (i := [1003]) (f := out_h H _ ht hw (by assumption)) (r0 := fun s e g hk => ?_) (r1 := fun s e g hk => ?_) (r2 := fun s e g hk => ?_) (p := fun q s e => ?_) (t := ?_))) | (refine zY.in_ [42] rfl ?_; refine zY.ofT rfl (zP.h0 (i := [1003]) (f := on_h H _ (by assumption)) (r := fun g => ?_)))) | (refine zZ.is ?_; first | refine zZ.seq ?_ | (refine zZ.isR (id := 2) ?_; refine zZ.rc [0, 1, 4, 5, 6, 7, 8, 9, 16, 20, 28, 30, 37, 39] [1000, 1001, 1002, 1003, 1004, 1005, 1006] (r := (.v v0_2 (.v v4_0 (.v yI (.v yO (.v qV .e)))))) (h := ?_)) | (refine zZ.isR (id := 3) ?_; refine zZ.rc [0, 1, 4, 5, 6, 7, 8, 9, 16, 20, 28, 30, 37, 39] [1000, 1001, 1002, 1003, 1004, 1005, 1006] (r := (.v v0_2 .e)) (h := ?_)) | (refine zZ.isR (id := 4) ?_; refine zZ.rc [0, 1, 4, 5, 6, 7, 8, 9, 16, 20, 28, 30, 37, 39] [1000, 1001, 1002, 1003, 1004, 1005, 1006] (r := (.v zB .e)) (h := ?_)) | (refine zZ.isR (id := 5) ?_; refine zZ.rc [0, 1, 4, 5, 6, 7, 8, 9, 16, 20, 28, 30, 37, 39] [1000, 1001, 1002, 1003, 1004, 1005, 1006] (r := (.v v0_2 (.v zB .e))) (h := ?_)) | (refine zZ.isR (id := 6) ?_; refine zZ.rc [0, 1, 4, 5, 6, 7, 8, 9, 16, 20, 28, 30, 37, 39] [1000, 1001, 1002, 1003, 1004, 1005, 1006] (r := (.v zB (.v v52_4 .e))) (h := ?_)) | (refine zZ.isR (id := 6) ?_; refine zZ.rc [0, 1, 4, 5, 6, 7, 8, 9, 16, 20, 28, 30, 37, 39] [1000, 1001, 1002, 1003, 1004, 1005, 1006] (r := (.v zB (.v wV .e))) (h := ?_)) | (refine zZ.isR (id := 7) ?_; refine zZ.rc [0, 1, 4, 5, 6, 7, 8, 9, 16, 20, 28, 30, 37, 39] [1000, 1001, 1002, 1003, 1004, 1005, 1006] (r := (.v zO .e)) (h := ?_)) | (refine zZ.isR (id := 8) ?_; refine zZ.rc [0, 1, 4, 5, 6, 7, 8, 9, 16, 20, 28, 30, 37, 39] [1000, 1001, 1002, 1003, 1004, 1005, 1006] (r := (.v zB (.v v52_4 .e))) (h := ?_)) | (refine zZ.isR (id := 8) ?_; refine zZ.rc [0, 1, 4, 5, 6, 7, 8, 9, 16, 20, 28, 30, 37, 39] [1000, 1001, 1002, 1003, 1004, 1005, 1006] (r := (.v zB (.v wV .e))) (h := ?_)) | (refine zZ.isR (id := 9) ?_; refine zZ.rc [0, 1, 4, 5, 6, 7, 8, 9, 16, 20, 28, 30, 37, 39] [1000, 1001, 1002, 1003, 1004, 1005, 1006] (r := (.v wC (.v zB .e))) (h := ?_)) | (refine zZ.isR (id := 10) ?_; refine zZ.rc [0, 1, 4, 5, 6, 7, 8, 9, 16, 20, 28, 30, 37, 39] [1000, 1001, 1002, 1003, 1004, 1005, 1006] (r := (.v zB .e)) (h := ?_)) | (refine zZ.isR (id := 11) ?_; refine zZ.rc [0, 1, 4, 5, 6, 7, 8, 9, 16, 20, 28, 30, 37, 39] [1000, 1001, 1002, 1003, 1004, 1005, 1006] (r := (.v zO .e)) (h := ?_)) | (refine zZ.isR (id := 12) ?_; refine zZ.rc [0, 1, 4, 5, 6, 7, 8, 9, 16, 20, 28, 30, 37, 39] [1000, 1001, 1002, 1003, 1004, 1005, 1006] (r := (.v zB (.v v52_4 .e))) (h := ?_)) | (refine zZ.isR (id := 13) ?_; refine zZ.rc [0, 1, 4, 5, 6, 7, 8, 9, 16, 20, 28, 30, 37, 39] [1000, 1001, 1002, 1003, 1004, 1005, 1006] (r := (.v v0_2 (.v zB .e))) (h := ?_)) | refine zZ.xV rfl bA ?_ | refine zZ.y9 rfl bA ?_ | refine zZ.cond rfl (fun h => ?_) (fun h => ?_) | refine zZ.skip ?_ | refine zZ.block ?_ | refine zZ.exit ?_ | refine zZ.ret ?_ | refine zZ.goto ?_) | refine zS.n ?_ | refine zS.r ?_ | refine zS.p ?_ | refine yE.n ?_ | refine yE.r ?_ | refine yE.eY ?_ | refine zS.e ?_ | refine yE.p ?_ | refine zS.g ?_ | refine vM.r ?_ | refine vM.g ?_ | refine yE.g ?_ | refine vM.p ?_)
            all_goals (first | exact fun e => hns (by clear hns; simp only [yB, qQ, tookR, xA, run_bind, zL, zI, Held.zC, Held.zH, Held.zF, cond_true, cond_false, *]) | exact .pan (q := q) rfl (by repeat' first | exact trivial | rfl | constructor) (by repeat' first | exact trivial | exact ⟨_, rfl, rfl⟩ | constructor) (by simp only [yB, qQ, tookR, xA, run_bind, zL, zI, Held.zC, Held.zH, Held.zF, cond_true, cond_false, *]) | exact .ret (x := ⟨_, _, _, _⟩) (by exact .inl rfl) (by exact .one rfl rfl) (by repeat' first | exact trivial | rfl | constructor) (by simp only [yB, qQ, tookR, xA, run_bind, zL, zI, Held.zC, Held.zH, Held.zF, cond_true, cond_false, *] <;> rfl) | skip)
            · have e1 : (yB t (xA t k) (some (p1, x1))).run H.st s2 = .done (.inl none) s := by
                clear ho hns ho2
                simp only [yB, qQ, tookR, run_bind, zL, zI, Held.zC, cond_true, cond_false, *]
              refine ⟨(m, (p1, x1), s), ?_, ⟨hk, (by rw [run_bind, e1, Held.zC]; rfl)⟩, by dsimp only; omega⟩
              refine zN (is := [0, 1, 4]) (js := [1000, 1001, 1002, 1003, 1004, 1005, 1006]) ?_ ?_
              repeat' first | exact zW.nil | apply zW.p rfl | apply zW.ptr rfl | apply zW.own rfl | apply zW.clo rfl | apply zW.ifp rfl | apply zW.pt rfl | apply zW.tup rfl | apply zW.skip
              repeat' first | exact zX.nil | apply zX.boxP rfl rfl | apply zX.yG rfl | (apply zX.at0; exact zK rfl (H.nk _).1 (by repeat' exact KB.refl)) | (apply zX.at1; exact zK rfl (H.nk _).2.1 (by repeat' exact KB.refl)) | (apply zX.at2; exact zK rfl (H.nk _).2.2 (by repeat' exact KB.refl)) | apply zX.some rfl | apply zX.skip
            · have e1 : (yB t (xA t k) (some (p1, x1))).run H.st s2 = .done (endW p1 (xM x)) s := by
                clear ho hns ho2
                simp only [yB, qQ, tookR, run_bind, zL, zI, Held.zC, cond_true, cond_false, *]
              refine ⟨(m, (p1, xM x), s), ?_, ⟨by dsimp only; omega, hk, hp1, kJ _, ?_⟩, Nat.lt_succ_self m⟩
              · refine zN (is := [0, 1, 4]) (js := [1000, 1001, 1002, 1003, 1004, 1005, 1006]) ?_ ?_
                repeat' first | exact zW.nil | apply zW.p rfl | apply zW.ptr rfl | apply zW.own rfl | apply zW.clo rfl | apply zW.ifp rfl | apply zW.pt rfl | apply zW.tup rfl | apply zW.skip
                repeat' first | exact zX.nil | apply zX.boxP rfl rfl | apply zX.yG rfl | (apply zX.at0; exact zK rfl (H.nk _).1 (by repeat' exact KB.refl)) | (apply zX.at1; exact zK rfl (H.nk _).2.1 (by repeat' exact KB.refl)) | (apply zX.at2; exact zK rfl (H.nk _).2.2 (by repeat' exact KB.refl)) | apply zX.some rfl | apply zX.skip
              · rw [run_bind, e1, Held.zC]
                exact congrArg (fun p => Pr.run H.st p s) (vJ t (xA t k) m p1 (xM x)).symm
            · rename_i w s4 e4 g4 hk4 hm4 g5
              have e1 : (yB t (xA t k) (some (p1, x1))).run H.st s2 = .done (endW x1 (xM w)) s := by
                clear ho hns ho2
                simp only [yB, xA, run_bind, zL, zI, Held.zC, cond_true, cond_false, *]
              have hdk := hnk x h
              refine ⟨(m, (x1, xM w), s), ?_, ⟨by dsimp only; omega, hk, hx1, kJ _, ?_⟩, Nat.lt_succ_self m⟩
              · rw [hdk]
                refine zN (is := [0, 1, 4]) (js := [1000, 1001, 1002, 1003, 1004, 1005, 1006]) ?_ ?_
                repeat' first | exact zW.nil | apply zW.p rfl | apply zW.ptr rfl | apply zW.own rfl | apply zW.clo rfl | apply zW.ifp rfl | apply zW.pt rfl | apply zW.tup rfl | apply zW.skip
                repeat' first | exact zX.nil | apply zX.boxP rfl rfl | apply zX.yG rfl | (apply zX.at0; exact zK rfl (H.nk _).1 (by repeat' exact KB.refl)) | (apply zX.at1; exact zK rfl (H.nk _).2.1 (by repeat' exact KB.refl)) | (apply zX.at2; exact zK rfl (H.nk _).2.2 (by repeat' exact KB.refl)) | apply zX.some rfl | apply zX.skip
              · rw [run_bind, e1, Held.zC]
                exact congrArg (fun p => Pr.run H.st p s) (vJ t (xA t k) m x1 (xM w)).symm
theorem search_h (H : Hnd) (s0 : H.σ) {t k : Int} (ht : Small t) : FnH H 17 [H.doA, .p (.val (.int .i64 t)), .p (.val (.int .u64 k))] [] (fun r => .tup ([.val (.int .i64 r.p), .val (.int .i64 r.x), .val (.bool r.is), .val (.bool r.ok)].map .p)) (fun _ => []) FOK s0 (kC t k) := by
  unfold Hnd.doA
  refine wY Tryd.func17 rfl Tryd.ntmps17 (Nat.le_of_ble_eq_true rfl) (by decide) (fine_search t k) fun hok hns => ?_
  repeat' (first | (refine zY.is ?_; first | refine zY.nil ?_ | (refine zY.at_ 10 rfl ?_; refine zY.rc (.m yD (.w yZ .e)) ?_) | (refine zY.at_ 9 rfl ?_; refine zY.rc (.v zO .e) ?_) | (refine zY.in_ [17] rfl ?_; refine zY.ofT rfl (zP.hdB (c := wO.is) (i := [14, 10, 5, 8]) (f := along_h H _ ht) (r0 := fun x s e g hk h => ?_) (r1 := fun x s e g hk h => ?_) (p := fun q s e => ?_) (t := ?_))) | refine zY.buildBx rfl rfl rfl rfl rfl rfl (by decide) (by decide) rfl rfl rfl rfl ?_) | (refine zZ.is ?_; first | refine zZ.seq ?_ | (refine zZ.isR (id := 0) ?_; refine zZ.rc [0, 1, 2] [5, 8, 10, 14, 1000, 1001, 1002] (r := (.m m18_1 (.v zO (.v zO (.m yD (.v zO .e)))))) (h := ?_)) | (refine zZ.isR (id := 1) ?_; refine zZ.rc [0, 1, 5, 6, 7, 8, 9] [5, 8, 10, 14, 1000, 1001, 1002] (r := (.v wC (.v zB .e))) (h := ?_)) | (refine zZ.isR (id := 2) ?_; refine zZ.rc [5, 6, 7, 8, 9, 10] [5, 8, 10, 14, 1000, 1001, 1002] (r := (.v v2_12 (.v v14_0 .e))) (h := ?_)) | (refine zZ.isR (id := 3) ?_; refine zZ.rc [6, 7, 8, 9, 10] [5, 8, 10, 14, 1000, 1001, 1002] (r := (.v zB (.v v52_8 .e))) (h := ?_)) | (refine zZ.isR (id := 4) ?_; refine zZ.rc [6, 7, 8, 9, 10] [5, 8, 10, 14, 1000, 1001, 1002] (r := (.v zO (.v zO (.w yZ (.v zO .e))))) (h := ?_)) | (refine zZ.isR (id := 5) ?_; refine zZ.dc [6, 7, 8, 9, 10] [5, 8, 10, 14, 1000, 1001, 1002] (r := (.v v2_12 (.v v4_0 (.v yI (.v yO (.v v2_12 (.v v4_0 (.v yI (.v yO (.v yO (.v zB (.gY v2_12 (.gY v4_0 (.gY yI (.gY yO (.gY v42_8 (.v kZ (.v zO (.v zO .e))))))))))))))))))) (q := (.w yZ (.v zO .e))) (h := ?_)) | (refine zZ.isR (id := 5) ?_; refine zZ.dc [6, 7, 8, 9, 10] [5, 8, 10, 14, 1000, 1001, 1002] (r := (.v v2_12 (.v v4_0 (.v yI (.v yO (.v v2_12 (.v v4_0 (.v yI (.v yO (.v yO (.v zB (.gT (.gT (.gT (.gT (.gT (.v xL (.v zO (.v zO .e))))))))))))))))))) (q := (.w yZ (.v zO .e))) (h := ?_)) | refine zZ.cond rfl (fun h => ?_) (fun h => ?_) | refine zZ.skip ?_ | refine zZ.ret ?_) | refine zS.n ?_ | refine zS.r ?_ | refine zS.p ?_ | (refine zM.nil ?_))
  all_goals try
    rename_i his
    obtain ⟨p, y, is, ok⟩ := x
    obtain rfl : is = _ := his
  all_goals try
    have hok2 : ok = false := by simpa using h
    subst hok2
    exact .ret (x := ⟨0, 0, false, false⟩) (.inl rfl) (.tup rfl (by decide) (.cons (.tmp rfl) (.cons (.tmp rfl) (.cons (.cell1 rfl rfl rfl) (.cons (.tmp rfl) .nil))))) (by repeat' first | exact trivial | rfl | constructor) (by simp only [kC, run_bind, e, Held.zC, cond_false, zL])
  all_goals try
    have hok2 : ok = true := by simpa using h
    subst hok2
    first
      | exact .ret (x := ⟨p, y, false, true⟩) (.inl rfl) (.tup rfl (by decide) (.cons (.tmp rfl) (.cons (.tmp rfl) (.cons (.cell1 rfl rfl rfl) (.cons (.tmp rfl) .nil))))) (by repeat' first | exact trivial | rfl | constructor) (by simp only [kC, run_bind, e, Held.zC, cond_true, zL])
      | (have hy : (!decide (y = 0)) = true := by
           have : 1 ≤ y := g.n rfl
           rw [decide_eq_false (by omega)]
           rfl
         refine .ret (x := ⟨p, y, true, true⟩) (.inl rfl) (.tup rfl (by decide) (.cons (.tmp rfl) (.cons (.tmp rfl) (.cons (.cell1 rfl rfl (by rw [← hy]; rfl)) (.cons (.tmp rfl) .nil))))) (by repeat' first | exact trivial | rfl | constructor) (by simp only [kC, run_bind, e, Held.zC, cond_true, zL]))
  all_goals (first | exact fun e => hns (by clear hns; simp only [kC, run_bind, zL, zI, Held.zC, Held.zH, Held.zF, cond_true, cond_false, *]) | exact .pan (q := q) rfl (by repeat' first | exact trivial | rfl | constructor) (by repeat' exact trivial) (by simp only [kC, run_bind, zL, zI, Held.zC, Held.zH, Held.zF, cond_true, cond_false, *]))
end Go.Proofs.YteadaggehndacaaDoor
/- Sweeps: the program's, whatever makes its accesses: contracts. -/
namespace Go.Proofs.YteadaggehndacaaDoor
set_option maxRecDepth 100000
set_option maxHeartbeats 16000000
open Go Go.RowKit
set_option linter.unusedSimpArgs false
set_option linter.unusedVariables false
attribute [local irreducible] zY zZ Step zQ Sub zM zP Fn zS yE vM
theorem ksplit_fn (k : Int) (h0 : 0 ≤ k) (h1 : k < 18446744073709551616) : Fn Tryd.prog 42 [.val (.int .u64 k)] (.tup [.val (.int .i64 (k / 2147483648)), .val (.int .i64 (k % 2147483648 - 1))]) := by
  have g1 : bits .and .u64 k 2147483647 = k % 2147483648 := andLow k 31 (by decide) h0 h1
  have g2 : IntKind.i64.wrap (k / 2147483648) = k / 2147483648 := wrap_i64 _ (by omega)
  have g3 : IntKind.i64.wrap (k % 2147483648) = k % 2147483648 := wrap_i64 _ (by omega)
  have g4 : IntKind.i64.wrap (k % 2147483648 - 1) = k % 2147483648 - 1 := wrap_i64 _ (by omega)
  refine kY Tryd.func42 rfl Tryd.ntmps42 (Nat.le_of_ble_eq_true rfl) ?_
  repeat' (first | (refine zY.nil ?_) | (refine zZ.is ?_; first | refine zZ.seq ?_ | (refine zZ.isR (id := 0) ?_; refine zZ.rc [0] [] (r := (.v zO (.v zO .e))) (h := ?_)) | (refine zZ.isR (id := 1) ?_; refine zZ.rc [0, 2, 3] [] (r := (.v zB (.v v39_1 (.v kQ (.v zB (.v v35_0 (.v kQ (.v v31_0 (.v zO (.v zO .e)))))))))) (h := ?_)) | refine zZ.ret ?_) | refine zS.n ?_)
  all_goals exact ⟨.inl rfl, givesT (ts := [2, 3]) rfl (by decide) rfl⟩
theorem sweep1_h (H : Hnd) (s0 : H.σ) {t p x k w : Int} (ht : Small t) (hW : WOK p x) (hw : U w) (he : decide (w % 2 = 1) = false) : FnH H 41 [.p (.val (.int .u64 w)), .ptr 1004 0, .ptr 1005 0, .ptr 1006 0, .ptr 1007 0] [vH H t p x, ptrB 1003, keyB k, doB H, vU t] (fun b => .tup ([.val (.bool false), .val (.bool b)].map .p)) (fun _ => [vH H t p x, ptrB 1003, keyB k, doB H, vU t]) yes s0 (sweepIn t k x w) := by
  have hxr := hW.x.rc ht
  have hxx := hW.x
  have F1 := fun y : Int => (decide_eq_decide.2 (by omega) : decide (y % 2147483648 - 1 < 0) = decide (y % 2147483648 = 0))
  unfold ptrB keyB doB vU vH Hnd.doA
  refine wY Tryd.func41 rfl Tryd.ntmps41 (Nat.le_of_ble_eq_true rfl) (by decide) (fine_sweepIn t k x w hw he) fun hok hns => ?_
  repeat' (first | (refine zY.is ?_; first | refine zY.nil ?_ | (refine zY.at_ 10 rfl ?_; refine zY.rc (.v zO .e) ?_) | (refine zY.at_ 11 rfl ?_; refine zY.rc (.v zO .e) ?_) | (refine zY.at_ 12 rfl ?_; refine zY.rc (.v vX (.v yF (.v yF (.v zO (.v zO .e))))) ?_) | (refine zY.at_ 28 rfl ?_; refine zY.rc (.gY zB (.gY yO (.gY v42_8 (.v kZ .e)))) ?_) | (refine zY.at_ 28 rfl ?_; refine zY.rc (.gT (.gT (.gT (.v xL .e)))) ?_) | (refine zY.in_ [15] rfl ?_; refine zY.v rfl rfl (yP (ksplit_fn _ (U.lo (by assumption)) (U.hi (by assumption))) rfl rfl rfl (by decide)) ?_) | (refine zY.in_ [14, 21, 23] rfl ?_; refine zY.ofT rfl (zP.hd (i := [1003]) (f := field_h H _ hxr (by decide)) (r := fun x s e g hk => ?_) (p := fun q s e => ?_) (t := ?_))) | (fail_if_success refine zY.known rfl rfl rfl (by fail) ?_); refine zY.split rfl rfl rfl (fun h => ?_) (fun h => ?_)) | (refine zZ.is ?_; first | refine zZ.seq ?_ | (refine zZ.isR (id := 0) ?_; refine zZ.rc [0, 1, 2, 3, 4] [1000, 1001, 1002, 1003, 1004, 1005, 1006, 1007] (r := (.v zO (.v zO .e))) (h := ?_)) | (refine zZ.isR (id := 1) ?_; refine zZ.rc [0, 1, 2, 3, 4, 6, 7] [1000, 1001, 1002, 1003, 1004, 1005, 1006, 1007] (r := (.v v2_12 .e)) (h := ?_)) | (refine zZ.isR (id := 2) ?_; refine zZ.rc [0, 1, 2, 3, 4, 6, 7, 9] [1000, 1001, 1002, 1003, 1004, 1005, 1006, 1007] (r := (.v zB (.v v43_1 .e))) (h := ?_)) | (refine zZ.isR (id := 3) ?_; refine zZ.rc [0, 1, 2, 3, 4, 6, 7] [1000, 1001, 1002, 1003, 1004, 1005, 1006, 1007] (r := (.v zO (.v zO .e))) (h := ?_)) | (refine zZ.isR (id := 4) ?_; refine zZ.rc [0, 1, 2, 3, 4, 6, 7] [1000, 1001, 1002, 1003, 1004, 1005, 1006, 1007] (r := (.v v2_12 .e)) (h := ?_)) | (refine zZ.isR (id := 5) ?_; refine zZ.rc [0, 1, 2, 3, 4, 6, 7, 10] [1000, 1001, 1002, 1003, 1004, 1005, 1006, 1007] (r := (.v v2_12 .e)) (h := ?_)) | (refine zZ.isR (id := 6) ?_; refine zZ.rc [0, 1, 2, 3, 4, 6, 7, 10, 11] [1000, 1001, 1002, 1003, 1004, 1005, 1006, 1007] (r := (.v zB (.v yO (.v v42_8 (.v zB .e))))) (h := ?_)) | (refine zZ.isR (id := 7) ?_; refine zZ.rc [0, 1, 3, 4, 6, 7] [1000, 1001, 1002, 1003, 1004, 1005, 1006, 1007] (r := (.v zO (.v zO .e))) (h := ?_)) | (refine zZ.isR (id := 8) ?_; refine zZ.rk [0, 1, 3, 4, 6, 7] [1000, 1001, 1002, 1003, 1004, 1005, 1006, 1007] ?_; refine zZ.draws ?_) | (refine zZ.isR (id := 9) ?_; refine zZ.rk [1, 3, 4, 6, 7] [1000, 1001, 1002, 1003, 1004, 1005, 1006, 1007] ?_; refine zZ.draws ?_) | (refine zZ.isR (id := 10) ?_; refine zZ.rc [6, 7] [1000, 1001, 1002, 1003, 1004, 1005, 1006, 1007] (r := (.v zO (.v zO .e))) (h := ?_)) | refine zZ.y9 rfl bA ?_ | refine zZ.cond rfl (fun h => ?_) (fun h => ?_) | refine zZ.skip ?_ | refine zZ.ret ?_) | refine zS.n ?_ | refine zS.r ?_ | refine zS.p ?_ | (refine Draws.is ?_; first | refine Draws.rc (.v v2_13 (.v yO (.v v2_12 (.v v4_0 (.v yI (.v yO (.v zB .e))))))) ?_ | refine Draws.rc (.v v2_13 (.v yO (.v v2_12 (.v v4_0 (.v yI (.v yO .e)))))) ?_ | refine Draws.done (by kernel_rfl) (by kernel_rfl) (by kernel_rfl) ?_) | (refine zM.is ?_; first | refine zM.nil ?_ | (refine zM.in_ [39] rfl ?_; refine zM.ofT rfl (zP.hd (i := []) (f := mark_h H _ ht hxx hw he) (r := fun x s e g hk => ?_) (p := fun q s e => ?_) (t := ?_))) | (refine zM.in_ [46] rfl ?_; refine zM.ofT rfl (zP.hd (i := []) (f := setOp_h H _ hxr (.inr rfl)) (r := fun x s e g hk => ?_) (p := fun q s e => ?_) (t := ?_)))))
  all_goals (first | exact fun e => hns (by clear hns; simp only [sweepIn, Bool.true_and, Bool.false_and, run_bind, zL, zI, Held.zC, Held.zH, Held.zF, cond_true, cond_false, *]) | exact .pan (q := q) rfl (by repeat' first | exact trivial | rfl | constructor) (by repeat' first | exact trivial | exact ⟨_, rfl, rfl⟩ | constructor) (by simp only [sweepIn, Bool.true_and, Bool.false_and, run_bind, zL, zI, Held.zC, Held.zH, Held.zF, cond_true, cond_false, *]) | exact .ret (x := _) (by exact .inl rfl) (by exact .tup rfl (by decide) (.cons (.tmp rfl) (.cons (.tmp rfl) .nil))) (by repeat' first | exact trivial | rfl | constructor) (by simp only [sweepIn, Bool.true_and, Bool.false_and, run_bind, zL, zI, Held.zC, Held.zH, Held.zF, cond_true, cond_false, *] <;> rfl))
def alongG (H : Hnd) (t k p x : Int) (s : H.σ) : AS :=
  { t := [(0, .ptr 1003 0), (1, .clo 41 [1004, 1005, 1006, 1007]), (4, .p (.val (.bool false)))], s := [(1000, H.b0 s), (1001, H.b1 s), (1002, H.b2 s), (1003, vH H t p x), (1004, ptrB 1003), (1005, keyB k), (1006, doB H), (1007, vU t)] }
theorem alongS_h (H : Hnd) (s0 : H.σ) {t k : Int} (ht : Small t) : FnH H 31 [.ptr 1003 0, .clo 41 [1004, 1005, 1006, 1007]] [vH H t 0 0, ptrB 1003, keyB k, doB H, vU t] (fun r => .p (.val (.bool r.ok))) (fun r => [vH H t r.p r.x, ptrB 1003, keyB k, doB H, vU t]) FOK s0 (sweepL t k) := by
  refine wY Tryd.func31 rfl Tryd.ntmps31 (Nat.le_of_ble_eq_true rfl) (by decide) (fine_sweepL t k) fun hok hns => ?_
  repeat' (first | (refine zY.nil ?_) | (refine zZ.is ?_; first | refine zZ.seq ?_ | (refine zZ.isR (id := 0) ?_; refine zZ.rc [0, 1] [1000, 1001, 1002, 1003, 1004, 1005, 1006, 1007] (r := (.v zO .e)) (h := ?_))) | refine zS.n ?_)
  refine zZ.scopeL 0 (fun q : Nat × (Int × Int) × H.σ => alongG H t k q.2.1.1 q.2.1.2 q.2.2) (fun q => H.ok q.2.2 ∧ (Pr.loop (yB t (xJ t k)) q.1 none).run H.st q.2.2 = (sweepL t k).run H.st s0) (fun q => q.1) (many, (0, 0), s0) ?h0 ⟨hok, rfl⟩ ?rd
  case h0 =>
    refine zN (is := [0, 1, 4]) (js := [1000, 1001, 1002, 1003, 1004, 1005, 1006, 1007]) ?_ ?_
    repeat' first | exact zW.nil | apply zW.p rfl | apply zW.ptr rfl | apply zW.own rfl | apply zW.clo rfl | apply zW.ifp rfl | apply zW.pt rfl | apply zW.tup rfl | apply zW.skip
    repeat' first | exact zX.nil | apply zX.boxP rfl rfl | apply zX.yG rfl | (apply zX.at0; exact zK rfl (H.nk _).1 (by repeat' exact KB.refl)) | (apply zX.at1; exact zK rfl (H.nk _).2.1 (by repeat' exact KB.refl)) | (apply zX.at2; exact zK rfl (H.nk _).2.2 (by repeat' exact KB.refl)) | apply zX.some rfl | apply zX.skip
  case rd =>
    rintro ⟨n, ⟨p, x⟩, s1⟩ ⟨hok1, ho⟩
    dsimp only at hok1 ho ⊢
    rw [← ho] at hns ⊢
    unfold alongG
    cases n with
    | zero => exact absurd rfl hns
    | succ n =>
      rw [qU] at ho hns ⊢
      repeat' (first | (refine zY.is ?_; first | refine zY.nil ?_ | (refine zY.in_ [11] rfl ?_; refine zY.ofT rfl (zP.hd (i := [1003]) (f := start_h H _ ht) (r := fun x s e g hk => ?_) (p := fun q s e => ?_) (t := ?_)))) | (refine zZ.is ?_; first | refine zZ.seq ?_ | (refine zZ.isR (id := 1) ?_; refine zZ.rc [0, 1, 4] [1000, 1001, 1002, 1003, 1004, 1005, 1006, 1007] (r := (.v v0_2 .e)) (h := ?_)) | refine zZ.block ?_) | refine zS.n ?_ | refine zS.p ?_ | refine vM.p ?_)
      all_goals (first | exact fun e => hns (by clear hns; simp only [yB, run_bind, zL, zI, Held.zC, Held.zH, Held.zF, cond_true, cond_false, *]) | exact .pan (q := q) rfl (by repeat' first | exact trivial | rfl | constructor) (by repeat' first | exact trivial | exact ⟨_, rfl, rfl⟩ | constructor) (by simp only [yB, run_bind, zL, zI, Held.zC, Held.zH, Held.zF, cond_true, cond_false, *]) | skip)
      have e1 : (yB t (xJ t k) none).run H.st s1 = .done (endW 0 (xM x)) s := by
        clear ho hns
        simp only [yB, run_bind, zL, Held.zC, *]
      rw [run_bind, e1, Held.zC, vJ] at ho hns ⊢
      refine zZ.loop (fun q : Nat × (Int × Int) × H.σ => alongG H t k q.2.1.1 q.2.1.2 q.2.2) (fun q => q.1 ≤ n ∧ H.ok q.2.2 ∧ Rf q.2.1.1 ∧ Rf q.2.1.2 ∧ (contL t (xJ t k) q.1 q.2.1.1 q.2.1.2).run H.st q.2.2 = (contL t (xJ t k) n 0 (xM x)).run H.st s) (fun q => q.1) (n, (0, xM x), s) ?h0 ⟨Nat.le_refl _, hk, rf_0, kJ _, rfl⟩ ?rd
      case h0 =>
        refine zN (is := [0, 1, 4]) (js := [1000, 1001, 1002, 1003, 1004, 1005, 1006, 1007]) ?_ ?_
        repeat' first | exact zW.nil | apply zW.p rfl | apply zW.ptr rfl | apply zW.own rfl | apply zW.clo rfl | apply zW.ifp rfl | apply zW.pt rfl | apply zW.tup rfl | apply zW.skip
        repeat' first | exact zX.nil | apply zX.boxP rfl rfl | apply zX.yG rfl | (apply zX.at0; exact zK rfl (H.nk _).1 (by repeat' exact KB.refl)) | (apply zX.at1; exact zK rfl (H.nk _).2.1 (by repeat' exact KB.refl)) | (apply zX.at2; exact zK rfl (H.nk _).2.2 (by repeat' exact KB.refl)) | apply zX.some rfl | apply zX.skip
      case rd =>
        rintro ⟨m, ⟨p1, x1⟩, s2⟩ ⟨hmn, hok2, hp1, hx1, ho2⟩
        dsimp only at hmn hok2 hp1 hx1 ho2 ⊢
        clear e1 e hk
        rw [← ho2] at ho hns ⊢
        unfold alongG
        unfold contL at ho hns ⊢
        cases hz : decide (x1 = 0)
        case true =>
          rw [hz] at ho hns
          obtain rfl : x1 = 0 := of_decide_eq_true hz
          have hz' : (!decide ((0 : Int) = 0)) = false := rfl
          repeat' (first | (refine zY.nil ?_) | (refine zZ.is ?_; first | refine zZ.seq ?_ | (refine zZ.isR (id := 2) ?_; refine zZ.rc [0, 1, 4, 5, 6, 7, 8, 9, 16, 20, 28, 30, 37, 39] [1000, 1001, 1002, 1003, 1004, 1005, 1006, 1007] (r := (.v v0_2 (.v v4_0 (.v yI (.v yO (.v qV .e)))))) (h := ?_)) | (refine zZ.isR (id := 14) ?_; refine zZ.rc [4] [1000, 1001, 1002, 1003, 1004, 1005, 1006, 1007] (r := (.v zO .e)) (h := ?_)) | refine zZ.y9 rfl bA ?_ | refine zZ.exit ?_ | refine zZ.ret ?_) | refine zS.n ?_ | refine yE.eY ?_ | refine zS.e ?_ | refine vM.r ?_)
          all_goals (exact .ret (x := ⟨_, _, _, _⟩) (by exact .inl rfl) (by exact .one rfl rfl) (by repeat' first | exact trivial | rfl | constructor) (by simp only [run_bind, zL, zI, Held.zC, Held.zH, Held.zF, cond_true, cond_false, *] <;> rfl))
        case false =>
          rw [hz] at ho hns
          have hz' : (!decide (x1 = 0)) = true := by rw [hz]; rfl
          have hxr := hx1.rc ht
          have hw : WOK p1 x1 := ⟨hp1, hx1, hz⟩
          rw [cond_false] at ho hns ⊢
          cases m with
          | zero => exact absurd rfl hns
          | succ m =>
            rw [qU] at ho hns ⊢
            repeat' (first | (refine zY.is ?_; first | refine zY.nil ?_ | (refine zY.at_ 21 rfl ?_; refine zY.rc (.v vX (.v yF (.v yF (.v zO (.v zO .e))))) ?_) | (refine zY.at_ 31 rfl ?_; refine zY.rc (.v vX (.v yF (.v yF (.v zO (.v zO .e))))) ?_) | (refine zY.at_ 5 rfl ?_; refine zY.rc (.v zO .e) ?_) | (refine zY.in_ [20] rfl ?_; refine zY.v rfl rfl (yY (mark_fn _ (U.lo (by assumption)) (U.hi (by assumption))) rfl rfl rfl (by decide)) ?_) | (refine zY.in_ [18] rfl ?_; refine zY.ofT rfl (zP.hd (i := [1003]) (f := field_h H _ hxr (by decide)) (r := fun x s e g hk => ?_) (p := fun q s e => ?_) (t := ?_))) | (refine zY.in_ [34] rfl ?_; refine zY.ofT rfl (zP.hd (i := [1003, 1004, 1005, 1006, 1007]) (f := sweep1_h H _ ht hw (by assumption) (by assumption)) (r := fun x s e g hk => ?_) (p := fun q s e => ?_) (t := ?_))) | (refine zY.in_ [24] rfl ?_; refine zY.ofT rfl (zP.hdT (i := [1003]) (f := out_h H _ ht hw (by assumption)) (r0 := fun s e g hk => ?_) (r1 := fun s e g hk => ?_) (r2 := fun s e g hk => ?_) (p := fun q s e => ?_) (t := ?_))) | (refine zY.in_ [42] rfl ?_; refine zY.ofT rfl (zP.h0 (i := [1003]) (f := on_h H _ (by assumption)) (r := fun g => ?_)))) | (refine zZ.is ?_; first | refine zZ.seq ?_ | (refine zZ.isR (id := 2) ?_; refine zZ.rc [0, 1, 4, 5, 6, 7, 8, 9, 16, 20, 28, 30, 37, 39] [1000, 1001, 1002, 1003, 1004, 1005, 1006, 1007] (r := (.v v0_2 (.v v4_0 (.v yI (.v yO (.v qV .e)))))) (h := ?_)) | (refine zZ.isR (id := 3) ?_; refine zZ.rc [0, 1, 4, 5, 6, 7, 8, 9, 16, 20, 28, 30, 37, 39] [1000, 1001, 1002, 1003, 1004, 1005, 1006, 1007] (r := (.v v0_2 .e)) (h := ?_)) | (refine zZ.isR (id := 4) ?_; refine zZ.rc [0, 1, 4, 5, 6, 7, 8, 9, 16, 20, 28, 30, 37, 39] [1000, 1001, 1002, 1003, 1004, 1005, 1006, 1007] (r := (.v zB .e)) (h := ?_)) | (refine zZ.isR (id := 5) ?_; refine zZ.rc [0, 1, 4, 5, 6, 7, 8, 9, 16, 20, 28, 30, 37, 39] [1000, 1001, 1002, 1003, 1004, 1005, 1006, 1007] (r := (.v v0_2 (.v zB .e))) (h := ?_)) | (refine zZ.isR (id := 6) ?_; refine zZ.rc [0, 1, 4, 5, 6, 7, 8, 9, 16, 20, 28, 30, 37, 39] [1000, 1001, 1002, 1003, 1004, 1005, 1006, 1007] (r := (.v zB (.v v52_4 .e))) (h := ?_)) | (refine zZ.isR (id := 6) ?_; refine zZ.rc [0, 1, 4, 5, 6, 7, 8, 9, 16, 20, 28, 30, 37, 39] [1000, 1001, 1002, 1003, 1004, 1005, 1006, 1007] (r := (.v zB (.v wV .e))) (h := ?_)) | (refine zZ.isR (id := 7) ?_; refine zZ.rc [0, 1, 4, 5, 6, 7, 8, 9, 16, 20, 28, 30, 37, 39] [1000, 1001, 1002, 1003, 1004, 1005, 1006, 1007] (r := (.v zO .e)) (h := ?_)) | (refine zZ.isR (id := 8) ?_; refine zZ.rc [0, 1, 4, 5, 6, 7, 8, 9, 16, 20, 28, 30, 37, 39] [1000, 1001, 1002, 1003, 1004, 1005, 1006, 1007] (r := (.v zB (.v v52_4 .e))) (h := ?_)) | (refine zZ.isR (id := 8) ?_; refine zZ.rc [0, 1, 4, 5, 6, 7, 8, 9, 16, 20, 28, 30, 37, 39] [1000, 1001, 1002, 1003, 1004, 1005, 1006, 1007] (r := (.v zB (.v wV .e))) (h := ?_)) | (refine zZ.isR (id := 9) ?_; refine zZ.rc [0, 1, 4, 5, 6, 7, 8, 9, 16, 20, 28, 30, 37, 39] [1000, 1001, 1002, 1003, 1004, 1005, 1006, 1007] (r := (.v wC (.v zB .e))) (h := ?_)) | (refine zZ.isR (id := 10) ?_; refine zZ.rc [0, 1, 4, 5, 6, 7, 8, 9, 16, 20, 28, 30, 37, 39] [1000, 1001, 1002, 1003, 1004, 1005, 1006, 1007] (r := (.v zB .e)) (h := ?_)) | (refine zZ.isR (id := 12) ?_; refine zZ.rc [0, 1, 4, 5, 6, 7, 8, 9, 16, 20, 28, 30, 37, 39] [1000, 1001, 1002, 1003, 1004, 1005, 1006, 1007] (r := (.v zB (.v v52_8 .e))) (h := ?_)) | (refine zZ.isR (id := 13) ?_; refine zZ.rc [0, 1, 4, 5, 6, 7, 8, 9, 16, 20, 28, 30, 37, 39] [1000, 1001, 1002, 1003, 1004, 1005, 1006, 1007] (r := (.v v0_2 (.v zB .e))) (h := ?_)) | refine zZ.xV rfl bA ?_ | refine zZ.y9 rfl bA ?_ | refine zZ.cond rfl (fun h => ?_) (fun h => ?_) | refine zZ.skip ?_ | refine zZ.block ?_ | refine zZ.exit ?_ | refine zZ.ret ?_ | refine zZ.goto ?_) | refine zS.n ?_ | refine zS.r ?_ | refine zS.p ?_ | refine yE.n ?_ | refine yE.r ?_ | refine yE.eY ?_ | refine zS.e ?_ | refine yE.p ?_ | refine zS.g ?_ | refine vM.r ?_ | refine vM.g ?_ | refine yE.g ?_ | refine vM.p ?_)
            all_goals (first | exact fun e => hns (by clear hns; simp only [yB, qQ, tookR, xJ, run_bind, zL, zI, Held.zC, Held.zH, Held.zF, cond_true, cond_false, *]) | exact .pan (q := q) rfl (by repeat' first | exact trivial | rfl | constructor) (by repeat' first | exact trivial | exact ⟨_, rfl, rfl⟩ | constructor) (by simp only [yB, qQ, tookR, xJ, run_bind, zL, zI, Held.zC, Held.zH, Held.zF, cond_true, cond_false, *]) | exact .ret (x := ⟨_, _, _, _⟩) (by exact .inl rfl) (by exact .one rfl rfl) (by repeat' first | exact trivial | rfl | constructor) (by simp only [yB, qQ, tookR, xJ, run_bind, zL, zI, Held.zC, Held.zH, Held.zF, cond_true, cond_false, *] <;> rfl) | skip)
            · have e1 : (yB t (xJ t k) (some (p1, x1))).run H.st s2 = .done (.inl none) s := by
                clear ho hns ho2
                simp only [yB, qQ, tookR, run_bind, zL, zI, Held.zC, cond_true, cond_false, *]
              refine ⟨(m, (p1, x1), s), ?_, ⟨hk, (by rw [run_bind, e1, Held.zC]; rfl)⟩, by dsimp only; omega⟩
              refine zN (is := [0, 1, 4]) (js := [1000, 1001, 1002, 1003, 1004, 1005, 1006, 1007]) ?_ ?_
              repeat' first | exact zW.nil | apply zW.p rfl | apply zW.ptr rfl | apply zW.own rfl | apply zW.clo rfl | apply zW.ifp rfl | apply zW.pt rfl | apply zW.tup rfl | apply zW.skip
              repeat' first | exact zX.nil | apply zX.boxP rfl rfl | apply zX.yG rfl | (apply zX.at0; exact zK rfl (H.nk _).1 (by repeat' exact KB.refl)) | (apply zX.at1; exact zK rfl (H.nk _).2.1 (by repeat' exact KB.refl)) | (apply zX.at2; exact zK rfl (H.nk _).2.2 (by repeat' exact KB.refl)) | apply zX.some rfl | apply zX.skip
            · have e1 : (yB t (xJ t k) (some (p1, x1))).run H.st s2 = .done (endW p1 (xM x)) s := by
                clear ho hns ho2
                simp only [yB, qQ, tookR, run_bind, zL, zI, Held.zC, cond_true, cond_false, *]
              refine ⟨(m, (p1, xM x), s), ?_, ⟨by dsimp only; omega, hk, hp1, kJ _, ?_⟩, Nat.lt_succ_self m⟩
              · refine zN (is := [0, 1, 4]) (js := [1000, 1001, 1002, 1003, 1004, 1005, 1006, 1007]) ?_ ?_
                repeat' first | exact zW.nil | apply zW.p rfl | apply zW.ptr rfl | apply zW.own rfl | apply zW.clo rfl | apply zW.ifp rfl | apply zW.pt rfl | apply zW.tup rfl | apply zW.skip
                repeat' first | exact zX.nil | apply zX.boxP rfl rfl | apply zX.yG rfl | (apply zX.at0; exact zK rfl (H.nk _).1 (by repeat' exact KB.refl)) | (apply zX.at1; exact zK rfl (H.nk _).2.1 (by repeat' exact KB.refl)) | (apply zX.at2; exact zK rfl (H.nk _).2.2 (by repeat' exact KB.refl)) | apply zX.some rfl | apply zX.skip
              · rw [run_bind, e1, Held.zC]
                exact congrArg (fun p => Pr.run H.st p s) (vJ t (xJ t k) m p1 (xM x)).symm
            · rename_i w s4 e4 g4 hk4 hm4 g5
              have hx : x = false := by simpa using h
              have e1 : (yB t (xJ t k) (some (p1, x1))).run H.st s2 = .done (endW x1 (xM w)) s := by
                clear ho hns ho2
                simp only [yB, xJ, run_bind, zL, zI, Held.zC, cond_true, cond_false, *]
              refine ⟨(m, (x1, xM w), s), ?_, ⟨by dsimp only; omega, hk, hx1, kJ _, ?_⟩, Nat.lt_succ_self m⟩
              · refine zN (is := [0, 1, 4]) (js := [1000, 1001, 1002, 1003, 1004, 1005, 1006, 1007]) ?_ ?_
                repeat' first | exact zW.nil | apply zW.p rfl | apply zW.ptr rfl | apply zW.own rfl | apply zW.clo rfl | apply zW.ifp rfl | apply zW.pt rfl | apply zW.tup rfl | apply zW.skip
                repeat' first | exact zX.nil | apply zX.boxP rfl rfl | apply zX.yG rfl | (apply zX.at0; exact zK rfl (H.nk _).1 (by repeat' exact KB.refl)) | (apply zX.at1; exact zK rfl (H.nk _).2.1 (by repeat' exact KB.refl)) | (apply zX.at2; exact zK rfl (H.nk _).2.2 (by repeat' exact KB.refl)) | apply zX.some rfl | apply zX.skip
              · rw [run_bind, e1, Held.zC]
                exact congrArg (fun p => Pr.run H.st p s) (vJ t (xJ t k) m x1 (xM w)).symm
            · have hx : x = true := by simpa using h
              have e1 : (yB t (xJ t k) (some (p1, x1))).run H.st s2 = .done (.inl (some (p1, x1))) s := by
                clear ho hns ho2
                simp only [yB, xJ, run_bind, zL, zI, Held.zC, cond_true, cond_false, *]
              refine ⟨(m, (p1, x1), s), ?_, ⟨by dsimp only; omega, hk, hp1, hx1, ?_⟩, Nat.lt_succ_self m⟩
              · refine zN (is := [0, 1, 4]) (js := [1000, 1001, 1002, 1003, 1004, 1005, 1006, 1007]) ?_ ?_
                repeat' first | exact zW.nil | apply zW.p rfl | apply zW.ptr rfl | apply zW.own rfl | apply zW.clo rfl | apply zW.ifp rfl | apply zW.pt rfl | apply zW.tup rfl | apply zW.skip
                repeat' first | exact zX.nil | apply zX.boxP rfl rfl | apply zX.yG rfl | (apply zX.at0; exact zK rfl (H.nk _).1 (by repeat' exact KB.refl)) | (apply zX.at1; exact zK rfl (H.nk _).2.1 (by repeat' exact KB.refl)) | (apply zX.at2; exact zK rfl (H.nk _).2.2 (by repeat' exact KB.refl)) | apply zX.some rfl | apply zX.skip
              · rw [run_bind, e1, Held.zC]
                dsimp only
                rw [hz]
                rfl
theorem sweep_h (H : Hnd) (s0 : H.σ) {t k : Int} (ht : Small t) : FnH H 20 [H.doA, .p (.val (.int .i64 t)), .p (.val (.int .u64 k))] [] (fun r => .p (.val (.bool r))) (fun _ => []) yes s0 (sweepP t k) := by
  unfold Hnd.doA
  refine wY Tryd.func20 rfl Tryd.ntmps20 (Nat.le_of_ble_eq_true rfl) (by decide) (fine_sweep t k) fun hok hns => ?_
  repeat' (first | (refine zY.is ?_; first | refine zY.nil ?_ | (refine zY.at_ 6 rfl ?_; refine zY.rc (.v zO .e) ?_) | (refine zY.at_ 7 rfl ?_; refine zY.rc (.m yD (.w yZ .e)) ?_) | (refine zY.in_ [14] rfl ?_; refine zY.ofT rfl (zP.hd (i := [11, 7, 5, 3, 4]) (f := alongS_h H _ ht) (r := fun x s e g hk => ?_) (p := fun q s e => ?_) (t := ?_))) | refine zY.buildBx rfl rfl rfl rfl rfl rfl (by decide) (by decide) rfl rfl rfl rfl ?_) | (refine zZ.is ?_; first | refine zZ.seq ?_ | (refine zZ.isR (id := 0) ?_; refine zZ.rc [0, 1, 2] [3, 4, 5, 7, 11, 1000, 1001, 1002] (r := (.m m18_3 (.m m18_1 (.m m18_1 (.v zO .e))))) (h := ?_)) | (refine zZ.isR (id := 1) ?_; refine zZ.rc [3, 4, 5, 6] [3, 4, 5, 7, 11, 1000, 1001, 1002] (r := (.v v2_13 (.v yO .e))) (h := ?_)) | (refine zZ.isR (id := 2) ?_; refine zZ.rc [3, 4, 5, 6, 7] [3, 4, 5, 7, 11, 1000, 1001, 1002] (r := (.v v2_12 (.v v14_0 .e))) (h := ?_)) | refine zZ.ret ?_) | refine zS.n ?_ | refine zS.p ?_)
  all_goals (first | exact fun e => hns (by clear hns; simp only [sweepP, run_bind, zL, zI, Held.zC, Held.zH, Held.zF, cond_true, cond_false, *]) | exact .pan (q := q) rfl (by repeat' first | exact trivial | rfl | constructor) (by repeat' exact trivial) (by simp only [sweepP, run_bind, zL, zI, Held.zC, Held.zH, Held.zF, cond_true, cond_false, *]) | exact .ret (by exact .inl rfl) (by exact .one rfl rfl) (by repeat' first | exact trivial | rfl | constructor) (by simp only [sweepP, run_bind, zL, zI, Held.zC, Held.zH, Held.zF, cond_true, cond_false, *] <;> rfl))
end Go.Proofs.YteadaggehndacaaDoor
/- Functions with one deferred call; the deferred function, that may recover. Generic over the program. -/
namespace Go.Proofs.YteadaggehndacaaDoor
set_option maxRecDepth 100000
set_option maxHeartbeats 16000000
open Go Go.RowKit
section
variable {P : Program} {M : Nat → Nat → Prop} {n : Nat} {h : Home} {w : World} {S : AS} {ρ : Nat → Value} {a : Act}
theorem wF.defer (hb : wF h w) (D : List Deferred) : wF { h with d := D } w := ⟨hb.os, hb.tape, hb.output, hb.size, hb.block⟩
theorem wF.undefer {D : List Deferred} (hb : wF { h with d := D } w) : wF h w := ⟨hb.os, hb.tape, hb.output, hb.size, hb.block⟩
theorem Sat.frame {B : List Blk} (hs : Sat M 0 h (Proofs.YteadaggehndacaaDoor.asB B) ρ vQ w) {T : List (Nat × AV)} (hn : a.tmps.size = n) (h1000 : n ≤ 1000) (ht : ∀ i x, look T i = some x → yH (Mut M (Proofs.YteadaggehndacaaDoor.asB B) ρ) ρ w x (a.tmps.getD i undef)) : Sat M n { h with d := a.defers } { t := T, s := numB 1000 B } ρ a w := by
  refine ⟨hs.below.defer _, hs.out, hs.tab, hn, rfl, fun i => ?_, hs.blks, hs.mine, hs.fix, fun k hk => h.lo k (by omega), hs.dist⟩
  show yH _ _ _ ((look T i).getD .any) _
  cases e : look T i with
  | none => exact .any _
  | some x => exact ht i x e
theorem Sat.unframe {B : List Blk} {D : List Deferred} (hs : Sat M n { h with d := D } S ρ a w) (hd : h.d = []) (hb : HasB S B) : Sat M 0 h (Proofs.YteadaggehndacaaDoor.asB B) ρ vQ w ∧ ∀ k c, Mut M (Proofs.YteadaggehndacaaDoor.asB B) ρ k c → Mut M S ρ k c := by
  have hm : ∀ k c, Mut M (Proofs.YteadaggehndacaaDoor.asB B) ρ k c → Mut M S ρ k c := by
    rintro k c (hk | ⟨id, b, hb1, hk⟩)
    · exact .inl hk
    · obtain ⟨i, rfl, h1⟩ := xX hb1
      exact .inr ⟨_, b, hb i b h1, hk⟩
  refine ⟨⟨hs.below.undefer, hs.out, hs.tab, rfl, hd.symm, fun i => .any _, fun id b hb1 => ?_, fun id b k hb1 hk => ?_, hs.fix, fun k hk => by omega, fun i j bi bj k hi hj h1 h2 => ?_⟩, hm⟩
  · obtain ⟨i, rfl, h1⟩ := xX hb1
    exact (hs.blks _ b (hb i b h1)).mono hm
  · obtain ⟨i, rfl, h1⟩ := xX hb1
    exact hs.mine _ b k (hb i b h1) hk
  · obtain ⟨i', rfl, h3⟩ := xX hi
    obtain ⟨j', rfl, h4⟩ := xX hj
    exact hs.dist _ _ bi bj k (hb i' bi h3) (hb j' bj h4) h1 h2
theorem gives_res {fn : Func} {x : AV} {B : List Blk} {D : List Deferred} (hs' : Sat M n { h with d := D } S ρ a w) (hd : h.d = []) (hg : GivesA P fn S x) (hB : HasB S B) :
    ∃ v, (results fn a.tmps).run P w = .ok v w ∧ ∃ ρ', Sat M 0 h (asB B) ρ' vQ w ∧ EvOK (Mut M (asB B) ρ') ρ' w (.ret x) (.returned v) := by
  obtain ⟨h1, h2⟩ := hs'.unframe hd hB
  cases hg with
  | none hr => exact ⟨_, results_none hr _ _ _, ρ, h1, _, rfl, .any _⟩
  | one hr ht =>
    subst ht
    exact ⟨_, results_tmp hr _ _ _, ρ, h1, _, rfl, (hs'.tmps _).mono fun k c _ hk => h2 k c hk⟩
  | p hr hx =>
    obtain ⟨v, g1, g2⟩ := res_oneM hs' hx
    have g3 := xO (P := P) (w := w) fn a.tmps (rs := [_]) (vs := [v]) hr (by simp only [List.mapM_cons, List.mapM_nil, Sem.run_bind, Sem.run_pure, g1, Result.andThen_ok])
    exact ⟨v, g3, ρ, h1, _, rfl, .p (g2.mono fun k c _ hk => h2 k c hk)⟩
  | tup hr hl hx =>
    obtain ⟨us, g1, g2, g4, g3⟩ := res_allM hs' hx
    have g5 := xO (P := P) (w := w) fn a.tmps hr g1
    rw [dif_neg (by simp only [List.size_toArray]; omega)] at g5
    refine ⟨_, g5, ρ, h1, _, rfl, .tup _ us (by simpa using g2) fun i c v hc hv => ?_⟩
    rw [List.getElem?_map, Option.map_eq_some_iff] at hc
    obtain ⟨y, hy, rfl⟩ := hc
    exact .p ((g3 i y v hy hv).mono fun k c _ hk => h2 k c hk)
end
/-- what is pending at a deferred call: nothing, or a panic -/
def Pending (M : Nat → Nat → Prop) (w : World) : Option PV → FrameMode → Prop
  | none, u => u = .returning
  | some x, u => ∃ v, u = .panicking [{ v := v, recovered := false }] ∧ Rep M w x v
/-- Function f, called deferred, of its callers' variables B: behind it nothing is pending. -/
def FnD (P : Program) (f : FuncId) (B : List Blk) (px : Option PV) (B' : List Blk) : Prop :=
  ∀ (M : Nat → Nat → Prop) (h : Home) (ρ : Nat → Value) (vs : List Value) (u : FrameMode), Handed h B ρ → Sat M 0 h (asB B) ρ vQ h.w → vs.length = B.length →
    (∀ (i : Nat) v, vs[i]? = some v → yH (Mut M (asB B) ρ) ρ h.w (.ptr (1000 + i) 0) v) → Pending (Mut M (asB B) ρ) h.w px u →
    CallsD P f vs.toArray u h.w fun e u' w' => settle u' = .returning ∧ (∃ v, e = .returned v) ∧ ∃ ρ', Sat M 0 h (asB B') ρ' vQ w'
section
variable {P : Program} {n : Nat}
theorem wpS_recover {id : Nat} {o0 : Oper} {l : List Oper} {ts : Array TypeId} {Q : Exit → Act → List Frame → World → Prop} {a : Act} {cs cs' : List Frame} {w : World} {v : Value} (ho : o0.op = .call { callee := .builtin .recover, args := #[], argTypes := ts }) (hg : o0.guard = none)
    (hrec : recoverD cs = some (v, cs') ∨ (recoverD cs = none ∧ v = .nilIface ∧ cs' = cs)) (h : wpList P (o0 :: l).toArray (fun e a' w' => Q e a' cs' w') l (a.put o0.dst v) w) : (Code.region id (o0 :: l).toArray false).wpS P Q a cs w := by
  intro b k hb hro
  have hr : (execOp a.eval o0).run P w = .ok .recover w := by unfold execOp; rw [ho]; rfl
  have hw : Region.wanted o0 (yielded (o0 :: l).toArray a.tmps) = true := by simp [Region.wanted, hg]
  have h0 : (o0 :: l).toArray[0]? = some o0 := rfl
  have e : List.range (o0 :: l).toArray.size = 0 :: List.range' 1 l.length := by
    rw [List.size_toArray, List.length_cons, List.range_eq_range', List.range'_succ]
  have h1 : step P (lone (b.at a (.code (.region id (o0 :: l).toArray false) :: k)) cs w) = .next (lone (b.at a (.inRegion (o0 :: l).toArray (0 :: List.range' 1 l.length) :: k)) cs w) := by rw [← e]; exact step_region
  have h2 : step P (lone (b.at a (.inRegion (o0 :: l).toArray (0 :: List.range' 1 l.length) :: k)) cs w) = .next (lone (b.at (a.put o0.dst v) (.inRegion (o0 :: l).toArray (List.range' 1 l.length) :: k)) cs' w) := by
    have hs := stepG_op (P := P) (b := b) (k := k) (cs := cs) (w := w) (rest := List.range' 1 l.length) h0 hw
    have hfin : ∀ v, (b.at a (.inRegion (o0 :: l).toArray (0 :: List.range' 1 l.length) :: k)).finish v = b.at (a.put o0.dst v) (.inRegion (o0 :: l).toArray (List.range' 1 l.length) :: k) := by
      intro v; rw [Frame.finish_at, h0]; rfl
    have hk : (b.at a (.inRegion (o0 :: l).toArray (0 :: List.range' 1 l.length) :: k)).kind = .deferred := hb
    have htr := tryRecover_deferred hk cs
    refine step_lone_go ?_
    rw [hs, ← hfin]
    simp only [Frame.at] at htr ⊢
    rcases hrec with hrec | ⟨hrec, rfl, rfl⟩
    · simp [stepG.apply, hr, htr, hrec]
    · simp [stepG.apply, hr, htr, hrec]
  have h3 : wpOps P (o0 :: l).toArray (fun e a' w' => Q e a' cs' w') (List.range' 1 l.length) (a.put o0.dst v) w := by
    rw [wpOps_eq_wpList l 1 (fun j => by simp [Nat.add_comm 1 j])]
    exact h
  obtain ⟨ex, a', w', hq, harr⟩ := wp_ops _ _ _ h3 b k cs'
  exact ⟨ex, a', cs', w', hq, .of_steps (.head h1 (.one h2)) harr⟩
def ptrsA (m : Nat) : List AV := (List.range m).map fun i => .ptr (1000 + i) 0
def pendV : Option PV → PV
  | none => .val .nilIface
  | some x => x
def EndR (B' : List Blk) (e : Exit) (S : AS) : Prop := (e = .ret ∨ e = .normal) ∧ HasB S B'
theorem fn_ofDef {f : FuncId} {fn : Func} {id d0 : Nat} {o0 : Oper} {l : List Oper} {rest : Code} {ts : Array TypeId} {B B' : List Blk} {px : Option PV} (hf : P.funcs[f]? = some fn) (hb : fn.body = some (.seq (.region id (o0 :: l).toArray false) rest)) (hn : fn.ntmps = n) (hle : B.length ≤ n) (h1000 : n ≤ 1000)
    (ho : o0.op = .call { callee := .builtin .recover, args := #[], argTypes := ts }) (hg : o0.guard = none) (hd : o0.dst = some d0) (hdn : d0 < n) (hr : fn.results = #[])
    (h : zY P n (o0 :: l).toArray l { t := (d0, .p (pendV px)) :: zipA 0 (ptrsA B.length), s := numB 1000 B } (zS (fun S => zZ P n rest S (EndR B')) (EndR B'))) : FnD P f B px B' := by
  intro M hh ρ vs u hand hs0 hvl hvs hpend
  refine callsD_of_wpS hf hb fun c₀ cs hu => ?_
  have hm : ({ c₀ with mode := u } : Frame) = c₀ := by subst hu; rfl
  obtain ⟨v, u', hrec, hset, hv⟩ : ∃ v u', ((recoverD (c₀ :: cs) = some (v, { c₀ with mode := u' } :: cs)) ∨ (recoverD (c₀ :: cs) = none ∧ v = .nilIface ∧ { c₀ with mode := u' } :: cs = c₀ :: cs)) ∧ settle u' = .returning ∧ Rep (Mut M (asB B) ρ) hh.w (pendV px) v := by
    cases px with
    | none =>
      obtain rfl : u = .returning := hpend
      exact ⟨.nilIface, .returning, .inr ⟨by simp [recoverD, hu], rfl, by rw [hm]⟩, rfl, .val _⟩
    | some x =>
      obtain ⟨v, rfl, hv⟩ := hpend
      exact ⟨v, .panicking [{ v := v, recovered := true }], .inl (by simp [recoverD, hu]), by simp [settle], hv⟩
  have hsat : Sat M n hh { t := zipA 0 (ptrsA B.length), s := numB 1000 B } ρ { tmps := vs.toArray ++ Array.replicate (fn.ntmps - vs.toArray.size) undef, defers := [] } hh.w := by
    refine ⟨hs0.below, hs0.out, hs0.tab, by simp; omega, hs0.defers, fun i => ?_, hs0.blks, hs0.mine, hs0.fix, fun k hk => hh.lo k (by omega), hs0.dist⟩
    show yH _ _ _ ((look (zipA 0 (ptrsA B.length)) i).getD .any) _
    rw [look_zipA]
    simp only [Nat.zero_le, if_true, Nat.sub_zero]
    cases hx : (ptrsA B.length)[i]? with
    | none => exact .any _
    | some x =>
      have hi : i < vs.length := by
        have := (List.getElem?_eq_some_iff.1 hx).1
        simp [ptrsA] at this
        omega
      have e : ({ tmps := vs.toArray ++ Array.replicate (fn.ntmps - vs.toArray.size) undef, defers := [] } : Act).tmps.getD i undef = vs[i] := by
        simp [Array.getD_eq_getD_getElem?, Array.getElem?_append, hi]
      rw [e]
      have hx2 : x = .ptr (1000 + i) 0 := by
        unfold ptrsA at hx
        rw [List.getElem?_map, List.getElem?_range (by omega)] at hx
        exact (Option.some.inj hx).symm
      subst hx2
      exact hvs i vs[i] (List.getElem?_eq_getElem hi)
  have hsat2 := hsat.put hdn (.p hv)
  have fin : ∀ e S1 ρ1 a1 w1, EndR B' (bare e) S1 → Sat M n hh S1 ρ1 a1 w1 → bodyPostS P fn c₀ cs (fun e u' w' => settle u' = .returning ∧ (∃ v, e = .returned v) ∧ ∃ ρ', Sat M 0 hh (asB B') ρ' vQ w') e a1 ({ c₀ with mode := u' } :: cs) w1 := by
    rintro e S1 ρ1 a1 w1 ⟨he, hB⟩ hs1
    have main : a1.defers = [] ∧ ∃ u'', ({ c₀ with mode := u' } :: cs : List Frame) = { c₀ with mode := u'' } :: cs ∧ ∃ v, (results fn a1.tmps).run P w1 = .ok v w1 ∧ (settle u'' = .returning ∧ (∃ v', Ending.returned v = .returned v') ∧ ∃ ρ', Sat M 0 hh (asB B') ρ' vQ w1) :=
      ⟨hs1.defers.trans hs0.defers.symm, u', rfl, _, results_none hr _ _ _, hset, ⟨_, rfl⟩, ρ1, (hs1.asB hs0.defers.symm hB).1⟩
    cases e with
    | ret => exact main
    | normal => exact main
    | exit id => rcases he with h | h <;> cases h
    | goto l => rcases he with h | h <;> cases h
    | panic c => rcases he with h | h <;> cases h
    | outgrown => rcases he with h | h <;> cases h
  refine wpS_seq (wpS_recover ho hg hrec ?_)
  rw [hd]
  refine h M hh ρ _ hh.w _ hsat2 fun e S1 ρ1 a1 w1 hk hs1 _ => ?_
  cases e with
  | normal => exact wpS_of_wp (hk M hh ρ1 a1 w1 _ hs1 fun e S2 ρ2 a2 w2 hk2 hs2 _ => fin e S2 ρ2 a2 w2 hk2 hs2)
  | ret => exact fin .ret S1 ρ1 a1 w1 hk hs1
  | exit id => exact fin (.exit id) S1 ρ1 a1 w1 hk hs1
  | goto l => exact fin (.goto l) S1 ρ1 a1 w1 hk hs1
  | panic c => exact fin (.panic c) S1 ρ1 a1 w1 hk hs1
  | outgrown => exact fin .outgrown S1 ρ1 a1 w1 hk hs1
end
end Go.Proofs.YteadaggehndacaaDoor
/- Functions with one deferred call. Generic over the program. -/
namespace Go.Proofs.YteadaggehndacaaDoor
set_option maxRecDepth 100000
set_option maxHeartbeats 16000000
open Go Go.RowKit
/-- how the body ends that has deferred function fd over its variables dj -/
def EndD (P : Program) (fn : Func) (fd : FuncId) (dj : List Nat) (x : AV) (B' : List Blk) (e : Exit) (S : AS) : Prop :=
  ∃ (px : Option PV) (Bd Bd' : List Blk), FnD P fd Bd px Bd' ∧ ((px = none ∧ (e = .ret ∨ e = .normal)) ∨ (∃ y, px = some y ∧ e = .panic [] ∧ S.x = .p y)) ∧ Hands S dj Bd ∧ Bd'.length = Bd.length ∧ Bd'.all (Blk.okE Bd.length) = true ∧
    GivesA P fn (S.after dj Bd') x ∧ HasB (S.after dj Bd') B'
theorem look_mem2 {α : Type} : ∀ {l : List (Nat × α)} {i : Nat} {x : α}, look l i = some x → (i, x) ∈ l
  | [], _, _, h => by simp [look] at h
  | (k, y) :: r, i, x, h => by
    unfold look at h
    split at h
    · rename_i hk
      obtain rfl := Option.some.inj h
      subst hk
      simp
    · exact List.mem_cons_of_mem _ (look_mem2 h)
section
variable {P : Program} {n : Nat}
def PendA (M : Nat → Nat → Prop) (w : World) : Option PV → FrameMode → List Value → Prop
  | none, u, pv => u = .returning ∧ pv = []
  | some x, u, pv => ∃ v, pv = [v] ∧ u = .panicking [{ v := v, recovered := false }] ∧ Rep M w x v
/-- the deferred call, out of the frame -/
theorem def_call {fd : FuncId} {dj : List Nat} {px : Option PV} {Bd Bd' : List Blk} {M : Nat → Nat → Prop} {w0 : Home} {S : AS} {ρ : Nat → Value} {a : Act} {w : World} {cvs pv : List Value} {u : FrameMode} (hfd : FnD P fd Bd px Bd') (hh : Hands S dj Bd) (hl : Bd'.length = Bd.length) (hok : Bd'.all (Blk.okE Bd.length) = true)
    (hs : Sat M n w0 S ρ a w) (hcv : cvs.length = dj.length) (hcw : ∀ (i : Nat) k v, dj[i]? = some k → cvs[i]? = some v → ∃ g, yA (ρ k) = some g ∧ v = .pointer (some ⟨g, 0, none⟩)) (hp : PendA (Mut M S ρ) w px u pv) :
    CallsD P fd cvs.toArray u w fun e u' w' => settle u' = .returning ∧ (∃ v, e = .returned v) ∧ Sat M n w0 (S.after dj Bd') ρ a w' := by
  have hdl : dj.length = Bd.length := hh.len
  have hptr : (ptrsA Bd.length).length = Bd.length := by simp [ptrsA]
  have hat : ∀ i, i < Bd.length → (ptrsA Bd.length)[i]? = some (.ptr (1000 + i) 0) := fun i hi => by
    unfold ptrsA
    rw [List.getElem?_map, List.getElem?_range hi]
    rfl
  have c := call_effC (C := fun R0 => CallsD P fd cvs.toArray u w fun e u' w' => settle u' = .returning ∧ (∃ v, e = .returned v) ∧ R0 e w') (fun R1 R2 h12 hc => hc.mono fun e u' w' ⟨q1, q2, q3⟩ => ⟨q1, q2, h12 e w' q3⟩)
    (xs := ptrsA Bd.length ++ px.toList.map AV.p) (ids := dj) (B := Bd) (B' := Bd') (ev := .ret .any) hh hl hok (by
      rw [List.all_append, Bool.and_eq_true]
      refine ⟨List.all_eq_true.2 fun y hy => ?_, List.all_eq_true.2 fun y hy => ?_⟩
      · obtain ⟨i, hi, rfl⟩ := List.mem_map.1 hy
        have := List.mem_range.1 hi
        simp [AV.okE, this]
      · obtain ⟨z, _, rfl⟩ := List.mem_map.1 hy
        rfl) hs (vs := cvs ++ pv) (fun i y v h1 h2 => ?_) (fun M' h' ρ' hw _ hand hsat hreps _ => ?_)
  · exact c.mono fun e u' w' ⟨q1, q2, q3, _⟩ => ⟨q1, q2, q3⟩
  · by_cases hi : i < Bd.length
    · rw [List.getElem?_append_left (by omega)] at h1 h2
      rw [hat i hi] at h1
      obtain rfl := Option.some.inj h1
      have hk : dj[i]? = some (dj[i]'(by omega)) := List.getElem?_eq_getElem _
      obtain ⟨g, hg1, rfl⟩ := hcw i _ v hk h2
      show yH _ ρ w (.ptr (sig dj (1000 + i)) 0) _
      rw [sig_at hk]
      exact .ptr _ 0 g hg1
    · rw [List.getElem?_append_right (by omega), hptr] at h1
      rw [List.getElem?_append_right (by omega), hcv, hdl] at h2
      cases px with
      | none => simp at h1
      | some x =>
        obtain ⟨v', rfl, _, hr⟩ := hp
        obtain ⟨j, hj⟩ : ∃ j, i - Bd.length = j := ⟨_, rfl⟩
        rw [hj] at h1 h2
        cases j with
        | zero =>
          simp at h1 h2
          subst h1
          subst h2
          exact .p hr
        | succ j => simp at h1
  · subst hw
    have hpend : Pending (Mut M' (asB Bd) ρ') h'.w px u := by
      cases px with
      | none => exact hp.1
      | some x =>
        obtain ⟨v', rfl, hu, _⟩ := hp
        refine ⟨v', hu, ?_⟩
        have h3 := hreps Bd.length (.p x) v' (by rw [List.getElem?_append_right (by omega), hptr]; simp) (by rw [List.getElem?_append_right (by omega), hcv, hdl]; simp)
        cases h3 with
        | p h4 => exact h4
    refine (hfd M' h' ρ' cvs u hand hsat (by omega) (fun i v hv => hreps i _ v ?_ ?_) hpend).mono fun e u' w' ⟨q1, ⟨v, q2⟩, ρ2, q3⟩ => ⟨q1, ⟨v, q2⟩, ρ2, q3, v, q2, .any _⟩
    · have hi := (List.getElem?_eq_some_iff.1 hv).1
      rw [List.getElem?_append_left (by omega)]
      exact hat i (by omega)
    · rw [List.getElem?_append_left (List.getElem?_eq_some_iff.1 hv).1]
      exact hv
/-- What is behind the body, once the deferred call has been made. -/
theorem leave_one {fn : Func} {fd : FuncId} {dj : List Nat} {x : AV} {B' : List Blk} {M : Nat → Nat → Prop} {h : Home} {D : List Deferred} {S : AS} {ρ : Nat → Value} {a : Act} {w : World} {e : Exit} {cvs : List Value} {R : Ending → World → Prop} [hcf : HasFn P fd]
    (hs : Sat M n { h with d := D } S ρ a w) (hd : h.d = []) (hD : D = [{ target := .fn (.func fd) cvs.toArray, args := #[] }]) (he : EndD P fn fd dj x B' (bare e) S) (hex : ExOK M S ρ w e) (hcv : cvs.length = dj.length)
    (hcw : ∀ (i : Nat) k v, dj[i]? = some k → cvs[i]? = some v → ∃ g, yA (ρ k) = some g ∧ v = .pointer (some ⟨g, 0, none⟩))
    (hR : ∀ e w', (∃ ρ', Sat M 0 h (asB B') ρ' vQ w' ∧ EvOK (Mut M (asB B') ρ') ρ' w' (.ret x) e) → R e w') : bodyPostD P fn R e a w := by
  obtain ⟨px, Bd, Bd', hfd, hpx, hh, hl, hok, hg, hB⟩ := he
  have hinv : (invoke (.fn (.func fd) cvs.toArray) #[]).run P w = .ok (.enter fd cvs.toArray) w := by simp [invoke, hcf.h]
  have hdf : a.defers = [{ target := .fn (.func fd) cvs.toArray, args := #[] }] := hs.defers.trans hD
  have fin : ∀ (u : FrameMode) (pv : List Value), u ≠ .run → PendA (Mut M S ρ) w px u pv → Leaves P fn a.tmps R a.defers u w := by
    intro u pv hu hp
    rw [hdf]
    refine leaves_cons hu hinv ((def_call hfd hh hl hok hs hcv hcw hp).mono fun e u' w' ⟨q1, ⟨v, q2⟩, q3⟩ => ?_)
    subst q2
    show Leaves P fn a.tmps R [] (settle u') w'
    rw [q1]
    obtain ⟨v', r1, r2⟩ := gives_res q3 hd hg hB
    exact ⟨v', r1, hR _ _ r2⟩
  rcases hpx with ⟨rfl, he⟩ | ⟨y, rfl, he, hy⟩
  · cases e with
    | ret => exact fin .returning [] (by simp) ⟨rfl, rfl⟩
    | normal => exact fin .returning [] (by simp) ⟨rfl, rfl⟩
    | exit id => rcases he with h | h <;> cases h
    | goto l => rcases he with h | h <;> cases h
    | panic c => rcases he with h | h <;> cases h
    | outgrown => rcases he with h | h <;> cases h
  · cases e with
    | panic c =>
      obtain ⟨v, rfl, hv⟩ := hex
      rw [hy] at hv
      cases hv with
      | p hv => exact fin (.panicking [{ v := v, recovered := false }]) [v] (by simp) ⟨v, rfl, rfl, hv⟩
    | ret => cases he
    | normal => cases he
    | exit id => cases he
    | goto l => cases he
    | outgrown => cases he
theorem fn_ofD {f : FuncId} {fn : Func} {c0 rest : Code} {id d fd : Nat} {o1 o2 : Oper} {caps : Array Operand} {ts : Array TypeId} {args : List AV} {B B' Bi Bi' : List Blk} {x : AV} {S1 : AS} {dids dj ids : List Nat} {T : List (Nat × AV)} [hcf : HasFn P fd]
    (hf : P.funcs[f]? = some fn) (hb : fn.body = some (.seq c0 (.seq (.region id [o1, o2].toArray false) rest))) (hn : fn.ntmps = n) (hle : args.length ≤ n) (h1000 : n ≤ 1000)
    (h0 : zZ P n c0 { t := zipA 0 args, s := numB 1000 B } (fun e S => e = .normal ∧ S = S1))
    (hg1 : o1.guard = none) (hd1 : o1.dst = some d) (hdn : d < n) (ho1 : o1.op = .makeFunc (.func fd) #[] caps) (hc : readIds (caps.toList.map S1.get) = some dids)
    (hg2 : o2.guard = none) (hd2 : o2.dst = none) (ho2 : o2.op = .defer { callee := .value (.tmp d), args := #[], argTypes := ts })
    (hdj : dids = dj.map (sig ids)) (hdr : dj.all (fun k => decide (1000 ≤ k ∧ k < 1000 + Bi.length)) = true)
    (hh : Hands S1 ids Bi) (hBi' : Bi'.length = Bi.length) (hok' : Bi'.all (Blk.okE Bi.length) = true)
    (hT : T.all (fun p => p.2.okE Bi.length) = true) (hT1 : ∀ p ∈ T, S1.tmp p.1 = p.2.ren (sig ids) ∧ d ≠ p.1)
    (h2 : zZ P n rest { t := T, s := numB 1000 Bi } (EndD P fn fd dj x Bi')) (hx : x.okE Bi.length = true) (hxr : x.ren (sig ids) = x) (hB' : HasB (S1.after ids Bi') B') : FnE P f args B (.ret x) B' := by
  intro M hh0 ρ vs hand hs0 hvl hvs
  refine calls_of_wp_defers hf hb ?_
  have hsat : Sat M n hh0 { t := zipA 0 args, s := numB 1000 B } ρ { tmps := vs.toArray ++ Array.replicate (fn.ntmps - vs.toArray.size) undef, defers := [] } hh0.w := by
    refine ⟨hs0.below, hs0.out, hs0.tab, by simp; omega, hs0.defers, fun i => ?_, hs0.blks, hs0.mine, hs0.fix, fun k hk => hh0.lo k (by omega), hs0.dist⟩
    show yH _ _ _ ((look (zipA 0 args) i).getD .any) _
    rw [look_zipA]
    simp only [Nat.zero_le, if_true, Nat.sub_zero]
    cases hx : args[i]? with
    | none => exact .any _
    | some x =>
      have hi : i < vs.length := by rw [hvl]; exact (List.getElem?_eq_some_iff.1 hx).1
      have e : ({ tmps := vs.toArray ++ Array.replicate (fn.ntmps - vs.toArray.size) undef, defers := [] } : Act).tmps.getD i undef = vs[i] := by
        simp [Array.getD_eq_getD_getElem?, Array.getElem?_append, hi]
      rw [e]
      exact hvs i x vs[i] hx (List.getElem?_eq_getElem hi)
  refine wp_seq (h0 M hh0 ρ _ hh0.w _ hsat ?_)
  rintro e S' ρ1 a1 w1 ⟨he, rfl⟩ hs1 _
  cases e with
  | ret => cases he
  | exit id => cases he
  | goto l => cases he
  | panic c => cases he
  | outgrown => cases he
  | normal =>
  refine wp_seq (wp_region_lit ?_)
  unfold wpList
  rw [if_pos (by simp [Region.wanted, hg1])]
  refine .inl ((w_mkFunc ho1 hc hd1 hdn).step M hh0 ρ1 a1 w1 _ _ hs1 fun ρ2 a2 w2 hs2 => ?_)
  rw [hd1] at hs2
  have hs2 : Sat M n hh0 (S'.put d (.clo fd dids)) ρ2 a2 w2 := hs2
  have hv := hs2.tmps d
  rw [AS.tmp_put, if_pos rfl] at hv
  obtain ⟨cvs, hva, hcl, hcw⟩ : ∃ cvs : List Value, a2.tmps.getD d undef = .func (.func fd) #[] cvs.toArray ∧ cvs.length = dids.length ∧ ∀ (i : Nat) k v, dids[i]? = some k → cvs[i]? = some v → ∃ g, yA (ρ2 k) = some g ∧ v = .pointer (some ⟨g, 0, none⟩) := by
    generalize a2.tmps.getD d undef = u at hv
    cases hv with
    | clo _ _ vs hl h => exact ⟨vs, rfl, hl, h⟩
  unfold wpList
  rw [if_pos (by simp [Region.wanted, hg2])]
  refine .inl ?_
  have hrun : (execOp a2.eval o2).run P w2 = .ok (.defer { target := .fn (.func fd) cvs.toArray, args := #[] }) w2 := by
    unfold execOp
    rw [ho2]
    have hev : a2.eval (.tmp d) = .func (.func fd) #[] cvs.toArray := hva
    simp [resolve, Deferred.ofValue, hev]
  unfold Oper.wp
  rw [hrun, Oper.upon_defer, hd2]
  show rest.wp P _ { a2 with defers := { target := .fn (.func fd) cvs.toArray, args := #[] } :: a2.defers } w2
  rw [hs2.defers.trans hs0.defers.symm]
  -- the rest, in its own frame
  have key := call_effC (C := fun R => ∀ R' : Ending → World → Prop, (∀ e w', R e w' → R' e w') → rest.wp P (bodyPostD P fn R') { a2 with defers := [{ target := .fn (.func fd) cvs.toArray, args := #[] }] } w2) (fun R1 R2 h12 hc R' h' => hc R' fun e w' q => h' e w' (h12 e w' q))
    (xs := T.map Prod.snd) (ids := ids) (B := Bi) (B' := Bi') (ev := .ret x) (S := S'.put d (.clo fd dids)) ⟨hh.len, hh.nodup, hh.ok, hh.at_⟩ hBi' hok' (by rw [List.all_map]; exact hT) hs2 (vs := T.map fun p => a2.tmps.getD p.1 undef) (fun i y v h1 h3 => ?_) (fun M' h' ρ' hw hd' hand' hsat' hreps hfix R' hR' => ?_)
  · refine key _ fun e w' ⟨q1, q2⟩ => ?_
    obtain ⟨r1, r2⟩ := q1.asB hs0.defers.symm hB'
    obtain ⟨v, rfl, r3⟩ := q2 hx
    rw [hxr] at r3
    exact ⟨ρ2, r1, v, rfl, r3.mono fun k c _ hk => r2 k c hk⟩
  · rw [List.getElem?_map, Option.map_eq_some_iff] at h1 h3
    obtain ⟨p, hp, rfl⟩ := h1
    obtain ⟨p', hp', rfl⟩ := h3
    rw [hp] at hp'
    obtain rfl := Option.some.inj hp'
    obtain ⟨q1, q2⟩ := hT1 p (List.mem_of_getElem? hp)
    rw [← q1]
    have := hs2.tmps p.1
    rw [AS.tmp_put, if_neg q2] at this
    exact this
  · have hfr : Sat M' n { h' with d := [{ target := .fn (.func fd) cvs.toArray, args := #[] }] } { t := T, s := numB 1000 Bi } ρ' { a2 with defers := [{ target := .fn (.func fd) cvs.toArray, args := #[] }] } w2 := by
      refine Sat.frame (a := { a2 with defers := [{ target := .fn (.func fd) cvs.toArray, args := #[] }] }) hsat' hs2.size h1000 fun i y hy => ?_
      obtain ⟨j, hj⟩ := List.getElem?_of_mem (look_mem2 hy)
      exact hreps j y _ (by rw [List.getElem?_map, hj]; rfl) (by rw [List.getElem?_map, hj]; rfl)
    refine h2 M' _ ρ' _ w2 _ hfr fun e S2 ρ3 a4 w4 hend hs4 hx4 => ?_
    refine leave_one hs4 hd' rfl hend hx4 (by rw [hcl, hdj, List.length_map]) (fun i k v hk hv => ?_) hR'
    have hkr := List.all_eq_true.1 hdr k (List.mem_of_getElem? hk)
    simp only [decide_eq_true_eq] at hkr
    obtain ⟨g, g1, g2⟩ := hcw i (sig ids k) v (by rw [hdj, List.getElem?_map, hk]; rfl) hv
    refine ⟨g, ?_, g2⟩
    have e1 : ρ3 k = ρ' k := by
      have := hand'.r (k - 1000) (by omega)
      rw [show 1000 + (k - 1000) = k by omega] at this
      exact hs4.fix k _ this
    rw [e1, hfix k hkr.1 hkr.2]
    exact g1
end
end Go.Proofs.YteadaggehndacaaDoor
/- What recovers what a program over a log panics with: contracts. -/
namespace Go.Proofs.YteadaggehndacaaDoor
set_option maxRecDepth 100000
set_option maxHeartbeats 16000000
open Go Go.RowKit
set_option linter.unusedSimpArgs false
attribute [local irreducible] zY zZ Step zQ Sub zM zP Fn
section
variable {P : Program} {n : Nat} {o : Oper} {S : AS} {d : Nat} {x : Operand}
theorem w_assertY {s t : Nat} {y : PV} {pl : List (Nat × Nat)} [hb : BuildA P t pl] (ho : o.op = .typeAssert x s t true) (hx : S.get x = .p (.ifc t y)) (hd : o.dst = some d) (hn : d < n) : zQ P n o S [] (.tup [.p y, .p (.val (.bool true))]) none :=
  zQ.pure hd hn fun S2 hg _ M w0 ρ a w hs => by
    have h1 := xK hs ((hg x (by rw [ho]; simp [Op.operands])).trans hx)
    generalize hv : a.eval x = v at h1
    cases h1 with
    | ifc _ _ u h =>
      refine ⟨.tuple [u, .bool true].toArray, w, ?_, Below.refl _ _, .tup _ [u, .bool true] rfl fun i c v hc hv => ?_⟩
      · unfold execOp
        rw [ho]
        simp [Instr.typeAssert, run_underlying hb.st, hv]
      · match i with
        | 0 => cases hc; cases hv; exact .p h
        | 1 => cases hc; cases hv; exact .p (.val _)
        | i + 2 => simp at hc
theorem w_assertN {s t : Nat} {pl : List (Nat × Nat)} {z : Value} {cl : List Value} [hb : BuildA P t pl] [hz : ZeroA P t z] (ho : o.op = .typeAssert x s t true) (hx : S.get x = .p (.val .nilIface)) (hc0 : z = .agg cl.toArray) (h1 : cl.all (fun u => u.oneCell') = true) (hd : o.dst = some d) (hn : d < n) : zQ P n o S [] (.tup [.p (.agg (cl.map PV.val)), .p (.val (.bool false))]) none :=
  zQ.pure hd hn fun S2 hg _ M w0 ρ a w hs => by
    have h2 := xK hs ((hg x (by rw [ho]; simp [Op.operands])).trans hx)
    generalize hv : a.eval x = v at h2
    cases h2
    refine ⟨.tuple [z, .bool false].toArray, w, ?_, Below.refl _ _, .tup _ [z, .bool false] rfl fun i c v hc hv => ?_⟩
    · unfold execOp
      rw [ho]
      simp [Instr.typeAssert, run_underlying hb.st, hv, hz.h]
    · match i with
      | 0 =>
        cases hc; cases hv
        subst hc0
        refine .p (.agg _ cl (by simp) (fun i c v hc hv => ?_) fun u hu => List.all_eq_true.1 h1 u hu)
        rw [List.getElem?_map, hv] at hc
        cases hc
        exact .val _
      | 1 => cases hc; cases hv; exact .p (.val _)
      | i + 2 => simp at hc
end
def accB (kind cell a b : Int) (data : PV) : Blk := .box 73 [.p (.val (.int .i64 kind)), .p (.val (.int .i64 cell)), .p (.val (.int .u64 a)), .p (.val (.int .u64 b)), .p data, .p xH]
def outB (e : Int) (is : Bool) (n w : Int) : Blk := .box 38 [.p (.val (.int .i64 e)), .p (.val (.bool is)), .p (.val (.int .i64 n)), .p (.val (.int .u64 w)), .p xH]
theorem run1_none (e : Int) (is : Bool) (n w : Int) (b : Bool) : FnD Tryd.prog 59 [accB 0 0 0 0 xH, outB e is n w, isB b] none [accB 0 0 0 0 xH, outB e is n w, isB b] := by
  refine fn_ofDef Tryd.func59 rfl Tryd.ntmps59 (Nat.le_of_ble_eq_true rfl) (by decide) rfl rfl rfl (by decide) rfl ?_
  repeat' (first | (refine zY.is ?_; first | refine zY.nil ?_ | refine zY.v rfl rfl (by first | exact zV rfl rfl rfl (by decide) | exact yJ rfl rfl rfl rfl (by decide) | exact wD rfl rfl rfl (by decide) | exact w_assertN rfl rfl rfl rfl rfl (by decide)) ?_ | refine zY.m rfl rfl (yQ rfl (by decide) rfl (by decide)) ?_ | refine zY.w rfl (by exact zT rfl rfl rfl rfl rfl (by rfl) (by exact Nat.le_of_ble_eq_true rfl) rfl rfl) ?_) | (refine zZ.is ?_; first | refine zZ.seq ?_ | (refine zZ.iq 1 ?_; refine zZ.rqa _ K_p K_12 ?_; (refine zY.v rfl rfl (zJ rfl rfl rfl (by decide)) ?_); refine zY.nil ?_) | refine zZ.y9 rfl (by with_reducible rfl) ?_ | refine zZ.skip ?_))
  all_goals exact ⟨by first | exact .inl rfl | exact .inr rfl, vE (by repeat' first | exact trivial | rfl | constructor)⟩
theorem run1_need (kind cell a b : Int) (data : PV) (e : Int) (is : Bool) (n w : Int) (c : Bool) : FnD Tryd.prog 59 [accB 0 0 0 0 xH, outB e is n w, isB c] (some (.ifc 112 (accV kind cell a b data))) [accB kind cell a b data, outB 0 false 0 0, isB false] := by
  refine fn_ofDef Tryd.func59 rfl Tryd.ntmps59 (Nat.le_of_ble_eq_true rfl) (by decide) rfl rfl rfl (by decide) rfl ?_
  repeat' (first | (refine zY.is ?_; first | refine zY.nil ?_ | refine zY.v rfl rfl (by first | exact zV rfl rfl rfl (by decide) | exact yJ rfl rfl rfl rfl (by decide) | exact wD rfl rfl rfl (by decide) | exact w_assertY rfl rfl rfl (by decide)) ?_ | refine zY.m rfl rfl (yQ rfl (by decide) rfl (by decide)) ?_ | refine zY.w rfl (by exact zT rfl rfl rfl rfl rfl (by rfl) (by exact Nat.le_of_ble_eq_true rfl) rfl rfl) ?_) | (refine zZ.is ?_; first | refine zZ.seq ?_ | (refine zZ.iq 1 ?_; refine zZ.rqa _ K_p K_12 ?_; (refine zY.v rfl rfl (zJ rfl rfl rfl (by decide)) ?_); refine zY.nil ?_) | (refine zZ.iq 2 ?_; refine zZ.rqe _ K_c K_12 ?_; (refine zY.v rfl rfl (zA rfl rfl rfl (by decide)) ?_); (refine zY.v rfl rfl (zR rfl rfl rfl (by rfl) (by rfl) rfl (by decide)) ?_); (refine zY.v rfl rfl (wJ rfl (by rfl) (by rfl) (by rfl) (by rfl) rfl (by decide)) ?_); (refine zY.w rfl (by exact zT rfl rfl rfl rfl rfl (by rfl) (by exact Nat.le_of_ble_eq_true rfl) rfl rfl) ?_); (refine zY.w rfl (by exact zT rfl rfl rfl rfl rfl (by rfl) (by exact Nat.le_of_ble_eq_true rfl) rfl rfl) ?_); (refine zY.w rfl (by exact zT rfl rfl rfl rfl rfl (by rfl) (by exact Nat.le_of_ble_eq_true rfl) rfl rfl) ?_); refine zY.nil ?_) | refine zZ.xV rfl (by with_reducible rfl) ?_))
  all_goals exact ⟨by first | exact .inl rfl | exact .inr rfl, vE (by repeat' first | exact trivial | rfl | constructor)⟩
end Go.Proofs.YteadaggehndacaaDoor
/- What a list's operation asks next, of a log: the program's: contracts. -/
namespace Go.Proofs.YteadaggehndacaaDoor
set_option maxRecDepth 100000
set_option maxHeartbeats 16000000
open Go Go.RowKit
set_option linter.unusedSimpArgs false
set_option linter.unusedVariables false
attribute [local irreducible] zY zZ Step zQ Sub zM zP Fn
def outRN (o : OutN) : AV := .p (outV o.e o.is o.n o.w)
theorem decT {k n : Int} (h : decide (k = n) = true) : k = n := of_decide_eq_true h
theorem next1L_h (H : Hnd) (s0 : H.σ) {t k u v w : Int} (ht : Small t) (hO : OpL k u v w) : FnH H 47 [H.doA, .ptr 1003 0, .ptr 1004 0] [opB k u v w, vU t] outRN (fun _ => [opB k u v w, vU t]) yes s0 (opL t k u v w) := by
  have F1 := fun (x : wO) (g : FOK x) => (wrap_u64 x.p ⟨g.p.lo, by have := g.p.hi; omega⟩ : IntKind.u64.wrap x.p = x.p)
  have F2 := fun (h : decide (k = 24) = true) => (wrap_i64 w ⟨by have := (hO.v (decT h)).2.lo; omega, by have := (hO.v (decT h)).2.hi; omega⟩ : IntKind.i64.wrap w = w)
  unfold Hnd.doA
  refine wY Tryd.func47 rfl Tryd.ntmps47 (Nat.le_of_ble_eq_true rfl) (by decide) (fine_opL hO) fun hok hns => ?_
  repeat' (first | (refine zY.is ?_; first | refine zY.nil ?_ | (refine zY.at_ 14 rfl ?_; refine zY.rc (.v vX (.v yF (.v yF (.v yF (.v yF (.v zO (.v zO (.v zO (.v zO .e))))))))) ?_) | (refine zY.at_ 36 rfl ?_; refine zY.rc (.v vX (.v yF (.v yF (.v yI (.w yZ (.v yI (.w yZ .e))))))) ?_) | (refine zY.at_ 60 rfl ?_; refine zY.rc (.v yI (.w yZ .e)) ?_) | (refine zY.at_ 68 rfl ?_; refine zY.rc (.v yI (.w yZ .e)) ?_) | (refine zY.at_ 76 rfl ?_; refine zY.rc (.v v52_8 .e) ?_) | (refine zY.in_ [19] rfl ?_; refine zY.ofT rfl (zP.hd (i := []) (f := search_h H _ ht) (r := fun x s e g hk => ?_) (p := fun q s e => ?_) (t := ?_))) | (refine zY.in_ [43] rfl ?_; refine zY.ofT rfl (zP.hd (i := []) (f := seek_h H _ ht (hO.u (.inr (.inr (decT (by assumption)))))) (r := fun x s e g hk => ?_) (p := fun q s e => ?_) (t := ?_))) | (refine zY.in_ [59] rfl ?_; refine zY.ofT rfl (zP.hd (i := []) (f := link_h H _ ht (hO.u (.inr (.inl (decT (by assumption))))) (hO.v (decT (by assumption))).1 (hO.v (decT (by assumption))).2) (r := fun x s e g hk => ?_) (p := fun q s e => ?_) (t := ?_))) | (refine zY.in_ [67] rfl ?_; refine zY.ofT rfl (zP.hd (i := []) (f := markOp_h H _ ht (hO.u (.inl (decT (by assumption))))) (r := fun x s e g hk => ?_) (p := fun q s e => ?_) (t := ?_))) | (refine zY.in_ [75] rfl ?_; refine zY.ofT rfl (zP.hd (i := []) (f := sweep_h H _ ht) (r := fun x s e g hk => ?_) (p := fun q s e => ?_) (t := ?_)))) | (refine zZ.is ?_; first | refine zZ.seq ?_ | (refine zZ.isR (id := 0) ?_; refine zZ.rc [0, 1, 2] [4, 1000, 1001, 1002, 1003, 1004] (r := (.m yD .e)) (h := ?_)) | (refine zZ.isR (id := 1) ?_; refine zZ.rc [0, 1, 2, 4] [4, 1000, 1001, 1002, 1003, 1004] (r := (.v yI (.v yO .e))) (h := ?_)) | (refine zZ.isR (id := 3) ?_; refine zZ.rc [0, 1, 2, 4, 10] [4, 1000, 1001, 1002, 1003, 1004] (r := (.v v41_8 (.v zO .e))) (h := ?_)) | (refine zZ.isR (id := 4) ?_; refine zZ.rc [0, 1, 2, 4, 10] [4, 1000, 1001, 1002, 1003, 1004] (r := (.v wC (.v yO (.v yI (.v yO .e))))) (h := ?_)) | (refine zZ.isR (id := 5) ?_; refine zZ.rc [0, 1, 2, 4, 5, 6, 7, 8, 10] [4, 1000, 1001, 1002, 1003, 1004] (r := (.v zB (.v v52_8 .e))) (h := ?_)) | (refine zZ.isR (id := 6) ?_; refine zZ.rc [0, 1, 2, 4, 5, 6, 7, 10] [4, 1000, 1001, 1002, 1003, 1004] (r := (.v x9 (.w yZ .e))) (h := ?_)) | (refine zZ.isR (id := 7) ?_; refine zZ.rc [0, 1, 2, 4, 5, 6, 7, 10] [4, 1000, 1001, 1002, 1003, 1004] (r := (.v zB (.v zB (.v v6_1 (.v zB (.v yI (.w yZ (.v yI (.w yZ (.v yI (.w yZ .e))))))))))) (h := ?_)) | (refine zZ.isR (id := 8) ?_; refine zZ.rc [0, 1, 2, 4, 10] [4, 1000, 1001, 1002, 1003, 1004] (r := (.v v41_8 (.v zO .e))) (h := ?_)) | (refine zZ.isR (id := 9) ?_; refine zZ.rc [0, 1, 2, 4, 10] [4, 1000, 1001, 1002, 1003, 1004] (r := (.v wC (.v yO (.v yI (.v yO (.v yI (.v yO .e))))))) (h := ?_)) | (refine zZ.isR (id := 10) ?_; refine zZ.rc [0, 1, 2, 4, 10] [4, 1000, 1001, 1002, 1003, 1004] (r := (.v v41_8 (.v zO .e))) (h := ?_)) | (refine zZ.isR (id := 11) ?_; refine zZ.rc [0, 1, 2, 4, 10] [4, 1000, 1001, 1002, 1003, 1004] (r := (.v wC (.v yO (.v yI (.v yO (.v yI (.v yO (.v yI (.v yO (.v v6_2 .e)))))))))) (h := ?_)) | (refine zZ.isR (id := 12) ?_; refine zZ.rc [0, 1, 2, 4, 10] [4, 1000, 1001, 1002, 1003, 1004] (r := (.v v41_8 (.v zO .e))) (h := ?_)) | (refine zZ.isR (id := 13) ?_; refine zZ.rc [0, 1, 2, 4, 10] [4, 1000, 1001, 1002, 1003, 1004] (r := (.v wC (.v yO (.v yI (.v yO .e))))) (h := ?_)) | (refine zZ.isR (id := 14) ?_; refine zZ.rc [0, 1, 2, 4, 10] [4, 1000, 1001, 1002, 1003, 1004] (r := (.v v41_8 (.v zO .e))) (h := ?_)) | (refine zZ.isR (id := 15) ?_; refine zZ.rc [0, 1, 2, 4] [4, 1000, 1001, 1002, 1003, 1004] (r := (.v wC (.v yO (.v yI (.v yO .e))))) (h := ?_)) | (refine zZ.isR (id := 16) ?_; refine zZ.rc [4] [4, 1000, 1001, 1002, 1003, 1004] (r := (.v yI (.w yZ .e))) (h := ?_)) | (refine zZ.isR (id := 2) ?_; refine zZ.rc [4] [4, 1000, 1001, 1002, 1003, 1004] (r := (.v yI (.w yZ .e))) (h := ?_)) | (refine zZ.isR (id := 17) ?_; refine zZ.rc [4] [4, 1000, 1001, 1002, 1003, 1004] (r := (.v xI (.w yZ .e))) (h := ?_)) | refine zZ.cond rfl (fun h => ?_) (fun h => ?_) | refine zZ.skip ?_ | refine zZ.block ?_ | refine zZ.ret ?_) | refine zS.r ?_ | refine zS.p ?_ | refine yE.r ?_ | refine yE.p ?_)
  all_goals try simp only [Bool.not_eq_true', Bool.not_eq_false'] at *
  all_goals (first | exact fun e => hns (by clear hns; simp only [opL, run_bind, zL, zI, Held.zC, Held.zH, Held.zF, cond_true, cond_false, *]) | exact .pan (q := q) rfl (by repeat' first | exact trivial | rfl | constructor) (by repeat' first | exact trivial | exact ⟨_, rfl, rfl⟩ | constructor) (by simp only [opL, run_bind, zL, zI, Held.zC, Held.zH, Held.zF, cond_true, cond_false, *]) | exact .ret (x := ⟨_, _, _, _⟩) (by exact .inl rfl) (by exact .p rfl (.cellN rfl rfl (by rfl) (by rfl))) (by repeat' first | exact trivial | rfl | constructor) (by simp only [opL, run_bind, zL, zI, Held.zC, Held.zH, Held.zF, cond_true, cond_false, *] <;> rfl))
/-- the frame behind Run's results -/
def runS1 (k u v w t : Int) (L : List xC) : AS := { t := [(6, .ptr 6 0), (5, .ptr 5 0), (4, .ptr 4 0), (3, .ptr 3 0), (0, .clo 47 [1000, 1001]), (1, .p (logV L))], s := [(6, isB false), (5, outB 0 false 0 0), (4, accB 0 0 0 0 xH), (3, logB L), (1000, opB k u v w), (1001, vU t)] }
def runT : List (Nat × AV) := [(0, .clo 47 [1004, 1005]), (3, .ptr 1000 0), (4, .ptr 1001 0), (5, .ptr 1002 0), (6, .ptr 1003 0)]
theorem run_done (L : List xC) (hL : LogOK L) {t k u v w : Int} (ht : Small t) (h : OpL k u v w) {o : OutN} {j : Nat} (hm : (opL t k u v w).run (xE L) 0 = .done o j) :
    FnE Tryd.prog 46 [.clo 47 [1000, 1001], .p (logV L)] [opB k u v w, vU t] (.ret (.tup ([accV 0 0 0 0 xH, outV o.e o.is o.n o.w, .val (.bool true)].map .p))) [opB k u v w, vU t] := by
  have hn := (next1L_h (hLog L hL) (0 : Nat) ht h).done (Nat.zero_le _) hm
  have hn2 : FnE Tryd.prog 47 [.clo 60 [1000, 1001], .ptr 1003 0, .ptr 1004 0] [atB 0, logB L, isB false, opB k u v w, vU t] (.ret (outRN o)) [atB j, logB L, isB false, opB k u v w, vU t] := hn.2.2
  refine fn_ofD (S1 := runS1 k u v w t L) (ids := [3, 4, 5, 6, 1000, 1001]) (Bi := [logB L, accB 0 0 0 0 xH, outB 0 false 0 0, isB false, opB k u v w, vU t]) (Bi' := [logB L, accB 0 0 0 0 xH, outB o.e o.is o.n o.w, isB true, opB k u v w, vU t]) (T := runT) (dj := [1001, 1002, 1003])
    Tryd.func46 rfl Tryd.ntmps46 (Nat.le_of_ble_eq_true rfl) (by decide) ?_ rfl rfl (by decide) rfl (by rfl) rfl rfl rfl (by rfl) (by rfl) (wM (by decide) rfl (by repeat' first | exact trivial | rfl | constructor)) rfl rfl rfl (by
      intro p hp
      simp only [runT, List.mem_cons, List.not_mem_nil, or_false] at hp
      rcases hp with rfl | rfl | rfl | rfl | rfl <;> exact ⟨rfl, by decide⟩) ?_ rfl rfl (vE (by repeat' first | exact trivial | rfl | constructor))
  case refine_1 =>
    repeat' (first | (refine zY.nil ?_) | (refine zZ.is ?_; (refine zZ.isR (id := 0) ?_; refine zZ.rc [0, 1] [3, 4, 5, 6, 7, 1000, 1001] (r := (.m m18_2 (.m yD (.m yD (.m yD .e))))) (h := ?_))))
    exact ⟨rfl, rfl⟩
  case refine_2 =>
    unfold runT
    repeat' (first | (refine zY.is ?_; first | refine zY.nil ?_ | refine zY.rc (.w yZ .e) ?_ | (refine zY.in_ [11] rfl ?_; refine zY.ofT rfl (zP.eR [7, 1000, 1003, 1004, 1005] (hn2) ?_))) | (refine zZ.is ?_; first | refine zZ.seq ?_ | (refine zZ.isR (id := 2) ?_; refine zZ.rc [0, 3, 4, 5, 6] [3, 4, 5, 6, 7, 1000, 1001, 1002, 1003, 1004, 1005] (r := (.m yD (.w yZ .e))) (h := ?_)) | (refine zZ.isR (id := 3) ?_; refine zZ.rc [0, 3, 4, 5, 6, 7] [3, 4, 5, 6, 7, 1000, 1001, 1002, 1003, 1004, 1005] (r := (.v wC (.v v14_0 .e))) (h := ?_)) | (refine zZ.isR (id := 4) ?_; refine zZ.rk [4, 5, 6] [3, 4, 5, 6, 7, 1000, 1001, 1002, 1003, 1004, 1005] ?_; refine zZ.drawGo (by kernel_rfl) ?_) | refine zZ.ret ?_) | (refine DGo.at_ [] ?_; refine DGo.all [0, 1] (by kernel_rfl) ?_) | (refine DGo.at_ [1] ?_; refine DGo.all [0] (by kernel_rfl) ?_) | (refine DGo.at_ [0, 1] ?_; refine DGo.all [2] (by kernel_rfl) ?_) | (refine DGo.at_ [2, 0, 1] ?_; refine DGo.all [3] (by kernel_rfl) ?_) | (refine DGo.at_ [3, 2, 0, 1] ?_; refine DGo.all [4] (by kernel_rfl) ?_) | (refine DGo.at_ [4, 3, 2, 0, 1] ?_; refine DGo.fin (by kernel_rfl) ?_) | (refine DGo.at_ [0] ?_; refine DGo.all [1, 2] (by kernel_rfl) ?_) | (refine DGo.at_ [2, 0] ?_; refine DGo.all [1] (by kernel_rfl) ?_) | (refine DGo.at_ [1, 2, 0] ?_; refine DGo.all [3] (by kernel_rfl) ?_) | (refine DGo.at_ [3, 1, 2, 0] ?_; refine DGo.all [4] (by kernel_rfl) ?_) | (refine DGo.at_ [4, 3, 1, 2, 0] ?_; refine DGo.fin (by kernel_rfl) ?_) | (refine DGo.at_ [1, 0] ?_; refine DGo.all [2] (by kernel_rfl) ?_) | (refine DGo.at_ [2, 1, 0] ?_; refine DGo.all [3] (by kernel_rfl) ?_) | (refine DGo.at_ [3, 2, 1, 0] ?_; refine DGo.all [4] (by kernel_rfl) ?_) | (refine DGo.at_ [4, 3, 2, 1, 0] ?_; refine DGo.fin (by kernel_rfl) ?_) | refine yV.cons ?_ ?_ | exact yV.nil | (refine yK.at_ 0 ?_; refine yK.v rfl rfl rfl (wJ rfl (by rfl) (by rfl) (by rfl) (by rfl) rfl (by decide)) ?_) | (refine yK.at_ 1 ?_; refine yK.v rfl rfl rfl (zR rfl rfl rfl (by rfl) (by rfl) rfl (by decide)) ?_) | (refine yK.at_ 2 ?_; refine yK.w rfl rfl (by exact zT rfl rfl rfl rfl rfl (by rfl) (by exact Nat.le_of_ble_eq_true rfl) rfl rfl) ?_) | (refine yK.at_ 3 ?_; refine yK.w rfl rfl (by exact zT rfl rfl rfl rfl rfl (by rfl) (by exact Nat.le_of_ble_eq_true rfl) rfl rfl) ?_) | (refine yK.at_ 4 ?_; refine yK.w rfl rfl (by exact zT rfl rfl rfl rfl rfl (by rfl) (by exact Nat.le_of_ble_eq_true rfl) rfl rfl) ?_))
    all_goals exact ⟨_, _, _, run1_none o.e o.is o.n o.w true, .inl ⟨rfl, by first | exact .inl rfl | exact .inr rfl⟩, wM (by decide) rfl (by repeat' first | exact trivial | rfl | constructor), rfl, rfl, .tup rfl (by decide) (.cons (.cellN rfl rfl (by rfl) (by rfl)) (.cons (.cellN rfl rfl (by rfl) (by rfl)) (.cons (.cell1 rfl rfl rfl) .nil))), vE (by repeat' first | exact trivial | rfl | constructor)⟩
theorem run_need (L : List xC) (hL : LogOK L) {t k u v w : Int} (ht : Small t) (h : OpL k u v w) {q : Ned} {j : Nat} (hm : (opL t k u v w).run (xE L) 0 = .need q j) :
    FnE Tryd.prog 46 [.clo 47 [1000, 1001], .p (logV L)] [opB k u v w, vU t] (.ret (.tup ([accQ q, outV 0 false 0 0, .val (.bool false)].map .p))) [(opB k u v w).forget, (vU t).forget] := by
  have hn := (next1L_h (hLog L hL) (0 : Nat) ht h).need (Nat.zero_le _) hm
  have hn2 : FnE Tryd.prog 47 [.clo 60 [1000, 1001], .ptr 1003 0, .ptr 1004 0] [atB 0, logB L, isB false, opB k u v w, vU t] (.pan (needA (accQ q))) [atB j, logB L, isB false, (opB k u v w).forget, (vU t).forget] := hn.2
  unfold accQ at hn2 ⊢
  refine fn_ofD (S1 := runS1 k u v w t L) (ids := [3, 4, 5, 6, 1000, 1001]) (Bi := [logB L, accB 0 0 0 0 xH, outB 0 false 0 0, isB false, opB k u v w, vU t]) (Bi' := [logB L, accB q.kind q.cell q.a q.b q.d, outB 0 false 0 0, isB false, (opB k u v w).forget, (vU t).forget]) (T := runT) (dj := [1001, 1002, 1003])
    Tryd.func46 rfl Tryd.ntmps46 (Nat.le_of_ble_eq_true rfl) (by decide) ?_ rfl rfl (by decide) rfl (by rfl) rfl rfl rfl (by rfl) (by rfl) (wM (by decide) rfl (by repeat' first | exact trivial | rfl | constructor)) rfl rfl rfl (by
      intro p hp
      simp only [runT, List.mem_cons, List.not_mem_nil, or_false] at hp
      rcases hp with rfl | rfl | rfl | rfl | rfl <;> exact ⟨rfl, by decide⟩) ?_ rfl rfl (vE (by repeat' first | exact trivial | rfl | constructor))
  case refine_1 =>
    repeat' (first | (refine zY.nil ?_) | (refine zZ.is ?_; (refine zZ.isR (id := 0) ?_; refine zZ.rc [0, 1] [3, 4, 5, 6, 7, 1000, 1001] (r := (.m m18_2 (.m yD (.m yD (.m yD .e))))) (h := ?_))))
    exact ⟨rfl, rfl⟩
  case refine_2 =>
    unfold runT
    repeat' (first | (refine zY.is ?_; first | refine zY.nil ?_ | (refine zY.in_ [11] rfl ?_; refine zY.ofT rfl (zP.eP [7, 1000, 1003, 1004, 1005] (hn2) ?_))) | (refine zZ.is ?_; first | refine zZ.seq ?_ | (refine zZ.isR (id := 2) ?_; refine zZ.rc [0, 3, 4, 5, 6] [3, 4, 5, 6, 7, 1000, 1001, 1002, 1003, 1004, 1005] (r := (.m yD (.w yZ .e))) (h := ?_)) | (refine zZ.isR (id := 3) ?_; refine zZ.rc [0, 3, 4, 5, 6, 7] [3, 4, 5, 6, 7, 1000, 1001, 1002, 1003, 1004, 1005] (r := (.v wC (.v v14_0 .e))) (h := ?_))))
    all_goals exact ⟨_, _, _, run1_need q.kind q.cell q.a q.b q.d 0 false 0 0 false, .inr ⟨_, rfl, rfl, rfl⟩, wM (by decide) rfl (by repeat' first | exact trivial | rfl | constructor), rfl, rfl, .tup rfl (by decide) (.cons (.cellN rfl rfl (by rfl) (by rfl)) (.cons (.cellN rfl rfl (by rfl) (by rfl)) (.cons (.cell1 rfl rfl rfl) .nil))), vE (by repeat' first | exact trivial | rfl | constructor)⟩
theorem next_done (L : List xC) (hL : LogOK L) {t : Int} (c me : Int) {k u v w : Int} (ht : Small t) (h : OpL k u v w) {o : OutN} {j : Nat} (hm : (opL t k u v w).run (xE L) 0 = .done o j) :
    Fn Tryd.prog 25 [.val (.int .i64 t), .val (.int .i64 c), .val (.int .i64 me), opV k u v w, logV L] (.tup [accV 0 0 0 0 xH, outV o.e o.is o.n o.w, .val (.bool true)]) := by
  have hr := run_done L hL ht h hm
  refine yU Tryd.func25 rfl Tryd.ntmps25 (Nat.le_of_ble_eq_true rfl) ?_
  repeat' (first | (refine zY.is ?_; first | refine zY.nil ?_ | (refine zY.at_ 16 rfl ?_; refine zY.rc (.v yF (.v yF (.v yF (.w yZ (.w yZ (.v zO .e)))))) ?_) | (refine zY.in_ [15] rfl ?_; refine zY.ofT rfl (zP.eR [8, 5] (hr) ?_))) | (refine zZ.is ?_; first | refine zZ.seq ?_ | (refine zZ.isR (id := 0) ?_; refine zZ.rc [0, 3, 4] [5, 8, 10, 11] (r := (.m m18_1 (.m m18_0 (.m yD (.m yD (.v zO .e)))))) (h := ?_)) | (refine zZ.isR (id := 1) ?_; refine zZ.rc [4, 5, 8, 10, 11, 12] [5, 8, 10, 11] (r := (.v v14_0 (.v zB .e))) (h := ?_)) | refine zZ.ret ?_))
  all_goals exact ⟨by first | exact .inl rfl | exact .inr rfl, _, Sub.refl _, .tupE rfl (by decide) (.cons (.cellN rfl rfl (by rfl) (by rfl)) (.cons (.cellN rfl rfl (by rfl) (by rfl)) (.cons (.tmp rfl) .nil))) rfl⟩
theorem next_need (L : List xC) (hL : LogOK L) {t : Int} (c me : Int) {k u v w : Int} (ht : Small t) (h : OpL k u v w) {q : Ned} {j : Nat} (hm : (opL t k u v w).run (xE L) 0 = .need q j) :
    Fn Tryd.prog 25 [.val (.int .i64 t), .val (.int .i64 c), .val (.int .i64 me), opV k u v w, logV L] (.tup [accQ q, outV 0 false 0 0, .val (.bool false)]) := by
  have hr := run_need L hL ht h hm
  unfold accQ at hr ⊢
  refine yU Tryd.func25 rfl Tryd.ntmps25 (Nat.le_of_ble_eq_true rfl) ?_
  repeat' (first | (refine zY.is ?_; first | refine zY.nil ?_ | (refine zY.at_ 16 rfl ?_; refine zY.rc (.v yF (.v yF (.v yF (.w yZ (.w yZ (.v zO .e)))))) ?_) | (refine zY.in_ [15] rfl ?_; refine zY.ofT rfl (zP.eR [8, 5] (hr) ?_))) | (refine zZ.is ?_; first | refine zZ.seq ?_ | (refine zZ.isR (id := 0) ?_; refine zZ.rc [0, 3, 4] [5, 8, 10, 11] (r := (.m m18_1 (.m m18_0 (.m yD (.m yD (.v zO .e)))))) (h := ?_)) | (refine zZ.isR (id := 1) ?_; refine zZ.rc [4, 5, 8, 10, 11, 12] [5, 8, 10, 11] (r := (.v v14_0 (.v zB .e))) (h := ?_)) | refine zZ.ret ?_))
  all_goals exact ⟨by first | exact .inl rfl | exact .inr rfl, _, Sub.refl _, .tupE rfl (by decide) (.cons (.cellN rfl rfl (by rfl) (by rfl)) (.cons (.cellN rfl rfl (by rfl) (by rfl)) (.cons (.tmp rfl) .nil))) rfl⟩
end Go.Proofs.YteadaggehndacaaDoor
/- A struct's literal of which parts are own rows, stored into a new variable; appending to nil. Generic over the program. -/
namespace Go.Proofs.YteadaggehndacaaDoor
set_option maxRecDepth 100000
set_option maxHeartbeats 16000000
open Go Go.RowKit
set_option linter.unusedSimpArgs false
theorem cells_own {M : Nat → Nat → Prop} {n : Nat} {w0 : Home} {w : World} {S : AS} {ρ : Nat → Value} {a : Act} (hs : Sat M n w0 S ρ a w) {id2 : Nat} {b2 : Blk} {v : Value} (hb2 : S.blk id2 = some b2) (hrow : b2.isRow = true) (h2 : yH (Mut M S ρ) ρ w (.own id2) v) :
    yM (Mut M S ρ) ρ w (AV.own id2).wZ v.cells.toList := own_cells hs hb2 hrow h2
def partB (S : AS) (av : AV) : Bool := av.qJ || (match av with
  | .own id => (match S.blk id with | some b => b.isRow | none => false)
  | _ => false)
section
variable {P : Program} {n : Nat} {ops : Array Oper} {S : AS} {K : Exit → AS → Prop}
theorem w_makeV1 {o : Oper} {d t e sz by_ m : Nat} {k : IntKind} {z : Value} {xl xc : Operand} [ht : Und P t (.slice e)] [hi : InfoA P e z sz by_] (ho : o.op = .makeSlice t xl xc) (hl : S.get xl = .p (.val (.int k (m : Int)))) (hc : S.get xc = .p (.val (.int k (m : Int)))) (hlim : m * sz ≤ 16777216 ∧ by_ * m ≤ 281474976710656 ∧ m ≤ maxLen)
    (hzs : z.cells.size = sz) (hsz : 0 < sz) (hzp : [z] = z.cells.toList) (h1 : z.cells.toList.all (fun u => u.oneCell') = true) (hd : o.dst = some d) (hn : d < n) : zQ P n o S [] (.own d) (some (yS e sz (List.replicate m (.val z)))) :=
  w_makeV ho hl hc hlim hzs hsz (zp := .val z) (by rw [← hzp]; rfl) h1 hd hn
theorem w_makeVN {o : Oper} {d t e sz by_ m : Nat} {k : IntKind} {z : Value} {xl xc : Operand} [ht : Und P t (.slice e)] [hi : InfoA P e z sz by_] (ho : o.op = .makeSlice t xl xc) (hl : S.get xl = .p (.val (.int k (m : Int)))) (hc : S.get xc = .p (.val (.int k (m : Int)))) (hlim : m * sz ≤ 16777216 ∧ by_ * m ≤ 281474976710656 ∧ m ≤ maxLen)
    (hzs : z.cells.size = sz) (hsz : 0 < sz) (h1 : z.cells.toList.all (fun u => u.oneCell') = true) (hd : o.dst = some d) (hn : d < n) : zQ P n o S [] (.own d) (some (yS e sz (List.replicate m (.agg (z.cells.toList.map PV.val))))) :=
  w_makeV ho hl hc hlim hzs hsz (zp := .agg (z.cells.toList.map PV.val)) rfl h1 hd hn
end
theorem sub_frzE {S : AS} (id e sz : Nat) (es : List PV) (hb : S.blk id = some (yS e sz es)) : Sub S (S.frz id (.sl es)) := sub_frz hb
end Go.Proofs.YteadaggehndacaaDoor
/- An operation that steps alone (law 15), as a tree in a world: contract. -/
namespace Go.Proofs.YteadaggehndacaaDoor
set_option maxRecDepth 100000
set_option maxHeartbeats 16000000
open Go Go.RowKit
set_option linter.unusedSimpArgs false
set_option linter.unusedVariables false
attribute [local irreducible] zY zZ Step zQ Sub zM zP Fn zS yE
structure AlSt where
  n : Nat
  W : Wd
  L : List xC
  p : Pr OutN
def qB (_ : Nat) : Bool := false
def aloneS (me : Nat) (k u v w : Int) (most : Int) (s : AlSt) : AS :=
  { t := [(1, .p (.val (.int .i64 me))), (3, .p (.val (.int .i64 most))), (4, .ptr 4 0), (6, .ptr 6 0), (8, .ptr 8 0), (9, .ptr 9 0), (10, .p (.val (.bool false))), (11, .own 11), (12, .p (.val (.int .i64 (s.n : Nat))))],
    s := [(4, .box 33 (s.W.pv.cells.map AV.p)), (6, .box 42 ((opV k u v w).cells.map AV.p)), (8, .box 33 ([.val (.int .i64 0), .val (.int .i64 0), xH, .val (.int .u64 0), xH, xH].map AV.p)),
      (9, .box 38 ((outV 0 false 0 0).cells.map AV.p)), (11, lentV 77 3 (s.L.map resV))] }
theorem next_needW (L : List xC) (hL : LogOK L) {t : Int} (c me : Int) {k u v w : Int} (ht : Small t) (h : OpL k u v w) {q : Ned} {j : Nat} (hm : (opL t k u v w).run (xE L) 0 = .need q j) (hq : qW q) :
    Fn Tryd.prog 25 [.val (.int .i64 t), .val (.int .i64 c), .val (.int .i64 me), opV k u v w, logV L] (.tup [accV q.kind q.cell q.a q.b (.sl (byts (qA q.d))), outV 0 false 0 0, .val (.bool false)]) := by
  refine (next_need L hL c me ht h hm).weakT (.cons (.agg (.cons (.refl _) (.cons (.refl _) (.cons (.refl _) (.cons (.refl _) (.cons ?_ (.cons (.refl _) .nil))))))) (.cons (.refl _) (.cons (.refl _) .nil)))
  rcases hq.d with ⟨_, e⟩ | ⟨_, bs, _, _, e⟩
  · rw [e]; exact .nil
  · rw [e, bytsOf_byts]; exact .refl _
theorem alone_fn (B : Nat) (W W' : Wd) (me : Nat) (k u v w : Int) (most : Nat) (m : Nat) (o : OutN) (hW : WdOK B W) (ht0 : Small W.t) (hme : me < W.r0.length) (hop : OpL k u v w)
    (hr : (opL W.t k u v w).run (wSt me qB) (W, 0) = .done o (W', m)) (hmm : m ≤ most) (h1000 : most ≤ 1000) (hB : B ≤ 70000000) (hB2 : B + 1000 * most ≤ 90000000) :
    Fn Tryd.prog 9 [W.pv, .val (.int .i64 me), opV k u v w, .val (.int .i64 most)] (.tup [W'.pv, outV o.e o.is o.n o.w, .val (.bool true)]) := by
  have hfine := fine_opL (t := W.t) hop
  obtain ⟨t, c, ws, root, r0, r1⟩ := W
  have hme : me < r0.length := hme
  have ht0 : Small t := ht0
  refine yU Tryd.func9 rfl Tryd.ntmps9 (Nat.le_of_ble_eq_true rfl) ?_
  repeat' (first | (refine zY.nil ?_) | (refine zZ.is ?_; first | refine zZ.seq ?_ | (refine zZ.isR (id := 0) ?_; refine zZ.rc [0, 1, 2, 3] [4, 6, 8, 9, 11, 13, 14, 16, 17, 50] (r := (.m m18_0 (.m m18_0 (.m yD (.m yD (.v zO .e)))))) (h := ?_)) | (refine zZ.isR (id := 1) ?_; refine zZ.rc [1, 3, 4, 6, 8, 9, 10] [4, 6, 8, 9, 11, 13, 14, 16, 17, 50] (r := (.v zO .e)) (h := ?_)) | (refine zZ.isR (id := 2) ?_; refine zZ.rc [1, 3, 4, 6, 8, 9, 10, 11] [4, 6, 8, 9, 11, 13, 14, 16, 17, 50] (r := (.v zO .e)) (h := ?_)) | refine zZ.block ?_) | refine zS.n ?_)
  refine zZ.loop (fun s => aloneS me k u v w most s) (fun s => s.n ≤ m ∧ s.W.t = t ∧ s.W.r0.length = r0.length ∧ WdOK (B + 1000 * s.n) s.W ∧ s.L.length = s.n ∧ (∀ r ∈ s.L, U r.n) ∧ (opL t k u v w).after s.L = some s.p ∧ s.p.xP yes (many - s.n) ∧ s.p.run (wSt me qB) (s.W, s.n) = .done o (W', m)) (fun s => most + 1 - s.n) ⟨0, ⟨t, c, ws, root, r0, r1⟩, [], opL t k u v w⟩ ?h0
    ⟨Nat.zero_le _, rfl, rfl, hW, rfl, (fun r h => by simp at h), (by cases opL t k u v w <;> rfl), hfine, hr⟩ ?rd
  case h0 =>
    refine (sub_adopt (d := 11) (id := 11) (ty := 77) (sz := 3) (by decide) rfl).trans ?_
    refine (vP (id := 11) (b := .row 77 3 0 []) (b' := yS 77 3 []) (by rfl) (rowV_alike 77 3 [])).sub.trans ?_
    refine (sub_lend (id := 11) (e := 77) (sz := 3) (es := []) (by rfl)).trans ?_
    refine zN (is := [1, 3, 4, 6, 8, 9, 10, 11, 12]) (js := [4, 6, 8, 9, 11]) ?_ ?_
    repeat' first | exact zW.nil | apply zW.p rfl | apply zW.ptr rfl | apply zW.own rfl | apply zW.clo rfl | apply zW.ifp rfl | apply zW.pt rfl | apply zW.tup rfl | apply zW.skip
    repeat' first | exact zX.nil | apply zX.boxP rfl rfl | apply zX.yG rfl | (apply zX.at0; exact zK rfl (H.nk _).1 (by repeat' fail)) | (apply zX.at1; exact zK rfl (H.nk _).2.1 (by repeat' fail)) | (apply zX.at2; exact zK rfl (H.nk _).2.2 (by repeat' fail)) | apply zX.some rfl | apply zX.skip
  case rd =>
    rintro ⟨n, W, L, p⟩ ⟨hn, ht, hrl, hok, hl, hru, haf, hfi, hrun⟩
    dsimp only at hn ht hrl hok hl hru haf hfi hrun
    obtain ⟨t', c', ws', root', r0', r1'⟩ := W
    have ht : t' = t := ht
    subst ht
    change zZ _ _ _ (aloneS me k u v w most ⟨n, ⟨t', c', ws', root', r0', r1'⟩, L, p⟩) _
    unfold aloneS
    dsimp only
    have g1 : decide ((n : Int) ≤ most) = true := decide_eq_true (by omega)
    repeat' (first | (refine zY.nil ?_) | (refine zZ.is ?_; first | refine zZ.seq ?_ | (refine zZ.isR (id := 3) ?_; refine zZ.rc [1, 3, 4, 6, 8, 9, 10, 11, 12, 13, 14, 15, 16, 17, 20, 37] [4, 6, 8, 9, 11, 13, 14, 16, 17, 50] (r := (.v zB (.v zB (.v v44_0 .e)))) (h := ?_)) | (refine zZ.isR (id := 5) ?_; refine zZ.rc [1, 3, 4, 6, 8, 9, 10, 11, 12, 13, 14, 15, 16, 17, 20, 37] [4, 6, 8, 9, 11, 13, 14, 16, 17, 50] (r := (.v yI (.v yI (.v yO (.v yI (.v yI (.v yO (.v zB (.v xI (.v v0_1 .e)))))))))) (h := ?_)) | refine zZ.xV rfl bA ?_ | refine zZ.skip ?_ | refine zZ.block ?_) | refine zS.n ?_)
    refine zY.sub (sub_view (d := 32) (id := 11) (e := 77) (sz := 3) (es := L.map resV) rfl rfl) ?_
    have hL : LogOK L := ⟨by omega, hru⟩
    cases p with
    | stuck => cases hrun
    | ret o' =>
      rw [zL] at hrun
      injection hrun with e1 e2
      injection e2 with e2 e3
      subst e1 e2
      have c1 := next_done L hL c' me ht0 hop (after_done haf)
      repeat' (first | (refine zY.is ?_; first | refine zY.nil ?_ | (refine zY.at_ 23 rfl ?_; refine zY.rc (.v vX (.v yF (.v yF (.v yF (.m yD (.m yD (.w yZ (.w yZ (.v zO .e))))))))) ?_) | (refine zY.in_ [33] rfl ?_; refine zY.v rfl rfl (yP (c1) rfl rfl rfl (by decide)) ?_)) | (refine zZ.is ?_; first | refine zZ.seq ?_ | (refine zZ.isR (id := 6) ?_; refine zZ.rc [1, 3, 4, 6, 8, 9, 10, 11, 12, 13, 14, 15, 16, 17, 20, 37] [4, 6, 8, 9, 11, 13, 14, 16, 17, 50] (r := (.v zB .e)) (h := ?_)) | (refine zZ.isR (id := 7) ?_; refine zZ.rk [1, 3, 4, 6, 8, 9, 10, 11, 12, 13, 14, 15, 16, 17, 20, 37] [4, 6, 8, 9, 11, 13, 14, 16, 17, 50] ?_; refine zZ.drawGo (by kernel_rfl) ?_) | refine zZ.xV rfl bA ?_ | refine zZ.ret ?_) | refine zS.n ?_ | refine zS.r ?_ | refine yE.r ?_ | (refine DGo.at_ [] ?_; refine DGo.all [0, 1] (by kernel_rfl) ?_) | (refine DGo.at_ [1] ?_; refine DGo.all [0] (by kernel_rfl) ?_) | (refine DGo.at_ [0, 1] ?_; refine DGo.all [2] (by kernel_rfl) ?_) | (refine DGo.at_ [2, 0, 1] ?_; refine DGo.all [3] (by kernel_rfl) ?_) | (refine DGo.at_ [3, 2, 0, 1] ?_; refine DGo.fr 4 ?_) | (refine DGo.at_ [4, 3, 2, 0, 1] ?_; refine DGo.fin (by kernel_rfl) ?_) | (refine DGo.at_ [0] ?_; refine DGo.all [1, 2] (by kernel_rfl) ?_) | (refine DGo.at_ [2, 0] ?_; refine DGo.all [1] (by kernel_rfl) ?_) | (refine DGo.at_ [1, 2, 0] ?_; refine DGo.all [3] (by kernel_rfl) ?_) | (refine DGo.at_ [3, 1, 2, 0] ?_; refine DGo.fr 4 ?_) | (refine DGo.at_ [4, 3, 1, 2, 0] ?_; refine DGo.fin (by kernel_rfl) ?_) | (refine DGo.at_ [1, 0] ?_; refine DGo.all [2] (by kernel_rfl) ?_) | (refine DGo.at_ [2, 1, 0] ?_; refine DGo.all [3] (by kernel_rfl) ?_) | (refine DGo.at_ [3, 2, 1, 0] ?_; refine DGo.fr 4 ?_) | (refine DGo.at_ [4, 3, 2, 1, 0] ?_; refine DGo.fin (by kernel_rfl) ?_) | refine yV.cons ?_ ?_ | exact yV.nil | (refine yK.at_ 0 ?_; refine yK.v rfl rfl rfl (zR rfl rfl rfl (by rfl) (by rfl) rfl (by decide)) ?_) | (refine yK.at_ 1 ?_; refine yK.v rfl rfl rfl (zR rfl rfl rfl (by rfl) (by rfl) rfl (by decide)) ?_) | (refine yK.at_ 2 ?_; refine yK.w rfl rfl (by exact zT rfl rfl rfl rfl rfl (by rfl) (by exact Nat.le_of_ble_eq_true rfl) rfl rfl) ?_) | (refine yK.at_ 3 ?_; refine yK.w rfl rfl (by exact zT rfl rfl rfl rfl rfl (by rfl) (by exact Nat.le_of_ble_eq_true rfl) rfl rfl) ?_))
      all_goals exact ⟨by first | exact .inl rfl | exact .inr rfl, _, Sub.refl _, .tup (rs := [.cell 8 33, .cell 9 38, .tmp 10]) (l := [Wd.pv ⟨t', c', ws', root', r0', r1'⟩, outV o'.e o'.is o'.n o'.w, .val (.bool true)]) rfl (by decide) (.cons (.cellN rfl rfl (by rfl) (by rfl)) (.cons (.cellN rfl rfl (by rfl) (by rfl)) (.cons (.tmp rfl) .nil)))⟩
    | ask q kq =>
      have hq : qW q := hfi.1
      rw [wT] at hrun
      have hrun2 : (kq (doX ⟨t', c', ws', root', r0', r1'⟩ me q false).2).run (wSt me qB) ((doX ⟨t', c', ws', root', r0', r1'⟩ me q false).1, n + 1) = .done o (W', m) := hrun
      have hle := wSt_le hrun2
      dsimp only at hle
      have c1 := next_needW L hL c' me ht0 hop (after_need haf) hq
      have hdo := doX_ok hok hq me false
      have hkeep := doX_keeps ⟨t', c', ws', root', r0', r1'⟩ me q false
      have hme' : me < r0'.length := by have : r0'.length = r0.length := hrl; omega
      have c2 := doX_fn hok (by omega) hq (me := me) hme' false
      have haf2 := after_snoc (doX ⟨t', c', ws', root', r0', r1'⟩ me q false).2 haf
      generalize hde : doX ⟨t', c', ws', root', r0', r1'⟩ me q false = dd at *
      obtain ⟨W2, r⟩ := dd
      dsimp only at hrun2 hle c2 hdo hkeep haf2
      have g3 : IntKind.i64.wrap ((n : Int) + 1) = ((n + 1 : Nat) : Int) := by rw [wrap_i64 _ (by omega)]; omega
      have g4 : ∀ e ∈ L.map resV, e.cells.length = 3 := resV_cells L
      have g5 : ∀ e ∈ [resV r], e.cells.length = 3 := fun e he => by simp at he; subst he; rfl
      have g10 : ((L.map resV).length + ([resV r] : List PV).length) * 40 ≤ 140737488355328 ∧ (L.map resV).length + ([resV r] : List PV).length ≤ maxLen := by
        simp only [List.length_map, List.length_cons, List.length_nil, maxLen]
        omega
      have hnext : n + 1 ≤ m ∧ W2.t = t' ∧ W2.r0.length = r0.length ∧ WdOK (B + 1000 * (n + 1)) W2 ∧ (L ++ [r]).length = n + 1 ∧ (∀ x ∈ L ++ [r], U x.n) ∧ (opL t' k u v w).after (L ++ [r]) = some (kq r) ∧ (kq r).xP yes (many - (n + 1)) ∧ (kq r).run (wSt me qB) (W2, n + 1) = .done o (W', m) :=
        ⟨hle, hkeep.1, hkeep.2.2.1.trans hrl, hdo.1.le (by omega), by simp [hl], (fun x hx => by
          rcases List.mem_append.1 hx with hx | hx
          · exact hru x hx
          · simp at hx; subst hx; exact hdo.2), haf2, Pr.xP.le (by omega) (hfi.2 r hdo.2), hrun2⟩
      have ps_ := trivial
      repeat' (first | (refine zY.is ?_; first | refine zY.nil ?_ | (refine zY.at_ 23 rfl ?_; refine zY.rc (.v vX (.v yF (.v yF (.v yF (.m yD (.m yD (.w yZ (.w yZ (.v zO .e))))))))) ?_) | (refine zY.at_ 40 rfl ?_; refine zY.rc (.v vX (.v yF (.v yF (.m yD (.m yD (.w yZ (.w yZ .e))))))) ?_) | (refine zY.in_ [33] rfl ?_; refine zY.v rfl rfl (yP (c1) rfl rfl rfl (by decide)) ?_) | (refine zY.in_ [44] rfl ?_; refine zY.v rfl rfl (yP (c2) rfl rfl rfl (by decide)) ?_)) | (refine zZ.is ?_; first | refine zZ.seq ?_ | (refine zZ.isR (id := 6) ?_; refine zZ.rc [1, 3, 4, 6, 8, 9, 10, 11, 12, 13, 14, 15, 16, 17, 20, 37] [4, 6, 8, 9, 11, 13, 14, 16, 17, 50] (r := (.v zB .e)) (h := ?_)) | (refine zZ.isR (id := 8) ?_; refine zZ.rc [1, 3, 4, 6, 8, 9, 10, 11, 12, 13, 14, 15, 16, 17, 20, 37] [4, 6, 8, 9, 11, 13, 14, 16, 17, 50] (r := (.v xI (.v zB (.v xI .e)))) (h := ?_)) | (refine zZ.isR (id := 9) ?_; refine zZ.rc [1, 3, 4, 6, 8, 9, 10, 11, 12, 13, 14, 15, 16, 17, 20, 37] [4, 6, 8, 9, 11, 13, 14, 16, 17, 50] (r := (.v xI (.w yZ .e))) (h := ?_)) | (refine zZ.isR (id := 10) ?_; refine zZ.rc [1, 3, 4, 6, 8, 9, 10, 11, 12, 13, 14, 15, 16, 17, 20, 37] [4, 6, 8, 9, 11, 13, 14, 16, 17, 50] (r := (.v v0_1 (.v xI (.v v20_0 (.w w55_3 (.v v1_1 .e)))))) (h := ?_)) | (refine zZ.isR (id := 4) ?_; refine zZ.rc [1, 3, 4, 6, 8, 9, 10, 11, 12, 13, 14, 15, 16, 17, 20, 37] [4, 6, 8, 9, 11, 13, 14, 16, 17, 50] (r := (.v zB (.v vL (.v zO .e)))) (h := ?_)) | refine zZ.y9 rfl bA ?_ | refine zZ.skip ?_) | refine zS.n ?_ | refine yE.n ?_)
      all_goals
        refine ⟨⟨n + 1, W2, L ++ [r], kq r⟩, ?_, hnext, by dsimp only; omega⟩
        show Sub _ (aloneS me k u v w most ⟨n + 1, W2, L ++ [r], kq r⟩)
        unfold aloneS
        dsimp only
        rw [List.map_append]
        refine zN (is := [1, 3, 4, 6, 8, 9, 10, 11, 12]) (js := [4, 6, 8, 9, 11]) ?_ ?_
        repeat' first | exact zW.nil | apply zW.p rfl | apply zW.ptr rfl | apply zW.own rfl | apply zW.clo rfl | apply zW.ifp rfl | apply zW.pt rfl | apply zW.tup rfl | apply zW.skip
        repeat' first | exact zX.nil | apply zX.boxP rfl rfl | apply zX.yG rfl | (apply zX.at0; exact zK rfl (H.nk _).1 (by repeat' fail)) | (apply zX.at1; exact zK rfl (H.nk _).2.1 (by repeat' fail)) | (apply zX.at2; exact zK rfl (H.nk _).2.2 (by repeat' fail)) | apply zX.some rfl | apply zX.skip
end Go.Proofs.YteadaggehndacaaDoor
/- New disks (reference): contract. -/
namespace Go.Proofs.YteadaggehndacaaDoor
set_option maxRecDepth 100000
set_option maxHeartbeats 16000000
open Go Go.RowKit
set_option linter.unusedSimpArgs false
attribute [local irreducible] zY zZ Step zQ Sub zM zP Fn
def zStr : PV := .agg [.val (.slice none 0 0), .val (.int .i64 0)]
theorem flat_zs : ∀ t : Nat, PL0s (flat (List.replicate t zStr)) (flat (strs (List.replicate t ([], 0))))
  | 0 => .nil
  | t + 1 => .cons .nil (.cons (.refl _) (flat_zs t))
theorem zStr_cells (t : Nat) : ∀ e ∈ List.replicate t zStr, e.cells.length = 2 := fun e he => by
  rw [List.eq_of_mem_replicate he]
  rfl
theorem new7_fn (t : Nat) (h1 : 1 ≤ t) (h64 : t ≤ 64) : Fn Tryd.prog 24 [.val (.int .i64 t)] (.tup [w9 0 (List.replicate t ([], 0)) (List.replicate t ([], 0)), .val (.int .i64 0)]) := by
  have g1 : decide ((t : Int) < 1) = false := decide_eq_false (by omega)
  have g2 : decide ((64 : Int) < t) = false := decide_eq_false (by omega)
  have g3 : t * 2 ≤ 16777216 ∧ 32 * t ≤ 281474976710656 ∧ t ≤ maxLen := by simp only [maxLen]; omega
  have g4 := zStr_cells t
  refine Fn.weakT (l := [.agg [.val (.int .u64 0), .sl (List.replicate t zStr), .sl (List.replicate t zStr)], .val (.int .i64 0)]) ?_ (.cons (.agg (.cons (.refl _) (.cons (.sl (by simp [strs]) (flat_zs t)) (.cons (.sl (by simp [strs]) (flat_zs t)) .nil)))) (.cons (.refl _) .nil))
  refine yU Tryd.func24 rfl Tryd.ntmps24 (Nat.le_of_ble_eq_true rfl) ?_
  repeat' ((refine zZ.is ?_; first | refine zZ.seq ?_ | (refine zZ.iq 0 ?_; refine zZ.rqb _ K_9 K_q ?_; (refine zY.m rfl rfl (yQ rfl (by decide) rfl (by decide)) ?_); (refine zY.v rfl rfl (zV rfl rfl rfl (by decide)) ?_); refine zY.nil ?_) | (refine zZ.iq 1 ?_; refine zZ.rqc _ K_k K_q ?_; all_goals (refine zY.v rfl rfl (zJ rfl rfl rfl (by decide)) ?_); all_goals (refine zY.v rfl rfl (by exact wB rfl rfl rfl (by exact g1) rfl (by decide)) ?_); all_goals (refine zY.v rfl rfl (zJ rfl rfl rfl (by decide)) ?_); all_goals (refine zY.gY rfl rfl (by decide) rfl (by with_reducible rfl) rfl (by decide) (zJ rfl rfl rfl (by decide)) ?_); all_goals (refine zY.gY rfl rfl (by decide) rfl (by with_reducible rfl) rfl (by decide) (by exact r_gtr rfl rfl rfl (by exact g2) rfl (by decide)) ?_); all_goals (refine zY.v rfl rfl (by exact wK rfl rfl (by with_reducible rfl) rfl rfl (by decide)) ?_); all_goals (refine zY.nil ?_)) | (refine zZ.iq 3 ?_; refine zZ.rqc _ K_k K_q ?_; (refine zY.m rfl rfl (yQ rfl (by decide) rfl (by decide)) ?_); refine zY.nil ?_) | (refine zZ.iq 4 ?_; refine zZ.rqc _ K_w K_q ?_; (refine zY.v rfl rfl (zJ rfl rfl rfl (by decide)) ?_); (refine zY.m rfl rfl (by exact w_makeVN rfl rfl rfl (by exact g3) rfl (by decide) (by rfl) rfl (by decide)) ?_); (refine zY.v rfl rfl (zA rfl rfl rfl (by decide)) ?_); (refine zY.v rfl rfl (by exact wP rfl rfl rfl (by omega) rfl (by decide)) ?_); (refine zY.w rfl (by exact w_storeO rfl rfl rfl rfl rfl rfl (by exact Nat.le_of_ble_eq_true rfl) rfl rfl) ?_); refine zY.nil ?_) | (refine zZ.iq 5 ?_; refine zZ.rqj _ K_w K_q ?_; (refine zY.v rfl rfl (zJ rfl rfl rfl (by decide)) ?_); (refine zY.m rfl rfl (by exact w_makeVN rfl rfl rfl (by exact g3) rfl (by decide) (by rfl) rfl (by decide)) ?_); (refine zY.v rfl rfl (zA rfl rfl rfl (by decide)) ?_); (refine zY.v rfl rfl (by exact wP rfl rfl rfl (by omega) rfl (by decide)) ?_); (refine zY.w rfl (by exact w_storeO rfl rfl rfl rfl rfl rfl (by exact Nat.le_of_ble_eq_true rfl) rfl rfl) ?_); refine zY.nil ?_) | (refine zZ.isR (id := 6) ?_; refine zZ.sub (sub_frz (id := 13) rfl) ?_; refine zZ.sub (sub_frz (id := 17) rfl) ?_; refine zZ.rqc _ K_h K_q ?_; (refine zY.v rfl rfl (zR rfl rfl rfl (by rfl) (by rfl) rfl (by decide)) ?_); (refine zY.w rfl (by exact zT rfl rfl rfl rfl rfl (by rfl) (by exact Nat.le_of_ble_eq_true rfl) rfl rfl) ?_); (refine zY.v rfl rfl (zV rfl rfl rfl (by decide)) ?_); refine zY.nil ?_) | refine zZ.y9 rfl (by first | assumption | with_reducible rfl) ?_ | refine zZ.skip ?_ | refine zZ.ret ?_))
  all_goals exact ⟨by first | exact .inl rfl | exact .inr rfl, _, Sub.refl _, .tup (rs := [.cell 2 31, .tmp 3]) (l := [.agg [.val (.int .u64 0), .sl (List.replicate t zStr), .sl (List.replicate t zStr)], .val (.int .i64 0)]) rfl (by decide) (.cons (.cellN rfl rfl (by rfl) (by rfl)) (.cons (.tmp rfl) .nil))⟩
end Go.Proofs.YteadaggehndacaaDoor
/- Structs that hold an own row's slice: what a function hands back. Generic over the program. -/
namespace Go.Proofs.YteadaggehndacaaDoor
set_option maxRecDepth 100000
set_option maxHeartbeats 16000000
open Go Go.RowKit
set_option linter.unusedVariables false
set_option linter.unusedSimpArgs false
/-- a struct's cells, pure ones and own rows' slices -/
def cls : List AV → Option (List Cl)
  | [] => some []
  | .p x :: r => (cls r).map (.p x :: ·)
  | .own id :: r => (cls r).map (.o id :: ·)
  | _ :: _ => none
theorem cls_spec : ∀ {xs : List AV} {cs : List Cl}, cls xs = some cs → xs = cs.map Cl.av
  | [], cs, h => by cases h; rfl
  | .p x :: r, cs, h => by
    unfold cls at h
    rw [Option.map_eq_some_iff] at h
    obtain ⟨l, h1, rfl⟩ := h
    rw [cls_spec h1]; rfl
  | .own id :: r, cs, h => by
    unfold cls at h
    rw [Option.map_eq_some_iff] at h
    obtain ⟨l, h1, rfl⟩ := h
    rw [cls_spec h1]; rfl
  | .any :: _, _, h => by cases h
  | .ptr _ _ :: _, _, h => by cases h
  | .pt _ :: _, _, h => by cases h
  | .tup _ :: _, _, h => by cases h
  | .clo _ _ :: _, _, h => by cases h
  | .glob _ :: _, _, h => by cases h
  | .ifp _ _ :: _, _, h => by cases h
  | .ag _ :: _, _, h => by cases h
theorem clOK_of {M : Nat → Nat → Prop} {ρ : Nat → Value} {w : World} {c : Cl} {v : Value} (h : yH M ρ w c.av v) : ClOK M ρ w c v := by
  cases c with
  | p x => exact rep_p h
  | o id => exact qL h
theorem repA_ag {M : Nat → Nat → Prop} {ρ : Nat → Value} {w : World} {xs : List AV} {ys : List Value} {cs : List Cl} (h : yM M ρ w xs ys) (hc : xs = cs.map Cl.av) : yH M ρ w (.ag cs) (.agg ys.toArray) := by
  subst hc
  refine .ag cs ys (by simpa using h.len) (fun i c v h1 h2 => clOK_of (h.each i c.av v (by rw [List.getElem?_map, h1]; rfl) h2)) h.one
section
variable {P : Program} {n : Nat} {o : Oper} {S : AS} {d : Nat} {x : Operand} {t : TypeId}
theorem w_extractAg {avs : List AV} {i : Nat} {cs : List Cl} (ho : o.op = .extract x i) (hx : S.get x = .tup avs) (hi : avs[i]? = some (.ag cs)) (hd : o.dst = some d) (hn : d < n) : zQ P n o S [] (.ag cs) none :=
  zQ.pure hd hn fun S2 hg _ M w0 ρ a w hs => by
    have h1 := hs.rep x
    rw [hg x (by rw [ho]; simp [Op.operands]), hx] at h1
    generalize hev : a.eval x = ev at h1
    cases h1 with
    | tup _ vs hl h =>
      have hlt : i < vs.length := by rw [hl]; exact (List.getElem?_eq_some_iff.1 hi).1
      refine ⟨vs[i], w, ?_, Below.refl _ _, h i _ _ hi (List.getElem?_eq_getElem hlt)⟩
      unfold execOp
      rw [ho]
      simp [hev, Instr.extract, hlt]
theorem w_loadAg {id off m : Nat} {b : Blk} {cs : List Cl} [h : TyA P t true m] (ho : o.op = .load t x) (hx : S.get x = .ptr id off) (hb : S.blk id = some b) (hc : cls ((b.xs.drop off).take m) = some cs) (hl : cs.length = m) (hd : o.dst = some d) (hn : d < n) : zQ P n o S [id] (.ag cs) none :=
  zQ.pure hd hn fun S2 hg hbl M w0 ρ a w hs => by
    have h1 := hs.rep x
    rw [hg x (by rw [ho]; simp [Op.operands]), hx] at h1
    obtain ⟨g, hgv, hv⟩ := vD h1
    have hb2 : S2.blk id = some b := (hbl id (by simp)).trans hb
    obtain ⟨ys, hcs, hcell⟩ := (hs.blks id b hb2).cells hgv
    have hcm := cls_spec hc
    have hlen : ((b.xs.drop off).take m).length = m := by rw [hcm, List.length_map, hl]
    have hlen2 : ((ys.drop off).take m).length = m := by
      simp only [List.length_take, List.length_drop] at hlen ⊢
      rw [hcs.len]
      exact hlen
    have get : ∀ (j : Nat) y, ((ys.drop off).take m)[j]? = some y → j < m ∧ ys[off + j]? = some y := by
      intro j y hy
      rw [List.getElem?_take] at hy
      split at hy
      · rename_i hj
        rw [List.getElem?_drop] at hy
        exact ⟨hj, hy⟩
      · cases hy
    refine ⟨.agg ((ys.drop off).take m).toArray, w, ?_, Below.refl _ _, repA_ag (xs := (b.xs.drop off).take m) ⟨by rw [hlen, hlen2], fun i c v h1 h2 => ?_, fun v hv => hcs.one v (List.mem_of_mem_drop (List.mem_of_mem_take hv))⟩ hcm⟩
    · unfold execOp
      rw [ho]
      have := loadAt_many (P := P) (w := w) (t := t) (g := g) (o := off) (ys := (ys.drop off).take m) (h.ag w) (h.sz w) hlen2 (fun j y hy => (hcell (off + j) y (get j y hy).2).1)
      simp only [hv, Sem.run_bind, this]
      rfl
    · obtain ⟨hj, hy⟩ := get i v h2
      rw [List.getElem?_take, if_pos hj, List.getElem?_drop] at h1
      exact hcs.each (off + i) c v h1 hy
def ownB (id : Nat) (av : AV) : Bool := av.qJ || (match av with
  | .own j => j == id
  | _ => false)
/-- a struct's literal that holds own row id (0: none) -/
theorem w_buildAg (id : Nat) {ps : Array (Nat × Operand)} {pl : List (Nat × Nat)} {z : Value} {zs : List AV} {cs : List Cl} {b : Blk} [hb : BuildA P t pl] [hz : ZeroA P t z] (ho : o.op = .build t ps) (h1 : z.cells.toList.all (fun u => u.oneCell') = true)
    (hk : ps.toList.all (fun p => ownB id (S.get p.2)) = true) (hbk : S.blk id = some b) (hrow : b.isRow = true)
    (hf : fillA (fun i => pl[i]?) (z.cells.toList.map fun u => .p (.val u)) (ps.toList.map fun p => (p.1, S.get p.2)) = some zs) (hp : cls zs = some cs) (hd : o.dst = some d) (hn : d < n) : zQ P n o S [id] (.ag cs) none :=
  zQ.pure hd hn fun S2 hg hbl M w0 ρ a w hs => by
    have hargs : ∀ p ∈ ps.toList, S2.get p.2 = S.get p.2 := fun p hp => hg p.2 (by rw [ho]; simp only [Op.operands, List.mem_map]; exact ⟨p, hp, rfl⟩)
    have hb2 : S2.blk id = some b := (hbl id (by simp)).trans hbk
    have parts : ∀ p ∈ ps.toList, yM (Mut M S2 ρ) ρ w (S.get p.2).wZ (a.eval p.2).cells.toList := fun p hp => by
      have h := List.all_eq_true.1 hk p hp
      have hrep := hs.rep p.2
      rw [hargs p hp] at hrep
      generalize hav : S.get p.2 = av at h hrep ⊢
      cases hpo : av.qJ with
      | true => exact repA_cells hrep hpo
      | false =>
        unfold ownB at h
        rw [hpo, Bool.false_or] at h
        cases av with
        | own j =>
          obtain rfl : j = id := by simpa using h
          exact cells_own hs hb2 hrow hrep
        | _ => cases h
    obtain ⟨us, h3, h4⟩ := fill_rep (fun i => pl[i]?) S.get a.eval ps.toList _ zs z.cells.toList parts hf (zerosA fun u hu => List.all_eq_true.1 h1 u hu)
    refine ⟨.agg us.toArray, w, ?_, Below.refl _ _, repA_ag h4 (cls_spec hp)⟩
    unfold execOp
    rw [ho]
    have e : (ps.map fun (i, x) => (i, a.eval x)) = (ps.toList.map fun p => (p.1, a.eval p.2)).toArray := by apply Array.ext'; simp
    simp only [e, Sem.run_bind, run_build (P := P) (t := t) (pl := pl) (z := z) _ w _ h3]
    rfl
/-- without one -/
theorem w_buildAg0 {ps : Array (Nat × Operand)} {pl : List (Nat × Nat)} {z : Value} {zs : List AV} {cs : List Cl} [hb : BuildA P t pl] [hz : ZeroA P t z] (ho : o.op = .build t ps) (h1 : z.cells.toList.all (fun u => u.oneCell') = true)
    (hk : ps.toList.all (fun p => (S.get p.2).qJ) = true)
    (hf : fillA (fun i => pl[i]?) (z.cells.toList.map fun u => .p (.val u)) (ps.toList.map fun p => (p.1, S.get p.2)) = some zs) (hp : cls zs = some cs) (hd : o.dst = some d) (hn : d < n) : zQ P n o S [] (.ag cs) none :=
  zQ.pure hd hn fun S2 hg _ M w0 ρ a w hs => by
    have hargs : ∀ p ∈ ps.toList, S2.get p.2 = S.get p.2 := fun p hp => hg p.2 (by rw [ho]; simp only [Op.operands, List.mem_map]; exact ⟨p, hp, rfl⟩)
    obtain ⟨us, h3, h4⟩ := fill_rep (fun i => pl[i]?) S.get a.eval ps.toList _ zs z.cells.toList (parts_ok hs hargs hk) hf (zerosA fun u hu => List.all_eq_true.1 h1 u hu)
    refine ⟨.agg us.toArray, w, ?_, Below.refl _ _, repA_ag h4 (cls_spec hp)⟩
    unfold execOp
    rw [ho]
    have e : (ps.map fun (i, x) => (i, a.eval x)) = (ps.toList.map fun p => (p.1, a.eval p.2)).toArray := by apply Array.ext'; simp
    simp only [e, Sem.run_bind, run_build (P := P) (t := t) (pl := pl) (z := z) _ w _ h3]
    rfl
end
/-! ### A function that hands back a struct with an own row -/
def Cl.at_ (d : Nat) : Cl → Cl
  | .o _ => .o d
  | .p x => .p x
structure AgRes (cs : List Cl) (t sz : Nat) (es : List PV) (M : Nat → Nat → Prop) (w w' : World) (us : List Value) (u : Value) : Prop where
  len : us.length = cs.length
  each : ∀ (i : Nat) c x, cs[i]? = some c → us[i]? = some x → match c with
    | .p y => Rep (fun k c => M k c ∨ yA u = some k) w' y x
    | .o _ => x = u
  one : ∀ x ∈ us, x.oneCell' = true
  row : ∃ ys, w'.ownsRow w.heap.size t sz u es.length ys ∧ RepL (fun k c => M k c ∨ yA u = some k) w' (flat es) ys
def agV (z : Option Value) (us : List Value) : Value := match z with
  | none => .agg us.toArray
  | some c => .tuple #[.agg us.toArray, c]
def FnAg (P : Program) (f : FuncId) (args : List PV) (cs : List Cl) (t sz : Nat) (es : List PV) (z : Option Value) : Prop :=
  ∀ (M : Nat → Nat → Prop) (w : World) (vs : List Value), Lays w ∧ (∀ g c, Tabs g → ¬ M g c) → (∀ k c, M k c → k < w.heap.size) → vs.length = args.length → (∀ (i : Nat) x v, args[i]? = some x → vs[i]? = some v → Rep M w x v) →
    Calls P f vs.toArray w fun e w' => ∃ us u, e = .returned (agV z us) ∧ AgRes cs t sz es M w w' us u ∧ Below w.heap.size w w'
/-- the results, as they lie at the end -/
inductive AgEnd (P : Program) (fn : Func) (S : AS) (cs : List Cl) (t sz : Nat) (es : List PV) : Option Value → Prop
  | one {a ty id off m k : Nat} {b : Blk} [ht : TyA P ty true m] (hr : fn.results = #[.cell a ty]) (h : S.tmp a = .ptr id off) (hb : S.blk id = some b) (hc : cls ((b.xs.drop off).take m) = some (cs.map (Cl.at_ k))) (hl : cs.length = m) (hk : S.blk k = some (yS t sz es)) : AgEnd P fn S cs t sz es none
  | two {a ty id off m k q : Nat} {b : Blk} {z : Value} [ht : TyA P ty true m] (hr : fn.results = #[.cell a ty, .tmp q]) (h : S.tmp a = .ptr id off) (hb : S.blk id = some b) (hc : cls ((b.xs.drop off).take m) = some (cs.map (Cl.at_ k))) (hl : cs.length = m) (hk : S.blk k = some (yS t sz es)) (hq : S.tmp q = .p (.val z)) : AgEnd P fn S cs t sz es (some z)
theorem ag_cell {P : Program} {M : Nat → Nat → Prop} {n : Nat} {w : World} {hl0 : Lays w} {w' : World} {S : AS} {ρ : Nat → Value} {a : Act} (hs : Sat M n (Home.plain w hl0) S ρ a w') {cs : List Cl} {t sz p ty id off m k : Nat} {es : List PV} {b : Blk} [ht : TyA P ty true m]
    (h : S.tmp p = .ptr id off) (hb : S.blk id = some b) (hc : cls ((b.xs.drop off).take m) = some (cs.map (Cl.at_ k))) (hl : cs.length = m) (hk : S.blk k = some (yS t sz es)) :
    ∃ us, (resOne a.tmps (.cell p ty)).run P w' = .ok (.agg us.toArray) w' ∧ AgRes cs t sz es M w w' us (ρ k) := by
  have h1 := hs.tmps p
  rw [h] at h1
  obtain ⟨g, hgv, hv⟩ := vD h1
  obtain ⟨ys, hcs, hcell⟩ := (hs.blks id b hb).cells hgv
  have hcm := cls_spec hc
  have hlen : ((b.xs.drop off).take m).length = m := by rw [hcm, List.length_map, List.length_map, hl]
  have hlen2 : ((ys.drop off).take m).length = m := by
    simp only [List.length_take, List.length_drop] at hlen ⊢
    rw [hcs.len]
    exact hlen
  have get : ∀ (j : Nat) y, ((ys.drop off).take m)[j]? = some y → j < m ∧ ys[off + j]? = some y := by
    intro j y hy
    rw [List.getElem?_take] at hy
    split at hy
    · rename_i hj
      rw [List.getElem?_drop] at hy
      exact ⟨hj, hy⟩
    · cases hy
  have hup : ∀ k' c, k' < w'.heap.size → (M k' c ∨ yA (ρ k) = some k') → Mut M S ρ k' c := fun k' c _ h => h.elim .inl fun h => .inr ⟨k, _, hk, h, trivial⟩
  refine ⟨(ys.drop off).take m, ?_, ⟨by rw [hlen2, hl], fun i c x h1 h2 => ?_, fun v hv => hcs.one v (List.mem_of_mem_drop (List.mem_of_mem_take hv)), ?_⟩⟩
  · have := loadAt_many (P := P) (w := w') (t := ty) (g := g) (o := off) (ys := (ys.drop off).take m) (ht.ag w') (ht.sz w') hlen2 (fun j y hy => (hcell (off + j) y (get j y hy).2).1)
    simp only [Instr.loadAt, Instr.sureAddr, Sem.run_bind, Sem.run_pure, Result.andThen_ok] at this
    simp only [resOne, hv, asAddr, Sem.run_bind, Sem.run_pure, Result.andThen_ok]
    exact this
  · obtain ⟨hj, hy⟩ := get i x h2
    have h3 : b.xs[off + i]? = some (c.at_ k).av := by
      have h4 : ((b.xs.drop off).take m)[i]? = ((cs.map (Cl.at_ k)).map Cl.av)[i]? := by rw [hcm]
      rw [List.getElem?_take, if_pos hj, List.getElem?_drop, List.getElem?_map, List.getElem?_map, h1] at h4
      exact h4
    have h5 := clOK_of (hcs.each (off + i) _ x h3 hy)
    cases c with
    | p y => exact Rep.mono h5 hup
    | o j => exact h5
  · obtain ⟨ys2, ho, hc2⟩ := hs.blks k _ hk
    refine ⟨ys2, vO ho (fun k' hk' => (hs.mine k _ k' hk hk').elim (fun h => h) (fun h => h.elim)), by simpa using hc2.len, fun i c v h3 h4 => ?_, hc2.one⟩
    exact (rep_p (hc2.each i (.p c) v (by rw [List.getElem?_map, h3]; rfl) h4)).mono hup
theorem fn_ofAg {P : Program} {f : FuncId} {fn : Func} {c : Code} {args : List PV} {cs : List Cl} {t sz : Nat} {es : List PV} {z : Option Value} {n : Nat} (hf : P.funcs[f]? = some fn) (hb : fn.body = some c) (hn : fn.ntmps = n) (hle : args.length ≤ n)
    (h : zZ P n c (AS.entry args) (fun e S => (e = .ret ∨ e = .normal) ∧ AgEnd P fn S cs t sz es z)) : FnAg P f args cs t sz es z := by
  intro M w vs hT hM hvl hvs
  refine calls_of_wp hf hb ?_
  have hsat : Sat M n (Home.plain w hT.1) (AS.entry args) (fun _ => undef) { tmps := vs.toArray ++ Array.replicate (fn.ntmps - vs.toArray.size) undef, defers := [] } w := by
    refine ⟨wF.refl (Home.plain w hT.1), (fun k c hk hh => by rcases hh with hh | hh; exact absurd (hM k c hk) (Nat.not_lt.2 hh); exact hh), hT.2, by simp; omega, rfl, fun i => ?_, (fun id b hb => by cases hb), (fun id b k hb => by cases hb), (fun k v hk => by cases hk), (fun _ _ => rfl), (fun i j bi bj k hi => by cases hi)⟩
    show yH _ _ _ ((look (zipArgs 0 args) i).getD .any) _
    rw [look_zipArgs]
    simp only [Nat.zero_le, if_true, Nat.sub_zero]
    cases hx : args[i]? with
    | none => exact .any _
    | some x =>
      have hi : i < vs.length := by rw [hvl]; exact (List.getElem?_eq_some_iff.1 hx).1
      have e : ({ tmps := vs.toArray ++ Array.replicate (fn.ntmps - vs.toArray.size) undef, defers := [] } : Act).tmps.getD i undef = vs[i] := by
        simp [Array.getD_eq_getD_getElem?, Array.getElem?_append, hi]
      rw [e]
      refine .p ((hvs i x vs[i] hx (List.getElem?_eq_getElem hi)).mono ?_)
      rintro k c _ (hk | ⟨id, b, hb, _⟩)
      · exact hk
      · cases hb
  refine h M (Home.plain w hT.1) _ _ w _ hsat ?_
  rintro e S0 ρ' a' w' ⟨he, hend⟩ hs'
  have fin : a'.defers = [] ∧ ∃ v, (results fn a'.tmps).run P w' = .ok v w' ∧ (∃ us u, Ending.returned v = .returned (agV z us) ∧ AgRes cs t sz es M w w' us u ∧ Below w.heap.size w w') := by
    refine ⟨hs'.defers, ?_⟩
    cases hend with
    | @one p ty id off m k b ht hr hp hbk hc hl hk =>
      obtain ⟨us, h1, h2⟩ := ag_cell (P := P) (ty := ty) hs' hp hbk hc hl hk
      have h5 := xO (P := P) (w := w') fn a'.tmps (rs := [_]) (vs := [.agg us.toArray]) hr (by simp only [List.mapM_cons, List.mapM_nil, Sem.run_bind, Sem.run_pure, h1, Result.andThen_ok])
      exact ⟨_, h5, us, _, rfl, h2, hs'.below.plain⟩
    | @two p ty id off m k q b z ht hr hp hbk hc hl hk hq =>
      obtain ⟨us, h1, h2⟩ := ag_cell (P := P) (ty := ty) hs' hp hbk hc hl hk
      have e3 : a'.tmps.getD q undef = z := by
        have g1 := hs'.tmps q
        rw [hq] at g1
        have g2 := rep_p g1
        generalize a'.tmps.getD q undef = u at g2
        cases g2; rfl
      have hq2 : (resOne a'.tmps (.tmp q)).run P w' = .ok z w' := by rw [← e3]; rfl
      have h5 := xO (P := P) (w := w') fn a'.tmps (rs := [_, _]) (vs := [.agg us.toArray, z]) hr (by simp only [List.mapM_cons, List.mapM_nil, Sem.run_bind, Sem.run_pure, h1, hq2, Result.andThen_ok])
      exact ⟨_, h5, us, _, rfl, h2, hs'.below.plain⟩
  intro _
  cases e with
  | ret => exact fin
  | normal => exact fin
  | exit id => rcases he with h | h <;> cases h
  | goto l => rcases he with h | h <;> cases h
  | panic c => rcases he with h | h <;> cases h
  | outgrown => rcases he with h | h <;> cases h
def agA (z : Option Value) (cs : List Cl) : AV := match z with
  | none => .ag cs
  | some c => .tup [.ag cs, .p (.val c)]
section
variable {P : Program} {n : Nat} {o : Oper} {S : AS} {d : Nat}
theorem w_callAg {f : Nat} {args : Array Operand} {ts : Array TypeId} {xs : List PV} {cs : List Cl} {e sz : Nat} {es : List PV} {z : Option Value} [hc : HasFn P f] (hf : FnAg P f xs cs e sz es z) (ho : o.op = .call { callee := .value (.func f), args := args, argTypes := ts })
    (hx : args.toList.map S.get = xs.map AV.p) (hd : o.dst = some d) (hn : d < n) : zQ P n o S [] (agA z (cs.map (Cl.at_ d))) (some (yS e sz es)) := by
  intro S2 hg _ M w0 ρ a w K Q hs hK
  have hargs : ∀ x ∈ args.toList, S2.get x = S.get x := fun x hx => hg x (by rw [ho]; simp [Op.operands, Call.operands]; exact .inr (by simpa using hx))
  have he : (execOp a.eval o).run P w = .ok (.enter f (args.map a.eval)) w := by
    unfold execOp
    rw [ho]
    simp [resolve, Deferred.ofValue, Act.eval, invoke, hc.h]
  unfold Oper.wp
  rw [he, Oper.upon_enter]
  have hlen : (args.toList.map a.eval).length = xs.length := by
    have := congrArg List.length hx
    simpa using this
  have := hf (Mut M S2 ρ) w (args.toList.map a.eval) ⟨hs.lays, hs.tabs⟩ (fun k c hk => Mut.lt hs hk) hlen (fun i x v h1 h2 => by
    rw [List.getElem?_map, Option.map_eq_some_iff] at h2
    obtain ⟨y, hy, rfl⟩ := h2
    have h3 : S.get y = .p x := by
      have h4 : (args.toList.map S.get)[i]? = (xs.map AV.p)[i]? := by rw [hx]
      rw [List.getElem?_map, List.getElem?_map, hy, h1] at h4
      simpa using h4
    exact xK hs ((hargs y (List.mem_of_getElem? hy)).trans h3))
  have e1 : (args.toList.map a.eval).toArray = args.map a.eval := by apply Array.ext'; simp
  rw [e1] at this
  refine this.mono ?_
  rintro en w' ⟨us, v, rfl, hres, hb⟩
  obtain ⟨ys, hown, hl⟩ := hres.row
  show K (a.put o.dst (agV z us)) w'
  rw [hd] at hK ⊢
  have hnew : ∀ k, yA v = some k → w.heap.size ≤ k := fun k hk => by
    rcases hown.2 with ⟨rfl, _⟩ | ⟨g, cap, cur, rfl, hg2, _⟩
    · cases hk
    · simp only [yA, Option.some.injEq] at hk; omega
  have hbk : wW (fun k c => Mut M S2 ρ k c ∨ (yA v = some k ∧ (yS e sz es).turns c)) 0 ρ w' v (yS e sz es) :=
    ⟨ys, vO hown (fun _ _ => Nat.zero_le _), ⟨by simpa using hl.len, fun i c u h1 h2 => by
      rw [List.getElem?_map, Option.map_eq_some_iff] at h1
      obtain ⟨y, hy, rfl⟩ := h1
      exact .p ((hl.each i y u hy h2).mono fun k c _ hk => hk.elim .inl fun h => .inr h.1), hl.one⟩⟩
  have hs' := hs.change d (yS e sz es) v none (hs.free d hn) (w' := w') ⟨hb.os, hb.tape, hb.output, hb.size, fun k hk _ => hb.block k hk⟩ (fun k hk => by cases hk) (fun k hk => .inl (hnew k hk)) hbk
  refine hK _ _ w' (hs'.put hn ?_)
  have hag : yH (Mut M (S2.create d (yS e sz es)) (upd ρ d v)) (upd ρ d v) w' (.ag (cs.map (Cl.at_ d))) (.agg us.toArray) := by
    refine .ag _ us (by simpa using hres.len) (fun i c x hc hx => ?_) hres.one
    rw [List.getElem?_map, Option.map_eq_some_iff] at hc
    obtain ⟨c0, hc0, rfl⟩ := hc
    have h2 := hres.each i c0 x hc0 hx
    cases c0 with
    | o j => show x = upd ρ d v d; simp only [upd, if_true]; exact h2
    | p y =>
      refine Rep.mono h2 fun k c _ hk => ?_
      rcases hk with hk | ⟨id, b, hb1, hv1, ht1⟩
      · exact .inl (.inl hk)
      · rw [AS.vC] at hb1
        by_cases hid : d = id
        · subst hid
          rw [show upd ρ d v d = v from by simp [upd]] at hv1
          exact .inr hv1
        · rw [if_neg hid, Option.map_eq_some_iff] at hb1
          obtain ⟨b0, hb0, rfl⟩ := hb1
          have hv2 : yA (ρ id) = some k := by simpa [upd, Ne.symm hid] using hv1
          exact .inl (.inr ⟨id, b0, hb0, hv2, (Blk.turns_kill b0 d c).1 ht1⟩)
  cases z with
  | none => exact hag
  | some c =>
    refine .tup [.ag (cs.map (Cl.at_ d)), .p (.val c)] [.agg us.toArray, c] rfl fun i c' x hc hx => ?_
    match i with
    | 0 => cases hc; cases hx; exact hag
    | 1 => cases hc; cases hx; exact .p (.val _)
    | i + 2 => simp at hc
end
end Go.Proofs.YteadaggehndacaaDoor
