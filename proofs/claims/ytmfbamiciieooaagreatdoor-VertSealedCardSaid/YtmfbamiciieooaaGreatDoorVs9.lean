/- Of a sealed store each operation of a vertex that may be is answered so, by one access, and turns nothing; one of a key that may not be by none. (Part 9 of 9.) -/
import Derived.Test.YtmfbamiciieooaaGreatDoorVs8
import Derived.ProofKit
import Derived.OpenShut
import Derived.Below
import Derived.LaidMore
import Derived.Deep.Fields
import Derived.Deep.Slices
import Derived.Test.YtmfbamiciieooaaGreatDoorRows
import Derived.LaidLaws
import Derived.ChangeSame
import Derived.ChangeVars
import Derived.JoinedOf
import Derived.Stop.Joined
import Derived.RowKitTokens
import Derived.Test.YtmfbamiciieooaaGreatDoorCards
import Derived.Test.YtmfbamiciieooaaGreatDoorTie
import Derived.SevenTiedAt
/- The law ListSeeks, in plain terms: the records that are laid, and what seeks and searches of them answer. Generic over the program. -/
namespace Go.Proofs.YtmfbamiciieooaaGreatDoor
set_option maxRecDepth 100000
set_option maxHeartbeats 16000000
open Go Go.RowKit
set_option linter.unusedSimpArgs false
set_option linter.unusedVariables false
/-! ### Words as a list, of words as a function -/
def ofM (n : Nat) (m : Int → Int) : List Int := (List.range n).map fun (c : Nat) => m (c : Int)
/-! ### The records that are laid -/
structure SkS where
  m : Int → Int
  key : Int
  want : Int
  any : Bool
def skL : Nat → List Bool → List (Int × Bool)
  | _, [] => []
  | i, b :: bs => ((i : Int) + 1, b) :: skL (i + 1) bs
/-- what holds behind so many rounds -/
structure SkOK (k : Int) (bs : List Bool) (s : SkS) : Prop where
  len : bs.length ≤ 10
  l : Lnk 10 s.m 0 false (skL 0 bs)
  n : ∀ r : Int, (bs.length : Int) < r → s.m (qW 1 r) = 0
  f : ∀ r : Int, 1 ≤ r → r ≤ bs.length → s.m (yK 1 r 2) = 4 * r
  e : s.m 3 = 0
  k0 : 0 ≤ s.key
  k1 : s.key ≤ 256 * bs.length
  w : s.want = (sekN (fun r => s.m (yK 1 r 1)) k (skL 0 bs)).1
  a : s.any = bs.any id
  u : ∀ c : Int, 0 ≤ c → U (s.m c)
structure SkF (i : Nat) (key : Int) (b : Bool) (m m' : Int → Int) : Prop where
  n : ∀ r : Int, 0 ≤ r → r ≠ i → r ≠ (i : Int) + 1 → m' (qW 1 r) = m (qW 1 r)
  n0 : m' (qW 1 i) = m (qW 1 i) + 2 * ((i : Int) + 1)
  n1 : m (qW 1 ((i : Int) + 1)) = 0 → m' (qW 1 ((i : Int) + 1)) = bI b
  k : ∀ r : Int, 1 ≤ r → r ≠ (i : Int) + 1 → m' (yK 1 r 1) = m (yK 1 r 1)
  k1 : m' (yK 1 ((i : Int) + 1) 1) = key
  f : ∀ r : Int, 1 ≤ r → r ≠ (i : Int) + 1 → m' (yK 1 r 2) = m (yK 1 r 2)
  f1 : m' (yK 1 ((i : Int) + 1) 2) = 4 * ((i : Int) + 1)
  e : m' 3 = m 3
end Go.Proofs.YtmfbamiciieooaaGreatDoor
/- The law ListSeeks: what a search and a seek alone answer of the records that are laid. -/
namespace Go.Proofs.YtmfbamiciieooaaGreatDoor
set_option maxRecDepth 100000
set_option maxHeartbeats 16000000
open Go Go.RowKit
set_option linter.unusedSimpArgs false
set_option linter.unusedVariables false
section
variable {k : Int} {bs : List Bool} {s : SkS}
end
end Go.Proofs.YtmfbamiciieooaaGreatDoor
/- A row of words, as it is stored in word by word: what the walk asks of it. Generic over the program. -/
namespace Go.Proofs.YtmfbamiciieooaaGreatDoor
set_option maxRecDepth 100000
set_option maxHeartbeats 16000000
open Go Go.RowKit
set_option linter.unusedSimpArgs false
set_option linter.unusedVariables false
structure RowF (n : Nat) (R : List PV) (m : Int → Int) : Prop where
  e : R = wds (ofM n m)
section
variable {n : Nat} {R : List PV} {m : Int → Int} {p : Int}
end
end Go.Proofs.YtmfbamiciieooaaGreatDoor
/- The vertices' example: by evaluation, and its contracts. -/
namespace Go.Proofs.YtmfbamiciieooaaGreatDoor
set_option maxRecDepth 100000
set_option maxHeartbeats 16000000
open Go Go.RowKit
set_option linter.unusedSimpArgs false
/-- an operation that steps alone, in a world: its contract, and what is kept -/
structure AlV (B : Nat) (me : Nat) (k u v w : Int) (most : Nat) (W : Wd) (R : ResN) : Prop where
  fn : Fn Tryz.prog 10 [W.pv, .val (.int .i64 me), opV k u v w, .val (.int .i64 most)] (.tup [R.W.pv, outV R.o.e R.o.is R.o.n R.o.w, .val (.bool true)])
  ok : WdOK (B + 100000) R.W
  t : R.W.t = W.t
  c : R.W.c = W.c
  r0 : R.W.r0.length = W.r0.length
  ws : R.W.ws.length = W.ws.length
theorem alV_of {B me : Nat} {k u v w : Int} {most : Nat} {W : Wd} {R : ResN} (hr : (vM W.t me k u).run (wSt me noFail) (W, 0) = .done R.o (R.W, R.m)) (ht : Small W.t) (h0 : 0 ≤ W.t) (hW : WdOK B W) (hme : me < W.r0.length) (hm : R.m ≤ most) (h20 : most ≤ 100) (hB : B ≤ 500000) : AlV B me k u v w most W R := by
  have hk := run_keeps (fine_vop W.t me k u) hW hr
  exact ⟨aloneV_fn B W R.W me k u v w most R.m R.o hW ht h0 hme hr hm (by omega) (by omega) (by omega), hk.2.1.le (by omega), hk.2.2.1, hk.2.2.2.1, hk.2.2.2.2.1, hk.2.2.2.2.2.1⟩
/-! ### The document's example -/
def sv0 : Wd := ⟨2, 2, newW 2 2, 0, [([], 0), ([], 0)], [([], 0), ([], 0)]⟩
def sv1 : ResN := rsN (vM 2 (0 : Nat) 11 3) 0 sv0
def sv2 : ResN := rsN (vM 2 (1 : Nat) 11 3) 1 sv1.W
def sv3 : ResN := rsN (vM 2 (0 : Nat) 13 3) 0 sv2.W
def sv4 : ResN := rsN (vM 2 (1 : Nat) 12 3) 1 sv3.W
def sv5 : ResN := rsN (vM 2 (0 : Nat) 13 3) 0 sv4.W
def sv6 : ResN := rsN (vM 2 (0 : Nat) 13 (-1)) 0 sv0
theorem sr1 : (vM 2 (0 : Nat) 11 3).run (wSt 0 noFail) (sv0, 0) = .done sv1.o (sv1.W, sv1.m) := by kernel_rfl
theorem sr2 : (vM 2 (1 : Nat) 11 3).run (wSt 1 noFail) (sv1.W, 0) = .done sv2.o (sv2.W, sv2.m) := by kernel_rfl
theorem sr3 : (vM 2 (0 : Nat) 13 3).run (wSt 0 noFail) (sv2.W, 0) = .done sv3.o (sv3.W, sv3.m) := by kernel_rfl
theorem sr4 : (vM 2 (1 : Nat) 12 3).run (wSt 1 noFail) (sv3.W, 0) = .done sv4.o (sv4.W, sv4.m) := by kernel_rfl
theorem sr5 : (vM 2 (0 : Nat) 13 3).run (wSt 0 noFail) (sv4.W, 0) = .done sv5.o (sv5.W, sv5.m) := by kernel_rfl
theorem sr6 : (vM 2 (0 : Nat) 13 (-1)).run (wSt 0 noFail) (sv0, 0) = .done sv6.o (sv6.W, sv6.m) := by kernel_rfl
theorem sr7 : sv1.o.is = true ∧ sv2.o.is = false ∧ sv3.o.is = true ∧ sv4.o.is = true ∧ sv5.o.is = false ∧ sv6.o.e = 4 := by refine ⟨?_, ?_, ?_, ?_, ?_, ?_⟩ <;> kernel_rfl
theorem sr8 : sv1.m ≤ 99 ∧ sv2.m ≤ 99 ∧ sv3.m ≤ 99 ∧ sv4.m ≤ 99 ∧ sv5.m ≤ 99 ∧ sv6.m ≤ 0 := by refine ⟨?_, ?_, ?_, ?_, ?_, ?_⟩ <;> exact Nat.le_of_ble_eq_true (by kernel_rfl)
theorem sv0_ok : WdOK 0 sv0 := ⟨fun x hx => newW_U (by decide) x hx, by show (newW 2 2).length ≤ _; rw [newW_len]; decide, rfl, by decide, fun p hp => by
    have hp : p ∈ [(([] : List Int), (0 : Int)), ([], 0)] := hp
    simp only [List.mem_cons, List.not_mem_nil, or_false] at hp
    rcases hp with rfl | rfl <;> exact Nat.le_refl _⟩
theorem al_sv : AlV 0 0 11 3 0 0 99 sv0 sv1 ∧ AlV 100000 1 11 3 0 0 99 sv1.W sv2 ∧ AlV 200000 0 13 3 0 0 99 sv2.W sv3 ∧ AlV 300000 1 12 3 0 0 99 sv3.W sv4 ∧ AlV 400000 0 13 3 0 0 99 sv4.W sv5 ∧ AlV 0 0 13 (-1) 0 0 0 sv0 sv6 := by
  obtain ⟨m1, m2, m3, m4, m5, m6⟩ := sr8
  have hs : Small 2 := by unfold Small; omega
  have h2 : (0 : Int) ≤ 2 := by decide
  have a1 : AlV 0 0 11 3 0 0 99 sv0 sv1 := alV_of sr1 hs h2 sv0_ok (by decide) m1 (by decide) (by decide)
  have t1 : sv1.W.t = 2 := a1.t
  have r1 : sv1.W.r0.length = 2 := a1.r0
  have a2 : AlV 100000 1 11 3 0 0 99 sv1.W sv2 := alV_of (by rw [t1]; exact sr2) (by rw [t1]; exact hs) (by rw [t1]; exact h2) a1.ok (by omega) m2 (by decide) (by decide)
  have t2 : sv2.W.t = 2 := a2.t.trans t1
  have r2 : sv2.W.r0.length = 2 := a2.r0.trans r1
  have a3 : AlV 200000 0 13 3 0 0 99 sv2.W sv3 := alV_of (by rw [t2]; exact sr3) (by rw [t2]; exact hs) (by rw [t2]; exact h2) a2.ok (by omega) m3 (by decide) (by decide)
  have t3 : sv3.W.t = 2 := a3.t.trans t2
  have r3 : sv3.W.r0.length = 2 := a3.r0.trans r2
  have a4 : AlV 300000 1 12 3 0 0 99 sv3.W sv4 := alV_of (by rw [t3]; exact sr4) (by rw [t3]; exact hs) (by rw [t3]; exact h2) a3.ok (by omega) m4 (by decide) (by decide)
  have t4 : sv4.W.t = 2 := a4.t.trans t3
  have r4 : sv4.W.r0.length = 2 := a4.r0.trans r3
  exact ⟨a1, a2, a3, a4, alV_of (by rw [t4]; exact sr5) (by rw [t4]; exact hs) (by rw [t4]; exact h2) a4.ok (by omega) m5 (by decide) (by decide), alV_of sr6 hs h2 sv0_ok (by decide) m6 (by decide) (by decide)⟩
end Go.Proofs.YtmfbamiciieooaaGreatDoor
/- The vertices' example: contract. -/
namespace Go.Proofs.YtmfbamiciieooaaGreatDoor
set_option maxRecDepth 100000
set_option maxHeartbeats 16000000
open Go Go.RowKit
set_option linter.unusedSimpArgs false
set_option linter.unusedVariables false
attribute [local irreducible] zY zZ Step zX Sub zD zF Fn zB zP
theorem shown16_fn : Fn Tryz.prog 8 [] (.p (.val (.bool true))) := by
  have c0 := new10A_fn 2 2 (by decide) (by decide) (by decide) (by decide)
  obtain ⟨a1, a2, a3, a4, a5, a6⟩ := al_sv
  have c1 := a1.fn
  have c2 := a2.fn
  have c3 := a3.fn
  have c4 := a4.fn
  have c5 := a5.fn
  have c6 := a6.fn
  clear a1 a2 a3 a4 a5 a6
  obtain ⟨z1, z2, z3, z4, z5, z6⟩ := sr7
  generalize sv1 = q1 at *
  generalize sv2 = q2 at *
  generalize sv3 = q3 at *
  generalize sv4 = q4 at *
  generalize sv5 = q5 at *
  generalize sv6 = q6 at *
  obtain ⟨⟨e1, s1, n1, w1⟩, ⟨t1, u1, ws1, root1, r01, r11⟩, m1⟩ := q1
  obtain ⟨⟨e2, s2, n2, w2⟩, ⟨t2, u2, ws2, root2, r02, r12⟩, m2⟩ := q2
  obtain ⟨⟨e3, s3, n3, w3⟩, ⟨t3, u3, ws3, root3, r03, r13⟩, m3⟩ := q3
  obtain ⟨⟨e4, s4, n4, w4⟩, ⟨t4, u4, ws4, root4, r04, r14⟩, m4⟩ := q4
  obtain ⟨⟨e5, s5, n5, w5⟩, ⟨t5, u5, ws5, root5, r05, r15⟩, m5⟩ := q5
  obtain ⟨⟨e6, s6, n6, w6⟩, ⟨t6, u6, ws6, root6, r06, r16⟩, m6⟩ := q6
  dsimp only at z1 z2 z3 z4 z5 z6
  subst z1 z2 z3 z4 z5 z6
  have g0 : sv0 = ⟨2, 2, newW 2 2, 0, [([], 0), ([], 0)], [([], 0), ([], 0)]⟩ := rfl
  rw [g0] at c1 c6
  dsimp only [Wd.pv, xK] at c1 c2 c3 c4 c5 c6
  generalize newW 2 2 = nw at *
  clear g0
  refine z8 Tryz.func8 rfl Tryz.ntmps8 (Nat.le_of_ble_eq_true rfl) ?_
  repeat' (first | (refine zY.is ?_; first | refine zY.nil ?_ | (refine zY.at_ 1 rfl ?_; refine zY.rc (.m zS (.w zR .e)) ?_) | (refine zY.at_ 21 rfl ?_; refine zY.rc (.v wQ (.v yV (.v yV (.v yV (.m zS (.m zS (.w zR (.w zR (.v zK .e))))))))) ?_) | (refine zY.at_ 28 rfl ?_; refine zY.rc (.v wQ (.v yV (.v yV (.v yV (.m zS (.m zS (.w zR (.w zR (.v zK .e))))))))) ?_) | (refine zY.at_ 35 rfl ?_; refine zY.rc (.v wQ (.v yV (.v yV (.v yV (.m zS (.m zS (.w zR (.w zR (.v zK .e))))))))) ?_) | (refine zY.at_ 42 rfl ?_; refine zY.rc (.v wQ (.v yV (.v yV (.v yV (.m zS (.m zS (.w zR (.w zR (.v zK .e))))))))) ?_) | (refine zY.at_ 49 rfl ?_; refine zY.rc (.v wQ (.v yV (.v yV (.v yV (.m zS (.m zS (.w zR (.w zR (.v zK .e))))))))) ?_) | (refine zY.at_ 56 rfl ?_; refine zY.rc (.v wQ (.v yV (.v yV (.v yV (.m zS (.m zS (.w zR (.w zR (.v zK .e))))))))) ?_) | (refine zY.in_ [24] rfl ?_; refine zY.v rfl rfl (yS (c1) rfl rfl rfl (by decide)) ?_) | (refine zY.in_ [31] rfl ?_; refine zY.v rfl rfl (yS (c2) rfl rfl rfl (by decide)) ?_) | (refine zY.in_ [38] rfl ?_; refine zY.v rfl rfl (yS (c3) rfl rfl rfl (by decide)) ?_) | (refine zY.in_ [45] rfl ?_; refine zY.v rfl rfl (yS (c4) rfl rfl rfl (by decide)) ?_) | (refine zY.in_ [52] rfl ?_; refine zY.v rfl rfl (yS (c5) rfl rfl rfl (by decide)) ?_) | (refine zY.in_ [59] rfl ?_; refine zY.v rfl rfl (yS (c6) rfl rfl rfl (by decide)) ?_) | (refine zY.in_ [20] rfl ?_; refine zY.m rfl rfl (w_callAg c0 rfl rfl rfl (by decide)) ?_)) | (refine zZ.is ?_; first | refine zZ.seq ?_ | (refine zZ.isR (id := 0) ?_; refine zZ.rc [] [1, 2, 3, 5, 6, 8, 9, 11, 12, 14, 15, 17, 18, 20, 24, 31, 38, 45, 52, 59] (r := (.v zK .e)) (h := ?_)) | (refine zZ.isR (id := 1) ?_; refine zZ.rc [0] [1, 2, 3, 5, 6, 8, 9, 11, 12, 14, 15, 17, 18, 20, 24, 31, 38, 45, 52, 59] (r := .e) (h := ?_)) | (refine zZ.isR (id := 2) ?_; refine zZ.sub ((sub_frzE 20 27 1 (wds nw) rfl)) ?_; refine zZ.rc [0, 1] [1, 2, 3, 5, 6, 8, 9, 11, 12, 14, 15, 17, 18, 20, 24, 31, 38, 45, 52, 59] (r := (.v yU (.v y9 .e))) (h := ?_)) | (refine zZ.isR (id := 3) ?_; refine zZ.rc [0, 1, 2, 3, 4] [1, 2, 3, 5, 6, 8, 9, 11, 12, 14, 15, 17, 18, 20, 24, 31, 38, 45, 52, 59] (r := (.v yU (.v y9 .e))) (h := ?_)) | (refine zZ.isR (id := 4) ?_; refine zZ.rc [0, 1, 3, 4, 5, 6, 7] [1, 2, 3, 5, 6, 8, 9, 11, 12, 14, 15, 17, 18, 20, 24, 31, 38, 45, 52, 59] (r := (.v yU (.v y9 .e))) (h := ?_)) | (refine zZ.isR (id := 5) ?_; refine zZ.rc [0, 1, 3, 4, 6, 7, 8, 9, 10] [1, 2, 3, 5, 6, 8, 9, 11, 12, 14, 15, 17, 18, 20, 24, 31, 38, 45, 52, 59] (r := (.v yU (.v y9 .e))) (h := ?_)) | (refine zZ.isR (id := 6) ?_; refine zZ.rc [0, 1, 3, 4, 6, 7, 9, 10, 11, 12, 13] [1, 2, 3, 5, 6, 8, 9, 11, 12, 14, 15, 17, 18, 20, 24, 31, 38, 45, 52, 59] (r := (.v yU (.v y9 .e))) (h := ?_)) | (refine zZ.isR (id := 7) ?_; refine zZ.rc [0, 1, 3, 4, 6, 7, 9, 10, 12, 13, 15, 16] [1, 2, 3, 5, 6, 8, 9, 11, 12, 14, 15, 17, 18, 20, 24, 31, 38, 45, 52, 59] (r := (.v yU (.v y9 .e))) (h := ?_)) | (refine zZ.isR (id := 8) ?_; refine zZ.rc [0, 3, 4, 6, 7, 9, 10, 12, 13, 15, 16, 18, 19] [1, 2, 3, 5, 6, 8, 9, 11, 12, 14, 15, 17, 18, 20, 24, 31, 38, 45, 52, 59] (r := (.v zV (.v zV (.gY zV (.v y8 (.v zV (.gY zV (.v y8 (.v zV (.gY zV (.v y8 (.v zV (.gY zV (.v y8 (.v zV (.gY zV (.v y8 (.v zV (.gY zH (.gY zN (.v y8 (.v zV (.gY zH (.gY zN (.gY v52_4 (.v y8 (.v zV (.gY zH (.gY zN (.v y8 (.v zV (.gY zH (.gY zN (.v y8 (.v zV (.gY zH (.gY zN (.gY v52_4 (.v y8 (.v zV (.gY zH (.gY zN (.gY v41_4 (.v y8 (.v zK .e))))))))))))))))))))))))))))))))))))))))))))) (h := ?_)) | refine zZ.ret ?_) | refine zB.n ?_)
  all_goals exact ⟨by first | exact .inl rfl | exact .inr rfl, _, Sub.refl _, .p rfl (.tmp rfl)⟩
end Go.Proofs.YtmfbamiciieooaaGreatDoor
/- Drawn regions, where what is taken out of a tuple may come behind a store. Generic over the program; written by gen_late.py. -/
namespace Go.Proofs.YtmfbamiciieooaaGreatDoor
set_option maxRecDepth 100000
set_option maxHeartbeats 16000000
open Go Go.RowKit
set_option linter.unusedSimpArgs false
set_option linter.unusedVariables false
section
variable {P : Program} {n : Nat} {S : AS}
end
def lateO : List Nat → Oper → Oper
  | [], o => o
  | x :: xs, o => { o with after := ((x :: xs).map (fun i => (⟨i, .data⟩ : Edge)) ++ o.after.toList).toArray }
/-- these operations come behind more of the others -/
def lateL : List Oper → List (List Nat) → List Oper
  | o :: l, a :: ad => lateO a o :: lateL l ad
  | [], _ => []
  | l, [] => l
/-- a region that draws its order, told in the order of more edges -/
def DrawsL (P : Program) (n : Nat) (id : Nat) (l : List Oper) (ad : List (List Nat)) (S0 : AS) (K : Exit → AS → Prop) (rev : List AI) (S : AS) (os : List Oper) : Prop :=
  AC P n (lateL l ad) S0 (lateL l ad) rev.reverse S os → zZ P n (.region id l.toArray true) S0 K
section
variable {P : Program} {n id : Nat} {l os : List Oper} {ad : List (List Nat)} {S0 S : AS} {K : Exit → AS → Prop} {rev : List AI} {o : Oper} {d : Nat}
end
attribute [irreducible] DrawsL
end Go.Proofs.YtmfbamiciieooaaGreatDoor
/- The law VertSealed: its walk. -/
namespace Go.Proofs.YtmfbamiciieooaaGreatDoor
set_option maxRecDepth 100000
set_option maxHeartbeats 16000000
open Go Go.RowKit
set_option linter.unusedSimpArgs false
set_option linter.unusedVariables false
attribute [local irreducible] zY zZ Step zX Sub zD zF Fn zB zP
theorem isV_fn (u : Int) : Fn Tryz.prog 16 [.val (.int .i64 u)] (.p (.val (.bool (vOK u)))) := by
  by_cases p0 : 0 ≤ u
  case neg =>
    have d0 : decide (0 ≤ u) = false := decide_eq_false p0
    rw [show vOK u = false from decide_eq_false fun h => p0 h.1]
    refine z8 Tryz.func16 rfl Tryz.ntmps16 (Nat.le_of_ble_eq_true rfl) ?_
    repeat' (first | (refine zY.nil ?_) | (refine zZ.is ?_; first | refine zZ.seq ?_ | (refine zZ.isR (id := 0) ?_; refine zZ.rc [0] [] (r := (.v zK .e)) (h := ?_)) | (refine zZ.isR (id := 1) ?_; refine zZ.rc [0, 2] [] (r := (.v zV (.v vT (.v zV (.gT (.gT (.v xC (.v zK .e)))))))) (h := ?_)) | refine zZ.ret ?_) | refine zB.n ?_)
    all_goals exact ⟨by first | exact .inl rfl | exact .inr rfl, _, Sub.refl _, .p rfl (.tmp rfl)⟩
  case pos =>
    have d0 : decide (0 ≤ u) = true := decide_eq_true p0
    by_cases p1 : u ≤ 1073741823
    case neg =>
      have d1 : decide (u ≤ 1073741823) = false := decide_eq_false p1
      rw [show vOK u = false from decide_eq_false fun h => p1 (by omega)]
      refine z8 Tryz.func16 rfl Tryz.ntmps16 (Nat.le_of_ble_eq_true rfl) ?_
      repeat' (first | (refine zY.nil ?_) | (refine zZ.is ?_; first | refine zZ.seq ?_ | (refine zZ.isR (id := 0) ?_; refine zZ.rc [0] [] (r := (.v zK .e)) (h := ?_)) | (refine zZ.isR (id := 1) ?_; refine zZ.rc [0, 2] [] (r := (.v zV (.v vT (.v zV (.gY zV (.gY v44_0 (.v y8 (.v zK .e)))))))) (h := ?_)) | refine zZ.ret ?_) | refine zB.n ?_)
      all_goals exact ⟨by first | exact .inl rfl | exact .inr rfl, _, Sub.refl _, .p rfl (.tmp rfl)⟩
    case pos =>
      have d1 : decide (u ≤ 1073741823) = true := decide_eq_true p1
      rw [show vOK u = true from decide_eq_true (by omega)]
      refine z8 Tryz.func16 rfl Tryz.ntmps16 (Nat.le_of_ble_eq_true rfl) ?_
      repeat' (first | (refine zY.nil ?_) | (refine zZ.is ?_; first | refine zZ.seq ?_ | (refine zZ.isR (id := 0) ?_; refine zZ.rc [0] [] (r := (.v zK .e)) (h := ?_)) | (refine zZ.isR (id := 1) ?_; refine zZ.rc [0, 2] [] (r := (.v zV (.v vT (.v zV (.gY zV (.gY v44_0 (.v y8 (.v zK .e)))))))) (h := ?_)) | refine zZ.ret ?_) | refine zB.n ?_)
      all_goals exact ⟨by first | exact .inl rfl | exact .inr rfl, _, Sub.refl _, .p rfl (.tmp rfl)⟩
theorem vertSealed_fn (t c : Int) (ws : List Int) (root : Int) (r0 r1 : List (List Int × Int)) (k0 u : Int) (hk0 : 0 ≤ k0 ∧ k0 < 256) : Fn Tryz.prog 5 [xK t c ws root r0 r1, .val (.int .u8 k0), .val (.int .i64 u)] (.p (.val (.bool true))) := by
  have c0 := shown16_fn
  obtain ⟨b, c1, hb⟩ := small10_fn t c root ws r0 r1
  cases b with
  | false =>
    refine z8 Tryz.func5 rfl Tryz.ntmps5 (Nat.le_of_ble_eq_true rfl) ?_
    repeat' (first | (refine zY.is ?_; first | refine zY.nil ?_ | (refine zY.at_ 17 rfl ?_; refine zY.rc (.v v52_4 .e) ?_) | (refine zY.at_ 7 rfl ?_; refine zY.rc (.v zK .e) ?_) | (refine zY.in_ [14] rfl ?_; refine zY.v rfl rfl (zL (c0) rfl rfl rfl (by decide)) ?_) | (refine zY.in_ [16] rfl ?_; refine zY.v rfl rfl (zL (c1) rfl rfl rfl (by decide)) ?_)) | (refine zZ.is ?_; first | refine zZ.seq ?_ | (refine zZ.isR (id := 0) ?_; refine zZ.rc [0, 1, 2] [3, 9, 10, 11, 12, 19] (r := (.m yD (.v zK .e))) (h := ?_)) | (refine zZ.isR (id := 1) ?_; refine zZ.rc [1, 2, 3, 6] [3, 9, 10, 11, 12, 19] (r := .e) (h := ?_)) | (refine zZ.isR (id := 2) ?_; refine zZ.rc [1, 2, 3, 6, 7] [3, 9, 10, 11, 12, 19] (r := (.v yU .e)) (h := ?_)) | (refine zZ.isR (id := 3) ?_; refine zZ.rc [1, 2, 3, 6, 7] [3, 9, 10, 11, 12, 19] (r := (.v zV (.v zK .e))) (h := ?_)) | refine zZ.yF rfl bA ?_ | refine zZ.ret ?_) | refine zB.n ?_ | refine zB.r ?_)
    all_goals exact ⟨by first | exact .inl rfl | exact .inr rfl, _, Sub.refl _, .p rfl (.tmp rfl)⟩
  | true =>
    obtain ⟨ht, hc, hlen, hle, hs0, hs1⟩ := hb rfl
    have hwl := vS ws
    have h7 : 7 < ws.length := by omega
    have g1 := wds_cells ws
    have g2 : (([] : List PV).length + (wds ws).length) * 8 ≤ 140737488355328 ∧ ([] : List PV).length + (wds ws).length ≤ maxLen := by rw [hwl]; simp only [List.length_nil, maxLen]; omega
    have g3 : (0 : Int) ≤ 7 ∧ (7 : Int) < ((wds ws).length : Nat) := by rw [hwl]; omega
    have g4 : (7 : Int).toNat < (wds ws).length := by rw [hwl]; exact h7
    have g3' : (0 : Int) ≤ 7 ∧ (7 : Int) < (([] ++ wds ws : List PV).length : Nat) := by rw [List.nil_append]; exact g3
    have g4' : (7 : Int).toNat < ([] ++ wds ws : List PV).length := by rw [List.nil_append]; exact g4
    have hset : ([] ++ wds ws : List PV).set (7 : Int).toNat (.val (.int .u64 1)) = wds (ws.set 7 1) := by rw [List.nil_append, show (7 : Int).toNat = 7 from rfl, wds_set]
    have h7' : (ws.set 7 1)[7]? = some 1 := by rw [List.getElem?_set, if_pos rfl, if_pos h7]
    obtain ⟨k, hk, hk3⟩ : ∃ k : Int, (k = 11 ∨ k = 12 ∨ k = 13) ∧ k0 % 3 = k - 11 := ⟨k0 % 3 + 11, by omega, by omega⟩
    have y1 : IntKind.i64.wrap k0 = k0 := wrap_i64 _ (by omega)
    have y6 : k0.tmod 3 = k - 11 := by rw [Int.tmod_eq_emod_of_nonneg hk0.1, hk3]
    have y7 : IntKind.i64.wrap (11 + (k - 11)) = k := by rw [show 11 + (k - 11) = k by omega]; exact wrap_i64 _ (by omega)
    have c2 := aloneS_fn (t := t) (c := c) (root := root) (ws := ws.set 7 1) (r0 := r0) (r1 := r1) (k := k) (u := u) (by unfold Small; omega) (by omega) h7' (by rw [List.length_set]; omega) hk
    have c3 := worldSame_fn ⟨t, c, ws.set 7 1, root, r0, r1⟩ (by show (ws.set 7 1).length ≤ _; rw [List.length_set]; omega) (by show r0.length ≤ _; omega) (by show r1.length ≤ _; omega)
    have c4 := isV_fn u
    dsimp only [Wd.pv, xK] at c2 c3
    rw [← hset] at c2 c3
    cases hv : vOK u with
    | false =>
      rw [show seE u = 4 by unfold seE; rw [hv]; rfl] at c2
      rw [hv] at c4
      refine z8 Tryz.func5 rfl Tryz.ntmps5 (Nat.le_of_ble_eq_true rfl) ?_
      repeat' (first | (refine zY.is ?_; first | refine zY.nil ?_ | (refine zY.at_ 17 rfl ?_; refine zY.rc (.v qI .e) ?_) | (refine zY.at_ 43 rfl ?_; refine zY.rc (.v wQ (.v yV (.v yV (.v yV (.m zS (.m zS (.w zR (.w zR (.v zK .e))))))))) ?_) | (refine zY.at_ 56 rfl ?_; refine zY.rc (.gY qI (.v xC .e)) ?_) | (refine zY.at_ 60 rfl ?_; refine zY.rc (.v v52_4 .e) ?_) | (refine zY.at_ 7 rfl ?_; refine zY.rc (.v zK .e) ?_) | (refine zY.in_ [14] rfl ?_; refine zY.v rfl rfl (zL (c0) rfl rfl rfl (by decide)) ?_) | (refine zY.in_ [16] rfl ?_; refine zY.v rfl rfl (zL (c1) rfl rfl rfl (by decide)) ?_) | (refine zY.in_ [46] rfl ?_; refine zY.v rfl rfl (yS (c2) rfl rfl rfl (by decide)) ?_) | (refine zY.in_ [59] rfl ?_; refine zY.v rfl rfl (zL (c4) rfl rfl rfl (by decide)) ?_) | (refine zY.in_ [55] rfl ?_; refine zY.gY rfl rfl (by decide) rfl bA rfl (by decide) (zL (c3) rfl rfl rfl (by decide)) ?_)) | (refine zZ.is ?_; first | refine zZ.seq ?_ | (refine zZ.isR (id := 0) ?_; refine zZ.rc [0, 1, 2] [3, 9, 10, 11, 12, 19] (r := (.m yD (.v zK .e))) (h := ?_)) | (refine zZ.isR (id := 1) ?_; refine zZ.rc [1, 2, 3, 6] [3, 9, 10, 11, 12, 19] (r := .e) (h := ?_)) | (refine zZ.isR (id := 2) ?_; refine zZ.rc [1, 2, 3, 6, 7] [3, 9, 10, 11, 12, 19] (r := (.v yU .e)) (h := ?_)) | (refine zZ.isR (id := 4) ?_; refine zZ.rc [1, 2, 3, 6, 7] [3, 9, 10, 11, 12, 19] (r := (.m m20_0 (.v zH (.v zH (.v zN (.w w55_2 (.v v1_1 .e))))))) (h := ?_)) | (refine zZ.isR (id := 5) ?_; refine zZ.rc [1, 2, 3, 6, 7, 8] [3, 9, 10, 11, 12, 19] (r := (.v v0_1 (.v v7_38 (.w w24_1 .e)))) (h := ?_)) | (refine zZ.isR (id := 6) ?_; refine zZ.sub ((sub_frzE 19 27 1 (([] ++ wds ws).set (Int.toNat 7) (.val (.int .u64 1))) rfl)) ?_; refine zZ.rc [1, 2, 3, 6, 7, 8] [3, 9, 10, 11, 12, 19] (r := (.v zH (.v zH (.v zN (.v zH (.v zH (.v zN (.v zV (.v y9 (.v zH (.v yU (.v y9 (.m zS (.w zR .e)))))))))))))) (h := ?_)) | (refine zZ.isR (id := 7) ?_; refine zZ.rc [1, 2, 6, 7, 9] [3, 9, 10, 11, 12, 19] (r := (.v zV (.v v6_0 (.v v34_0 (.v wC (.v zV (.v y9 (.m zS (.w zR .e))))))))) (h := ?_)) | (refine zZ.isR (id := 8) ?_; refine zZ.rc [2, 6, 7, 9, 10] [3, 9, 10, 11, 12, 19] (r := (.v yU (.v yU .e))) (h := ?_)) | (refine zZ.isR (id := 9) ?_; refine zZ.rc [2, 6, 7, 9, 11, 12, 13] [3, 9, 10, 11, 12, 19] (r := (.v zV (.v qI (.v zV (.gY yU (.gY yU .e)))))) (h := ?_)) | (refine zZ.isR (id := 11) ?_; refine zZ.rc [2, 6, 7, 12] [3, 9, 10, 11, 12, 19] (r := (.v zV .e)) (h := ?_)) | (refine zZ.isR (id := 12) ?_; refine zZ.rc [6, 7, 12] [3, 9, 10, 11, 12, 19] (r := (.v zV (.v zV (.gY zH (.gY zN (.gY v41_4 (.v y8 (.v zK .e)))))))) (h := ?_)) | refine zZ.yF rfl bA ?_ | refine zZ.yH rfl bA ?_ | refine zZ.skip ?_ | refine zZ.ret ?_) | refine zB.n ?_ | refine zB.r ?_)
      all_goals exact ⟨by first | exact .inl rfl | exact .inr rfl, _, Sub.refl _, .p rfl (.tmp rfl)⟩
    | true =>
      rw [show seE u = 6 by unfold seE; rw [hv]; rfl] at c2
      rw [hv] at c4
      refine z8 Tryz.func5 rfl Tryz.ntmps5 (Nat.le_of_ble_eq_true rfl) ?_
      repeat' (first | (refine zY.is ?_; first | refine zY.nil ?_ | (refine zY.at_ 17 rfl ?_; refine zY.rc (.v qI .e) ?_) | (refine zY.at_ 43 rfl ?_; refine zY.rc (.v wQ (.v yV (.v yV (.v yV (.m zS (.m zS (.w zR (.w zR (.v zK .e))))))))) ?_) | (refine zY.at_ 56 rfl ?_; refine zY.rc (.gY qI (.v xC .e)) ?_) | (refine zY.at_ 60 rfl ?_; refine zY.rc (.v qI .e) ?_) | (refine zY.at_ 7 rfl ?_; refine zY.rc (.v zK .e) ?_) | (refine zY.in_ [14] rfl ?_; refine zY.v rfl rfl (zL (c0) rfl rfl rfl (by decide)) ?_) | (refine zY.in_ [16] rfl ?_; refine zY.v rfl rfl (zL (c1) rfl rfl rfl (by decide)) ?_) | (refine zY.in_ [46] rfl ?_; refine zY.v rfl rfl (yS (c2) rfl rfl rfl (by decide)) ?_) | (refine zY.in_ [59] rfl ?_; refine zY.v rfl rfl (zL (c4) rfl rfl rfl (by decide)) ?_) | (refine zY.in_ [55] rfl ?_; refine zY.gY rfl rfl (by decide) rfl bA rfl (by decide) (zL (c3) rfl rfl rfl (by decide)) ?_)) | (refine zZ.is ?_; first | refine zZ.seq ?_ | (refine zZ.isR (id := 0) ?_; refine zZ.rc [0, 1, 2] [3, 9, 10, 11, 12, 19] (r := (.m yD (.v zK .e))) (h := ?_)) | (refine zZ.isR (id := 1) ?_; refine zZ.rc [1, 2, 3, 6] [3, 9, 10, 11, 12, 19] (r := .e) (h := ?_)) | (refine zZ.isR (id := 2) ?_; refine zZ.rc [1, 2, 3, 6, 7] [3, 9, 10, 11, 12, 19] (r := (.v yU .e)) (h := ?_)) | (refine zZ.isR (id := 4) ?_; refine zZ.rc [1, 2, 3, 6, 7] [3, 9, 10, 11, 12, 19] (r := (.m m20_0 (.v zH (.v zH (.v zN (.w w55_2 (.v v1_1 .e))))))) (h := ?_)) | (refine zZ.isR (id := 5) ?_; refine zZ.rc [1, 2, 3, 6, 7, 8] [3, 9, 10, 11, 12, 19] (r := (.v v0_1 (.v v7_38 (.w w24_1 .e)))) (h := ?_)) | (refine zZ.isR (id := 6) ?_; refine zZ.sub ((sub_frzE 19 27 1 (([] ++ wds ws).set (Int.toNat 7) (.val (.int .u64 1))) rfl)) ?_; refine zZ.rc [1, 2, 3, 6, 7, 8] [3, 9, 10, 11, 12, 19] (r := (.v zH (.v zH (.v zN (.v zH (.v zH (.v zN (.v zV (.v y9 (.v zH (.v yU (.v y9 (.m zS (.w zR .e)))))))))))))) (h := ?_)) | (refine zZ.isR (id := 7) ?_; refine zZ.rc [1, 2, 6, 7, 9] [3, 9, 10, 11, 12, 19] (r := (.v zV (.v v6_0 (.v v34_0 (.v wC (.v zV (.v y9 (.m zS (.w zR .e))))))))) (h := ?_)) | (refine zZ.isR (id := 8) ?_; refine zZ.rc [2, 6, 7, 9, 10] [3, 9, 10, 11, 12, 19] (r := (.v yU (.v yU .e))) (h := ?_)) | (refine zZ.isR (id := 9) ?_; refine zZ.rc [2, 6, 7, 9, 11, 12, 13] [3, 9, 10, 11, 12, 19] (r := (.v zV (.v qI (.v zV (.gY yU (.gY yU .e)))))) (h := ?_)) | (refine zZ.isR (id := 11) ?_; refine zZ.rc [2, 6, 7, 12] [3, 9, 10, 11, 12, 19] (r := (.v zV .e)) (h := ?_)) | (refine zZ.isR (id := 13) ?_; refine zZ.rc [6, 7, 12] [3, 9, 10, 11, 12, 19] (r := (.v zV (.v zV (.gY zH (.gY zN (.gY v41_4 (.v y8 (.v zV (.gY zH (.gY zN (.gY v52_4 (.v y8 (.v zK .e))))))))))))) (h := ?_)) | refine zZ.yH rfl bA ?_ | refine zZ.skip ?_ | refine zZ.ret ?_) | refine zB.n ?_)
      all_goals exact ⟨by first | exact .inl rfl | exact .inr rfl, _, Sub.refl _, .p rfl (.tmp rfl)⟩
end Go.Proofs.YtmfbamiciieooaaGreatDoor
/- A law's arguments, as they come in, by their shapes. Generic over the program. -/
namespace Go.Proofs.YtmfbamiciieooaaGreatDoor
set_option maxRecDepth 100000
set_option maxHeartbeats 16000000
open Go Go.RowKit Go.ChangeShapes Go.WideShapes Go.ChangeAt
def NoM : Nat → Nat → Prop := fun _ _ => False
/-- what a cell may hold -/
inductive Leaf where
  | int (k : IntKind)
  | bool
  | any
deriving DecidableEq
def leafOK : Leaf → Value → Prop
  | .int k, v => ∃ n, v = .int k n ∧ (Lit.int k n).wf = true
  | .bool, v => ∃ b, v = .bool b
  | .any, v => v.oneCell' = true
/-- type t's cells, one behind the other, are of these kinds (any: a slice) -/
def flatB (P : Program) : Nat → TypeId → List Leaf → Bool
  | 0, _, _ => false
  | d + 1, t, ls => match P.underlying t with
    | some (.int k) => decide (ls = [.int k])
    | some .bool => decide (ls = [.bool])
    | some (.slice _) => decide (ls = [.any])
    | some (.struct fs) => (ls.length == P.cellsOf t) && (fs.toList.all fun f => flatB P d f.type ((ls.drop f.offset).take (P.cellsOf f.type)) && (((ls.drop f.offset).take (P.cellsOf f.type)).length == P.cellsOf f.type)) &&
      (List.range ls.length).all fun c => fs.toList.any fun f => decide (f.offset ≤ c) && decide (c < f.offset + P.cellsOf f.type)
    | _ => false
section
variable {H : Type} {enc : TypeId × Value → H} {P : Program} {W : World} {base : Nat} {spare : Nat → Bool} {held : Bool}
theorem flat_trod : ∀ (d : Nat) {t : TypeId} {ls : List Leaf}, flatB P d t ls = true → ∀ {fuel : Nat} {cs : List Value} {x : DataW H × List MemPlace}, DataW.trod enc P W base spare held fuel t cs = some x →
    cs.length = ls.length ∧ ∀ (i : Nat) l v, ls[i]? = some l → cs[i]? = some v → leafOK l v
  | 0, _, _, h, _, _, _, _ => by cases h
  | d + 1, t, ls, h, fuel, cs, x, hx => by
    unfold flatB at h
    cases hu : P.underlying t with
    | none => rw [hu] at h; cases h
    | some ds =>
      rw [hu] at h
      cases ds with
      | int k =>
        obtain rfl : ls = [.int k] := of_decide_eq_true h
        obtain ⟨n, rfl, _, hw⟩ := DataW.trod_int hu hx
        refine ⟨rfl, fun i l v hl hv => ?_⟩
        match i with
        | 0 => simp at hl hv; subst hl hv; exact ⟨n, rfl, hw⟩
        | i + 1 => simp at hl
      | bool =>
        obtain rfl : ls = [.bool] := of_decide_eq_true h
        obtain ⟨b, rfl, _⟩ := DataW.trod_bool hu hx
        refine ⟨rfl, fun i l v hl hv => ?_⟩
        match i with
        | 0 => simp at hl hv; subst hl hv; exact ⟨b, rfl⟩
        | i + 1 => simp at hl
      | slice e =>
        obtain rfl : ls = [.any] := of_decide_eq_true h
        have key : ∀ w : Value, w.oneCell' = true → cs = [w] → cs.length = [Leaf.any].length ∧ ∀ (i : Nat) l v, [Leaf.any][i]? = some l → cs[i]? = some v → leafOK l v := fun w hw e => by
          subst e
          refine ⟨rfl, fun i l v hl hv => ?_⟩
          match i with
          | 0 => simp at hl hv; subst hl hv; exact hw
          | i + 1 => simp at hl
        rcases DataW.trod_slice hu hx with ⟨e, _⟩ | ⟨a, len, cap, _, _, _, _, e, _⟩
        · exact key _ rfl e
        · exact key _ rfl e
      | struct fs =>
        simp only [Bool.and_eq_true, beq_iff_eq, List.all_eq_true, List.mem_range, List.any_eq_true, decide_eq_true_eq] at h
        obtain ⟨⟨hlen, hfs⟩, hcov⟩ := h
        obtain ⟨xs, n, _, _, hcl, hxl, hg⟩ := DataW.trod_struct hu hx
        refine ⟨by omega, fun i l v hl hv => ?_⟩
        have hil : i < ls.length := (List.getElem?_eq_some_iff.1 hl).1
        obtain ⟨f, hf, hf1, hf2⟩ := hcov i hil
        obtain ⟨hfl, hfn⟩ := hfs f hf
        obtain ⟨j, hj, hfj⟩ := List.getElem_of_mem hf
        have hfj2 : fs[j]? = some f := by
          rw [← hfj, Array.getElem_toList]
          exact Array.getElem?_eq_getElem _
        have h2 := hg j f hfj2
        have hjx : j < xs.length := by rw [hxl]; simpa using hj
        rw [List.getElem?_eq_getElem hjx] at h2
        obtain ⟨_, h3⟩ := flat_trod d hfl h2
        refine h3 (i - f.offset) l v ?_ ?_
        · rw [List.getElem?_take_of_lt (by omega), List.getElem?_drop, show f.offset + (i - f.offset) = i by omega]
          exact hl
        · rw [List.getElem?_take_of_lt (by omega), List.getElem?_drop, show f.offset + (i - f.offset) = i by omega]
          exact hv
      | _ => cases h
theorem has_block {r : Reach} {a : Addr} {e : TypeId} {n : Nat} (h : W.has P r base a e n) : a.spot = none ∧ a.block < W.heap.size := by
  obtain ⟨_, h1, row, cells, h2, _⟩ := h
  refine ⟨h1, ?_⟩
  unfold World.shape? at h2
  cases hb : W.heap[a.block]? with
  | none => rw [hb] at h2; cases h2
  | some o => exact (Array.getElem?_eq_some_iff.1 hb).1
theorem cell_slice {t e : TypeId} {a : Addr} {len cap : Nat} (ht : P.underlying t = some (.slice e)) (h : Cell.okWide P W .any base t (.slice (some a) len cap)) : a.spot = none ∧ a.block < W.heap.size ∧ len ≤ cap := by
  simp only [Cell.okWide, ht, Cell.ok] at h
  exact ⟨(has_block h.2.2).1, (has_block h.2.2).2, h.1⟩
/-- a struct's cell, as the form lays it -/
theorem wide_cell {t u : TypeId} {fs : Array Field} {cs : Array Value} {ts : List TypeId} {i : Nat} {v : Value} (ht : P.underlying t = some (.struct fs)) (h : Value.okWide P W .any base t (.agg cs)) (hts : P.cellTypes P.depth t = some ts) (hi : ts[i]? = some u) (hv : cs[i]? = some v) : Cell.okWide P W .any base u v := by
  simp only [Value.okWide, ht] at h
  obtain ⟨cs', e, _, ts', h1, _, h2⟩ := h
  injection e with e
  subst e
  obtain rfl : ts = ts' := Option.some.inj (hts.symm.trans h1)
  obtain ⟨u', hu', hc⟩ := h2 i v hv
  have hlt : i < ts.length := (List.getElem?_eq_some_iff.1 hi).1
  rw [Nat.mod_eq_of_lt hlt, hi] at hu'
  obtain rfl := Option.some.inj hu'
  exact hc
theorem leaf_one {l : Leaf} {v : Value} (h : leafOK l v) : v.oneCell' = true := by
  cases l with
  | int k => obtain ⟨n, rfl, _⟩ := h; rfl
  | bool => obtain ⟨b, rfl⟩ := h; rfl
  | any => exact h
theorem flatten_len {n : Nat} : ∀ {rs : List (List Value)}, (∀ r ∈ rs, r.length = n) → rs.flatten.length = rs.length * n
  | [], _ => by simp
  | r :: rs, h => by
    rw [List.flatten_cons, List.length_append, h r (by simp), flatten_len fun x hx => h x (by simp [hx]), List.length_cons, Nat.add_mul]
    omega
theorem flatten_get {n : Nat} : ∀ {rs : List (List Value)}, (∀ r ∈ rs, r.length = n) → ∀ (i c : Nat), c < n → rs.flatten[i * n + c]? = (rs[i]?).bind (·[c]?)
  | [], _, i, c, _ => by simp
  | r :: rs, h, 0, c, hc => by
    rw [List.flatten_cons, Nat.zero_mul, Nat.zero_add, List.getElem?_append_left (by rw [h r (by simp)]; exact hc)]
    rfl
  | r :: rs, h, i + 1, c, hc => by
    have hr := h r (by simp)
    rw [List.flatten_cons, List.getElem?_append_right (by rw [hr, Nat.add_mul]; omega), hr]
    have e : (i + 1) * n + c - n = i * n + c := by rw [Nat.add_mul]; omega
    rw [e, flatten_get (fun x hx => h x (by simp [hx])) i c hc]
    rfl
/-- a slice of plain structs (of slices, as they are) that came in -/
theorem arg_rows {t e : TypeId} {ls : List Leaf} {dep : Nat} {v : Value} {fuel : Nat} {x : DataW H × List MemPlace} (ht : P.underlying t = some (.slice e)) (hfl : flatB P dep e ls = true) (hn : P.cellsOf e = ls.length)
    (hok : ∀ a len cap, v = .slice (some a) len cap → a.spot = none ∧ a.block < W.heap.size) (h : DataW.trod enc P W base (fun _ => true) held fuel t [v] = some x) :
    ∃ rows : List (List Value), (∀ r ∈ rows, r.length = ls.length ∧ ∀ (i : Nat) l u, ls[i]? = some l → r[i]? = some u → leafOK l u) ∧ rows.length ≤ maxLen ∧
      ∀ es : List PV, es.map PV.cells = rows.map (fun r => r.map PV.val) → Rep NoM W (.sl es) v := by
  rcases DataW.trod_slice ht h with ⟨hv, _⟩ | ⟨a, len, cap, elems, rest, n, _, hv, _, hb, hlc, hm, hlen, hel, _⟩
  · simp only [List.cons.injEq, and_true] at hv
    subst hv
    refine ⟨[], fun r hr => by simp at hr, Nat.zero_le _, fun es he => ?_⟩
    have : es = [] := by simpa using he
    subst this
    exact .nil
  · simp only [List.cons.injEq, and_true] at hv
    subst hv
    obtain ⟨hs, hbk⟩ := hok a len cap rfl
    obtain ⟨g, off, spot⟩ := a
    simp only at hs hbk
    subst hs
    have row : ∀ i, i < len → ∃ r : List Value, W.cells? base (Addr.add ⟨g, off, none⟩ (i * P.cellsOf e)) (P.cellsOf e) = some r ∧ r.length = ls.length ∧ ∀ (j : Nat) l u, ls[j]? = some l → r[j]? = some u → leafOK l u := by
      intro i hi
      have h1 := hel i hi
      rw [List.getElem?_eq_getElem (by omega : i < elems.length)] at h1
      obtain ⟨r, hr, h2⟩ := Option.bind_eq_some_iff.1 h1
      obtain ⟨h3, h4⟩ := flat_trod dep hfl h2
      exact ⟨r, hr, h3, h4⟩
    have rows : ∀ m, m ≤ len → ∃ rs : List (List Value), rs.length = m ∧ ∀ (i : Nat) r, rs[i]? = some r → W.cells? base (Addr.add ⟨g, off, none⟩ (i * P.cellsOf e)) (P.cellsOf e) = some r ∧ r.length = ls.length ∧ ∀ (j : Nat) l u, ls[j]? = some l → r[j]? = some u → leafOK l u := by
      intro m
      induction m with
      | zero => exact fun _ => ⟨[], rfl, fun i r h => by simp at h⟩
      | succ m ih =>
        intro hm2
        obtain ⟨rs, h1, h2⟩ := ih (by omega)
        obtain ⟨r, hr⟩ := row m (by omega)
        refine ⟨rs ++ [r], by simp [h1], fun i r' hi => ?_⟩
        rcases Nat.lt_or_ge i rs.length with h3 | h3
        · rw [List.getElem?_append_left h3] at hi
          exact h2 i r' hi
        · rw [List.getElem?_append_right h3] at hi
          have e0 : i - rs.length = 0 := by
            rcases Nat.eq_zero_or_pos (i - rs.length) with h | h
            · exact h
            · rw [List.getElem?_eq_none (by simp; omega)] at hi; cases hi
          rw [e0] at hi
          simp at hi
          subst hi
          rw [show i = m by omega]
          exact hr
    obtain ⟨rs, hrl, hrs⟩ := rows len (Nat.le_refl _)
    refine ⟨rs, fun r hr => ?_, by omega, fun es he => ?_⟩
    · obtain ⟨i, hi, rfl⟩ := List.getElem_of_mem hr
      exact (hrs i _ (List.getElem?_eq_getElem hi)).2
    · have hn0 : P.cellsOf e = ls.length := hn
      have hesl : es.length = rs.length := by simpa using congrArg List.length he
      have hflat : flat es = rs.flatten.map PV.val := by
        show es.flatMap PV.cells = _
        rw [List.flatMap_def, he, List.map_flatten]
      have hrn : ∀ r ∈ rs, r.length = ls.length := fun r hr => by
        obtain ⟨i, hi, rfl⟩ := List.getElem_of_mem hr
        exact (hrs i _ (List.getElem?_eq_getElem hi)).2.1
      have hyl : rs.flatten.length = rs.length * ls.length := flatten_len hrn
      have at_ : ∀ (j : Nat) y, rs.flatten[j]? = some y → ∃ i c r, j = i * ls.length + c ∧ rs[i]? = some r ∧ r[c]? = some y := fun j y hy => by
        have hj : j < rs.length * ls.length := by rw [← hyl]; exact (List.getElem?_eq_some_iff.1 hy).1
        have hpos : 0 < ls.length := by
          rcases Nat.eq_zero_or_pos ls.length with h | h
          · rw [h] at hj; omega
          · exact h
        have e1 : j = (j / ls.length) * ls.length + j % ls.length := by
          have := Nat.div_add_mod j ls.length
          rw [Nat.mul_comm] at this
          omega
        have hi : j / ls.length < rs.length := (Nat.div_lt_iff_lt_mul hpos).2 hj
        have hc : j % ls.length < ls.length := Nat.mod_lt _ hpos
        have h1 := flatten_get hrn (j / ls.length) (j % ls.length) hc
        rw [← e1, hy, List.getElem?_eq_getElem hi] at h1
        exact ⟨_, _, _, e1, List.getElem?_eq_getElem hi, h1.symm⟩
      refine .sl es g off len cap rs.flatten (by omega) (by rw [hflat, List.length_map]) (fun j y hy => ?_) (fun j c y hc hy => ?_) (fun y hy => ?_) (fun _ _ h => h) hbk hlc hm
      · obtain ⟨i, c, r, rfl, hr, hc⟩ := at_ j y hy
        have h1 := World.cells?_some (hrs i r hr).1
        have hcl : c < P.cellsOf e := by
          rw [hn0, ← (hrs i r hr).2.1]
          exact (List.getElem?_eq_some_iff.1 hc).1
        have h2 := h1.2.2 c hcl
        rw [hc, add_lit, add_lit, hn0, Nat.add_assoc] at h2
        exact h2
      · rw [hflat, List.getElem?_map, hy] at hc
        simp only [Option.map_some, Option.some.injEq] at hc
        subst hc
        exact .val _
      · obtain ⟨j, hj, rfl⟩ := List.getElem_of_mem hy
        obtain ⟨i, c, r, _, hr, hc⟩ := at_ j _ (List.getElem?_eq_getElem hj)
        have hcl : c < ls.length := by
          rw [← (hrs i r hr).2.1]
          exact (List.getElem?_eq_some_iff.1 hc).1
        exact leaf_one ((hrs i r hr).2.2 c _ _ (List.getElem?_eq_getElem hcl) hc)
end
end Go.Proofs.YtmfbamiciieooaaGreatDoor
/- A law's call, by its contract; the table that the row lists; a world that fits. -/
namespace Go.Proofs.YtmfbamiciieooaaGreatDoor
set_option maxRecDepth 100000
set_option maxHeartbeats 16000000
open Go Go.RowKit Go.ChangeShapes Go.WideShapes Go.ChangeAt
set_option linter.unusedVariables false
theorem ownT : ownKnob Tryz.prog.godebug = none := by kernel_rfl
theorem laidOutT : laidOutB Tryz.prog = true := by kernel_rfl
section
variable {P : Program} {W : World}
theorem wf_i64 {n : Int} (h : (Lit.int .i64 n).wf = true) : -9223372036854775808 ≤ n ∧ n ≤ 9223372036854775807 := bounds_i64 h
theorem wf_u64 {n : Int} (h : (Lit.int .u64 n).wf = true) : 0 ≤ n ∧ n < 18446744073709551616 := by
  have := bounds_u64 h
  omega
/-- A law's call, by its contract. -/
theorem Fn.law {f : FuncId} {args : List PV} (h : Fn P f args (.p (.val (.bool true)))) (hlay : Lays W) {vs : List Value} (hl : vs.length = args.length) (hr : ∀ (i : Nat) x v, args[i]? = some x → vs[i]? = some v → Rep NoM W x v) :
    Calls P f vs.toArray W fun e W' => e = .returned (.bool true) ∧ Below W.heap.size W W' :=
  (h NoM W vs ⟨hlay, fun _ _ _ h => h⟩ (fun _ _ h => h.elim) hl hr).mono fun e W' ⟨v, he, hv, hb⟩ => by
    cases hv
    exact ⟨he, hb⟩
theorem reps1 {M : Nat → Nat → Prop} {x0 : PV} {v0 : Value} (h0 : Rep M W x0 v0) : ∀ (i : Nat) x v, [x0][i]? = some x → [v0][i]? = some v → Rep M W x v := by
  intro i x v hx hv
  match i with
  | 0 => simp at hx hv; subst hx; subst hv; exact h0
  | i + 1 => simp at hx
theorem repsC {M : Nat → Nat → Prop} {x0 : PV} {v0 : Value} {xs : List PV} {vs : List Value} (h0 : Rep M W x0 v0) (h : ∀ (i : Nat) x v, xs[i]? = some x → vs[i]? = some v → Rep M W x v) : ∀ (i : Nat) x v, (x0 :: xs)[i]? = some x → (v0 :: vs)[i]? = some v → Rep M W x v := by
  intro i x v hx hv
  match i with
  | 0 => simp at hx hv; subst hx; subst hv; exact h0
  | i + 1 => exact h i x v (by simpa using hx) (by simpa using hv)
end
/-! ### The listed table -/
theorem gTbl : Tryz.prog.globalNamed "weald/crc.halves" = some 0 := by kernel_rfl
theorem tTbl : (Tryz.prog.globals[0]?).map (·.type) = some 202 := by kernel_rfl
def laidL : List (String × DataW Unit) := [("weald/crc.halves", Rows.laid_weald_crc_halves)]
theorem lays_of_laid {W : World} (h : laidMetH Tryz.prog laidL W) : Lays W := by
  rw [MakeChecks.laidMetH_plain _ _ _ (by kernel_rfl)] at h
  obtain ⟨ps, ⟨g0, t0, cs0, f0, p0, q0, hg0, ht0, hv0, hd0, _, _⟩, _⟩ := h
  obtain rfl := Option.some.inj (gTbl.symm.trans hg0)
  obtain rfl := Option.some.inj (tTbl.symm.trans ht0)
  have hcell := World.var?_cell hg0 hv0
  obtain ⟨xs, m1, _, hx1, hlen, hn, hel⟩ := DataW.trod_array Tryz.underlying202 hd0
  have c1 : Tryz.prog.cellsOf 150 = 1 := by kernel_rfl
  have c16 : Tryz.prog.cellsOf 202 = 16 := by kernel_rfl
  rw [c16] at hlen
  have hdat : Rows.laid_weald_crc_halves (H := Unit) = .agg (tbl0.map fun p => .lit (.int p.1 p.2)) := by kernel_rfl
  simp only [Prod.mk.injEq] at hx1
  have hxs : xs.map (·.1) = tbl0.map fun p => .lit (.int p.1 p.2) := by
    have := hx1.1
    rw [hdat] at this
    simpa using this.symm
  have hk : ∀ p ∈ tbl0, p.1 = .u32 := by decide +kernel
  intro g ys hg
  have hgy : g = 0 ∧ ys = tbl0 := by
    unfold seatTbl at hg
    split at hg
    · next h => exact ⟨h, (Option.some.inj hg).symm⟩
    · cases hg
  obtain ⟨rfl, rfl⟩ := hgy
  have at_ : ∀ (j : Nat) p, tbl0[j]? = some p → W.cell? ⟨0, j, none⟩ = some (.int p.1 p.2) := by
    intro j p hp
    have hj : j < 16 := (List.getElem?_eq_some_iff.1 hp).1
    have h1 := hel j hj
    have hxj : xs[j]? = some xs[j] := List.getElem?_eq_getElem (by omega)
    rw [hxj, c1, Nat.mul_one] at h1
    obtain ⟨k, e1, e2, _⟩ := DataW.trod_int Tryz.underlying150 h1
    have h3 : (xs.map (·.1))[j]? = some (.lit (.int .u32 k)) := by rw [List.getElem?_map, hxj, e2]; rfl
    rw [hxs, List.getElem?_map, hp] at h3
    simp only [Option.map_some, Option.some.injEq, DataW.lit.injEq, Lit.int.injEq] at h3
    obtain ⟨h4, h5⟩ := h3
    have h6 : cs0[j]? = some (.int .u32 k) := by
      have : (cs0.toList.drop j).take 1 = [cs0.toList[j]'(by rw [hlen]; exact hj)] := by
        rw [List.drop_eq_getElem_cons (by rw [hlen]; exact hj)]
        rfl
      rw [this] at e1
      simp only [List.cons.injEq, and_true] at e1
      rw [← e1]
      simp [Array.getElem?_eq_getElem (show j < cs0.size by simpa using (by rw [hlen]; exact hj : j < cs0.toList.length))]
    rw [hcell j, h6, h4, h5]
  refine ⟨?_, at_⟩
  have h0 := at_ 0 _ rfl
  unfold World.cell? at h0
  cases hh : W.heap[0]? with
  | none => rw [hh] at h0; cases h0
  | some o => exact (Array.getElem?_eq_some_iff.1 hh).1
/-- The door's own heap fits. -/
theorem door_met (os : Os) (args : Array Value) : laidMetH Tryz.prog laidL ((World.doorLaid Tryz.prog 400 os).forCall (fun _ _ => 0) ⟨#[], args, []⟩).memory :=
  laidMetH_of_parts3 (fuel := 8) (laidMet_of_run' 8 (by kernel_rfl) (by kernel_rfl)) (by kernel_rfl) (by kernel_rfl)
end Go.Proofs.YtmfbamiciieooaaGreatDoor
/- Arguments: rows of truth values, and of bytes. Generic over the program. -/
namespace Go.Proofs.YtmfbamiciieooaaGreatDoor
set_option maxRecDepth 100000
set_option maxHeartbeats 16000000
open Go Go.RowKit Go.ChangeShapes Go.WideShapes Go.ChangeAt
set_option linter.unusedVariables false
section
variable {P : Program} {W : World} {H : Type} {enc : TypeId × Value → H}
end
end Go.Proofs.YtmfbamiciieooaaGreatDoor
/- Arguments: rows of streams (bytes, and a number). Generic over the program. -/
namespace Go.Proofs.YtmfbamiciieooaaGreatDoor
set_option maxRecDepth 100000
set_option maxHeartbeats 16000000
open Go Go.RowKit Go.ChangeShapes Go.WideShapes Go.ChangeAt
set_option linter.unusedVariables false
def BytW (b : List Int) : Prop := ∀ x ∈ b, 0 ≤ x ∧ x < 256
theorem some_max : ∀ (l : List Nat), ∃ R, ∀ y ∈ l, y ≤ R
  | [] => ⟨0, fun y h => by cases h⟩
  | a :: l => by
    obtain ⟨R, h⟩ := some_max l
    refine ⟨max a R, fun y hy => ?_⟩
    rcases List.mem_cons.1 hy with rfl | hy
    · exact Nat.le_max_left _ _
    · exact Nat.le_trans (h y hy) (Nat.le_max_right _ _)
theorem rep_max {M : Nat → Nat → Prop} {W : World} {es : List PV} {v : Value} (h : Rep M W (.sl es) v) : es.length ≤ maxLen := by
  cases h with
  | nil => exact Nat.zero_le _
  | sl _ g o n cap ys hn hl hc h h1 hM hg hcap hm => omega
section
variable {P : Program} {W : World} {H : Type} {enc : TypeId × Value → H} {base : Nat} {held : Bool}
theorem cell_blockW {a : Addr} {v : Value} (h : W.cell? a = some v) : a.spot = none ∧ a.block < W.heap.size := by
  refine ⟨World.cell?_spot h, ?_⟩
  unfold World.cell? at h
  cases hb : W.heap[a.block]? with
  | none => rw [hb] at h; cases h
  | some o => exact (Array.getElem?_eq_some_iff.1 hb).1
theorem rep_lenW {M : Nat → Nat → Prop} {es : List PV} {a : Addr} {len cap : Nat} (h : Rep M W (.sl es) (.slice (some a) len cap)) : es.length = len := by
  generalize hv : Value.slice (some a) len cap = v at h
  rcases rep_sl h with ⟨⟨b, rfl⟩, rfl⟩ | ⟨g, o, c, ys, rfl, _⟩
  · injection hv with h1 h2 h3
    exact h2.symm
  · injection hv with h1 h2 h3
    exact h2.symm
/-- a row of bytes that lies in memory -/
theorem arg_bytesW {t e : TypeId} {v : Value} {fuel : Nat} {x : DataW H × List MemPlace} {R : Nat} (ht : P.underlying t = some (.slice e)) (hfl : flatB P 3 e [.int .u8] = true) (hn : P.cellsOf e = 1) (hby : P.bytesOf e = 1)
    (h : DataW.trod enc P W base (fun _ => true) held fuel t [v] = some x) (hw : ∀ y ∈ x.1.weights P t, y ≤ R) : ∃ s : List Int, Rep NoM W (.sl (byts s)) v ∧ BytW s ∧ s.length ≤ R ∧ v.oneCell' = true := by
  rcases DataW.trod_slice ht h with ⟨hv, _⟩ | ⟨a, len, cap, elems, rest, n, _, hv, hx, hb, hlc, hm, hlen, hel, hsp, _⟩
  · simp only [List.cons.injEq, and_true] at hv
    subst hv
    exact ⟨[], .nil, (fun y hy => by cases hy), Nat.zero_le _, rfl⟩
  · simp only [List.cons.injEq, and_true] at hv
    subst hv
    have hlR : len ≤ R := by
      have h1 := hw ((elems.length + rest.length) * P.bytesOf e) (by
        rw [hx]
        simp [DataW.weights, ht])
      rw [hby, hlen] at h1
      omega
    rcases Nat.eq_zero_or_pos cap with h0 | h0
    · have : len = 0 := by omega
      subst this
      subst h0
      exact ⟨[], .nil, (fun y hy => by cases hy), Nat.zero_le _, rfl⟩
    · have hok : a.spot = none ∧ a.block < W.heap.size := by
        have hc : ∃ cs, W.cells? base (a.add 0) 1 = some cs := by
          rcases Nat.eq_zero_or_pos len with hl | hl
          · subst hl
            have h1 := hsp rfl
            have h2 := h1.2 0 (by omega)
            rw [List.getElem?_eq_getElem (by omega : 0 < rest.length)] at h2
            obtain ⟨cs, h3, _⟩ := Option.bind_eq_some_iff.1 h2
            rw [hn] at h3
            simp only [Nat.zero_add, Nat.zero_mul] at h3
            exact ⟨cs, h3⟩
          · have h2 := hel 0 hl
            rw [List.getElem?_eq_getElem (by omega : 0 < elems.length)] at h2
            obtain ⟨cs, h3, _⟩ := Option.bind_eq_some_iff.1 h2
            rw [hn] at h3
            simp only [Nat.zero_mul] at h3
            exact ⟨cs, h3⟩
        obtain ⟨cs, hc⟩ := hc
        have h3 := World.cells?_some hc
        have h4 := h3.2.2 0 (by omega)
        have h5 : cs[0]? = some (cs[0]'(by omega)) := List.getElem?_eq_getElem _
        rw [h5] at h4
        have h6 : (a.add 0).add 0 = a := by simp [Addr.add]
        rw [h6] at h4
        exact cell_blockW h4
      obtain ⟨rows, h1, h2, h3⟩ := arg_rows (ls := [.int .u8]) ht hfl hn (fun a' len' cap' e' => by
        injection e' with e1 e2 e3
        injection e1 with e1
        subst e1
        exact hok) h
      have hr : ∀ r ∈ rows, ∃ b, r = [Value.int .u8 b] ∧ 0 ≤ b ∧ b < 256 := fun r hr => by
        obtain ⟨hl, hx⟩ := h1 r hr
        match r, hl with
        | [x], _ =>
          obtain ⟨b, rfl, hb⟩ := hx 0 _ x rfl rfl
          have := bounds_u8 hb
          exact ⟨b, rfl, by omega, by omega⟩
      have hs : ∃ s : List Int, rows = s.map (fun b => [Value.int .u8 b]) ∧ BytW s := by
        clear h3 h2 h1 h hel hsp hlen hx hw
        induction rows with
        | nil => exact ⟨[], rfl, fun y hy => by cases hy⟩
        | cons r rs ih =>
          obtain ⟨b, rfl, hb⟩ := hr r (by simp)
          obtain ⟨s, rfl, hs⟩ := ih fun r h => hr r (by simp [h])
          refine ⟨b :: s, rfl, fun y hy => ?_⟩
          rcases List.mem_cons.1 hy with rfl | hy
          · exact hb
          · exact hs y hy
      obtain ⟨s, rfl, hs⟩ := hs
      have hrep := h3 (byts s) (by simp [byts, PV.cells])
      have hle := rep_lenW hrep
      rw [qX] at hle
      exact ⟨s, hrep, hs, by omega, rfl⟩
theorem arg_bytes_m {t e : TypeId} {v : Value} {fuel : Nat} {x : DataW H × List MemPlace} (ht : P.underlying t = some (.slice e)) (hfl : flatB P 3 e [.int .u8] = true) (hn : P.cellsOf e = 1) (hby : P.bytesOf e = 1)
    (h : DataW.trod enc P W base (fun _ => true) held fuel t [v] = some x) : ∃ s : List Int, Rep NoM W (.sl (byts s)) v ∧ BytW s ∧ s.length ≤ maxLen ∧ v.oneCell' = true := by
  obtain ⟨R, hR⟩ := some_max (x.1.weights P t)
  obtain ⟨s, a, b, c, d⟩ := arg_bytesW ht hfl hn hby h hR
  have := rep_max a
  rw [qX] at this
  exact ⟨s, a, b, this, d⟩
theorem flat_strs (l : List (List Int × Int)) : flat (strs l) = l.flatMap fun p => [.sl (byts p.1), .val (.int .i64 p.2)] := by
  induction l with
  | nil => rfl
  | cons p l ih =>
    show (strV p.1 p.2).cells ++ flat (strs l) = _
    rw [ih]
    rfl
theorem arg_strs {t e g : TypeId} {f0 f1 : Field} {v : Value} {fuel : Nat} {x : DataW H × List MemPlace} (ht : P.underlying t = some (.slice e)) (he : P.underlying e = some (.struct #[f0, f1])) (hn2 : P.cellsOf e = 2) (o0 : f0.offset = 0) (o1 : f1.offset = 1) (h0 : P.cellsOf f0.type = 1) (h1 : P.cellsOf f1.type = 1)
    (hf : P.underlying f0.type = some (.slice g)) (hfl : flatB P 3 g [.int .u8] = true) (hn : P.cellsOf g = 1) (hby : P.bytesOf g = 1) (hi : flatB P 3 f1.type [.int .i64] = true)
    (hok : ∀ a len cap, v = .slice (some a) len cap → a.spot = none ∧ a.block < W.heap.size)
    (h : DataW.trod enc P W base (fun _ => true) held fuel t [v] = some x) : ∃ l : List (List Int × Int), Rep NoM W (.sl (strs l)) v ∧ (∀ p ∈ l, BytW p.1 ∧ p.1.length ≤ maxLen ∧ -9223372036854775808 ≤ p.2 ∧ p.2 ≤ 9223372036854775807) ∧ l.length ≤ maxLen := by
  rcases DataW.trod_slice ht h with ⟨hv, _⟩ | ⟨a, len, cap, elems, rest, n, _, hv, hx, hb, hlc, hm, hlen, hel, _, _⟩
  · simp only [List.cons.injEq, and_true] at hv
    subst hv
    exact ⟨[], .nil, (fun y hy => by cases hy), Nat.zero_le _⟩
  · simp only [List.cons.injEq, and_true] at hv
    subst hv
    obtain ⟨hs, hbk⟩ := hok a len cap rfl
    obtain ⟨gb, off, spot⟩ := a
    simp only at hs hbk
    subst hs
    have row : ∀ i, i < len → ∃ (p : List Int × Int) (y : Value), W.cell? ⟨gb, off + 2 * i, none⟩ = some y ∧ W.cell? ⟨gb, off + (2 * i + 1), none⟩ = some (.int .i64 p.2) ∧ Rep NoM W (.sl (byts p.1)) y ∧ BytW p.1 ∧ p.1.length ≤ maxLen ∧ y.oneCell' = true ∧ -9223372036854775808 ≤ p.2 ∧ p.2 ≤ 9223372036854775807 := by
      intro i hi2
      have q1 := hel i hi2
      have hil : i < elems.length := by omega
      rw [List.getElem?_eq_getElem hil] at q1
      obtain ⟨r, hr, q2⟩ := Option.bind_eq_some_iff.1 q1
      rw [hn2] at hr
      have q3 := World.cells?_some hr
      obtain ⟨y, z, rfl⟩ : ∃ y z, r = [y, z] := by
        match r, q3.2.1 with
        | [y, z], _ => exact ⟨y, z, rfl⟩
      have q4 := q3.2.2 0 (by omega)
      have q5 := q3.2.2 1 (by omega)
      obtain ⟨y0, y1, m, _, _, t0, t1⟩ := trod_struct2 he q2
      rw [o0, h0] at t0
      rw [o1, h1] at t1
      have t0 : DataW.trod enc P W base (fun _ => true) held m f0.type [y] = some y0 := t0
      have t1 : DataW.trod enc P W base (fun _ => true) held m f1.type [z] = some y1 := t1
      obtain ⟨s, p1, p2, p3, p4⟩ := arg_bytes_m hf hfl hn hby t0
      obtain ⟨_, hlf⟩ := flat_trod 3 hi t1
      obtain ⟨k, rfl, hk⟩ := hlf 0 _ z rfl rfl
      have hk := wf_i64 hk
      have e1 : (Addr.add (Addr.add ⟨gb, off, none⟩ (i * 2)) 0) = ⟨gb, off + 2 * i, none⟩ := by rw [add_lit, add_lit, Nat.add_zero, Nat.mul_comm]
      have e2 : (Addr.add (Addr.add ⟨gb, off, none⟩ (i * 2)) 1) = ⟨gb, off + (2 * i + 1), none⟩ := by rw [add_lit, add_lit, Nat.mul_comm, Nat.add_assoc]
      rw [e1] at q4
      rw [e2] at q5
      exact ⟨(s, k), y, q4, q5, p1, p2, p3, p4, hk.1, hk.2⟩
    have rows : ∀ m, m ≤ len → ∃ (l : List (List Int × Int)) (ys : List Value), l.length = m ∧ ys.length = 2 * m ∧ (∀ (i : Nat) p, l[i]? = some p → ∃ y, ys[2 * i]? = some y ∧ ys[2 * i + 1]? = some (.int .i64 p.2) ∧ W.cell? ⟨gb, off + 2 * i, none⟩ = some y ∧ W.cell? ⟨gb, off + (2 * i + 1), none⟩ = some (.int .i64 p.2) ∧ Rep NoM W (.sl (byts p.1)) y ∧ BytW p.1 ∧ p.1.length ≤ maxLen ∧ y.oneCell' = true ∧ -9223372036854775808 ≤ p.2 ∧ p.2 ≤ 9223372036854775807) := by
      intro m
      induction m with
      | zero => exact fun _ => ⟨[], [], rfl, rfl, fun i p h => by simp at h⟩
      | succ m ih =>
        intro hm2
        obtain ⟨l, ys, h1, h2, h3⟩ := ih (by omega)
        obtain ⟨p, y, hsy⟩ := row m (by omega)
        refine ⟨l ++ [p], ys ++ [y, .int .i64 p.2], by simp [h1], by simp [h2]; omega, fun i p' hi => ?_⟩
        rcases Nat.lt_or_ge i m with h4 | h4
        · rw [List.getElem?_append_left (by omega)] at hi
          obtain ⟨y', k1, k2, k3⟩ := h3 i p' hi
          exact ⟨y', by rw [List.getElem?_append_left (by omega)]; exact k1, by rw [List.getElem?_append_left (by omega)]; exact k2, k3⟩
        · have hil : i < m + 1 := by
            have := (List.getElem?_eq_some_iff.1 hi).1
            simp [h1] at this
            omega
          have hie : i = m := by omega
          subst hie
          rw [List.getElem?_append_right (by omega), h1, Nat.sub_self] at hi
          simp at hi
          subst hi
          exact ⟨y, by rw [List.getElem?_append_right (by omega), h2]; simp, by rw [List.getElem?_append_right (by omega), h2, show 2 * i + 1 - 2 * i = 1 by omega]; rfl, hsy⟩
    obtain ⟨l, ys, hsl, hyl, hsy⟩ := rows len (Nat.le_refl _)
    have hfl2 : (flat (strs l)).length = 2 * l.length := by
      rw [flat_strs]
      clear hsy hsl
      induction l with
      | nil => rfl
      | cons p l ih => simp only [List.flatMap_cons, List.length_append, List.length_cons, List.length_nil] at ih ⊢; omega
    have hfa : ∀ (l : List (List Int × Int)) (i : Nat) p, l[i]? = some p → (flat (strs l))[2 * i]? = some (.sl (byts p.1)) ∧ (flat (strs l))[2 * i + 1]? = some (.val (.int .i64 p.2)) := by
      intro l
      induction l with
      | nil => intro i p h; simp at h
      | cons q l ih =>
        intro i p h
        have e : flat (strs (q :: l)) = .sl (byts q.1) :: .val (.int .i64 q.2) :: flat (strs l) := by
          show (strV q.1 q.2).cells ++ flat (strs l) = _
          rfl
        rw [e]
        cases i with
        | zero => simp at h; subst h; exact ⟨rfl, rfl⟩
        | succ i => exact ih i p (by simpa using h)
    have hin : ∀ j, j < ys.length → ∃ i p, l[i]? = some p ∧ (j = 2 * i ∨ j = 2 * i + 1) := fun j hj => by
      have : j / 2 < l.length := by omega
      exact ⟨j / 2, _, List.getElem?_eq_getElem this, by omega⟩
    refine ⟨l, .sl _ gb off len cap ys (by simp [strs, hsl]) (by rw [hfl2, hsl, hyl]) (fun j y hy => ?_) (fun j c y hc hy => ?_) (fun y hy => ?_) (fun _ _ h => h) hbk hlc hm, fun p hp => ?_, by omega⟩
    · obtain ⟨i, p, hp, rfl | rfl⟩ := hin j (List.getElem?_eq_some_iff.1 hy).1
      · obtain ⟨y', k1, k2, k3, k4, _⟩ := hsy i p hp
        rw [k1] at hy
        cases hy
        exact k3
      · obtain ⟨y', k1, k2, k3, k4, _⟩ := hsy i p hp
        rw [k2] at hy
        cases hy
        exact k4
    · obtain ⟨i, p, hp, rfl | rfl⟩ := hin j (List.getElem?_eq_some_iff.1 hy).1
      · obtain ⟨y', k1, k2, k3, k4, k5, _⟩ := hsy i p hp
        rw [k1] at hy
        rw [(hfa l i p hp).1] at hc
        cases hy
        cases hc
        exact k5
      · obtain ⟨y', k1, k2, k3, k4, k5, _⟩ := hsy i p hp
        rw [k2] at hy
        rw [(hfa l i p hp).2] at hc
        cases hy
        cases hc
        exact .val _
    · obtain ⟨j, hj, rfl⟩ := List.getElem_of_mem hy
      obtain ⟨i, p, hp, hh⟩ := hin j hj
      obtain ⟨y', k1, k2, k3, k4, k5, k6, k7, k8, _⟩ := hsy i p hp
      have hy2 := List.getElem?_eq_getElem hj
      rcases hh with rfl | rfl
      · rw [k1] at hy2
        rw [← Option.some.inj hy2]
        exact k8
      · rw [k2] at hy2
        rw [← Option.some.inj hy2]
        rfl
    · obtain ⟨j, hj, rfl⟩ := List.getElem_of_mem hp
      obtain ⟨y', k1, k2, k3, k4, k5, k6, k7, k8, k9⟩ := hsy j _ (List.getElem?_eq_getElem hj)
      exact ⟨k6, k7, k9⟩
theorem arg_u64s_c {t e : TypeId} {v : Value} {fuel : Nat} {x : DataW H × List MemPlace} (ht : P.underlying t = some (.slice e)) (hfl : flatB P 3 e [.int .u64] = true) (hn : P.cellsOf e = 1) (hok : ∀ a len cap, v = .slice (some a) len cap → a.spot = none ∧ a.block < W.heap.size)
    (h : DataW.trod enc P W base (fun _ => true) held fuel t [v] = some x) : ∃ l : List Int, Rep NoM W (.sl (wds l)) v ∧ (∀ x ∈ l, 0 ≤ x ∧ x < 18446744073709551616) := by
  obtain ⟨rows, h1, h2, h3⟩ := arg_rows (ls := [.int .u64]) ht hfl hn hok h
  suffices ∃ l : List Int, rows = l.map (fun b => [Value.int .u64 b]) ∧ ∀ x ∈ l, 0 ≤ x ∧ x < 18446744073709551616 by
    obtain ⟨l, rfl, h4⟩ := this
    refine ⟨l, h3 _ ?_, h4⟩
    unfold wds
    rw [List.map_map, List.map_map]
    rfl
  clear h3 h2
  induction rows with
  | nil => exact ⟨[], rfl, fun x hx => by simp at hx⟩
  | cons r rs ih =>
    obtain ⟨hl, hx⟩ := h1 r (by simp)
    match r, hl with
    | [y], _ =>
      obtain ⟨b, rfl, hb⟩ := hx 0 _ y rfl rfl
      obtain ⟨l, rfl, h4⟩ := ih fun r h => h1 r (by simp [h])
      refine ⟨b :: l, rfl, fun y hy => ?_⟩
      rcases List.mem_cons.1 hy with rfl | hy
      · exact wf_u64 hb
      · exact h4 y hy
end
end Go.Proofs.YtmfbamiciieooaaGreatDoor
/- Arguments: a world. -/
namespace Go.Proofs.YtmfbamiciieooaaGreatDoor
set_option maxRecDepth 100000
set_option maxHeartbeats 16000000
open Go Go.RowKit Go.ChangeShapes Go.WideShapes Go.ChangeAt
set_option linter.unusedVariables false
/-- a row of streams in a cell -/
theorem arg_strs_c {H : Type} {enc : TypeId × Value → H} {W : World} {v : Value} {fuel base : Nat} {held : Bool} {x : DataW H × List MemPlace} (hok : ∀ a len cap, v = .slice (some a) len cap → a.spot = none ∧ a.block < W.heap.size) (h : DataW.trod enc Tryz.prog W base (fun _ => true) held fuel 28 [v] = some x) :
    ∃ l : List (List Int × Int), Rep NoM W (.sl (strs l)) v :=
  let ⟨l, a, _⟩ := arg_strs Tryz.underlying28 Tryz.underlying68 (by kernel_rfl) rfl rfl (by kernel_rfl) (by kernel_rfl) Tryz.underlying22 (by kernel_rfl) (by kernel_rfl) (by kernel_rfl) (by kernel_rfl) hok h
  ⟨l, a⟩
theorem arg_world {H : Type} {enc : TypeId × Value → H} {W : World} {base : Nat} {v : Value} {d : DataW H} {p : List MemPlace} (hv : Value.okWide Tryz.prog W .any base 33 v) (h : DataW.Trod enc Tryz.prog W 0 (fun _ => true) true 33 v d p) :
    ∃ t c ws root r0 r1, Rep NoM W (xK t c ws root r0 r1) v := by
  obtain ⟨cs, rfl, hsz⟩ := okWide_struct Tryz.underlying33 hv
  obtain ⟨cl⟩ := cs
  obtain ⟨fuel, hf⟩ := h
  have hf : DataW.trod enc Tryz.prog W 0 (fun _ => true) true fuel 33 cl = some (d, p) := hf
  obtain ⟨xs, n, _, _, hcl, hxl, hg⟩ := DataW.trod_struct Tryz.underlying33 hf
  have hcl : cl.length = 6 := hcl.trans (by kernel_rfl)
  match cl, hcl with
  | [a0, a1, a2, a3, a4, a5], _ =>
    have hm := hg 0 _ rfl
    have hd := hg 1 _ rfl
    obtain ⟨y0, hy0⟩ : ∃ y, xs[0]? = some y := ⟨xs[0]'(by rw [hxl]; decide), List.getElem?_eq_getElem _⟩
    obtain ⟨y1, hy1⟩ : ∃ y, xs[1]? = some y := ⟨xs[1]'(by rw [hxl]; decide), List.getElem?_eq_getElem _⟩
    rw [hy0] at hm
    rw [hy1] at hd
    have hm : DataW.trod enc Tryz.prog W 0 (fun _ => true) true n 26 [a0, a1, a2] = some y0 := hm
    have hd : DataW.trod enc Tryz.prog W 0 (fun _ => true) true n 31 [a3, a4, a5] = some y1 := hd
    obtain ⟨_, hlf⟩ := flat_trod (ls := [.int .i64, .int .i64, .any]) 8 (by kernel_rfl) hm
    obtain ⟨n0, rfl, _⟩ := hlf 0 _ a0 rfl rfl
    obtain ⟨n1, rfl, _⟩ := hlf 1 _ a1 rfl rfl
    have o2 := hlf 2 _ a2 rfl rfl
    obtain ⟨zs, n', _, _, _, hzl, hgm⟩ := DataW.trod_struct Tryz.underlying26 hm
    obtain ⟨y2, hy2⟩ : ∃ y, zs[2]? = some y := ⟨zs[2]'(by rw [hzl]; decide), List.getElem?_eq_getElem _⟩
    have hw := hgm 2 _ rfl
    rw [hy2] at hw
    have hw : DataW.trod enc Tryz.prog W 0 (fun _ => true) true n' 24 [a2] = some y2 := hw
    have ts : ∀ (i : Nat) u c, ([3, 3, 24, 27, 28, 28] : List TypeId)[i]? = some u → ([.int .i64 n0, .int .i64 n1, a2, a3, a4, a5] : List Value)[i]? = some c → Cell.okWide Tryz.prog W .any base u c := fun i u c h1 h2 => wide_cell (i := i) (ts := [3, 3, 24, 27, 28, 28]) (u := u) (v := c) Tryz.underlying33 hv (by kernel_rfl) h1 (by simpa using h2)
    obtain ⟨ws, rw_, _⟩ := arg_u64s_c Tryz.underlying24 (by kernel_rfl) (by kernel_rfl) (fun a len cap e => by
      subst e
      have := cell_slice Tryz.underlying24 (ts 2 _ _ rfl rfl)
      exact ⟨this.1, this.2.1⟩) hw
    obtain ⟨us, n2, _, _, _, hul, hgd⟩ := DataW.trod_struct Tryz.underlying31 hd
    obtain ⟨y3, hy3⟩ : ∃ y, us[0]? = some y := ⟨us[0]'(by rw [hul]; decide), List.getElem?_eq_getElem _⟩
    obtain ⟨y4, hy4⟩ : ∃ y, us[1]? = some y := ⟨us[1]'(by rw [hul]; decide), List.getElem?_eq_getElem _⟩
    have hr := hgd 0 _ rfl
    have hrows := hgd 1 _ rfl
    rw [hy3] at hr
    rw [hy4] at hrows
    have hr : DataW.trod enc Tryz.prog W 0 (fun _ => true) true n2 27 [a3] = some y3 := hr
    have hrows : DataW.trod enc Tryz.prog W 0 (fun _ => true) true n2 29 [a4, a5] = some y4 := hrows
    obtain ⟨_, hlr⟩ := flat_trod (ls := [.int .u64]) 3 (by kernel_rfl) hr
    obtain ⟨root, rfl, _⟩ := hlr 0 _ a3 rfl rfl
    obtain ⟨vs, n3, _, _, _, hvl, hga⟩ := DataW.trod_array Tryz.underlying29 hrows
    obtain ⟨y5, hy5⟩ : ∃ y, vs[0]? = some y := ⟨vs[0]'(by rw [hvl]; decide), List.getElem?_eq_getElem _⟩
    obtain ⟨y6, hy6⟩ : ∃ y, vs[1]? = some y := ⟨vs[1]'(by rw [hvl]; decide), List.getElem?_eq_getElem _⟩
    have h0 := hga 0 (by decide)
    have h1 := hga 1 (by decide)
    rw [hy5] at h0
    rw [hy6] at h1
    have h0 : DataW.trod enc Tryz.prog W 0 (fun _ => true) true n3 28 [a4] = some y5 := h0
    have h1 : DataW.trod enc Tryz.prog W 0 (fun _ => true) true n3 28 [a5] = some y6 := h1
    obtain ⟨_, hl4⟩ := flat_trod (ls := [.any]) 3 (by kernel_rfl) h0
    obtain ⟨_, hl5⟩ := flat_trod (ls := [.any]) 3 (by kernel_rfl) h1
    have o4 := hl4 0 _ a4 rfl rfl
    have o5 := hl5 0 _ a5 rfl rfl
    obtain ⟨r0, q0⟩ := arg_strs_c (fun a len cap e => by
      subst e
      have := cell_slice Tryz.underlying28 (ts 4 _ _ rfl rfl)
      exact ⟨this.1, this.2.1⟩) h0
    obtain ⟨r1, q1⟩ := arg_strs_c (fun a len cap e => by
      subst e
      have := cell_slice Tryz.underlying28 (ts 5 _ _ rfl rfl)
      exact ⟨this.1, this.2.1⟩) h1
    refine ⟨n0, n1, ws, root, r0, r1, ?_⟩
    refine .agg _ [.int .i64 n0, .int .i64 n1, a2, .int .u64 root, a4, a5] rfl (fun i c u hc hu => ?_) (fun u hu => ?_)
    · match i with
      | 0 => simp at hc hu; subst hc hu; exact .val _
      | 1 => simp at hc hu; subst hc hu; exact .val _
      | 2 => simp at hc hu; subst hc hu; exact rw_
      | 3 => simp at hc hu; subst hc hu; exact .val _
      | 4 => simp at hc hu; subst hc hu; exact q0
      | 5 => simp at hc hu; subst hc hu; exact q1
      | i + 6 => simp at hc
    · simp only [List.mem_cons, List.not_mem_nil, or_false] at hu
      rcases hu with rfl | rfl | rfl | rfl | rfl | rfl
      · rfl
      · rfl
      · exact o2
      · rfl
      · exact o4
      · exact o5
end Go.Proofs.YtmfbamiciieooaaGreatDoor
/- For every input VertSealed returns true, and leaves its arguments as they were; tied: Rows.VertSealedCardSaid. Conditions: none beyond the given statement's own. -/
namespace Go.Proofs.YtmfbamiciieooaaGreatDoor
set_option maxRecDepth 100000
set_option maxHeartbeats 16000000
open Go Go.RowKit Go.ChangeShapes Go.WideShapes Go.ChangeAt
set_option linter.unusedVariables false
theorem vertSealed_lifted (os : Os) (started : os.Started) (H : Type) (enc : TypeId × Value → H) :
    ReturnsInHanded {} Tryz.checked os 5 .any (fun w args => (Rows.vertSealedSpec.pre enc Tryz.prog Tryz.f5 [] false w args ∧ laidMetH Tryz.prog laidL w) ∧ sizedMet enc Tryz.prog Tryz.f5 (OpenSpec.ofChange Rows.vertSealedSpec) false w args)
      (Rows.vertSealedSpec.post enc Tryz.prog Tryz.f5 false true false false) := by
  refine returnsInHanded_of_change_and (C := Tryz.checked) (X := fun w _ => laidMetH Tryz.prog laidL w) (fun _ _ _ hh h => h.of_heap hh) ownT started (by kernel_rfl) Tryz.func5
    (ChangeSpec.witness_shaped (enc := enc) (C := Tryz.checked) (os := os) (X := fun w _ => laidMetH Tryz.prog laidL w) false (World.doorLaid Tryz.prog 400 os) #[.agg #[.int .i64 0, .int .i64 0, .slice none 0 0, .int .u64 0, .slice none 0 0, .slice none 0 0], .int .u8 0, .int .i64 0] 8 rfl (World.shaped_of_RefB (by kernel_rfl) (by kernel_rfl)) (by kernel_rfl) (by kernel_rfl) (by kernel_rfl) (door_met os _)) ?_
  intro W base args ds gs before hval0 hW hcnd hwt hL _
  have hval : ∀ (j : Nat) t v, Tryz.f5.params[j]? = some t → args[j]? = some v → Value.okWide Tryz.prog W .any base t v := hval0
  have hW' := hW
  obtain ⟨p, q, hA0, hV, rfl, hfz, hnd⟩ := hW
  have hA : DataW.TrodAll enc Tryz.prog W 0 (fun _ => true) true Tryz.f5.params.toList args.toList ds p := hA0
  rw [Tryz.params5] at hA hval
  obtain ⟨v0, vs0, d0, ds0, p0, q0, hargs, rfl, rfl, h0, r0⟩ := trodAll_cons hA
  obtain ⟨v1, vs1, d1, ds1, p1, q1, rfl, rfl, rfl, h1, r1⟩ := trodAll_cons r0
  obtain ⟨v2, vs2, d2, ds2, p2, q2, rfl, rfl, rfl, h2, r2⟩ := trodAll_cons r1
  obtain ⟨rfl, rfl, rfl⟩ := trodAll_nil r2
  obtain rfl : args = #[v0, v1, v2] := by cases args; simp_all
  obtain ⟨rfl, rfl⟩ := trodVars_none hV
  have lt0 : ∀ x ∈ p0, x.block < W.heap.size := by obtain ⟨m, hm⟩ := h0; exact DataW.trod_lt m _ _ _ hm
  have lt1 : ∀ x ∈ p1, x.block < W.heap.size := by obtain ⟨m, hm⟩ := h1; exact DataW.trod_lt m _ _ _ hm
  have lt2 : ∀ x ∈ p2, x.block < W.heap.size := by obtain ⟨m, hm⟩ := h2; exact DataW.trod_lt m _ _ _ hm
  have o0 := hval 0 33 v0 rfl rfl
  obtain ⟨t0, c0, ws0, root0, x0, z0, rp0⟩ := arg_world o0 h0
  have o1 := hval 1 5 v1 rfl rfl
  obtain ⟨a1, e1, _, _, wf1⟩ := open_int Tryz.underlying5 o1 h1
  have rp1 : Rep NoM W (.val (.int .u8 a1)) v1 := e1 ▸ .val _
  have g1 := bounds_u8 wf1
  have o2 := hval 2 3 v2 rfl rfl
  obtain ⟨a2, e2, _, _, wf2⟩ := open_int Tryz.underlying3 o2 h2
  have rp2 : Rep NoM W (.val (.int .i64 a2)) v2 := e2 ▸ .val _
  clear hA0 hval0
  refine ((vertSealed_fn t0 c0 ws0 root0 x0 z0 a1 a2 (by omega)).law (lays_of_laid hL) (vs := [v0, v1, v2]) rfl (repsC rp0 (repsC rp1 (reps1 rp2)))).mono fun e W' ⟨he, bel⟩ => ?_
  subst he
  exact ⟨_, rfl, _, _, _, [], _, [], hW', trodAll_mk1 (shut_bool Tryz.underlying4 _), (trodAll_cons_mk (Below.trod laidOutT (by kernel_rfl) (of_decide_eq_true (by kernel_rfl)) h0 bel lt0) (trodAll_cons_mk (Below.trod laidOutT (by kernel_rfl) (of_decide_eq_true (by kernel_rfl)) h1 bel lt1) (trodAll_cons_mk (Below.trod laidOutT (by kernel_rfl) (of_decide_eq_true (by kernel_rfl)) h2 bel lt2) trodAll_mk0))), rfl, bel.frame _, fun h => by cases h⟩
theorem vertSealed_holds : Rows.VertSealedSaid :=
  OpenClaim.holds_of_wide 5 Tryz.f5 rfl rfl rfl rfl rfl rfl rfl ⟨rfl, rfl, rfl, rfl, rfl⟩ rfl rfl rfl rfl rfl (by kernel_rfl) Tryz.func5 (by kernel_rfl)
    (of_decide_eq_true (by kernel_rfl)) (by unfold Func.isWrapper; first | (rw [if_pos (by decide +kernel)]; kernel_rfl) | (rw [if_neg (by decide +kernel)]; exact ⟨rfl, rfl⟩))
    (fun os started H enc _ => vertSealed_lifted os started H enc)
theorem vertSealedCard_holds : Rows.VertSealedCardSaid :=
  Claim7.holds_tied_plain_at .later [] [.data] true _ true
    vertSealed_holds (fun _ h => by cases h) (by kernel_rfl) (fun _ h => by cases h) vertSealed_row_tie rfl ⟨rfl, rfl⟩ (by kernel_rfl) rfl
    (fun f fn hf hfn => by
      obtain rfl : f = 5 := Option.some.inj ((show Tryz.prog.funcNamed "weald/wealdlaw16.VertSealed" = some 5 by kernel_rfl).symm.trans hf) |>.symm
      obtain rfl : fn = Tryz.f5 := (Option.some.inj (Tryz.func5.symm.trans hfn)).symm
      exact ⟨by kernel_rfl, fun j t ht => by
        rw [Tryz.params5] at ht
        have hm : t ∈ [33, 5, 3] := by simpa using Array.mem_of_getElem? ht
        have hall : ([33, 5, 3].all fun u => !Tryz.prog.wantsStandIn u) = true := by kernel_rfl
        exact (show Tryz.prog.wantsStandIn t = false by simpa using List.all_eq_true.1 hall t hm)⟩)
    (by kernel_rfl)
#print axioms vertSealedCard_holds
end Go.Proofs.YtmfbamiciieooaaGreatDoor
