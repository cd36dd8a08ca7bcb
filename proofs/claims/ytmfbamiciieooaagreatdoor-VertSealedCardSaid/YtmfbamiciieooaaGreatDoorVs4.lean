/- Of a sealed store each operation of a vertex that may be is answered so, by one access, and turns nothing; one of a key that may not be by none. (Part 4 of 9.) -/
import Derived.Test.YtmfbamiciieooaaGreatDoorVs3
import Derived.Laws.BitsAllLaws
import Derived.Scope
import Derived.RangeFuncLeaves
import Derived.RangeFuncCalls
import Derived.RangeFuncRecord
import Derived.Laws.OwnMore
import Derived.ArgAppend
/- Calls, with what is found by itself. Generic over the program. -/
namespace Go.Proofs.YtmfbamiciieooaaGreatDoor
set_option maxRecDepth 100000
set_option maxHeartbeats 16000000
open Go Go.RowKit
set_option linter.unusedVariables false
section
variable {P : Program} {n : Nat} {o : Oper} {S : AS} {d : Nat} {K : Exit → AS → Prop}
theorem enA {f : FuncId} {avs : List AV} (h : Enters P o S f avs := by first | exact enters_fn rfl | exact enters_clo rfl rfl | exact enters_val rfl rfl | exact enters_mp rfl rfl | exact enters_mv rfl rfl rfl rfl) : Enters P o S f avs := h
theorem haA {ids : List Nat} {B : List Blk} (h : Hands S ids B := by exact vH (by decide) rfl (by repeat' first | exact trivial | rfl | constructor)) : Hands S ids B := h
/-- a call that ends -/
theorem zF.eR {f : FuncId} {avs xs : List AV} {B B' : List Blk} {rx : AV} {N : AS → Prop} (ids : List Nat) (hf : FnE P f xs B (.ret rx) B') (k : N ((S.after ids B').put d (rx.ren (sig ids)))) (hd : o.dst = some d := by rfl) (hn : d < n := by decide) (he : Enters P o S f avs := by exact enA) (hx : avs = xs.map (AV.ren (sig ids)) := by rfl) (hh : Hands S ids B := by exact haA)
    (hl : B'.length = B.length := by rfl) (hok : B'.all (Blk.okE B.length) = true := by rfl) (hxs : xs.all (AV.okE B.length) = true := by rfl) (hrx : rx.okE B.length = true := by rfl) : zF P n o S K N := zF.eRet ids hf hd hn he hx hh hl hok hxs hrx k
/-- a call that panics -/
theorem zF.eP {f : FuncId} {avs xs : List AV} {B B' : List Blk} {rx : AV} {N : AS → Prop} (ids : List Nat) (hf : FnE P f xs B (.pan rx) B') (k : K (.panic []) { S.after ids B' with x := rx.ren (sig ids) }) (he : Enters P o S f avs := by exact enA) (hx : avs = xs.map (AV.ren (sig ids)) := by rfl) (hh : Hands S ids B := by exact haA)
    (hl : B'.length = B.length := by rfl) (hok : B'.all (Blk.okE B.length) = true := by rfl) (hxs : xs.all (AV.okE B.length) = true := by rfl) (hrx : rx.okE B.length = true := by rfl) : zF P n o S K N := zF.ePan ids hf he hx hh hl hok hxs hrx k
end
section
variable {n : Nat} {o : Oper} {S : AS} {d : Nat} {K : Exit → AS → Prop}
/-- a call of what makes accesses -/
theorem zF.hd {α : Type} {f0 : FuncId} {avs xs : List AV} {bk : List Blk} {res : α → AV} {bk' : α → List Blk} {good : α → Prop} {H : Hnd} {s : H.σ} {p0 : Pr α} {N : AS → Prop} (i : List Nat) (hd : o.dst = some d := by rfl) (hn : d < n := by decide) (he : Enters Tryz.prog o S f0 avs := by exact enA)
    (hx : avs = xs.map (AV.ren (sig (1000 :: 1001 :: 1002 :: i))) := by rfl) (hnd : (1000 :: 1001 :: 1002 :: i).Nodup := by decide)
    (h0 : S.blk 1000 = some (H.b0 s) := by first | rfl | exact xB rfl (H.nk _).1 (by repeat' first | exact KB.refl | apply KB.kill | decide)) (h1 : S.blk 1001 = some (H.b1 s) := by first | rfl | exact xB rfl (H.nk _).2.1 (by repeat' first | exact KB.refl | apply KB.kill | decide)) (h2 : S.blk 1002 = some (H.b2 s) := by first | rfl | exact xB rfl (H.nk _).2.2 (by repeat' first | exact KB.refl | apply KB.kill | decide))
    (hat : AtB S (1000 :: 1001 :: 1002 :: i) i bk := by repeat' first | exact trivial | rfl | constructor) (hbk : bk.all (Blk.okE (bk.length + 3)) = true := by rfl) (hxs : xs.all (AV.okE (bk.length + 3)) = true := by rfl) (hrx : ∀ x, (res x).okE (bk.length + 3) = true := by exact fun _ => rfl)
    (hbk' : ∀ x, (bk' x).length = bk.length ∧ (bk' x).all (Blk.okE (bk.length + 3)) = true := by exact fun _ => ⟨rfl, rfl⟩) (hok : H.ok s := by assumption) (f : FnH H f0 xs bk res bk' good s p0)
    (r : ∀ x s', p0.run H.st s = .done x s' → good x → H.ok s' → N (({ S with s := vJ (1000 :: 1001 :: 1002 :: i) (H.b0 s' :: H.b1 s' :: H.b2 s' :: (bk' x).map (Blk.ren (sig (1000 :: 1001 :: 1002 :: i)))) S.s } : AS).put d ((res x).ren (sig (1000 :: 1001 :: 1002 :: i)))))
    (p : ∀ q s', p0.run H.st s = .need q s' → K (.panic []) { S with s := vJ (1000 :: 1001 :: 1002 :: i) (H.b0 s' :: H.b1 s' :: H.b2 s' :: (bk.map Blk.forget).map (Blk.ren (sig (1000 :: 1001 :: 1002 :: i)))) S.s, x := needA (accQ q) })
    (t : p0.run H.st s ≠ .stuck) : zF Tryz.prog n o S K N := zF.held H i hd hn he hx hnd h0 h1 h2 hat hbk hxs hrx hbk' hok f r p t
end
end Go.Proofs.YtmfbamiciieooaaGreatDoor
/- The accesses of play, whatever makes them; and by a log: contracts. -/
namespace Go.Proofs.YtmfbamiciieooaaGreatDoor
set_option maxRecDepth 100000
set_option maxHeartbeats 16000000
open Go Go.RowKit
set_option linter.unusedSimpArgs false
set_option linter.unusedVariables false
attribute [local irreducible] zY zZ Step zX Sub zD zF Fn
theorem do_ret3 (L : List xM) (i : Nat) (r : xM) (hr : L[i]? = some r) (hL : L.length ≤ 1000000) (kind cell a b : Int) (data : PV) :
    FnE Tryz.prog 47 [.p (accV kind cell a b data), .ptr 1000 0, .ptr 1001 0] [atB i, logB L, isB false] (.ret (.p (qN r))) [atB (i + 1), logB L, isB false] := by
  have hi : i < L.length := (List.getElem?_eq_some_iff.1 hr).1
  have g1 : decide ((i : Int) = ((L.map qN).length : Int)) = false := decide_eq_false (by simp; omega)
  have g2 : IntKind.i64.wrap ((i : Int) + 1) = ((i + 1 : Nat) : Int) := by rw [wrap_i64 _ (by omega)]; omega
  have g3 : IntKind.i64.wrap (((i + 1 : Nat) : Int) - 1) = (i : Int) := by rw [wrap_i64 _ (by omega)]; omega
  have g4 := resV_cells L
  have g5 : (L.map qN)[i]? = some (qN r) := by rw [List.getElem?_map, hr]; rfl
  refine fn_ofE Tryz.func47 rfl Tryz.ntmps47 (Nat.le_of_ble_eq_true rfl) (by decide) ?_
  repeat' (first | (refine zY.nil ?_) | (refine zZ.is ?_; first | refine zZ.seq ?_ | (refine zZ.isR (id := 0) ?_; refine zZ.rc [0, 1, 2] [3, 4, 1000, 1001, 1002] (r := (.m yD (.m zS .e))) (h := ?_)) | (refine zZ.isR (id := 1) ?_; refine zZ.rc [1, 2, 3, 4] [3, 4, 1000, 1001, 1002] (r := (.v zN (.v zN (.v wO (.v v41_0 .e))))) (h := ?_)) | (refine zZ.isR (id := 3) ?_; refine zZ.rc [1, 2, 4] [3, 4, 1000, 1001, 1002] (r := (.v zN (.v wC (.w zR .e)))) (h := ?_)) | (refine zZ.isR (id := 4) ?_; refine zZ.rc [1, 2, 4] [3, 4, 1000, 1001, 1002] (r := (.v zN (.v zN (.v v31_0 (.v v7_18 (.v v2_7 (.w zR .e))))))) (h := ?_)) | refine zZ.yH rfl bA ?_ | refine zZ.skip ?_ | refine zZ.ret ?_))
  all_goals exact ⟨.inl rfl, _, Sub.refl _, .p (r := .cell 4 55) rfl (.cellN rfl rfl (by rfl) (by rfl)), wL (by repeat' first | exact trivial | rfl | constructor)⟩
theorem do_pan3 (L : List xM) (_ : L.length ≤ 1000000) (kind cell a b : Int) (data : PV) :
    FnE Tryz.prog 47 [.p (accV kind cell a b data), .ptr 1000 0, .ptr 1001 0] [atB L.length, logB L, isB false] (.pan (needA (accV kind cell a b data))) [atB L.length, logB L, isB false] := by
  have g1 : decide ((L.length : Int) = ((L.map qN).length : Int)) = true := decide_eq_true (by simp)
  refine fn_ofE Tryz.func47 rfl Tryz.ntmps47 (Nat.le_of_ble_eq_true rfl) (by decide) ?_
  repeat' (first | (refine zY.is ?_; first | refine zY.nil ?_ | refine zY.ofT rfl (zF.panic rfl rfl ?_)) | (refine zZ.is ?_; first | refine zZ.seq ?_ | (refine zZ.isR (id := 0) ?_; refine zZ.rc [0, 1, 2] [3, 4, 1000, 1001, 1002] (r := (.m yD (.m zS .e))) (h := ?_)) | (refine zZ.isR (id := 1) ?_; refine zZ.rc [1, 2, 3, 4] [3, 4, 1000, 1001, 1002] (r := (.v zN (.v zN (.v wO (.v v41_0 .e))))) (h := ?_)) | (refine zZ.isR (id := 2) ?_; refine zZ.rc [1, 2, 3, 4] [3, 4, 1000, 1001, 1002] (r := (.v yU (.v y9 (.v v13_0 .e)))) (h := ?_)) | refine zZ.yF rfl bA ?_))
  all_goals exact ⟨rfl, rfl, wL (by repeat' first | exact trivial | rfl | constructor)⟩
/-- a log -/
def hLog (L : List xM) (hL : LogOK L) : Hnd where
  σ := Nat
  fn := 47
  b0 := atB
  b1 := fun _ => logB L
  b2 := fun _ => isB false
  ok := fun i => i ≤ L.length
  st := wP L
  stOK := stOK_log hL
  has := inferInstance
  okE := fun _ _ _ => ⟨rfl, rfl, rfl⟩
  ren := fun _ _ => ⟨rfl, rfl, rfl⟩
  nk := fun _ => ⟨fun _ _ => rfl, fun _ _ => rfl, fun _ _ => rfl⟩
  doOK := fun i q hi _ => by
    cases e : L[i]? with
    | some r =>
      have m : wP L i q = .ret r (i + 1) := by unfold wP; rw [e]
      rw [m]
      exact do_ret3 L i r e hL.1 q.kind q.cell q.a q.b q.d
    | none =>
      have m : wP L i q = .need q L.length := by unfold wP; rw [e]
      have hl : i = L.length := by have := List.getElem?_eq_none_iff.1 e; have : i ≤ L.length := hi; omega
      rw [m]
      subst hl
      exact do_pan3 L hL.1 q.kind q.cell q.a q.b q.d
/-! ### The accesses -/
theorem vI (H : Hnd) (s0 : H.σ) (c : Int) : FnH H 56 [H.doA, .p (.val (.int .i64 c))] [] (fun x => .p (.val (.int .u64 x))) (fun _ => []) U s0 (xL c) := by
  unfold Hnd.doA
  refine yO Tryz.func56 rfl Tryz.ntmps56 (Nat.le_of_ble_eq_true rfl) (by decide) (yQ c) fun hok hns => ?_
  repeat' (first | (refine zY.is ?_; first | refine zY.nil ?_ | (refine zY.at_ 9 rfl ?_; refine zY.rc (.v v11_0 (.v zK .e)) ?_) | (refine zY.in_ [8] rfl ?_; refine zY.ofT rfl (zF.hd (i := []) (f := do_h H s0 (qR 0 c 0 0 xQ) (yQ c).1) (r := fun x s e g hk => ?_) (p := fun q s e => ?_) (t := ?_)))) | (refine zZ.is ?_; first | refine zZ.seq ?_ | (refine zZ.isR (id := 0) ?_; refine zZ.rc [0, 1] [1000, 1001, 1002] (r := (.v zK .e)) (h := ?_)) | (refine zZ.isR (id := 1) ?_; refine zZ.rc [0, 1, 4] [1000, 1001, 1002] (r := (.v xJ (.v zV (.v y9 .e)))) (h := ?_)) | refine zZ.ret ?_))
  all_goals first
    | exact fun e => absurd (by show (Pr.bind (.ask (qR 0 c 0 0 xQ) .ret) fun r : xM => .ret r.n).run H.st s0 = _; rw [run_bind, e]; rfl) hns
    | exact .pan (q := q) rfl (by repeat' first | exact trivial | rfl | constructor) (by repeat' exact trivial) (by show (Pr.bind (.ask (qR 0 c 0 0 xQ) .ret) fun r : xM => .ret r.n).run H.st s0 = _; rw [run_bind, e]; rfl)
    | exact .ret (by exact .inl rfl) (.one rfl rfl) (by repeat' first | exact trivial | rfl | constructor) (by show (Pr.bind (.ask (qR 0 c 0 0 xQ) .ret) fun r : xM => .ret r.n).run H.st s0 = _; rw [run_bind, e]; rfl)
theorem qJ (H : Hnd) (s0 : H.σ) (c v : Int) (hv : U v) : FnH H 64 [H.doA, .p (.val (.int .i64 c)), .p (.val (.int .u64 v))] [] (fun _ => .any) (fun _ => []) yes s0 (qD c v) := by
  unfold Hnd.doA
  refine yO Tryz.func64 rfl Tryz.ntmps64 (Nat.le_of_ble_eq_true rfl) (by decide) (w9 c hv) fun hok hns => ?_
  repeat' (first | (refine zY.is ?_; first | refine zY.nil ?_ | (refine zY.in_ [10] rfl ?_; refine zY.ofT rfl (zF.hd (i := []) (f := do_h H s0 (qR 1 c v 0 xQ) (w9 c hv).1) (r := fun x s e g hk => ?_) (p := fun q s e => ?_) (t := ?_)))) | (refine zZ.is ?_; (refine zZ.isR (id := 0) ?_; refine zZ.rc [0, 1, 2] [1000, 1001, 1002] (r := (.v xJ (.v zV (.v zV (.v y9 .e))))) (h := ?_))))
  all_goals first
    | exact fun e => absurd (by show (Pr.bind (.ask (qR 1 c v 0 xQ) .ret) fun r : xM => .ret ()).run H.st s0 = _; rw [run_bind, e]; rfl) hns
    | exact .pan (q := q) rfl (by repeat' first | exact trivial | rfl | constructor) (by repeat' exact trivial) (by show (Pr.bind (.ask (qR 1 c v 0 xQ) .ret) fun r : xM => .ret ()).run H.st s0 = _; rw [run_bind, e]; rfl)
    | exact .ret (by exact .inr rfl) (.none rfl) (by repeat' first | exact trivial | rfl | constructor) (by show (Pr.bind (.ask (qR 1 c v 0 xQ) .ret) fun r : xM => .ret ()).run H.st s0 = _; rw [run_bind, e]; rfl)
theorem cas_h (H : Hnd) (s0 : H.σ) (c a b : Int) (ha : U a) (hb : U b) : FnH H 88 [H.doA, .p (.val (.int .i64 c)), .p (.val (.int .u64 a)), .p (.val (.int .u64 b))] [] (fun x => .p (.val (.bool x))) (fun _ => []) yes s0 (casP c a b) := by
  unfold Hnd.doA
  refine yO Tryz.func88 rfl Tryz.ntmps88 (Nat.le_of_ble_eq_true rfl) (by decide) (vW c ha hb) fun hok hns => ?_
  repeat' (first | (refine zY.is ?_; first | refine zY.nil ?_ | (refine zY.at_ 15 rfl ?_; refine zY.rc (.v v11_0 (.v v41_8 (.v zK .e))) ?_) | (refine zY.in_ [14] rfl ?_; refine zY.ofT rfl (zF.hd (i := []) (f := do_h H s0 (qR 2 c a b xQ) (vW c ha hb).1) (r := fun x s e g hk => ?_) (p := fun q s e => ?_) (t := ?_)))) | (refine zZ.is ?_; first | refine zZ.seq ?_ | (refine zZ.isR (id := 0) ?_; refine zZ.rc [0, 1, 2, 3] [1000, 1001, 1002] (r := (.v zK .e)) (h := ?_)) | (refine zZ.isR (id := 1) ?_; refine zZ.rc [0, 1, 2, 3, 8] [1000, 1001, 1002] (r := (.v xJ (.v zV (.v zV (.v zV (.v y9 .e)))))) (h := ?_)) | refine zZ.ret ?_))
  all_goals first
    | exact fun e => absurd (by show (Pr.bind (.ask (qR 2 c a b xQ) .ret) fun r : xM => .ret (decide (r.n = 1))).run H.st s0 = _; rw [run_bind, e]; rfl) hns
    | exact .pan (q := q) rfl (by repeat' first | exact trivial | rfl | constructor) (by repeat' exact trivial) (by show (Pr.bind (.ask (qR 2 c a b xQ) .ret) fun r : xM => .ret (decide (r.n = 1))).run H.st s0 = _; rw [run_bind, e]; rfl)
    | exact .ret (by exact .inl rfl) (.one rfl rfl) (by repeat' first | exact trivial | rfl | constructor) (by show (Pr.bind (.ask (qR 2 c a b xQ) .ret) fun r : xM => .ret (decide (r.n = 1))).run H.st s0 = _; rw [run_bind, e]; rfl)
theorem add_h (H : Hnd) (s0 : H.σ) (c v : Int) (hv : U v) : FnH H 85 [H.doA, .p (.val (.int .i64 c)), .p (.val (.int .u64 v))] [] (fun x => .p (.val (.int .u64 x))) (fun _ => []) U s0 (addP c v) := by
  unfold Hnd.doA
  refine yO Tryz.func85 rfl Tryz.ntmps85 (Nat.le_of_ble_eq_true rfl) (by decide) (fine_add c hv) fun hok hns => ?_
  repeat' (first | (refine zY.is ?_; first | refine zY.nil ?_ | (refine zY.at_ 12 rfl ?_; refine zY.rc (.v v11_0 (.v zK .e)) ?_) | (refine zY.in_ [11] rfl ?_; refine zY.ofT rfl (zF.hd (i := []) (f := do_h H s0 (qR 3 c v 0 xQ) (fine_add c hv).1) (r := fun x s e g hk => ?_) (p := fun q s e => ?_) (t := ?_)))) | (refine zZ.is ?_; first | refine zZ.seq ?_ | (refine zZ.isR (id := 0) ?_; refine zZ.rc [0, 1, 2] [1000, 1001, 1002] (r := (.v zK .e)) (h := ?_)) | (refine zZ.isR (id := 1) ?_; refine zZ.rc [0, 1, 2, 6] [1000, 1001, 1002] (r := (.v xJ (.v zV (.v zV (.v y9 .e))))) (h := ?_)) | refine zZ.ret ?_))
  all_goals first
    | exact fun e => absurd (by show (Pr.bind (.ask (qR 3 c v 0 xQ) .ret) fun r : xM => .ret r.n).run H.st s0 = _; rw [run_bind, e]; rfl) hns
    | exact .pan (q := q) rfl (by repeat' first | exact trivial | rfl | constructor) (by repeat' exact trivial) (by show (Pr.bind (.ask (qR 3 c v 0 xQ) .ret) fun r : xM => .ret r.n).run H.st s0 = _; rw [run_bind, e]; rfl)
    | exact .ret (by exact .inl rfl) (.one rfl rfl) (by repeat' first | exact trivial | rfl | constructor) (by show (Pr.bind (.ask (qR 3 c v 0 xQ) .ret) fun r : xM => .ret r.n).run H.st s0 = _; rw [run_bind, e]; rfl)
end Go.Proofs.YtmfbamiciieooaaGreatDoor
/- Words and cells, the program's and the document's: contracts. -/
namespace Go.Proofs.YtmfbamiciieooaaGreatDoor
set_option maxRecDepth 100000
set_option maxHeartbeats 16000000
open Go Go.RowKit
attribute [local irreducible] zY zZ Step zX Sub zD Fn
def flagF (s b : Int) : Int := s % 4611686018427387904 * 4 + b % 4
def hasF (w b : Int) : Bool := (decide (b % 2 = 0) || decide (w % 2 = 1)) && (decide (b % 4 < 2) || decide (w / 2 % 2 = 1))
theorem wrapU (x : Int) : IntKind.u64.wrap x = x % 18446744073709551616 := by simp [IntKind.wrap, IntKind.signed, IntKind.bits]
theorem and3 (x : Int) (h0 : 0 ≤ x) (h1 : x < 18446744073709551616) : bits .and .u64 x 3 = x % 4 := by
  obtain ⟨n, rfl⟩ := Int.eq_ofNat_of_zero_le h0
  rw [show (3 : Int) = ((3 : Nat) : Int) from rfl, u64_and_nat n 3 (by omega) (by decide)]
  have : n &&& 3 = n % 4 := Nat.and_two_pow_sub_one_eq_mod n 2
  rw [this]
  omega
theorem orLow (a b : Int) (h0 : 0 ≤ a) (h1 : a < 4611686018427387904) (b0 : 0 ≤ b) (b1 : b < 4) : bits .or .u64 (a * 4) b = a * 4 + b := by
  obtain ⟨n, rfl⟩ := Int.eq_ofNat_of_zero_le h0
  obtain ⟨m, rfl⟩ := Int.eq_ofNat_of_zero_le b0
  rw [show (n : Int) * 4 = ((n * 4 : Nat) : Int) from by omega, u64_or_nat (n * 4) m (by omega) (by omega)]
  have : n * 4 ||| m = n * 4 + m := by
    have := Nat.shiftLeft_add_eq_or_of_lt (show m < 2 ^ 2 by omega) n
    rw [Nat.shiftLeft_eq] at this
    exact this.symm
  rw [this]
  omega
theorem andHas (w q : Int) (h0 : 0 ≤ w) (h1 : w < 18446744073709551616) (q0 : 0 ≤ q) (q1 : q < 4) : decide (bits .and .u64 w q = q) = ((decide (q % 2 = 0) || decide (w % 2 = 1)) && (decide (q < 2) || decide (w / 2 % 2 = 1))) := by
  obtain ⟨n, rfl⟩ := Int.eq_ofNat_of_zero_le h0
  have e : ∀ m : Nat, m < 4 → bits .and .u64 (n : Int) (m : Int) = ((n &&& m : Nat) : Int) := fun m hm => u64_and_nat n m (by omega) (by omega)
  have h : q = ((0 : Nat) : Int) ∨ q = ((1 : Nat) : Int) ∨ q = ((2 : Nat) : Int) ∨ q = ((3 : Nat) : Int) := by omega
  have b1 : n &&& 1 = n % 2 := Nat.and_two_pow_sub_one_eq_mod n 1
  have b3 : n &&& 3 = n % 4 := Nat.and_two_pow_sub_one_eq_mod n 2
  have b2 : n &&& 2 = n / 2 % 2 * 2 := by
    apply Nat.eq_of_testBit_eq
    intro i
    rw [Nat.testBit_and]
    match i with
    | 0 => simp [Nat.testBit_zero]
    | 1 => simp [Nat.testBit_succ, Nat.testBit_zero]
    | i + 2 => simp [Nat.testBit_succ]
  rcases h with rfl | rfl | rfl | rfl
  · rw [e 0 (by decide)]; simp
  · rw [e 1 (by decide), b1]; simp only [← Bool.decide_or, ← Bool.decide_and, decide_eq_decide]; omega
  · rw [e 2 (by decide), b2]; simp only [← Bool.decide_or, ← Bool.decide_and, decide_eq_decide]; omega
  · rw [e 3 (by decide), b3]; simp only [← Bool.decide_or, ← Bool.decide_and, decide_eq_decide]; omega
theorem flag_fn (s b : Int) : Fn Tryz.prog 86 [.val (.int .u64 s), .val (.int .i64 b)] (.p (.val (.int .u64 (flagF s b)))) := by
  have g1 : IntKind.u64.wrap (s * 2 ^ (2 : Int).toNat) = s % 4611686018427387904 * 4 := by rw [wrapU]; show s * 4 % _ = _; omega
  have g2 := wrapU b
  have g3 : bits .and .u64 (b % 18446744073709551616) 3 = b % 4 := by rw [and3 _ (by omega) (by omega)]; omega
  have g4 : bits .or .u64 (s % 4611686018427387904 * 4) (b % 4) = flagF s b := orLow _ _ (by omega) (by omega) (by omega) (by omega)
  refine vY Tryz.func86 rfl Tryz.ntmps86 (Nat.le_of_ble_eq_true rfl) ?_
  repeat' (first | (refine zY.nil ?_) | (refine zZ.is ?_; first | refine zZ.seq ?_ | (refine zZ.isR (id := 0) ?_; refine zZ.rc [0, 1] [] (r := (.v zK .e)) (h := ?_)) | (refine zZ.isR (id := 1) ?_; refine zZ.rc [0, 1, 4] [] (r := (.v zV (.v v38_0 (.v zV (.v v6_0 (.v v35_0 (.v v36_0 (.v zK .e)))))))) (h := ?_)) | refine zZ.ret ?_))
  all_goals exact ⟨.inl rfl, gives1 rfl rfl rfl⟩
theorem wstamp_fn (w : Int) : Fn Tryz.prog 55 [.val (.int .u64 w)] (.p (.val (.int .u64 (w / 4)))) := by
  refine vY Tryz.func55 rfl Tryz.ntmps55 (Nat.le_of_ble_eq_true rfl) ?_
  repeat' (first | (refine zY.nil ?_) | (refine zZ.is ?_; first | refine zZ.seq ?_ | (refine zZ.isR (id := 0) ?_; refine zZ.rc [0] [] (r := (.v zK .e)) (h := ?_)) | (refine zZ.isR (id := 1) ?_; refine zZ.rc [0, 2] [] (r := (.v zV (.v v39_1 (.v zK .e)))) (h := ?_)) | refine zZ.ret ?_))
  all_goals exact ⟨.inl rfl, gives1 rfl rfl rfl⟩
theorem mark_fn (w : Int) (h0 : 0 ≤ w) (h1 : w < 18446744073709551616) : Fn Tryz.prog 60 [.val (.int .u64 w)] (.p (.val (.bool (decide (w % 2 = 1))))) := by
  have g1 : bits .and .u64 w 1 = w % 2 := by
    obtain ⟨n, rfl⟩ := Int.eq_ofNat_of_zero_le h0
    rw [show (1 : Int) = ((1 : Nat) : Int) from rfl, u64_and_nat n 1 (by omega) (by decide)]
    have : n &&& 1 = n % 2 := Nat.and_two_pow_sub_one_eq_mod n 1
    rw [this]
    omega
  refine vY Tryz.func60 rfl Tryz.ntmps60 (Nat.le_of_ble_eq_true rfl) ?_
  repeat' (first | (refine zY.nil ?_) | (refine zZ.is ?_; first | refine zZ.seq ?_ | (refine zZ.isR (id := 0) ?_; refine zZ.rc [0] [] (r := (.v zK .e)) (h := ?_)) | (refine zZ.isR (id := 1) ?_; refine zZ.rc [0, 2] [] (r := (.v zV (.v v35_0 (.v v41_8 (.v zK .e))))) (h := ?_)) | refine zZ.ret ?_))
  all_goals exact ⟨.inl rfl, gives1 rfl rfl rfl⟩
theorem has_fn (w b : Int) (h0 : 0 ≤ w) (h1 : w < 18446744073709551616) : Fn Tryz.prog 123 [.val (.int .u64 w), .val (.int .i64 b)] (.p (.val (.bool (hasF w b)))) := by
  have g2 := wrapU b
  have g3 : bits .and .u64 (b % 18446744073709551616) 3 = b % 4 := by rw [and3 _ (by omega) (by omega)]; omega
  have g4 : decide (bits .and .u64 w (b % 4) = b % 4) = hasF w b := by
    rw [andHas w (b % 4) h0 h1 (by omega) (by omega)]
    unfold hasF
    have : b % 4 % 2 = b % 2 := by omega
    rw [this]
  refine vY Tryz.func123 rfl Tryz.ntmps123 (Nat.le_of_ble_eq_true rfl) ?_
  repeat' (first | (refine zY.nil ?_) | (refine zZ.is ?_; first | refine zZ.seq ?_ | (refine zZ.isR (id := 0) ?_; refine zZ.rc [0, 1] [] (r := (.v zK .e)) (h := ?_)) | (refine zZ.isR (id := 1) ?_; refine zZ.rc [0, 1, 4] [] (r := (.v zV (.v v6_0 (.v v35_0 (.v zK .e))))) (h := ?_)) | (refine zZ.isR (id := 2) ?_; refine zZ.rc [0, 4, 5] [] (r := (.v zV (.v zV (.v v35_3 (.v zV (.v v41_0 (.v zK .e))))))) (h := ?_)) | refine zZ.ret ?_))
  all_goals exact ⟨.inl rfl, gives1 rfl rfl rfl⟩
/-- where a record's field lies -/
def yK (t r f : Int) : Int := 8 + t + 8 * (r - 1) + f
def Small (x : Int) : Prop := -1073741824 ≤ x ∧ x ≤ 1073741824
theorem size_fn (t c : Int) (h0 : Small t) (h1 : Small c) : Fn Tryz.prog 93 [.val (.int .i64 t), .val (.int .i64 c)] (.p (.val (.int .i64 (8 + t + 8 * c)))) := by
  unfold Small at h0 h1
  refine vY Tryz.func93 rfl Tryz.ntmps93 (Nat.le_of_ble_eq_true rfl) ?_
  repeat' (first | (refine zY.nil ?_) | (refine zZ.is ?_; first | refine zZ.seq ?_ | (refine zZ.isR (id := 0) ?_; refine zZ.rc [0, 1] [] (r := (.v zK .e)) (h := ?_)) | (refine zZ.isR (id := 1) ?_; refine zZ.rc [0, 1, 4] [] (r := (.v zV (.v v30_5 (.v zV (.v v32_5 (.v v30_5 (.v zK .e))))))) (h := ?_)) | refine zZ.ret ?_))
  all_goals exact ⟨.inl rfl, gives1 rfl rfl rfl⟩
theorem field_fn (t r f : Int) (h0 : Small t) (h1 : 0 ≤ r ∧ r ≤ 1048576) (h2 : Small f) : Fn Tryz.prog 57 [.val (.int .i64 t), .val (.int .i64 r), .val (.int .i64 f)] (.p (.val (.int .i64 (yK t r f)))) := by
  have c1 := size_fn t (r - 1) h0 (by unfold Small; omega)
  unfold Small at h0 h2
  refine vY Tryz.func57 rfl Tryz.ntmps57 (Nat.le_of_ble_eq_true rfl) ?_
  repeat' (first | (refine zY.is ?_; first | refine zY.nil ?_ | (refine zY.at_ 11 rfl ?_; refine zY.rc (.v zV (.v v30_5 (.v zK .e))) ?_) | (refine zY.in_ [10] rfl ?_; refine zY.v rfl rfl (zL (c1) rfl rfl rfl (by decide)) ?_)) | (refine zZ.is ?_; first | refine zZ.seq ?_ | (refine zZ.isR (id := 0) ?_; refine zZ.rc [0, 1, 2] [] (r := (.v zK .e)) (h := ?_)) | (refine zZ.isR (id := 1) ?_; refine zZ.rc [0, 1, 2, 6] [] (r := (.v zV (.v zV (.v v31_5 .e)))) (h := ?_)) | refine zZ.ret ?_))
  all_goals exact ⟨.inl rfl, gives1 rfl rfl rfl⟩
theorem fieldRef_fn (t r f : Int) (h0 : Small t) (h1 : 0 ≤ r ∧ r ≤ 1048576) (h2 : Small f) : Fn Tryz.prog 22 [.val (.int .i64 t), .val (.int .i64 r), .val (.int .i64 f)] (.p (.val (.int .i64 (yK t r f)))) := by
  unfold Small at h0 h2
  refine vY Tryz.func22 rfl Tryz.ntmps22 (Nat.le_of_ble_eq_true rfl) ?_
  repeat' (first | (refine zY.nil ?_) | (refine zZ.is ?_; first | refine zZ.seq ?_ | (refine zZ.isR (id := 0) ?_; refine zZ.rc [0, 1, 2] [] (r := (.v zK .e)) (h := ?_)) | (refine zZ.isR (id := 1) ?_; refine zZ.rc [0, 1, 2, 6] [] (r := (.v zV (.v v30_5 (.v zV (.v v31_5 (.v v32_5 (.v v30_5 (.v zV (.v v30_5 (.v zK .e)))))))))) (h := ?_)) | refine zZ.ret ?_))
  all_goals exact ⟨.inl rfl, gives1 rfl rfl rfl⟩
end Go.Proofs.YtmfbamiciieooaaGreatDoor
/- Operations of records, and their answers. -/
namespace Go.Proofs.YtmfbamiciieooaaGreatDoor
set_option maxRecDepth 100000
set_option maxHeartbeats 16000000
open Go Go.RowKit
/-- a record's place -/
def Rec (t r : Int) : Prop := Small t ∧ 1 ≤ r ∧ r ≤ 1048576
/-- a record's place, or none's -/
def Rc (t r : Int) : Prop := Small t ∧ 0 ≤ r ∧ r ≤ 1048576
def outV (e : Int) (is : Bool) (n w : Int) : PV := .agg [.val (.int .i64 e), .val (.bool is), .val (.int .i64 n), .val (.int .u64 w), xQ]
def opV (k u v w : Int) : PV := .agg [.val (.int .i64 k), .val (.int .i64 u), .val (.int .i64 v), .val (.int .u64 w)]
structure OutI where
  e : Int
  is : Bool
  w : Int
/-- an operation of a record, and of a bit -/
structure OpOK (t k u v w : Int) : Prop where
  rec_ : k = 20 ∨ k = 21 ∨ k = 22 ∨ k = 23 ∨ k = 7 → Rec t u
  bit : k = 7 ∨ k = 23 → v = 1 ∨ v = 2
  w : U w
def opB (k u v w : Int) : Blk := .box 37 [.p (.val (.int .i64 k)), .p (.val (.int .i64 u)), .p (.val (.int .i64 v)), .p (.val (.int .u64 w))]
end Go.Proofs.YtmfbamiciieooaaGreatDoor
/- Records, flags, and what is durable, as trees. -/
namespace Go.Proofs.YtmfbamiciieooaaGreatDoor
set_option maxRecDepth 100000
set_option maxHeartbeats 16000000
open Go Go.RowKit
set_option linter.unusedSimpArgs false
set_option linter.unusedVariables false
theorem wrapU_U (n : Int) : U (IntKind.u64.wrap n) := by rw [wrapU]; unfold U; omega
theorem U.quo {f : Int} (h : U f) : U (f / 4) := ⟨by have := h.1; omega, by have := h.2; omega⟩
def ov1 (b f : Int) : Bool := hasF f b
def over2 (s b g : Int) : Bool := !decide (g / 4 = s) || hasF g b
theorem orBit (f b : Int) (h0 : 0 ≤ f) (h1 : f < 18446744073709551616) (hb : b = 1 ∨ b = 2) (hn : hasF f b = false) : bits .or .u64 f b = f + b ∧ f + b < 18446744073709551616 := by
  obtain ⟨n, rfl⟩ := Int.eq_ofNat_of_zero_le h0
  unfold hasF at hn
  rcases hb with rfl | rfl
  · simp at hn
    have e : n ||| 1 = n + 1 := by
      have h2 := Nat.shiftLeft_add_eq_or_of_lt (show 1 < 2 ^ 1 by decide) (n / 2)
      rw [Nat.shiftLeft_eq] at h2
      have h3 : n / 2 * 2 ^ 1 = n := by omega
      rw [h3] at h2
      exact h2.symm
    rw [show (1 : Int) = ((1 : Nat) : Int) from rfl, u64_or_nat n 1 (by omega) (by decide), e]
    constructor <;> omega
  · simp at hn
    have e : n ||| 2 = n + 2 := by
      have h2 := Nat.shiftLeft_add_eq_or_of_lt (show n % 4 < 2 ^ 2 by omega) (n / 4)
      have h3 := Nat.shiftLeft_add_eq_or_of_lt (show n % 4 + 2 < 2 ^ 2 by omega) (n / 4)
      rw [Nat.shiftLeft_eq] at h2 h3
      have h4 : n / 4 * 2 ^ 2 + n % 4 = n := by omega
      have h5 : n % 4 ||| 2 = n % 4 + 2 := by
        have : n % 4 = 0 ∨ n % 4 = 1 := by omega
        rcases this with h | h <;> rw [h] <;> rfl
      rw [h4] at h2
      have h6 : n ||| 2 = (n / 4 * 2 ^ 2 ||| n % 4) ||| 2 := congrArg (· ||| 2) h2
      rw [h6, Nat.or_assoc, h5, ← h3]
      omega
    rw [show (2 : Int) = ((2 : Nat) : Int) from rfl, u64_or_nat n 2 (by omega) (by decide), e]
    constructor <;> omega
theorem over2_has {s b g : Int} (h : over2 s b g = false) : hasF g b = false := by
  unfold over2 at h
  simp only [Bool.or_eq_false_iff] at h
  exact h.2
theorem orU {f b : Int} (hf : U f) (hb : b = 1 ∨ b = 2) (hn : hasF f b = false) : U (f + b) := ⟨by have := hf.1; rcases hb with rfl | rfl <;> omega, (orBit f b hf.1 hf.2 hb hn).2⟩
def flagP (t r : Int) : Pr Int := xL (yK t r 2)
/-- one round -/
def vV (over : Int → Bool) (c b : Int) (_ : Unit) : Pr (Unit ⊕ Unit) := (xL c).bind fun f => bif over f then .ret (.inr ()) else (casP c f (f + b)).bind fun d => .ret (bif d then .inr () else .inl ())
def setP (over : Int → Bool) (c b : Int) : Pr Unit := .loop (vV over c b) many ()
/-- accesses of a disk, up to the first that fails -/
def diskP : List Ned → Pr Bool
  | [] => .ret true
  | q :: qs => .ask q fun r => bif r.fail then .ret false else diskP qs
def wrAcc (k s y u v x : Int) : List Ned := [qR 5 0 0 0 (.sl (byts (bytesE k s y u v x))), qR 6 0 0 0 xQ]
def wrP (t r b k s y u v x : Int) : Pr Bool := (diskP (wrAcc k s y u v x)).bind fun ok => bif ok then (setP (over2 s b) (yK t r 2) b).bind fun _ => .ret true else .ret false
def restP (t r b f : Int) : Pr Bool :=
  bif hasF f b then .ret true else bif decide (b = 1) then
    (xL (yK t r 1)).bind fun n1 => (xL (yK t r 4)).bind fun n2 => (xL (yK t r 5)).bind fun n3 => (xL (yK t r 6)).bind fun n4 => wrP t r b 1 (f / 4) n1 n2 n3 n4
  else wrP t r b 2 (f / 4) 0 0 0 0
def saveP (t r b : Int) : Pr Bool := (flagP t r).bind fun f => restP t r b f
def wW (s y e u v x : Int) : List (Int × Int) := [(2, flagF s 0), (1, y), (3, e), (4, u), (5, v), (6, x)]
def wV (t r : Int) : List (Int × Int) → Pr Unit
  | [] => .ret ()
  | p :: l => (qD (yK t r p.1) p.2).bind fun _ => wV t r l
def makeP (t r y e u v x : Int) : Pr Int := (addP 2 1).bind fun n => (wV t r (wW (IntKind.u64.wrap (n + 1)) y e u v x)).bind fun _ => .ret (IntKind.u64.wrap (n + 1))
/-! ### They ask what may be asked -/
theorem putF_range (b : List Int) (hb : ∀ x ∈ b, 0 ≤ x ∧ x < 256) (hl : putOk b) : ∀ x ∈ putF b, 0 ≤ x ∧ x < 256 := by
  intro x hx
  have h2 : b.length ≤ 65535 := hl.2
  rw [putF_ref b hl] at hx
  simp only [List.mem_cons, List.cons_append, List.nil_append] at hx
  have hm : moreF 0 b < 4294967296 := moreF_lt 0 b
  rcases hx with rfl | rfl | rfl | rfl | rfl | rfl | hx
  all_goals first
    | exact hb x hx
    | omega
theorem putF_lenP (b : List Int) (hl : putOk b) : (putF b).length = 6 + b.length := by rw [putF_ref b hl]; simp; omega
theorem bytesE_ok (k s y u v x : Int) : (∀ c ∈ bytesE k s y u v x, 0 ≤ c ∧ c < 256) ∧ (bytesE k s y u v x).length ≤ 1000 := by
  unfold bytesE
  by_cases h : mayB k s y u v x = true
  · rw [if_pos h]
    refine ⟨putF_range _ (encL_range' k s y u v x) (encL_le2 k s y u v x), ?_⟩
    rw [putF_lenP _ (encL_le2 k s y u v x)]
    unfold encL
    by_cases hk : k = 1 <;> simp [hk, bytesOf]
  · rw [if_neg h]
    exact ⟨fun c hc => by simp at hc, by simp⟩
theorem asked_wr (k s y u v x : Int) : ∀ q ∈ wrAcc k s y u v x, Asked q := by
  intro q hq
  simp only [wrAcc, List.mem_cons, List.not_mem_nil, or_false] at hq
  rcases hq with rfl | rfl
  · exact ⟨rfl, U.zero, U.zero, .inr ⟨rfl, _, (bytesE_ok k s y u v x).1, (bytesE_ok k s y u v x).2, rfl⟩⟩
  · exact ⟨rfl, U.zero, U.zero, .inl ⟨.inr rfl, rfl⟩⟩
theorem fine_round {over : Int → Bool} {c b : Int} (hb : b = 1 ∨ b = 2) (ho : ∀ f, over f = false → hasF f b = false) (u : Unit) : (vV over c b u).yZ (Next yes yes) :=
  .bind (yQ _) fun f hf => .condB (fun _ => Pr.yZ.ret trivial) fun h => .bind (vW _ hf ⟨by have := hf.1; rcases hb with rfl | rfl <;> omega, (orBit f b hf.1 hf.2 hb (ho f h)).2⟩) fun d _ => Pr.yZ.ret (by cases d <;> trivial)
theorem fine_set {over : Int → Bool} {c b : Int} (hb : b = 1 ∨ b = 2) (ho : ∀ f, over f = false → hasF f b = false) : (setP over c b).yZ yes :=
  Pr.yZ.loop yes (fun _ => ⟨_, _, rfl⟩) (fun u _ => fine_round hb ho u) () trivial
theorem fine_disk : ∀ {qs : List Ned}, (∀ q ∈ qs, Asked q) → (diskP qs).yZ yes
  | [], _ => Pr.yZ.ret trivial
  | q :: qs, h => fine_ask (h q (by simp)) fun r _ => .cond (Pr.yZ.ret trivial) (fine_disk fun q' hq => h q' (by simp [hq]))
theorem fine_wr (t r b k s y u v x : Int) (hb : b = 1 ∨ b = 2) : (wrP t r b k s y u v x).yZ yes := .bind (fine_disk (asked_wr k s y u v x)) fun _ _ => .cond (.bind (fine_set hb fun _ h => over2_has h) fun _ _ => trivial) trivial
theorem fine_rest (t r b f : Int) (hb : b = 1 ∨ b = 2) : (restP t r b f).yZ yes :=
  .cond trivial (.cond (.bind (yQ _) fun _ _ => .bind (yQ _) fun _ _ => .bind (yQ _) fun _ _ => .bind (yQ _) fun _ _ => fine_wr _ _ _ _ _ _ _ _ _ hb) (fine_wr _ _ _ _ _ _ _ _ _ hb))
theorem fine_save (t r b : Int) (hb : b = 1 ∨ b = 2) : (saveP t r b).yZ yes := .bind (yQ _) fun _ _ => fine_rest _ _ _ _ hb
theorem flagF_U (s b : Int) : U (flagF s b) := by unfold flagF U; omega
theorem fine_stores (t r : Int) : ∀ (l : List (Int × Int)), (∀ p ∈ l, U p.2) → (wV t r l).yZ yes
  | [], _ => trivial
  | p :: l, h => .bind (w9 _ (h p (by simp))) fun _ _ => fine_stores t r l fun p' hp => h p' (by simp [hp])
theorem items_U {s y e u v x : Int} (hy : U y) (he : U e) (hu : U u) (hv : U v) (hx : U x) : ∀ p ∈ wW s y e u v x, U p.2 := by
  intro p hp
  simp only [wW, List.mem_cons, List.not_mem_nil, or_false] at hp
  rcases hp with rfl | rfl | rfl | rfl | rfl | rfl
  · exact flagF_U _ _
  · exact hy
  · exact he
  · exact hu
  · exact hv
  · exact hx
theorem fine_make (t r : Int) {y e u v x : Int} (hy : U y) (he : U e) (hu : U u) (hv : U v) (hx : U x) : (makeP t r y e u v x).yZ U :=
  .bind (fine_add _ (by unfold U; decide)) fun _ _ => .bind (fine_stores t r _ (items_U hy he hu hv hx)) fun _ _ => wrapU_U _
end Go.Proofs.YtmfbamiciieooaaGreatDoor
/- References in words; the place of what follows: contracts. -/
namespace Go.Proofs.YtmfbamiciieooaaGreatDoor
set_option maxRecDepth 100000
set_option maxHeartbeats 16000000
open Go Go.RowKit
set_option linter.unusedSimpArgs false
set_option linter.unusedVariables false
attribute [local irreducible] zY zZ Step zX Sub zD zF Fn
def xU (w : Int) : Int := w / 2 % 1048576
theorem refW_lo (w : Int) : 0 ≤ xU w := by unfold xU; omega
theorem refW_hi (w : Int) : xU w < 1048576 := by unfold xU; omega
def qW (t r : Int) : Int := bif decide (r = 0) then 0 else yK t r 0
theorem andLow (x : Int) (k : Nat) (hk : 2 ^ k ≤ 18446744073709551616) (h0 : 0 ≤ x) (h1 : x < 18446744073709551616) : bits .and .u64 x ((2 ^ k - 1 : Nat) : Int) = x % ((2 ^ k : Nat) : Int) := by
  obtain ⟨n, rfl⟩ := Int.eq_ofNat_of_zero_le h0
  rw [u64_and_nat n _ (by omega) (by omega), Nat.and_two_pow_sub_one_eq_mod]
  omega
theorem ref_fn (w : Int) (h0 : 0 ≤ w) (h1 : w < 18446744073709551616) : Fn Tryz.prog 97 [.val (.int .u64 w)] (.p (.val (.int .i64 (xU w)))) := by
  have g1 : bits .and .u64 (w / 2) 1048575 = xU w := andLow (w / 2) 20 (by decide) (by omega) (by omega)
  have g2 : IntKind.i64.wrap (xU w) = xU w := wrap_i64 _ (by have := refW_lo w; have := refW_hi w; omega)
  refine vY Tryz.func97 rfl Tryz.ntmps97 (Nat.le_of_ble_eq_true rfl) ?_
  repeat' (first | (refine zY.nil ?_) | (refine zZ.is ?_; first | refine zZ.seq ?_ | (refine zZ.isR (id := 0) ?_; refine zZ.rc [0] [] (r := (.v zK .e)) (h := ?_)) | (refine zZ.isR (id := 1) ?_; refine zZ.rc [0, 2] [] (r := (.v zV (.v v39_1 (.v v35_0 (.v v6_0 (.v zK .e)))))) (h := ?_)) | refine zZ.ret ?_))
  all_goals exact ⟨.inl rfl, gives1 rfl rfl rfl⟩
theorem link_fn (r : Int) (h : 0 ≤ r ∧ r ≤ 1048576) : Fn Tryz.prog 91 [.val (.int .i64 r), .val (.bool false)] (.p (.val (.int .u64 (2 * r)))) := by
  have g1 : IntKind.u64.wrap r = r := wrap_u64 _ (by omega)
  have g2 : IntKind.u64.wrap (r * 2 ^ (1 : Int).toNat) = 2 * r := by rw [wrapU]; show r * 2 % _ = _; omega
  refine vY Tryz.func91 rfl Tryz.ntmps91 (Nat.le_of_ble_eq_true rfl) ?_
  repeat' (first | (refine zY.nil ?_) | (refine zZ.is ?_; first | refine zZ.seq ?_ | (refine zZ.isR (id := 0) ?_; refine zZ.rc [0, 1] [] (r := (.v zK .e)) (h := ?_)) | (refine zZ.isR (id := 1) ?_; refine zZ.rc [0, 1, 4] [] (r := (.v zV (.v v6_0 (.v v38_0 (.v zK .e))))) (h := ?_)) | (refine zZ.isR (id := 2) ?_; refine zZ.rc [1, 4, 5] [] (r := (.v zV .e)) (h := ?_)) | (refine zZ.isR (id := 4) ?_; refine zZ.rc [4, 5] [] (r := (.v zV (.v zK .e))) (h := ?_)) | refine zZ.yH rfl bA ?_ | refine zZ.skip ?_ | refine zZ.ret ?_))
  all_goals exact ⟨.inl rfl, gives1 rfl rfl rfl⟩
theorem cnext_fn (t r : Int) (h0 : Small t) (h1 : 0 ≤ r ∧ r ≤ 1048576) : Fn Tryz.prog 61 [.val (.int .i64 t), .val (.int .i64 r)] (.p (.val (.int .i64 (qW t r)))) := by
  have c1 := field_fn t r 0 h0 h1 (by unfold Small; omega)
  unfold qW
  refine vY Tryz.func61 rfl Tryz.ntmps61 (Nat.le_of_ble_eq_true rfl) ?_
  cases hb : decide (r = 0)
  all_goals
    repeat' (first | (refine zY.is ?_; first | refine zY.nil ?_ | (refine zY.at_ 4 rfl ?_; refine zY.rc (.v zK .e) ?_) | (refine zY.in_ [9] rfl ?_; refine zY.v rfl rfl (zL (c1) rfl rfl rfl (by decide)) ?_)) | (refine zZ.is ?_; first | refine zZ.seq ?_ | (refine zZ.isR (id := 0) ?_; refine zZ.rc [0, 1] [] (r := (.v zK .e)) (h := ?_)) | (refine zZ.isR (id := 1) ?_; refine zZ.rc [0, 1, 4] [] (r := (.v zV (.v v41_0 .e))) (h := ?_)) | (refine zZ.isR (id := 2) ?_; refine zZ.rc [0, 1, 4] [] (r := (.v zK .e)) (h := ?_)) | (refine zZ.isR (id := 3) ?_; refine zZ.rc [0, 1, 4] [] (r := (.v zV (.v zV .e))) (h := ?_)) | refine zZ.yF rfl bA ?_ | refine zZ.yH rfl bA ?_ | refine zZ.skip ?_ | refine zZ.ret ?_) | refine zB.r ?_)
    all_goals exact ⟨.inl rfl, gives1 rfl rfl rfl⟩
end Go.Proofs.YtmfbamiciieooaaGreatDoor
/- The document's functions over a log: where they stand in what is told. -/
namespace Go.Proofs.YtmfbamiciieooaaGreatDoor
set_option maxRecDepth 100000
set_option maxHeartbeats 16000000
open Go Go.RowKit
set_option linter.unusedSimpArgs false
set_option linter.unusedVariables false
theorem vK {ι α : Type} (body : ι → Pr (ι ⊕ α)) (n : Nat) (s : ι) : Pr.loop body (n + 1) s = (body s).bind (Sum.elim (Pr.loop body n) .ret) := by
  rw [Pr.loop_succ]
  congr 1
  funext x
  cases x <;> rfl
/-- there q tells what is left of P -/
structure At {α : Type} (L : List xM) (P : Pr α) (σ : CSt) (q : Pr α) (τ : CSt) : Prop where
  i : τ.i ≤ L.length
  go : ∀ y υ, Rel L q τ y υ → Rel L P σ y υ
section
variable {α β ι : Type} {L : List xM} {P q : Pr α} {σ τ υ : CSt} {good : β → Prop} {m : Nat}
end
end Go.Proofs.YtmfbamiciieooaaGreatDoor
/- The sorted list's operations, as trees. -/
namespace Go.Proofs.YtmfbamiciieooaaGreatDoor
set_option maxRecDepth 100000
set_option maxHeartbeats 16000000
open Go Go.RowKit
set_option linter.unusedSimpArgs false
set_option linter.unusedVariables false
/-- a reference, as words hold it -/
structure Rf (x : Int) : Prop where
  lo : 0 ≤ x
  hi : x ≤ 1048575
theorem qU (w : Int) : Rf (xU w) := ⟨refW_lo w, by have := refW_hi w; omega⟩
theorem rf_0 : Rf 0 := ⟨by decide, by decide⟩
theorem Rf.u {x : Int} (h : Rf x) : U x := ⟨h.lo, by have := h.hi; omega⟩
theorem Rf.u2 {x : Int} (h : Rf x) : U (2 * x) := ⟨by have := h.lo; omega, by have := h.hi; omega⟩
theorem Rf.rc {t x : Int} (h : Rf x) (ht : Small t) : Rc t x := ⟨ht, h.lo, by have := h.hi; omega⟩
theorem Rf.le {x : Int} (h : Rf x) : 0 ≤ x ∧ x ≤ 1048576 := ⟨h.lo, by have := h.hi; omega⟩
theorem U.succ {w : Int} (h : U w) (he : decide (w % 2 = 1) = false) : U (w + 1) := by
  have := of_decide_eq_false he
  have h1 := h.1
  have h2 := h.2
  constructor <;> omega
/-! ### A record is given back -/
def retRound (t r at_ : Int) (_ : Unit) : Pr (Unit ⊕ Unit) := (xL at_).bind fun h => (qD (yK t r 7) h).bind fun _ => (casP at_ h r).bind fun d => .ret (bif d then .inr () else .inl ())
def retLoop (t r at_ : Int) : Pr Unit := .loop (retRound t r at_) many ()
def vZ (e : Int) : Int := 4 + e % 3
def retireP (t r : Int) : Pr Unit := (xL 3).bind fun e => retLoop t r (vZ e)
theorem fine_retL (t r at_ : Int) (hr : U r) : (retLoop t r at_).yZ yes :=
  Pr.yZ.loop yes (fun _ => ⟨_, _, rfl⟩) (fun u _ => .bind (yQ _) fun _ hh => .bind (w9 _ hh) fun _ _ => .bind (vW _ hh hr) fun d _ => Pr.yZ.ret (by cases d <;> trivial)) () trivial
theorem fine_retire (t : Int) {r : Int} (hr : U r) : (retireP t r).yZ yes := .bind (yQ _) fun _ _ => fine_retL _ _ _ hr
/-! ### A walk along the list: it begins anew, or is at a record behind another one -/
structure wR where
  p : Int
  x : Int
  is : Bool
  ok : Bool
abbrev WSt := Option (Int × Int)
structure WOK (a b : Int) : Prop where
  p : Rf a
  x : Rf b
  n : decide (b = 0) = false
theorem WOK.one {p x : Int} (h : WOK p x) : 1 ≤ x := by have := of_decide_eq_false h.n; have := h.x.lo; omega
def wok : WSt → Prop
  | none => True
  | some (p, x) => WOK p x
structure FOK (r : wR) : Prop where
  p : Rf r.p
  x : Rf r.x
  n : r.is = true → 1 ≤ r.x
def endW (p x : Int) : WSt ⊕ wR := bif decide (x = 0) then .inr ⟨p, 0, false, true⟩ else .inl (some (p, x))
theorem endW_ok {p : Int} (w : Int) (hp : Rf p) : Next wok FOK (endW p (xU w)) := by
  unfold endW
  cases h : decide (xU w = 0)
  · exact ⟨hp, qU w, h⟩
  · exact ⟨hp, rf_0, fun h => by cases h⟩
/-- what is marked is taken out, or another one was quicker, or the disk failed -/
inductive Took where
  | fail
  | miss
  | done
def Took.d : Took → Bool
  | .done => true
  | _ => false
def Took.ok : Took → Bool
  | .fail => false
  | _ => true
def takeP (t p x w : Int) : Pr Took := (saveP t x 2).bind fun ok => bif ok then (casP (qW t p) (2 * x) (2 * xU w)).bind fun d => bif d then (retireP t x).bind fun _ => .ret .done else .ret .miss else .ret .fail
theorem fine_take (t p w : Int) {x : Int} (hx : Rf x) : (takeP t p x w).yZ yes :=
  .bind (fine_save _ _ _ (.inr rfl)) fun _ _ => .cond (.bind (vW _ hx.u2 (qU w).u2) fun _ _ => .cond (.bind (fine_retire _ hx.u) fun _ _ => trivial) trivial) trivial
def tookR (p x w : Int) : Took → WSt ⊕ wR
  | .done => endW p (xU w)
  | .miss => .inl none
  | .fail => .inr ⟨p, x, false, false⟩
def tookP (t p x w : Int) : Pr (WSt ⊕ wR) := (takeP t p x w).bind fun r => .ret (tookR p x w r)
theorem fine_took (t w : Int) {p x : Int} (h : WOK p x) : (tookP t p x w).yZ (Next wok FOK) :=
  .bind (fine_take t p w h.x) fun r _ => Pr.yZ.ret (by
    cases r with
    | done => exact endW_ok w h.p
    | miss => trivial
    | fail => exact ⟨h.p, h.x, fun h => by cases h⟩)
/-- a round, by what is done at a record that isn't marked -/
def yJ (t : Int) (at_ : Int → Int → Int → Pr (WSt ⊕ wR)) : WSt → Pr (WSt ⊕ wR)
  | none => (xL 0).bind fun h => .ret (endW 0 (xU h))
  | some (p, x) => (xL (yK t x 0)).bind fun w => bif decide (w % 2 = 1) then tookP t p x w else at_ p x w
def walkP (t : Int) (at_ : Int → Int → Int → Pr (WSt ⊕ wR)) : Pr wR := .loop (yJ t at_) many none
theorem fine_walkR {t : Int} {at_ : Int → Int → Int → Pr (WSt ⊕ wR)} (h : ∀ p x w, WOK p x → U w → decide (w % 2 = 1) = false → (at_ p x w).yZ (Next wok FOK)) : ∀ s, wok s → (yJ t at_ s).yZ (Next wok FOK)
  | none, _ => .bind (yQ _) fun w _ => Pr.yZ.ret (endW_ok w rf_0)
  | some (p, x), hw => .bind (yQ _) fun w hu => .condB (fun _ => fine_took t w hw) fun hm => h p x w hw hu hm
theorem fine_walk {t : Int} {at_ : Int → Int → Int → Pr (WSt ⊕ wR)} (h : ∀ p x w, WOK p x → U w → decide (w % 2 = 1) = false → (at_ p x w).yZ (Next wok FOK)) : (walkP t at_).yZ FOK :=
  Pr.yZ.loop wok (fun s => by match s with | none => exact ⟨_, _, rfl⟩ | some (p, x) => exact ⟨_, _, rfl⟩) (fine_walkR h) none trivial
def wX (t k p x w : Int) : Pr (WSt ⊕ wR) := (xL (yK t x 1)).bind fun n => bif decide (k ≤ n) then .ret (.inr ⟨p, x, decide (n = k), true⟩) else .ret (endW x (xU w))
theorem fine_searchAt (t k p x w : Int) (h : WOK p x) : (wX t k p x w).yZ (Next wok FOK) :=
  .bind (yQ _) fun _ _ => .cond (Pr.yZ.ret ⟨h.p, h.x, fun _ => h.one⟩) (Pr.yZ.ret (endW_ok w h.x))
def alongP (t k : Int) : Pr wR := walkP t (wX t k)
theorem fine_along (t k : Int) : (alongP t k).yZ FOK := fine_walk fun p x w h _ _ => fine_searchAt t k p x w h
def qA (t k : Int) : Pr wR := (alongP t k).bind fun r => bif r.ok then .ret r else .ret ⟨0, 0, false, false⟩
theorem fine_search (t k : Int) : (qA t k).yZ FOK := .bind (fine_along t k) fun _ h => .cond (Pr.yZ.ret h) (Pr.yZ.ret ⟨rf_0, rf_0, fun h => by cases h⟩)
theorem nextF_pos (t : Int) {x : Int} (h : decide (x = 0) = false) : qW t x = yK t x 0 := by unfold qW; rw [h]; rfl
/-! ### Marks -/
def setMark (t x w : Int) : Pr Bool := casP (qW t x) w (w + 1)
def markP (t x : Int) : Pr Bool := (xL (qW t x)).bind fun w => bif decide (w % 2 = 1) then .ret false else setMark t x w
theorem fine_mark (t x : Int) : (markP t x).yZ yes := .bind (yQ _) fun _ hw => .condB (fun _ => trivial) fun h => vW _ hw (hw.succ h)
/-! ### A sweep -/
/-- a record that isn't marked: does it stay to be looked at again? -/
def sweepIn (t s x w : Int) : Pr Bool := (xL (yK t x 1)).bind fun k => bif decide (k % 2147483648 = 0) then .ret false else (xL (yK t x 4)).bind fun su => (xL (yK t x 5)).bind fun sv =>
  bif !decide (su = s) && !decide (sv = s) then .ret false else (setMark t x w).bind fun d => bif d then (setP (ov1 2) (yK t x 2) 2).bind fun _ => .ret true else .ret true
theorem fine_sweepIn (t s x w : Int) (hw : U w) (h : decide (w % 2 = 1) = false) : (sweepIn t s x w).yZ yes :=
  .bind (yQ _) fun _ _ => .cond trivial (.bind (yQ _) fun _ _ => .bind (yQ _) fun _ _ => .cond trivial (.bind (vW _ hw (hw.succ h)) fun _ _ => .cond (.bind (fine_set (.inr rfl) fun _ h => h) fun _ _ => trivial) trivial))
def wM (t s p x w : Int) : Pr (WSt ⊕ wR) := (sweepIn t s x w).bind fun b => bif b then .ret (.inl (some (p, x))) else .ret (endW x (xU w))
def sweepL (t s : Int) : Pr wR := walkP t (wM t s)
theorem fine_sweepL (t s : Int) : (sweepL t s).yZ FOK := fine_walk fun p x w h hw hm => .bind (fine_sweepIn t s x w hw hm) fun _ _ => .cond (Pr.yZ.ret h) (Pr.yZ.ret (endW_ok w h.x))
def sweepP (t s : Int) : Pr Bool := (sweepL t s).bind fun r => .ret r.ok
theorem fine_sweep (t s : Int) : (sweepP t s).yZ yes := .bind (fine_sweepL t s) fun _ _ => trivial
/-! ### Seeks, and links -/
def endS (x : Int) : Int ⊕ (Int × Bool) := bif decide (x = 0) then .inr (0, false) else .inl x
def vR (t k x : Int) : Pr (Int ⊕ (Int × Bool)) := (xL (yK t x 1)).bind fun n => bif decide (k ≤ n) then .ret (.inr (x, decide (n = k))) else (xL (yK t x 0)).bind fun w => .ret (endS (xU w))
def seekP (t from_ k : Int) : Pr (Int × Bool) := (xL (qW t from_)).bind fun w => bif decide (xU w = 0) then .ret (0, false) else .loop (vR t k) many (xU w)
structure SOK (a : Int) : Prop where
  x : Rf a
  n : decide (a = 0) = false
theorem SOK.one {x : Int} (h : SOK x) : 1 ≤ x := by have := of_decide_eq_false h.n; have := h.x.lo; omega
structure SFound (r : Int × Bool) : Prop where
  x : Rf r.1
  n : r.2 = true → 1 ≤ r.1
theorem endS_ok (w : Int) : Next SOK SFound (endS (xU w)) := by
  unfold endS
  cases h : decide (xU w = 0)
  · exact ⟨qU w, h⟩
  · exact ⟨rf_0, fun h => by cases h⟩
theorem fine_seekR (t k x : Int) (hx : SOK x) : (vR t k x).yZ (Next SOK SFound) :=
  .bind (yQ _) fun _ _ => .cond (Pr.yZ.ret ⟨hx.x, fun _ => hx.one⟩) (.bind (yQ _) fun w _ => Pr.yZ.ret (endS_ok w))
theorem fine_seek (t from_ k : Int) : (seekP t from_ k).yZ SFound :=
  .bind (yQ _) fun w _ => .condB (fun _ => Pr.yZ.ret ⟨rf_0, fun h => by cases h⟩) fun h0 => Pr.yZ.loop SOK (fun _ => ⟨_, _, rfl⟩) (fine_seekR t k) _ ⟨qU w, h0⟩
def linkP (t p x r : Int) : Pr Bool := (qD (qW t r) (2 * x)).bind fun _ => casP (qW t p) (2 * x) (2 * r)
theorem fine_link (t p : Int) {x r : Int} (hx : Rf x) (hr : Rf r) : (linkP t p x r).yZ yes := .bind (w9 _ hx.u2) fun _ _ => vW _ hx.u2 hr.u2
/-! ### What is left -/
/-- what is left, at a record or at none -/
def contS (t k : Int) (n : Nat) (x : Int) : Pr (Int × Bool) := bif decide (x = 0) then .ret (0, false) else .loop (vR t k) n x
theorem contS_eq (t k : Int) (n : Nat) (x : Int) : Sum.elim (Pr.loop (vR t k) n) .ret (endS x) = contS t k n x := by
  unfold endS contS
  cases decide (x = 0) <;> rfl
/-- the same of a walk -/
def contL (t : Int) (at_ : Int → Int → Int → Pr (WSt ⊕ wR)) (n : Nat) (p x : Int) : Pr wR := bif decide (x = 0) then .ret ⟨p, 0, false, true⟩ else .loop (yJ t at_) n (some (p, x))
theorem contL_eq (t : Int) (at_ : Int → Int → Int → Pr (WSt ⊕ wR)) (n : Nat) (p x : Int) : Sum.elim (Pr.loop (yJ t at_) n) .ret (endW p x) = contL t at_ n p x := by
  unfold endW contL
  cases decide (x = 0) <;> rfl
/-! ### An operation -/
structure OutN where
  e : Int
  is : Bool
  n : Int
  w : Int
structure OpL (k u v w : Int) : Prop where
  u : k = 9 ∨ k = 24 ∨ k = 25 → Rf u
  v : k = 24 → Rf v ∧ Rf w
  w : U w
end Go.Proofs.YtmfbamiciieooaaGreatDoor
/- Tops in words; threads' pins; keys of vertices: contracts. -/
namespace Go.Proofs.YtmfbamiciieooaaGreatDoor
set_option maxRecDepth 100000
set_option maxHeartbeats 16000000
open Go Go.RowKit
set_option linter.unusedSimpArgs false
set_option linter.unusedVariables false
attribute [local irreducible] zY zZ Step zX Sub zD zF Fn
def x9 (w : Int) : Int := w % 1048576
def tagF (w : Int) : Int := w / 1048576
def topF (r g : Int) : Int := g % 17592186044416 * 1048576 + r
theorem firstF_lo (w : Int) : 0 ≤ x9 w := by unfold x9; omega
theorem firstF_hi (w : Int) : x9 w < 1048576 := by unfold x9; omega
theorem first_fn (w : Int) (h0 : 0 ≤ w) (h1 : w < 18446744073709551616) : Fn Tryz.prog 87 [.val (.int .u64 w)] (.p (.val (.int .i64 (x9 w)))) := by
  have g1 : bits .and .u64 w 1048575 = x9 w := andLow w 20 (by decide) h0 h1
  have g2 : IntKind.i64.wrap (x9 w) = x9 w := wrap_i64 _ (by have := firstF_lo w; have := firstF_hi w; omega)
  refine vY Tryz.func87 rfl Tryz.ntmps87 (Nat.le_of_ble_eq_true rfl) ?_
  repeat' (first | (refine zY.nil ?_) | (refine zZ.is ?_; first | refine zZ.seq ?_ | (refine zZ.isR (id := 0) ?_; refine zZ.rc [0] [] (r := (.v zK .e)) (h := ?_)) | (refine zZ.isR (id := 1) ?_; refine zZ.rc [0, 2] [] (r := (.v zV (.v v35_0 (.v v6_0 (.v zK .e))))) (h := ?_)) | refine zZ.ret ?_))
  all_goals exact ⟨.inl rfl, gives1 rfl rfl rfl⟩
theorem tag_fn (w : Int) : Fn Tryz.prog 90 [.val (.int .u64 w)] (.p (.val (.int .u64 (tagF w)))) := by
  refine vY Tryz.func90 rfl Tryz.ntmps90 (Nat.le_of_ble_eq_true rfl) ?_
  repeat' (first | (refine zY.nil ?_) | (refine zZ.is ?_; first | refine zZ.seq ?_ | (refine zZ.isR (id := 0) ?_; refine zZ.rc [0] [] (r := (.v zK .e)) (h := ?_)) | (refine zZ.isR (id := 1) ?_; refine zZ.rc [0, 2] [] (r := (.v zV (.v v39_1 (.v zK .e)))) (h := ?_)) | refine zZ.ret ?_))
  all_goals exact ⟨.inl rfl, gives1 rfl rfl rfl⟩
theorem orTop (r q : Int) (h0 : 0 ≤ r) (h1 : r < 1048576) (q0 : 0 ≤ q) (q1 : q < 17592186044416) : bits .or .u64 r (q * 1048576) = q * 1048576 + r := by
  obtain ⟨n, rfl⟩ := Int.eq_ofNat_of_zero_le h0
  obtain ⟨m, rfl⟩ := Int.eq_ofNat_of_zero_le q0
  have e1 : (m : Int) * 1048576 = ((m * 1048576 : Nat) : Int) := by omega
  rw [e1, u64_or_nat n (m * 1048576) (by omega) (by omega), Nat.or_comm]
  have h2 := Nat.shiftLeft_add_eq_or_of_lt (show n < 2 ^ 20 by omega) m
  rw [Nat.shiftLeft_eq] at h2
  rw [show m * 1048576 = m * 2 ^ 20 from rfl, ← h2]
  omega
theorem top_fn (r g : Int) (h0 : 0 ≤ r) (h1 : r < 1048576) (g0 : 0 ≤ g) : Fn Tryz.prog 89 [.val (.int .i64 r), .val (.int .u64 g)] (.p (.val (.int .u64 (topF r g)))) := by
  have g1 : IntKind.u64.wrap r = r := wrap_u64 _ (by omega)
  have g2 : IntKind.u64.wrap (g * 2 ^ (20 : Int).toNat) = g % 17592186044416 * 1048576 := by rw [wrapU]; show g * 1048576 % _ = _; omega
  have g3 : bits .or .u64 r (g % 17592186044416 * 1048576) = topF r g := orTop r _ h0 h1 (by omega) (by omega)
  refine vY Tryz.func89 rfl Tryz.ntmps89 (Nat.le_of_ble_eq_true rfl) ?_
  repeat' (first | (refine zY.nil ?_) | (refine zZ.is ?_; first | refine zZ.seq ?_ | (refine zZ.isR (id := 0) ?_; refine zZ.rc [0, 1] [] (r := (.v zK .e)) (h := ?_)) | (refine zZ.isR (id := 1) ?_; refine zZ.rc [0, 1, 4] [] (r := (.v zV (.v v6_0 (.v zV (.v v38_0 (.v v36_0 (.v zK .e))))))) (h := ?_)) | refine zZ.ret ?_))
  all_goals exact ⟨.inl rfl, gives1 rfl rfl rfl⟩
theorem pin_fn (i : Int) (h : Small i) : Fn Tryz.prog 99 [.val (.int .i64 i)] (.p (.val (.int .i64 (8 + i)))) := by
  unfold Small at h
  have g1 : IntKind.i64.wrap (8 + i) = 8 + i := wrap_i64 _ (by omega)
  refine vY Tryz.func99 rfl Tryz.ntmps99 (Nat.le_of_ble_eq_true rfl) ?_
  repeat' (first | (refine zY.nil ?_) | (refine zZ.is ?_; first | refine zZ.seq ?_ | (refine zZ.isR (id := 0) ?_; refine zZ.rc [0] [] (r := (.v zK .e)) (h := ?_)) | (refine zZ.isR (id := 1) ?_; refine zZ.rc [0, 2] [] (r := (.v zV (.v wC (.v zK .e)))) (h := ?_)) | refine zZ.ret ?_))
  all_goals exact ⟨.inl rfl, gives1 rfl rfl rfl⟩
/-! ### Vertices' keys -/
def vOK (u : Int) : Bool := decide (0 ≤ u ∧ u < 1073741824)
def vkF (u : Int) : Int := bif vOK u then u * 2147483648 else 0
def vkE (u : Int) : Int := bif vOK u then 0 else 4
theorem kvertex_fn (u : Int) : Fn Tryz.prog 62 [.val (.int .i64 u)] (.p (.val (.bool (vOK u)))) := by
  refine vY Tryz.func62 rfl Tryz.ntmps62 (Nat.le_of_ble_eq_true rfl) ?_
  by_cases h0 : 0 ≤ u
  · by_cases h1 : u < 1073741824
    · have g1 : decide (u ≥ 0) = true := decide_eq_true h0
      have g2 : decide (u < 1073741824) = true := decide_eq_true h1
      have e : vOK u = true := decide_eq_true ⟨h0, h1⟩
      rw [e]
      repeat' (first | (refine zY.nil ?_) | (refine zZ.is ?_; first | refine zZ.seq ?_ | (refine zZ.isR (id := 0) ?_; refine zZ.rc [0] [] (r := (.v zK .e)) (h := ?_)) | (refine zZ.isR (id := 1) ?_; refine zZ.rc [0, 2] [] (r := (.v zV (.v vT (.v zV (.gY zV (.gY xY (.v y8 (.v zK .e)))))))) (h := ?_)) | refine zZ.ret ?_))
      all_goals exact ⟨.inl rfl, gives1 rfl rfl rfl⟩
    · have g1 : decide (u ≥ 0) = true := decide_eq_true h0
      have g2 : decide (u < 1073741824) = false := decide_eq_false h1
      have e : vOK u = false := decide_eq_false fun h => h1 h.2
      rw [e]
      repeat' (first | (refine zY.nil ?_) | (refine zZ.is ?_; first | refine zZ.seq ?_ | (refine zZ.isR (id := 0) ?_; refine zZ.rc [0] [] (r := (.v zK .e)) (h := ?_)) | (refine zZ.isR (id := 1) ?_; refine zZ.rc [0, 2] [] (r := (.v zV (.v vT (.v zV (.gY zV (.gY xY (.v y8 (.v zK .e)))))))) (h := ?_)) | refine zZ.ret ?_))
      all_goals exact ⟨.inl rfl, gives1 rfl rfl rfl⟩
  · have g1 : decide (u ≥ 0) = false := decide_eq_false h0
    have e : vOK u = false := decide_eq_false fun h => h0 h.1
    rw [e]
    repeat' (first | (refine zY.nil ?_) | (refine zZ.is ?_; first | refine zZ.seq ?_ | (refine zZ.isR (id := 0) ?_; refine zZ.rc [0] [] (r := (.v zK .e)) (h := ?_)) | (refine zZ.isR (id := 1) ?_; refine zZ.rc [0, 2] [] (r := (.v zV (.v vT (.v zV (.gT (.gT (.v xC (.v zK .e)))))))) (h := ?_)) | refine zZ.ret ?_))
    all_goals exact ⟨.inl rfl, gives1 rfl rfl rfl⟩
theorem vertex_fn (u : Int) : Fn Tryz.prog 30 [.val (.int .i64 u)] (.tup [.val (.int .u64 (vkF u)), .val (.int .i64 (vkE u))]) := by
  have c := kvertex_fn u
  refine vY Tryz.func30 rfl Tryz.ntmps30 (Nat.le_of_ble_eq_true rfl) ?_
  cases e : vOK u <;> rw [e] at c <;> unfold vkF vkE <;> rw [e]
  case true =>
    have h := of_decide_eq_true e
    have g1 : IntKind.u64.wrap u = u := wrap_u64 _ (by omega)
    have g2 : IntKind.u64.wrap (u * 2 ^ (31 : Int).toNat) = u * 2147483648 := by rw [wrapU]; show u * 2147483648 % _ = _; omega
    repeat' (first | (refine zY.is ?_; first | refine zY.nil ?_ | (refine zY.at_ 6 rfl ?_; refine zY.rc (.v qI .e) ?_) | (refine zY.in_ [5] rfl ?_; refine zY.v rfl rfl (zL (c) rfl rfl rfl (by decide)) ?_)) | (refine zZ.is ?_; first | refine zZ.seq ?_ | (refine zZ.isR (id := 0) ?_; refine zZ.rc [0] [] (r := (.v zK (.v zK .e))) (h := ?_)) | (refine zZ.isR (id := 1) ?_; refine zZ.rc [0, 2, 3] [] (r := (.v zV .e)) (h := ?_)) | (refine zZ.isR (id := 3) ?_; refine zZ.rc [0, 2, 3] [] (r := (.v zV (.v v6_0 (.v v38_0 (.v zK (.v zK .e)))))) (h := ?_)) | refine zZ.yH rfl bA ?_ | refine zZ.skip ?_ | refine zZ.ret ?_))
    all_goals exact ⟨.inl rfl, givesT (ts := [2, 3]) rfl (by decide) rfl⟩
  case false =>
    repeat' (first | (refine zY.is ?_; first | refine zY.nil ?_ | (refine zY.at_ 6 rfl ?_; refine zY.rc (.v v52_4 .e) ?_) | (refine zY.in_ [5] rfl ?_; refine zY.v rfl rfl (zL (c) rfl rfl rfl (by decide)) ?_)) | (refine zZ.is ?_; first | refine zZ.seq ?_ | (refine zZ.isR (id := 0) ?_; refine zZ.rc [0] [] (r := (.v zK (.v zK .e))) (h := ?_)) | (refine zZ.isR (id := 1) ?_; refine zZ.rc [0, 2, 3] [] (r := (.v zV .e)) (h := ?_)) | (refine zZ.isR (id := 2) ?_; refine zZ.rc [0, 2, 3] [] (r := (.v zK (.v zK .e))) (h := ?_)) | refine zZ.yF rfl bA ?_ | refine zZ.ret ?_) | refine zB.r ?_)
    all_goals exact ⟨.inl rfl, givesT (ts := [2, 3]) rfl (by decide) rfl⟩
end Go.Proofs.YtmfbamiciieooaaGreatDoor
/- The pool's, the epochs', and the vertices' operations, as trees. -/
namespace Go.Proofs.YtmfbamiciieooaaGreatDoor
set_option maxRecDepth 100000
set_option maxHeartbeats 16000000
open Go Go.RowKit
set_option linter.unusedSimpArgs false
set_option linter.unusedVariables false
theorem qV (w : Int) : Rf (x9 w) := ⟨firstF_lo w, by have := firstF_hi w; omega⟩
theorem topF_U {r g : Int} (hr : Rf r) : U (topF r g) := by
  have h1 := hr.lo
  have h2 := hr.hi
  unfold topF U
  constructor <;> omega
/-! ### Records that are free -/
def popRound (t : Int) (_ : Unit) : Pr (Unit ⊕ Int) := (xL 1).bind fun w => bif decide (x9 w = 0) then .ret (.inr 0) else (xL (yK t (x9 w) 7)).bind fun n => (casP 1 w (topF (x9 n) (tagF w + 1))).bind fun d => .ret (bif d then .inr (x9 w) else .inl ())
def popP (t : Int) : Pr Int := .loop (popRound t) many ()
theorem fine_popR (t : Int) (u : Unit) : (popRound t u).yZ (Next yes Rf) :=
  .bind (yQ _) fun w hw => .cond (Pr.yZ.ret rf_0) (.bind (yQ _) fun n _ => .bind (vW _ hw (topF_U (qV n))) fun d _ => Pr.yZ.ret (by cases d; exact trivial; exact qV w))
theorem fine_pop (t : Int) : (popP t).yZ Rf := Pr.yZ.loop yes (fun _ => ⟨_, _, rfl⟩) (fun u _ => fine_popR t u) () trivial
def qL (t r : Int) (_ : Unit) : Pr (Unit ⊕ Unit) := (xL 1).bind fun w => (qD (yK t r 7) (x9 w)).bind fun _ => (casP 1 w (topF r (tagF w + 1))).bind fun d => .ret (bif d then .inr () else .inl ())
def pushP (t r : Int) : Pr Unit := .loop (qL t r) many ()
theorem fine_pushR (t : Int) {r : Int} (hr : Rf r) (u : Unit) : (qL t r u).yZ (Next yes yes) :=
  .bind (yQ _) fun w hw => .bind (w9 _ (qV w).u) fun _ _ => .bind (vW _ hw (topF_U hr)) fun d _ => Pr.yZ.ret (by cases d <;> trivial)
theorem fine_push (t : Int) {r : Int} (hr : Rf r) : (pushP t r).yZ yes := Pr.yZ.loop yes (fun _ => ⟨_, _, rfl⟩) (fun u _ => fine_pushR t hr u) () trivial
/-! ### Epochs -/
abbrev wr1 (e : Int) : Int := IntKind.u64.wrap (e + 1)
abbrev wr2 (e : Int) : Int := IntKind.u64.wrap (e + 2)
theorem wr1_U (e : Int) : U (wr1 e) := wrapU_U _
theorem wr2_U (e : Int) : U (wr2 e) := wrapU_U _
def pinP (me : Int) : Pr Unit := (xL 3).bind fun e => qD (8 + me) (wr1 e)
def unpinP (me : Int) : Pr Unit := qD (8 + me) 0
theorem fine_pin (me : Int) : (pinP me).yZ yes := .bind (yQ _) fun _ _ => w9 _ (wr1_U _)
theorem fine_unpin (me : Int) : (unpinP me).yZ yes := w9 _ U.zero
/-- are all threads of i.. out, or in at this epoch? -/
def scanP (e : Int) : Nat → Nat → Pr Bool
  | 0, _ => .ret true
  | k + 1, i => (xL (8 + i)).bind fun p => bif !decide (p = 0) && !decide (p = wr1 e) then .ret false else scanP e k (i + 1)
theorem fine_scan (e : Int) : ∀ k i, (scanP e k i).yZ yes
  | 0, _ => Pr.yZ.ret trivial
  | k + 1, i => .bind (yQ _) fun _ _ => .cond (Pr.yZ.ret trivial) (fine_scan e k (i + 1))
def endC (x : Int) : Int ⊕ Unit := bif decide (x = 0) then .inr () else .inl x
/-- along a chain, with something done for each record -/
def vL (t : Int) (yb : Int → Pr Unit) (r : Int) : Pr (Int ⊕ Unit) := (xL (yK t r 7)).bind fun n => (yb r).bind fun _ => .ret (endC (x9 n))
def chainL (t : Int) (yb : Int → Pr Unit) (n : Nat) (r : Int) : Pr Unit := bif decide (r = 0) then .ret () else .loop (vL t yb) n r
def chainP (t : Int) (yb : Int → Pr Unit) (h : Int) : Pr Unit := chainL t yb many (x9 h)
theorem endC_ok (w : Int) : Next Rf yes (endC (x9 w)) := by
  unfold endC
  cases decide (x9 w = 0)
  · exact qV w
  · trivial
theorem fine_chainR (t : Int) {yb : Int → Pr Unit} (hy : ∀ r, Rf r → (yb r).yZ yes) (r : Int) (hr : Rf r) : (vL t yb r).yZ (Next Rf yes) := .bind (yQ _) fun n _ => .bind (hy r hr) fun _ _ => Pr.yZ.ret (endC_ok n)
theorem fine_chainL (t : Int) {yb : Int → Pr Unit} (hy : ∀ r, Rf r → (yb r).yZ yes) (r : Int) (hr : Rf r) : (chainL t yb many r).yZ yes := .cond (Pr.yZ.ret trivial) (Pr.yZ.loop Rf (fun _ => ⟨_, _, rfl⟩) (fine_chainR t hy) r hr)
theorem chainL_eq (t : Int) (yb : Int → Pr Unit) (n : Nat) (x : Int) : Sum.elim (Pr.loop (vL t yb) n) .ret (endC x) = chainL t yb n x := by
  unfold endC chainL
  cases decide (x = 0) <;> rfl
def advRest (t e : Int) (ok : Bool) : Pr Bool := bif ok then (casP 3 e (wr1 e)).bind fun d => bif d then (swapP (vZ (wr2 e)) 0).bind fun h => (chainP t (pushP t) h).bind fun _ => .ret true else .ret false else .ret false
def wS (t : Int) : Pr Bool := (xL 3).bind fun e => (scanP e t.toNat 0).bind (advRest t e)
theorem fine_advR (t : Int) {e : Int} (he : U e) (ok : Bool) : (advRest t e ok).yZ yes :=
  .cond (.bind (vW _ he (wr1_U e)) fun _ _ => .cond (.bind (fine_swap _ U.zero) fun h _ => .bind (fine_chainL t (fun r hr => fine_push t hr) _ (qV h)) fun _ _ => Pr.yZ.ret trivial) (Pr.yZ.ret trivial)) (Pr.yZ.ret trivial)
theorem fine_advance (t : Int) : (wS t).yZ yes := .bind (yQ _) fun e he => .bind (fine_scan e _ _) fun ok _ => fine_advR t he ok
def allocL (t me : Int) : Nat → Int → Pr Int
  | 0, r => .ret r
  | k + 1, r => bif decide (r = 0) then (pinP me).bind fun _ => (wS t).bind fun _ => (popP t).bind fun r => allocL t me k r else .ret r
def allocP (t me : Int) : Pr Int := (popP t).bind (allocL t me 3)
theorem fine_allocL (t me : Int) : ∀ k r, Rf r → (allocL t me k r).yZ Rf
  | 0, _, h => Pr.yZ.ret h
  | k + 1, r, h => .cond (.bind (fine_pin me) fun _ _ => .bind (fine_advance t) fun _ _ => .bind (fine_pop t) fun r hr => fine_allocL t me k r hr) (Pr.yZ.ret h)
theorem fine_alloc (t me : Int) : (allocP t me).yZ Rf := .bind (fine_pop t) fun r hr => fine_allocL t me 3 r hr
/-! ### Vertices -/
/-- an error, is it so, is it durable; and what the program says where it isn't -/
structure OutB where
  e : Int
  is : Bool
  ok : Bool
  alt : Bool
def AltOK (o : OutB) : Prop := o.ok = true → o.alt = o.is
def toldP (t r b : Int) (is : Bool) : Pr OutB := (saveP t r b).bind fun ok => .ret ⟨0, is, ok, is⟩
theorem fine_told (t r : Int) {b : Int} (is : Bool) (hb : b = 1 ∨ b = 2) : (toldP t r b is).yZ AltOK := .bind (fine_save t r b hb) fun _ _ => Pr.yZ.ret fun _ => rfl
def qQ (t k r : Int) (_ : Unit) : Pr (Unit ⊕ OutB) := (qA t k).bind fun f => bif f.ok then bif f.is then (pushP t r).bind fun _ => (toldP t f.x 1 false).bind fun o => .ret (.inr o)
  else (linkP t f.p f.x r).bind fun d => bif d then (toldP t r 1 true).bind fun o => .ret (.inr o) else .ret (.inl ())
  else (pushP t r).bind fun _ => .ret (.inr ⟨0, false, false, false⟩)
def vaddP (t me k : Int) : Pr OutB := (qA t k).bind fun f => bif f.ok then bif f.is then toldP t f.x 1 false
  else (allocP t me).bind fun r => bif decide (r = 0) then .ret ⟨3, false, true, false⟩ else (makeP t r k 0 0 0 0).bind fun _ => .loop (qQ t k r) many ()
  else .ret ⟨0, false, false, false⟩
theorem search_ask (t k : Int) {β : Type} (f : wR → Pr β) : ∃ q g, (qA t k).bind f = .ask q g := by
  unfold qA alongP walkP
  exact ⟨_, _, rfl⟩
theorem fine_addR (t k : Int) {r : Int} (hr : Rf r) (u : Unit) : (qQ t k r u).yZ (Next yes AltOK) :=
  .bind (fine_search t k) fun f hf => .cond (.cond (.bind (fine_push t hr) fun _ _ => .bind (fine_told t _ _ (.inl rfl)) fun _ h => Pr.yZ.ret h) (.bind (fine_link t _ hf.x hr) fun _ _ => .cond (.bind (fine_told t _ _ (.inl rfl)) fun _ h => Pr.yZ.ret h) (Pr.yZ.ret trivial)))
    (.bind (fine_push t hr) fun _ _ => Pr.yZ.ret fun _ => rfl)
theorem fine_addL (t k : Int) {r : Int} (hr : Rf r) : (Pr.loop (qQ t k r) many ()).yZ AltOK := Pr.yZ.loop yes (fun _ => search_ask t k _) (fun u _ => fine_addR t k hr u) () trivial
theorem fine_vadd (t me : Int) {k : Int} (hk : U k) : (vaddP t me k).yZ AltOK :=
  .bind (fine_search t k) fun f _ => .cond (.cond (fine_told t _ _ (.inl rfl)) (.bind (fine_alloc t me) fun r hr => .cond (Pr.yZ.ret fun _ => rfl) (.bind (fine_make t r hk U.zero U.zero U.zero U.zero) fun _ _ => fine_addL t k hr))) (Pr.yZ.ret fun _ => rfl)
def qK (t k : Int) (_ : Unit) : Pr (Unit ⊕ OutB) := (qA t k).bind fun f => bif f.ok then bif f.is then (markP t f.x).bind fun d => bif d then (xL (yK t f.x 2)).bind fun w => (saveP t f.x 2).bind fun ok => bif ok then (sweepP t (w / 4)).bind fun s => .ret (.inr ⟨0, true, s, true⟩)
  else .ret (.inr ⟨0, false, false, true⟩) else .ret (.inl ()) else .ret (.inr ⟨0, false, true, false⟩) else .ret (.inr ⟨0, false, false, false⟩)
def vremP (t k : Int) : Pr OutB := .loop (qK t k) many ()
theorem fine_remR (t k : Int) (u : Unit) : (qK t k u).yZ (Next yes AltOK) :=
  .bind (fine_search t k) fun f hf => .cond (.cond (.bind (fine_mark t _) fun _ _ => .cond (.bind (yQ _) fun _ _ => .bind (fine_save t _ _ (.inr rfl)) fun _ _ => .cond (.bind (fine_sweep t _) fun _ _ => Pr.yZ.ret fun _ => rfl) (Pr.yZ.ret fun h => by cases h)) (Pr.yZ.ret trivial)) (Pr.yZ.ret fun _ => rfl)) (Pr.yZ.ret fun _ => rfl)
theorem fine_vrem (t k : Int) : (vremP t k).yZ AltOK := Pr.yZ.loop yes (fun _ => search_ask t k _) (fun u _ => fine_remR t k u) () trivial
def vhasP (t k : Int) : Pr OutB := (seekP t 0 k).bind fun f => bif f.2 then (xL (yK t f.1 0)).bind fun w => bif decide (w % 2 = 1) then toldP t f.1 2 false else toldP t f.1 1 true else .ret ⟨0, false, true, false⟩
theorem fine_vhas (t k : Int) : (vhasP t k).yZ AltOK := .bind (fine_seek t 0 k) fun f hf => .cond (.bind (yQ _) fun _ _ => .cond (fine_told t _ _ (.inr rfl)) (fine_told t _ _ (.inl rfl))) (Pr.yZ.ret fun _ => rfl)
/-- an operation, entered and left -/
def leaveP (me : Int) (o : OutB) : Pr OutN := bif o.ok then (unpinP me).bind fun _ => .ret ⟨o.e, o.is, 0, 0⟩ else (qD 7 1).bind fun _ => (unpinP me).bind fun _ => .ret ⟨7, false, 0, 0⟩
def inP (me : Int) (body : Pr OutB) : Pr OutN := (xL 7).bind fun w => bif !decide (w = 0) then .ret ⟨6, false, 0, 0⟩ else (pinP me).bind fun _ => body.bind (leaveP me)
theorem fine_leave (me : Int) (o : OutB) : (leaveP me o).yZ yes := .cond (.bind (fine_unpin me) fun _ _ => Pr.yZ.ret trivial) (.bind (w9 _ (by unfold U; decide)) fun _ _ => .bind (fine_unpin me) fun _ _ => Pr.yZ.ret trivial)
theorem fine_in (me : Int) {body : Pr OutB} (h : body.yZ AltOK) : (inP me body).yZ yes := .bind (yQ _) fun _ _ => .cond (Pr.yZ.ret trivial) (.bind (fine_pin me) fun _ _ => .bind h fun o _ => fine_leave me o)
def vopB (t me k u : Int) : Pr OutB := bif decide (k = 11) then vaddP t me (vkF u) else bif decide (k = 12) then vremP t (vkF u) else vhasP t (vkF u)
def vM (t me k u : Int) : Pr OutN := bif decide (k = 11) || (decide (k = 12) || decide (k = 13)) then bif vOK u then inP me (vopB t me k u) else .ret ⟨4, false, 0, 0⟩ else .ret ⟨1, false, 0, 0⟩
theorem vkF_U (u : Int) : U (vkF u) := by
  unfold vkF U
  cases h : vOK u
  · show (0 : Int) ≤ 0 ∧ (0 : Int) < _
    decide
  · have := of_decide_eq_true h
    show 0 ≤ u * 2147483648 ∧ u * 2147483648 < 18446744073709551616
    constructor <;> omega
theorem fine_vopB (t me k u : Int) : (vopB t me k u).yZ AltOK := .cond (fine_vadd t me (vkF_U u)) (.cond (fine_vrem t _) (fine_vhas t _))
theorem fine_vop (t me k u : Int) : (vM t me k u).yZ yes := .cond (.cond (fine_in me (fine_vopB t me k u)) (Pr.yZ.ret trivial)) (Pr.yZ.ret trivial)
end Go.Proofs.YtmfbamiciieooaaGreatDoor
/- Flags, and what is alive: the program's, whatever makes its accesses: contracts. -/
namespace Go.Proofs.YtmfbamiciieooaaGreatDoor
set_option maxRecDepth 100000
set_option maxHeartbeats 16000000
open Go Go.RowKit
set_option linter.unusedSimpArgs false
set_option linter.unusedVariables false
attribute [local irreducible] zY zZ Step zX Sub zD zF Fn
theorem qZ {t r : Int} (h : Rc t r) (f : Int) (hf : 0 ≤ f ∧ f ≤ 7) : Fn Tryz.prog 57 [.val (.int .i64 t), .val (.int .i64 r), .val (.int .i64 f)] (.p (.val (.int .i64 (yK t r f)))) := field_fn t r f h.1 ⟨by have := h.2.1; omega, h.2.2⟩ (by unfold Small; omega)
def yG (b : Int) : Blk := .box 3 [.p (.val (.int .i64 b))]
def entB (k s y u v x : Int) : Blk := .box 70 [.p (.val (.int .i64 k)), .p (.val (.int .u64 s)), .p (.val (.int .u64 y)), .p (.val (.int .u64 u)), .p (.val (.int .u64 v)), .p (.val (.int .u64 x))]
theorem flag_h (H : Hnd) (s0 : H.σ) {t r : Int} (h : Rc t r) : FnH H 117 [H.doA, .p (.val (.int .i64 t)), .p (.val (.int .i64 r))] [] (fun x => .p (.val (.int .u64 x))) (fun _ => []) U s0 (flagP t r) := by
  unfold Hnd.doA
  refine yO Tryz.func117 rfl Tryz.ntmps117 (Nat.le_of_ble_eq_true rfl) (by decide) (yQ _) fun hok hns => ?_
  repeat' (first | (refine zY.is ?_; first | refine zY.nil ?_ | (refine zY.at_ 6 rfl ?_; refine zY.rc (.v zK .e) ?_) | (refine zY.in_ [10] rfl ?_; refine zY.v rfl rfl (zL (qZ h 2 (by decide)) rfl rfl rfl (by decide)) ?_) | (refine zY.in_ [11] rfl ?_; refine zY.ofT rfl (zF.hd (i := []) (f := vI H _ _) (r := fun x s e g hk => ?_) (p := fun q s e => ?_) (t := ?_)))) | (refine zZ.is ?_; first | refine zZ.seq ?_ | (refine zZ.isR (id := 0) ?_; refine zZ.rc [0, 1, 2] [1000, 1001, 1002] (r := (.v zK .e)) (h := ?_)) | (refine zZ.isR (id := 1) ?_; refine zZ.rc [0, 1, 2, 6] [1000, 1001, 1002] (r := (.v xJ (.v zV (.v zV .e)))) (h := ?_)) | refine zZ.ret ?_) | refine zB.p ?_)
  all_goals (first | exact fun e => hns (by clear hns; simp only [flagP, run_bind, zC, zJ, Held.zW, Held.zA, Held.zQ, cond_true, cond_false, *]) | exact .pan (q := q) rfl (by repeat' first | exact trivial | rfl | constructor) (by repeat' exact trivial) (by simp only [flagP, run_bind, zC, zJ, Held.zW, Held.zA, Held.zQ, cond_true, cond_false, *]) | exact .ret (by exact .inl rfl) (by exact .one rfl rfl) (by repeat' first | exact trivial | rfl | constructor) (by simp only [flagP, run_bind, zC, zJ, Held.zW, Held.zA, Held.zQ, cond_true, cond_false, *] <;> rfl))
theorem flagL_h (H : Hnd) (s0 : H.σ) {t r : Int} (h : Rc t r) : FnH H 117 [H.doA, .p (.val (.int .i64 t)), .p (.val (.int .i64 r))] [] (fun x => .p (.val (.int .u64 x))) (fun _ => []) U s0 (xL (yK t r 2)) := flag_h H s0 h
theorem over1_fn (f b : Int) (h0 : 0 ≤ f) (h1 : f < 18446744073709551616) : FnE Tryz.prog 122 [.p (.val (.int .u64 f)), .ptr 1000 0] [yG b] (.ret (.p (.val (.bool (ov1 b f))))) [yG b] := by
  have c1 := has_fn f b h0 h1
  refine fn_ofE Tryz.func122 rfl Tryz.ntmps122 (Nat.le_of_ble_eq_true rfl) (by decide) ?_
  repeat' (first | (refine zY.is ?_; first | refine zY.nil ?_ | (refine zY.at_ 3 rfl ?_; refine zY.rc (.v zK .e) ?_) | (refine zY.in_ [6] rfl ?_; refine zY.v rfl rfl (zL (c1) rfl rfl rfl (by decide)) ?_)) | (refine zZ.is ?_; first | refine zZ.seq ?_ | (refine zZ.isR (id := 0) ?_; refine zZ.rc [0, 1] [1000] (r := (.v zK .e)) (h := ?_)) | (refine zZ.isR (id := 1) ?_; refine zZ.rc [0, 1, 3] [1000] (r := (.v zV (.v zN .e))) (h := ?_)) | refine zZ.ret ?_))
  all_goals exact ⟨(by exact .inl rfl), _, Sub.refl _, .one rfl rfl, wL (by repeat' first | exact trivial | rfl | constructor)⟩
theorem over2_fn (g k s y u v x b : Int) (h0 : 0 ≤ g) (h1 : g < 18446744073709551616) : FnE Tryz.prog 129 [.p (.val (.int .u64 g)), .ptr 1000 0, .ptr 1001 0] [entB k s y u v x, yG b] (.ret (.p (.val (.bool (over2 s b g))))) [entB k s y u v x, yG b] := by
  have c1 := has_fn g b h0 h1
  have c2 := wstamp_fn g
  refine fn_ofE Tryz.func129 rfl Tryz.ntmps129 (Nat.le_of_ble_eq_true rfl) (by decide) ?_
  unfold over2
  cases hb : decide (g / 4 = s)
  case false =>
    have hb2 : (!decide (g / 4 = s)) = true := by rw [hb]; rfl
    repeat' (first | (refine zY.nil ?_) | (refine zZ.is ?_; first | refine zZ.seq ?_ | (refine zZ.isR (id := 0) ?_; refine zZ.rc [0, 1, 2] [1000, 1001] (r := (.v zK .e)) (h := ?_)) | (refine zZ.isR (id := 1) ?_; refine zZ.rk [0, 1, 2, 4] [1000, 1001] ?_; refine zZ.draws ?_) | refine zZ.ret ?_) | (refine Draws.is ?_; first | refine Draws.rc (.v zV .e) ?_ | refine Draws.rc (.v zH (.v zN (.v v42_0 (.v zV (.gF (.gF (.gF (.v y8 (.v zK .e))))))))) ?_ | (refine Draws.in_ [6] rfl ?_; refine Draws.v rfl rfl (zL (c2) rfl rfl rfl (by decide)) ?_) | refine Draws.done (by kernel_rfl) (by kernel_rfl) (by kernel_rfl) ?_) | (refine zD.nil ?_))
    all_goals exact ⟨(by exact .inl rfl), _, Sub.refl _, .one rfl rfl, wL (by repeat' first | exact trivial | rfl | constructor)⟩
  case true =>
    have hb2 : (!decide (g / 4 = s)) = false := by rw [hb]; rfl
    repeat' (first | (refine zY.nil ?_) | (refine zZ.is ?_; first | refine zZ.seq ?_ | (refine zZ.isR (id := 0) ?_; refine zZ.rc [0, 1, 2] [1000, 1001] (r := (.v zK .e)) (h := ?_)) | (refine zZ.isR (id := 1) ?_; refine zZ.rk [0, 1, 2, 4] [1000, 1001] ?_; refine zZ.draws ?_) | refine zZ.ret ?_) | (refine Draws.is ?_; first | refine Draws.rc (.v zV .e) ?_ | refine Draws.rc (.v zH (.v zN (.v v42_0 (.v zV (.gY zV (.gY zN .e)))))) ?_ | refine Draws.rc (.v xC (.v zK .e)) ?_ | (refine Draws.in_ [6] rfl ?_; refine Draws.v rfl rfl (zL (c2) rfl rfl rfl (by decide)) ?_) | (refine Draws.in_ [13] rfl ?_; refine Draws.gY rfl rfl (by decide) rfl bA rfl (zL (c1) rfl rfl rfl (by decide)) ?_) | refine Draws.done (by kernel_rfl) (by kernel_rfl) (by kernel_rfl) ?_) | (refine zD.nil ?_))
    all_goals exact ⟨(by exact .inl rfl), _, Sub.refl _, .one rfl rfl, wL (by repeat' first | exact trivial | rfl | constructor)⟩
end Go.Proofs.YtmfbamiciieooaaGreatDoor
/- A bit of a flag is set, unless that is done: the program's loop with its two closures, whatever makes its accesses: contracts. -/
namespace Go.Proofs.YtmfbamiciieooaaGreatDoor
set_option maxRecDepth 100000
set_option maxHeartbeats 16000000
open Go Go.RowKit
set_option linter.unusedSimpArgs false
set_option linter.unusedVariables false
attribute [local irreducible] zY zZ Step zX Sub zD zF Fn
def setS1 (H : Hnd) (t r b : Int) (s : H.σ) : AS :=
  { t := [(0, H.doA), (1, .p (.val (.int .i64 t))), (2, .p (.val (.int .i64 r))), (3, .p (.val (.int .i64 b))), (4, .clo 122 [1003])], s := [(1000, H.b0 s), (1001, H.b1 s), (1002, H.b2 s), (1003, yG b)] }
theorem set1_h (H : Hnd) (s0 : H.σ) {t r b : Int} (h : Rc t r) (hb : b = 1 ∨ b = 2) : FnH H 121 [H.doA, .p (.val (.int .i64 t)), .p (.val (.int .i64 r)), .p (.val (.int .i64 b)), .clo 122 [1003]] [yG b] (fun _ => .any) (fun _ => [yG b]) yes s0 (setP (ov1 b) (yK t r 2) b) := by
  unfold Hnd.doA
  have hwb : IntKind.u64.wrap b = b := wrap_u64 _ (by omega)
  have cf := qZ h 2 (by decide)
  have F1 := fun f (h0 : U f) (h1 : ov1 b f = false) => (orBit f b h0.lo h0.hi hb h1).1
  refine yO Tryz.func121 rfl Tryz.ntmps121 (Nat.le_of_ble_eq_true rfl) (by decide) (fine_set hb fun _ h => h) fun hok hns => ?_
  repeat' ((refine zZ.is ?_; refine zZ.block ?_))
  refine zZ.loop (fun p : Nat × H.σ => setS1 H t r b p.2) (fun p => H.ok p.2 ∧ (Pr.loop (vV (ov1 b) (yK t r 2) b) p.1 ()).run H.st p.2 = (setP (ov1 b) (yK t r 2) b).run H.st s0) (fun p => p.1) (many, s0) ?h0 ⟨hok, rfl⟩ ?rd
  case h0 =>
    exact yL K_8 K_u
  case rd =>
    rintro ⟨n, s1⟩ ⟨hok1, ho⟩
    cases n with
    | zero => exact absurd ho.symm hns
    | succ n =>
      dsimp only at hok1 ho ⊢
      rw [Pr.loop_succ] at ho
      rw [← ho] at hns ⊢
      repeat' (first | (refine zY.is ?_; first | refine zY.nil ?_ | (refine zY.at_ 10 rfl ?_; refine zY.rc (.v zK .e) ?_) | (refine zY.at_ 18 rfl ?_; refine zY.rc (.v zV .e) ?_) | (refine zY.at_ 19 rfl ?_; refine zY.rc (.gY xJ (.gY zV (.gY zV .e))) ?_) | (refine zY.at_ 19 rfl ?_; refine zY.rc (.gF (.gF (.gF (.gF (.gF (.gF (.gF (.gF (.gF (.gF (.v y8 .e))))))))))) ?_) | (refine zY.at_ 23 rfl ?_; refine zY.rc (.gY zV (.gY zV (.gY zV (.gY v6_0 (.gY v36_1 .e))))) ?_) | (refine zY.at_ 29 rfl ?_; refine zY.rc (.v xC .e) ?_) | (refine zY.in_ [17] rfl ?_; refine zY.ofT rfl (zF.eR [1003] (over1_fn _ b (U.lo (by assumption)) (U.hi (by assumption))) ?_)) | (refine zY.in_ [14] rfl ?_; refine zY.ofT rfl (zF.hd (i := []) (f := flagL_h H _ h) (r := fun x s e g hk => ?_) (p := fun q s e => ?_) (t := ?_))) | (refine zY.in_ [22] rfl ?_; refine zY.gY rfl rfl (by decide) rfl bA rfl (by decide) (zL (cf) rfl rfl rfl (by decide)) ?_) | (refine zY.in_ [28] rfl ?_; refine zY.ofTg rfl rfl (by decide) rfl bA (zF.hd (i := []) (f := cas_h H _ _ _ _ (by assumption) (orU (by assumption) hb (by assumption))) (r := fun x s e g hk => ?_) (p := fun q s e => ?_) (t := ?_))) | (fail_if_success refine zY.known rfl rfl rfl (by fail) ?_); refine zY.split rfl rfl rfl (fun h => ?_) (fun h => ?_)) | (refine zZ.is ?_; first | refine zZ.seq ?_ | (refine zZ.isR (id := 0) ?_; refine zZ.rc [0, 1, 2, 3, 4, 10, 29] [1000, 1001, 1002, 1003] (r := (.v xJ (.v zV (.v zV .e)))) (h := ?_)) | (refine zZ.isR (id := 1) ?_; refine zZ.rc [0, 1, 2, 3, 4, 10, 29] [1000, 1001, 1002, 1003] (r := (.v xJ (.v zV .e))) (h := ?_)) | refine zZ.yF rfl bA ?_ | refine zZ.cond rfl (fun h => ?_) (fun h => ?_) | refine zZ.skip ?_ | refine zZ.block ?_ | refine zZ.ret ?_) | refine zB.n ?_ | refine zB.r ?_ | refine zP.n ?_ | refine zP.r ?_)
      all_goals (first | exact fun e => hns (by clear hns; simp only [vV, run_bind, zC, zJ, Held.zW, Held.zA, Held.zQ, cond_true, cond_false, *]) | exact .pan (q := q) rfl (by repeat' first | exact trivial | rfl | constructor) (by repeat' first | exact trivial | exact ⟨_, rfl, rfl⟩ | constructor) (by simp only [vV, run_bind, zC, zJ, Held.zW, Held.zA, Held.zQ, cond_true, cond_false, *]) | exact .ret (x := ()) (by exact .inl rfl) (by exact .none rfl) (by repeat' first | exact trivial | rfl | constructor) (by simp only [vV, run_bind, zC, zJ, Held.zW, Held.zA, Held.zQ, cond_true, cond_false, *]) | skip)
      refine ⟨(n, s), ?_, ⟨by assumption, ?_⟩, Nat.lt_succ_self n⟩
      · exact yL K_8 K_u
      · simp only [vV, run_bind, zC, zJ, Held.zW, cond_true, cond_false, *]
def setS2 (H : Hnd) (t r b ek es ey eu ev ex : Int) (s : H.σ) : AS :=
  { t := [(0, H.doA), (1, .p (.val (.int .i64 t))), (2, .p (.val (.int .i64 r))), (3, .p (.val (.int .i64 b))), (4, .clo 129 [1003, 1004])], s := [(1000, H.b0 s), (1001, H.b1 s), (1002, H.b2 s), (1003, entB ek es ey eu ev ex), (1004, yG b)] }
theorem set2_h (H : Hnd) (s0 : H.σ) {t r b : Int} (h : Rc t r) (hb : b = 1 ∨ b = 2) (ek es ey eu ev ex : Int) : FnH H 121 [H.doA, .p (.val (.int .i64 t)), .p (.val (.int .i64 r)), .p (.val (.int .i64 b)), .clo 129 [1003, 1004]] [entB ek es ey eu ev ex, yG b] (fun _ => .any) (fun _ => [entB ek es ey eu ev ex, yG b]) yes s0 (setP (over2 es b) (yK t r 2) b) := by
  unfold Hnd.doA
  have hwb : IntKind.u64.wrap b = b := wrap_u64 _ (by omega)
  have cf := qZ h 2 (by decide)
  have F1 := fun f (h0 : U f) (h1 : over2 es b f = false) => (orBit f b h0.lo h0.hi hb (over2_has h1)).1
  refine yO Tryz.func121 rfl Tryz.ntmps121 (Nat.le_of_ble_eq_true rfl) (by decide) (fine_set hb fun _ h => over2_has h) fun hok hns => ?_
  repeat' ((refine zZ.is ?_; refine zZ.block ?_))
  refine zZ.loop (fun p : Nat × H.σ => setS2 H t r b ek es ey eu ev ex p.2) (fun p => H.ok p.2 ∧ (Pr.loop (vV (over2 es b) (yK t r 2) b) p.1 ()).run H.st p.2 = (setP (over2 es b) (yK t r 2) b).run H.st s0) (fun p => p.1) (many, s0) ?h0 ⟨hok, rfl⟩ ?rd
  case h0 =>
    exact yL K_8 K_v
  case rd =>
    rintro ⟨n, s1⟩ ⟨hok1, ho⟩
    cases n with
    | zero => exact absurd ho.symm hns
    | succ n =>
      dsimp only at hok1 ho ⊢
      rw [Pr.loop_succ] at ho
      rw [← ho] at hns ⊢
      repeat' (first | (refine zY.is ?_; first | refine zY.nil ?_ | (refine zY.at_ 10 rfl ?_; refine zY.rc (.v zK .e) ?_) | (refine zY.at_ 18 rfl ?_; refine zY.rc (.v zV .e) ?_) | (refine zY.at_ 19 rfl ?_; refine zY.rc (.gY xJ (.gY zV (.gY zV .e))) ?_) | (refine zY.at_ 19 rfl ?_; refine zY.rc (.gF (.gF (.gF (.gF (.gF (.gF (.gF (.gF (.gF (.gF (.v y8 .e))))))))))) ?_) | (refine zY.at_ 23 rfl ?_; refine zY.rc (.gY zV (.gY zV (.gY zV (.gY v6_0 (.gY v36_1 .e))))) ?_) | (refine zY.at_ 29 rfl ?_; refine zY.rc (.v xC .e) ?_) | (refine zY.in_ [17] rfl ?_; refine zY.ofT rfl (zF.eR [1003, 1004] (over2_fn _ ek es ey eu ev ex b (U.lo (by assumption)) (U.hi (by assumption))) ?_)) | (refine zY.in_ [14] rfl ?_; refine zY.ofT rfl (zF.hd (i := []) (f := flagL_h H _ h) (r := fun x s e g hk => ?_) (p := fun q s e => ?_) (t := ?_))) | (refine zY.in_ [22] rfl ?_; refine zY.gY rfl rfl (by decide) rfl bA rfl (by decide) (zL (cf) rfl rfl rfl (by decide)) ?_) | (refine zY.in_ [28] rfl ?_; refine zY.ofTg rfl rfl (by decide) rfl bA (zF.hd (i := []) (f := cas_h H _ _ _ _ (by assumption) (orU (by assumption) hb (over2_has (by assumption)))) (r := fun x s e g hk => ?_) (p := fun q s e => ?_) (t := ?_))) | (fail_if_success refine zY.known rfl rfl rfl (by fail) ?_); refine zY.split rfl rfl rfl (fun h => ?_) (fun h => ?_)) | (refine zZ.is ?_; first | refine zZ.seq ?_ | (refine zZ.isR (id := 0) ?_; refine zZ.rc [0, 1, 2, 3, 4, 10, 29] [1000, 1001, 1002, 1003, 1004] (r := (.v xJ (.v zV (.v zV .e)))) (h := ?_)) | (refine zZ.isR (id := 1) ?_; refine zZ.rc [0, 1, 2, 3, 4, 10, 29] [1000, 1001, 1002, 1003, 1004] (r := (.v xJ (.v zV .e))) (h := ?_)) | refine zZ.yF rfl bA ?_ | refine zZ.cond rfl (fun h => ?_) (fun h => ?_) | refine zZ.skip ?_ | refine zZ.block ?_ | refine zZ.ret ?_) | refine zB.n ?_ | refine zB.r ?_ | refine zP.n ?_ | refine zP.r ?_)
      all_goals (first | exact fun e => hns (by clear hns; simp only [vV, run_bind, zC, zJ, Held.zW, Held.zA, Held.zQ, cond_true, cond_false, *]) | exact .pan (q := q) rfl (by repeat' first | exact trivial | rfl | constructor) (by repeat' first | exact trivial | exact ⟨_, rfl, rfl⟩ | constructor) (by simp only [vV, run_bind, zC, zJ, Held.zW, Held.zA, Held.zQ, cond_true, cond_false, *]) | exact .ret (x := ()) (by exact .inl rfl) (by exact .none rfl) (by repeat' first | exact trivial | rfl | constructor) (by simp only [vV, run_bind, zC, zJ, Held.zW, Held.zA, Held.zQ, cond_true, cond_false, *]) | skip)
      refine ⟨(n, s), ?_, ⟨by assumption, ?_⟩, Nat.lt_succ_self n⟩
      · exact yL K_8 K_v
      · simp only [vV, run_bind, zC, zJ, Held.zW, cond_true, cond_false, *]
end Go.Proofs.YtmfbamiciieooaaGreatDoor
/- Set; accesses of a disk; what a flag hasn't is made durable: the program's, whatever makes its accesses: contracts. -/
namespace Go.Proofs.YtmfbamiciieooaaGreatDoor
set_option maxRecDepth 100000
set_option maxHeartbeats 16000000
open Go Go.RowKit
set_option linter.unusedSimpArgs false
set_option linter.unusedVariables false
attribute [local irreducible] zY zZ Step zX Sub zD zF Fn
theorem setOp_h (H : Hnd) (s0 : H.σ) {t r b : Int} (hR : Rc t r) (hb : b = 1 ∨ b = 2) : FnH H 96 [H.doA, .p (.val (.int .i64 t)), .p (.val (.int .i64 r)), .p (.val (.int .i64 b))] [] (fun _ => .any) (fun _ => []) yes s0 (setP (ov1 b) (yK t r 2) b) := by
  unfold Hnd.doA
  refine yO Tryz.func96 rfl Tryz.ntmps96 (Nat.le_of_ble_eq_true rfl) (by decide) (fine_set hb fun _ h => h) fun hok hns => ?_
  repeat' (first | (refine zY.is ?_; first | refine zY.nil ?_ | (refine zY.in_ [13] rfl ?_; refine zY.ofT rfl (zF.hd (i := [7]) (f := set1_h H _ hR hb) (r := fun x s e g hk => ?_) (p := fun q s e => ?_) (t := ?_)))) | (refine zZ.is ?_; first | refine zZ.seq ?_ | (refine zZ.isR (id := 0) ?_; refine zZ.rc [0, 1, 2, 3] [7, 1000, 1001, 1002] (r := (.m m18_1 .e)) (h := ?_)) | (refine zZ.isR (id := 1) ?_; refine zZ.rc [0, 1, 2, 7] [7, 1000, 1001, 1002] (r := (.v xJ (.v zV (.v zV (.v zN (.v v14_0 .e)))))) (h := ?_))))
  all_goals (first | exact fun e => hns (by clear hns; simp only [run_bind, zC, zJ, Held.zW, Held.zA, Held.zQ, cond_true, cond_false, *]) | exact .pan (q := q) rfl (by repeat' first | exact trivial | rfl | constructor) (by repeat' exact trivial) (by simp only [run_bind, zC, zJ, Held.zW, Held.zA, Held.zQ, cond_true, cond_false, *]) | exact .ret (x := ()) (by exact .inr rfl) (by exact .none rfl) (by repeat' first | exact trivial | rfl | constructor) (by simp only [run_bind, zC, zJ, Held.zW, Held.zA, Held.zQ, cond_true, cond_false, *]))
def doB (H : Hnd) : Blk := .box 87 [H.doA]
theorem ld_h (H : Hnd) (s0 : H.σ) {t r f : Int} (hR : Rc t r) (hf : 0 ≤ f ∧ f ≤ 7) :
    FnH H 126 [.p (.val (.int .i64 f)), .ptr 1003 0, .ptr 1004 0, .ptr 1005 0] [doB H, yG t, yG r] (fun x => .p (.val (.int .u64 x))) (fun _ => [doB H, yG t, yG r]) U s0 (xL (yK t r f)) := by
  unfold doB Hnd.doA
  refine yO Tryz.func126 rfl Tryz.ntmps126 (Nat.le_of_ble_eq_true rfl) (by decide) (yQ _) fun hok hns => ?_
  repeat' (first | (refine zY.nil ?_) | (refine zZ.is ?_; first | refine zZ.seq ?_ | (refine zZ.isR (id := 0) ?_; refine zZ.rc [0, 1, 2, 3] [1000, 1001, 1002, 1003, 1004, 1005] (r := (.v zK .e)) (h := ?_)) | (refine zZ.isR (id := 1) ?_; refine zZ.rk [0, 1, 2, 3, 5] [1000, 1001, 1002, 1003, 1004, 1005] ?_; refine zZ.draws ?_) | refine zZ.ret ?_) | (refine Draws.is ?_; first | refine Draws.rc (.v wB (.v zN (.v zN (.v zV .e)))) ?_ | (refine Draws.in_ [10] rfl ?_; refine Draws.v rfl rfl (zL (qZ hR f hf) rfl rfl rfl (by decide)) ?_) | refine Draws.done (by kernel_rfl) (by kernel_rfl) (by kernel_rfl) ?_) | (refine zD.is ?_; first | refine zD.nil ?_ | (refine zD.at_ 5 rfl ?_; refine zD.rc (.v zK .e) ?_) | (refine zD.in_ [11] rfl ?_; refine zD.ofT rfl (zF.hd (i := []) (f := vI H _ _) (r := fun x s e g hk => ?_) (p := fun q s e => ?_) (t := ?_)))))
  all_goals (first | exact fun e => hns (by clear hns; simp only [run_bind, zC, zJ, Held.zW, Held.zA, Held.zQ, cond_true, cond_false, *]) | exact .pan (q := q) rfl (by repeat' first | exact trivial | rfl | constructor) (by repeat' first | exact trivial | exact ⟨_, rfl, rfl⟩ | constructor) (by simp only [run_bind, zC, zJ, Held.zW, Held.zA, Held.zQ, cond_true, cond_false, *]) | exact .ret (by exact .inl rfl) (by exact .one rfl rfl) (by repeat' first | exact trivial | rfl | constructor) (by simp only [run_bind, zC, zJ, Held.zW, Held.zA, Held.zQ, cond_true, cond_false, *]))
theorem accQ_cells (qs : List Ned) : ∀ e ∈ qs.map accQ, e.cells.length = 6 := fun e he => by
  obtain ⟨r, _, rfl⟩ := List.mem_map.1 he
  rfl
def diskS (H : Hnd) (qs : List Ned) (p : Nat × H.σ) : AS :=
  { t := [(0, H.doA), (4, .p (.val (.bool false))), (7, .p (.sl (qs.map accQ))), (8, .p (.val (.int .i64 (qs.map accQ).length))), (9, .p (.val (.int .i64 p.1)))], s := [(1000, H.b0 p.2), (1001, H.b1 p.2), (1002, H.b2 p.2)] }
theorem disk_h (H : Hnd) (s0 : H.σ) (qs : List Ned) (hq : qs.length ≤ 1000) (ha : ∀ q ∈ qs, Asked q) :
    FnH H 127 [H.doA, .p (.sl (qs.map accQ))] [] (fun b => .p (.val (.bool b))) (fun _ => []) yes s0 (diskP qs) := by
  have g4 := accQ_cells qs
  unfold Hnd.doA
  refine yO Tryz.func127 rfl Tryz.ntmps127 (Nat.le_of_ble_eq_true rfl) (by decide) (fine_disk ha) fun hok hns => ?_
  repeat' (first | (refine zY.nil ?_) | (refine zZ.is ?_; first | refine zZ.seq ?_ | (refine zZ.isR (id := 0) ?_; refine zZ.rc [0, 1] [6, 1000, 1001, 1002] (r := (.v zK .e)) (h := ?_)) | (refine zZ.isR (id := 1) ?_; refine zZ.rc [0, 1, 4] [6, 1000, 1001, 1002] (r := (.v zV (.v wO (.v zV .e)))) (h := ?_)) | refine zZ.block ?_))
  refine zZ.loop (fun p : Nat × H.σ => diskS H qs p) (fun p => p.1 ≤ qs.length ∧ H.ok p.2 ∧ (diskP (qs.drop p.1)).run H.st p.2 = (diskP qs).run H.st s0) (fun p => qs.length - p.1) (0, s0) ?h0 ⟨Nat.zero_le _, hok, rfl⟩ ?rd
  case h0 =>
    exact yL K_w K_0
  case rd =>
    rintro ⟨k, s1⟩ ⟨hk, hok1, ho⟩
    dsimp only at hk hok1 ho ⊢
    unfold diskS Hnd.doA
    dsimp only
    by_cases hlt : k < qs.length
    · have hdec : decide ((k : Int) < ((qs.map accQ).length : Int)) = true := decide_eq_true (by simp; omega)
      have g5 : (qs.map accQ)[k]? = some (accQ qs[k]) := by rw [List.getElem?_map, List.getElem?_eq_getElem hlt]; rfl
      have hqa : Asked qs[k] := ha _ (List.getElem_mem hlt)
      rw [List.drop_eq_getElem_cons hlt, diskP] at ho
      generalize qs[k] = q at *
      have g6 : IntKind.i64.wrap ((k : Int) + 1) = ((k + 1 : Nat) : Int) := by rw [wrap_i64 _ (by omega)]; omega
      rw [← ho] at hns ⊢
      rw [show (Pr.ask q fun r => bif r.fail then Pr.ret false else diskP (qs.drop (k + 1))) = (Pr.ask q .ret).bind fun r => bif r.fail then .ret false else diskP (qs.drop (k + 1)) from rfl] at ho hns ⊢
      repeat' (first | (refine zY.is ?_; first | refine zY.nil ?_ | (refine zY.at_ 16 rfl ?_; refine zY.rc (.v v11_0 .e) ?_) | (refine zY.in_ [15] rfl ?_; refine zY.ofT rfl (zF.hd (i := []) (f := do_h H _ q hqa) (r := fun x s e g hk => ?_) (p := fun q s e => ?_) (t := ?_)))) | (refine zZ.is ?_; first | refine zZ.seq ?_ | (refine zZ.isR (id := 2) ?_; refine zZ.rc [0, 4, 6, 7, 8, 9, 10, 16] [6, 1000, 1001, 1002] (r := (.v xY .e)) (h := ?_)) | (refine zZ.isR (id := 3) ?_; refine zZ.rc [0, 4, 6, 7, 8, 9, 10, 16] [6, 1000, 1001, 1002] (r := (.v v7_18 (.v v2_7 (.m zS (.w zR .e))))) (h := ?_)) | (refine zZ.isR (id := 4) ?_; refine zZ.rc [0, 4, 6, 7, 8, 9, 10, 16] [6, 1000, 1001, 1002] (r := (.v xJ (.v yU .e))) (h := ?_)) | (refine zZ.isR (id := 5) ?_; refine zZ.rc [0, 4, 6, 7, 8, 9, 10, 16] [6, 1000, 1001, 1002] (r := (.v zK .e)) (h := ?_)) | (refine zZ.isR (id := 6) ?_; refine zZ.rc [0, 4, 6, 7, 8, 9, 10, 16] [6, 1000, 1001, 1002] (r := (.v wC (.v zV .e))) (h := ?_)) | refine zZ.yF rfl bA ?_ | refine zZ.cond rfl (fun h => ?_) (fun h => ?_) | refine zZ.skip ?_ | refine zZ.block ?_ | refine zZ.ret ?_) | refine zB.n ?_ | refine zB.r ?_ | refine zP.r ?_)
      all_goals (first | exact fun e => hns (by clear ho; clear hns; simp only [run_bind, zC, zJ, Held.zW, Held.zA, Held.zQ, cond_true, cond_false, *]) | exact .pan (q := q) rfl (by repeat' first | exact trivial | rfl | constructor) (by repeat' exact trivial) (by clear ho; simp only [run_bind, zC, zJ, Held.zW, Held.zA, Held.zQ, cond_true, cond_false, *]) | exact .ret (by exact .inl rfl) (by exact .one rfl rfl) (by repeat' first | exact trivial | rfl | constructor) (by clear ho; simp only [run_bind, zC, zJ, Held.zW, Held.zA, Held.zQ, cond_true, cond_false, *]) | skip)
      refine ⟨(k + 1, _), ?_, ⟨by omega, by assumption, ?_⟩, by dsimp only; omega⟩
      · exact yL K_w K_0
      · clear ho
        simp only [run_bind, zC, zJ, Held.zW, cond_true, cond_false, *]
    · have hdec : decide ((k : Int) < ((qs.map accQ).length : Int)) = false := decide_eq_false (by simp; omega)
      obtain rfl : k = qs.length := by omega
      rw [List.drop_length, diskP] at ho
      rw [← ho] at hns ⊢
      repeat' (first | (refine zY.nil ?_) | (refine zZ.is ?_; first | refine zZ.seq ?_ | (refine zZ.isR (id := 2) ?_; refine zZ.rc [0, 4, 6, 7, 8, 9, 10, 16] [6, 1000, 1001, 1002] (r := (.v xY .e)) (h := ?_)) | (refine zZ.isR (id := 7) ?_; refine zZ.rc [4] [6, 1000, 1001, 1002] (r := (.v zK .e)) (h := ?_)) | refine zZ.yH rfl bA ?_ | refine zZ.exit ?_ | refine zZ.ret ?_))
      all_goals (exact .ret (by exact .inl rfl) (by exact .one rfl rfl) (by repeat' first | exact trivial | rfl | constructor) (by clear ho; simp only [run_bind, zC, zJ, Held.zW, Held.zA, Held.zQ, cond_true, cond_false, *]))
theorem disk2_h (H : Hnd) (s0 : H.σ) (k s y u v x : Int) :
    FnH H 127 [H.doA, .p (.sl [accV 5 0 0 0 (.sl (byts (bytesE k s y u v x))), accV 6 0 0 0 xQ])] [] (fun b => .p (.val (.bool b))) (fun _ => []) yes s0 (diskP (wrAcc k s y u v x)) :=
  disk_h H s0 (wrAcc k s y u v x) (by unfold wrAcc; simp) (asked_wr k s y u v x)
end Go.Proofs.YtmfbamiciieooaaGreatDoor
/- What a flag hasn't is made durable; save, dead: the program's, whatever makes its accesses: contracts. -/
namespace Go.Proofs.YtmfbamiciieooaaGreatDoor
set_option maxRecDepth 100000
set_option maxHeartbeats 16000000
open Go Go.RowKit
set_option linter.unusedSimpArgs false
set_option linter.unusedVariables false
attribute [local irreducible] zY zZ Step zX Sub zD zF Fn
theorem rest_h (H : Hnd) (s0 : H.σ) {t r b f : Int} (hR : Rc t r) (hb : b = 1 ∨ b = 2) (hf : U f) :
    FnH H 116 [H.doA, .p (.val (.int .i64 t)), .p (.val (.int .i64 r)), .p (.val (.int .i64 b)), .p (.val (.int .u64 f))] [] (fun x => .p (.val (.bool x))) (fun _ => []) yes s0 (restP t r b f) := by
  have ch := has_fn f b hf.1 hf.2
  have cs0 := wstamp_fn f
  have hs : U (f / 4) := hf.quo
  have z : U 0 := U.zero
  unfold Hnd.doA
  refine yO Tryz.func116 rfl Tryz.ntmps116 (Nat.le_of_ble_eq_true rfl) (by decide) (fine_rest t r b f hb) fun hok hns => ?_
  cases hh : hasF f b <;> rw [hh] at ch
  case true =>
    repeat' (first | (refine zY.is ?_; first | refine zY.nil ?_ | (refine zY.in_ [15] rfl ?_; refine zY.v rfl rfl (zL (ch) rfl rfl rfl (by decide)) ?_)) | (refine zZ.is ?_; first | refine zZ.seq ?_ | (refine zZ.isR (id := 0) ?_; refine zZ.rc [0, 1, 2, 3, 4] [5, 6, 7, 8, 11, 40, 1000, 1001, 1002] (r := (.m m18_3 (.m m18_1 (.m m18_1 (.m m18_1 (.v zK .e)))))) (h := ?_)) | (refine zZ.isR (id := 1) ?_; refine zZ.rc [4, 5, 6, 7, 8, 10] [5, 6, 7, 8, 11, 40, 1000, 1001, 1002] (r := (.v zV (.v zN .e))) (h := ?_)) | (refine zZ.isR (id := 2) ?_; refine zZ.rc [4, 5, 6, 7, 8, 10] [5, 6, 7, 8, 11, 40, 1000, 1001, 1002] (r := (.v zK .e)) (h := ?_)) | refine zZ.yF rfl bA ?_ | refine zZ.ret ?_) | refine zB.r ?_)
    all_goals (exact .ret (by exact .inl rfl) (by exact .one rfl rfl) (by repeat' first | exact trivial | rfl | constructor) (by simp only [restP, run_bind, zC, zJ, Held.zW, Held.zA, Held.zQ, cond_true, cond_false, *]))
  case false =>
    have ps_ := trivial
    repeat' (first | (refine zY.is ?_; first | refine zY.nil ?_ | (refine zY.at_ 18 rfl ?_; refine zY.rc (.v y9 (.m zS (.w zR .e))) ?_) | (refine zY.at_ 25 rfl ?_; refine zY.rc (.v zH (.w zR .e)) ?_) | (refine zY.at_ 28 rfl ?_; refine zY.rc (.v zH (.w zR .e)) ?_) | (refine zY.at_ 31 rfl ?_; refine zY.rc (.v zH (.w zR .e)) ?_) | (refine zY.at_ 34 rfl ?_; refine zY.rc (.v zH (.w zR .e)) ?_) | (refine zY.in_ [15] rfl ?_; refine zY.v rfl rfl (zL (ch) rfl rfl rfl (by decide)) ?_) | (refine zY.in_ [17] rfl ?_; refine zY.v rfl rfl (zL (cs0) rfl rfl rfl (by decide)) ?_) | (refine zY.in_ [24, 27, 30, 33] rfl ?_; refine zY.ofT rfl (zF.hd (i := [5, 6, 7]) (f := ld_h H _ hR (by decide)) (r := fun x s e g hk => ?_) (p := fun q s e => ?_) (t := ?_))) | (refine zY.in_ [48] rfl ?_; refine zY.ofT rfl (zF.hd (i := [11, 8]) (f := set2_h H _ hR hb _ _ _ _ _ _) (r := fun x s e g hk => ?_) (p := fun q s e => ?_) (t := ?_)))) | (refine zZ.is ?_; first | refine zZ.seq ?_ | (refine zZ.isR (id := 0) ?_; refine zZ.rc [0, 1, 2, 3, 4] [5, 6, 7, 8, 11, 40, 1000, 1001, 1002] (r := (.m m18_3 (.m m18_1 (.m m18_1 (.m m18_1 (.v zK .e)))))) (h := ?_)) | (refine zZ.isR (id := 1) ?_; refine zZ.rc [4, 5, 6, 7, 8, 10] [5, 6, 7, 8, 11, 40, 1000, 1001, 1002] (r := (.v zV (.v zN .e))) (h := ?_)) | (refine zZ.isR (id := 3) ?_; refine zZ.rc [4, 5, 6, 7, 8, 10] [5, 6, 7, 8, 11, 40, 1000, 1001, 1002] (r := (.v zV .e)) (h := ?_)) | (refine zZ.isR (id := 4) ?_; refine zZ.rc [5, 6, 7, 8, 10, 11] [5, 6, 7, 8, 11, 40, 1000, 1001, 1002] (r := (.v zN (.v v41_8 .e))) (h := ?_)) | (refine zZ.isR (id := 5) ?_; refine zZ.rc [5, 6, 7, 8, 10, 11] [5, 6, 7, 8, 11, 40, 1000, 1001, 1002] (r := (.v v14_0 (.v v1_5 .e))) (h := ?_)) | (refine zZ.isR (id := 6) ?_; refine zZ.rc [5, 6, 7, 8, 10, 11, 12] [5, 6, 7, 8, 11, 40, 1000, 1001, 1002] (r := (.v zH (.w zR .e))) (h := ?_)) | (refine zZ.isR (id := 7) ?_; refine zZ.rc [5, 6, 7, 8, 10, 11, 12] [5, 6, 7, 8, 11, 40, 1000, 1001, 1002] (r := (.v xJ .e)) (h := ?_)) | (refine zZ.isR (id := 8) ?_; refine zZ.rc [5, 6, 7, 8, 10, 11, 12] [5, 6, 7, 8, 11, 40, 1000, 1001, 1002] (r := (.v xJ .e)) (h := ?_)) | (refine zZ.isR (id := 9) ?_; refine zZ.rc [5, 6, 7, 8, 10, 11, 12] [5, 6, 7, 8, 11, 40, 1000, 1001, 1002] (r := (.v xJ .e)) (h := ?_)) | (refine zZ.isR (id := 10) ?_; refine zZ.rc [5, 6, 7, 8, 10, 11, 12] [5, 6, 7, 8, 11, 40, 1000, 1001, 1002] (r := (.v xJ .e)) (h := ?_)) | (refine zZ.isR (id := 11) ?_; refine zZ.rk [5, 6, 7, 8, 10, 11] [5, 6, 7, 8, 11, 40, 1000, 1001, 1002] ?_; refine zZ.draws ?_) | (refine zZ.isR (id := 12) ?_; refine zZ.rc [5, 6, 7, 8, 10, 11] [5, 6, 7, 8, 11, 40, 1000, 1001, 1002] (r := (.v zK .e)) (h := ?_)) | (refine zZ.isR (id := 13) ?_; refine zZ.rc [5, 6, 7, 8, 10, 11] [5, 6, 7, 8, 11, 40, 1000, 1001, 1002] (r := (.v wB (.v zN (.v zN (.v zN (.v v14_0 .e)))))) (h := ?_)) | (refine zZ.isR (id := 14) ?_; refine zZ.rc [10] [5, 6, 7, 8, 11, 40, 1000, 1001, 1002] (r := (.v zK .e)) (h := ?_)) | refine zZ.yH rfl bA ?_ | refine zZ.cond rfl (fun h => ?_) (fun h => ?_) | refine zZ.skip ?_ | refine zZ.ret ?_) | refine zB.r ?_ | (refine Draws.is ?_; first | refine Draws.rc (.v wB (.v yU .e)) ?_ | refine Draws.rc (.v y9 (.v y9 (.v v20_0 .e))) ?_ | (refine Draws.in_ [37] rfl ?_; refine Draws.v rfl rfl (zL (bytes_fn _ _ _ _ _ _ (by assumption) (by assumption) (by assumption) (by assumption) (by assumption)) rfl rfl rfl (by decide)) ?_) | refine Draws.done (by kernel_rfl) (by kernel_rfl) (by kernel_rfl) ?_) | (refine zD.is ?_; first | refine zD.nil ?_ | (refine zD.at_ 42 rfl ?_; refine zD.rc (.v v52_8 .e) ?_) | (refine zD.in_ [41] rfl ?_; refine zD.ofT rfl (zF.hd (i := []) (f := disk2_h H _ _ _ _ _ _ _) (r := fun x s e g hk => ?_) (p := fun q s e => ?_) (t := ?_)))))
    all_goals try simp only [Bool.not_eq_true', Bool.not_eq_false'] at *
    all_goals (first | exact fun e => hns (by clear hns; simp only [restP, wrP, run_bind, zC, zJ, Held.zW, Held.zA, Held.zQ, cond_true, cond_false, *]) | exact .pan (q := q) rfl (by repeat' first | exact trivial | rfl | constructor) (by repeat' exact trivial) (by simp only [restP, wrP, run_bind, zC, zJ, Held.zW, Held.zA, Held.zQ, cond_true, cond_false, *]) | exact .ret (by exact .inl rfl) (by exact .one rfl rfl) (by repeat' first | exact trivial | rfl | constructor) (by simp only [restP, wrP, run_bind, zC, zJ, Held.zW, Held.zA, Held.zQ, cond_true, cond_false, *]))
theorem save_h (H : Hnd) (s0 : H.σ) {t r b : Int} (hR : Rc t r) (hb : b = 1 ∨ b = 2) :
    FnH H 82 [H.doA, .p (.val (.int .i64 t)), .p (.val (.int .i64 r)), .p (.val (.int .i64 b))] [] (fun x => .p (.val (.bool x))) (fun _ => []) yes s0 (saveP t r b) := by
  unfold Hnd.doA
  refine yO Tryz.func82 rfl Tryz.ntmps82 (Nat.le_of_ble_eq_true rfl) (by decide) (fine_save t r b hb) fun hok hns => ?_
  repeat' (first | (refine zY.is ?_; first | refine zY.nil ?_ | (refine zY.at_ 8 rfl ?_; refine zY.rc (.v zK .e) ?_) | (refine zY.in_ [16] rfl ?_; refine zY.ofT rfl (zF.hd (i := []) (f := flag_h H _ hR) (r := fun x s e g hk => ?_) (p := fun q s e => ?_) (t := ?_))) | (refine zY.in_ [17] rfl ?_; refine zY.ofT rfl (zF.hd (i := []) (f := rest_h H _ hR hb (by assumption)) (r := fun x s e g hk => ?_) (p := fun q s e => ?_) (t := ?_)))) | (refine zZ.is ?_; first | refine zZ.seq ?_ | (refine zZ.isR (id := 0) ?_; refine zZ.rc [0, 1, 2, 3] [1000, 1001, 1002] (r := (.v zK .e)) (h := ?_)) | (refine zZ.isR (id := 1) ?_; refine zZ.rc [0, 1, 2, 3, 8] [1000, 1001, 1002] (r := (.v xJ (.v zV (.v zV (.v zV (.v xJ (.v zV (.v zV .e)))))))) (h := ?_)) | refine zZ.ret ?_))
  all_goals (first | exact fun e => hns (by clear hns; simp only [saveP, run_bind, zC, zJ, Held.zW, Held.zA, Held.zQ, cond_true, cond_false, *]) | exact .pan (q := q) rfl (by repeat' first | exact trivial | rfl | constructor) (by repeat' exact trivial) (by simp only [saveP, run_bind, zC, zJ, Held.zW, Held.zA, Held.zQ, cond_true, cond_false, *]) | exact .ret (by exact .inl rfl) (by exact .one rfl rfl) (by repeat' first | exact trivial | rfl | constructor) (by simp only [saveP, run_bind, zC, zJ, Held.zW, Held.zA, Held.zQ, cond_true, cond_false, *]))
end Go.Proofs.YtmfbamiciieooaaGreatDoor
/- A struct's literal that holds closures, in a new variable. Generic over the program. -/
namespace Go.Proofs.YtmfbamiciieooaaGreatDoor
set_option maxRecDepth 100000
set_option maxHeartbeats 16000000
open Go Go.RowKit
set_option linter.unusedSimpArgs false
set_option linter.unusedVariables false
section
variable {P : Program} {n : Nat} {ops : Array Oper} {S : AS} {K : Exit → AS → Prop}
/-- a struct's literal of which parts are closures, or pointers, in a new variable -/
theorem zY.buildBx {o1 o2 : Oper} {rest : List Oper} {d1 d2 t : Nat} {ps : Array (Nat × Operand)} {pl : List (Nat × Nat)} {z : Value} {zs : List AV} [hb : BuildA P t pl] [hz : ZeroA P t z]
    (h1 : o1.op = .build t ps) (g1 : o1.guard = none) (e1 : o1.dst = some d1)
    (h2 : o2.op = .box t (.tmp d1)) (g2 : o2.guard = none) (e2 : o2.dst = some d2)
    (hn1 : d1 < n) (hn2 : d2 < n) (hz1 : z.cells.toList.all (fun u => u.oneCell') = true)
    (hk : ps.toList.all (fun p => (S.get p.2).vU) = true)
    (hf : fillA (fun i => pl[i]?) (z.cells.toList.map fun u => .p (.val u)) (ps.toList.map fun p => (p.1, S.get p.2)) = some zs) (hl : zs.length = z.cells.toList.length)
    (hr : zY P n ops rest (((S.put d1 .any).create d2 (.box t zs)).put d2 (.ptr d2 0)) K) : zY P n ops (o1 :: o2 :: rest) S K := by
  intro M w0 ρ a w Q hs hK
  have parts : ∀ p ∈ ps.toList, yA (Mut M S ρ) ρ w (S.get p.2).xH (a.eval p.2).cells.toList := fun p hp => repA_cells (hs.rep p.2) (List.all_eq_true.1 hk p hp)
  obtain ⟨us, hu1, hu2⟩ := fill_rep (fun i => pl[i]?) S.get a.eval ps.toList _ zs z.cells.toList parts hf (zerosA fun u hu => List.all_eq_true.1 hz1 u hu)
  have hr1 : (execOp a.eval o1).run P w = .ok (.value (.agg us.toArray)) w := by
    unfold execOp
    rw [h1]
    have e : (ps.map fun (i, x) => (i, a.eval x)) = (ps.toList.map fun p => (p.1, a.eval p.2)).toArray := by apply Array.ext'; simp
    simp only [e, Sem.run_bind, run_build (P := P) (t := t) (pl := pl) (z := z) _ w _ hu1]
    rfl
  unfold wpList
  rw [if_pos (by simp [Region.wanted, g1])]
  refine .inl ?_
  unfold Oper.wp
  rw [hr1]
  show wpList P ops Q (o2 :: rest) (a.put o1.dst (.agg us.toArray)) w
  rw [e1]
  have hs1 : Sat M n w0 (S.put d1 .any) ρ (a.put (some d1) (.agg us.toArray)) w := hs.put hn1 (.any _)
  generalize hsS1 : S.put d1 .any = S1 at hs1 hr
  have t1 : (a.put (some d1) (.agg us.toArray)).eval (.tmp d1) = .agg us.toArray := by
    have : d1 < a.tmps.size := by rw [hs.size]; exact hn1
    simp [Act.eval, Act.put, Array.getD_eq_getD_getElem?, Array.getElem?_setIfInBounds, this]
  generalize ha1 : a.put (some d1) (.agg us.toArray) = a1 at hs1 t1
  have hMut : Mut M S1 ρ = Mut M S ρ := by subst hsS1; rfl
  have hr2 : (execOp a1.eval o2).run P w = .ok (.value (.pointer (some ⟨w.heap.size, 0, none⟩))) (w.alloc (.cells us.toArray t)) := by
    unfold execOp
    rw [h2]
    simp [Instr.box, newVar, newRow, t1, Value.cells]
  unfold wpList
  rw [if_pos (by simp [Region.wanted, g2])]
  refine .inl ?_
  unfold Oper.wp
  rw [hr2]
  show wpList P ops Q rest (a1.put o2.dst (.pointer (some ⟨w.heap.size, 0, none⟩))) (w.alloc (.cells us.toArray t))
  rw [e2]
  generalize hw1 : w.alloc (.cells us.toArray t) = w1
  have hh1 : w1.heap[w.heap.size]? = some (.cells us.toArray t (0, 0)) := by rw [← hw1]; exact heap_alloc_new w _
  have hg1 : w.grownBy w1 none := by rw [← hw1]; exact World.grownBy_alloc w _ none
  have hs2 := hs1.change d2 (.box t zs) (.pointer (some ⟨w.heap.size, 0, none⟩)) none (hs1.free d2 hn2) hg1 (fun k hk => by cases hk) (fun k hk => .inl (by simp only [zU, Option.some.injEq] at hk; omega)) (by
    rw [hMut]
    refine ⟨w.heap.size, us, rfl, Nat.zero_le _, hh1, (hu2.mono fun k c hk h => ?_).keep ⟨hg1.size, fun k c hk _ => World.cell?_of_block (w := w) (hg1.block k hk (fun h => by cases h))⟩⟩
    rcases h with h | ⟨h, _⟩
    · exact h
    · simp only [zU, Option.some.injEq] at h
      omega)
  have hs3 := hs2.put (d := d2) (x := .ptr d2 0) (v := .pointer (some ⟨w.heap.size, 0, none⟩)) hn2 (.ptr d2 0 w.heap.size (by simp [upd, zU]))
  exact hr M w0 _ _ w1 Q hs3 hK
end
end Go.Proofs.YtmfbamiciieooaaGreatDoor
/- A region that draws its order, walked in each order that may be. Generic over the program. -/
namespace Go.Proofs.YtmfbamiciieooaaGreatDoor
set_option maxRecDepth 100000
set_option maxHeartbeats 16000000
open Go Go.RowKit
/-- what may come next, these being done -/
def readyD (l : List Oper) (done : List Nat) : List Nat := (List.range l.length).filter fun i => !done.contains i && (match l[i]? with
  | some o => o.after.toList.all fun e => !Region.binds .any e || done.contains e.on
  | none => false)
theorem vN {l : List Oper} {listed : Array Bool} {done : List Nat} (hs : listed.size = l.length) (h : ∀ i, listed.getD i false = done.contains i) (i : Nat) : i ∈ Region.ready .any l.toArray listed ↔ i ∈ readyD l done := by
  unfold Region.ready readyD
  simp only [List.size_toArray, List.mem_filter, List.mem_range]
  refine ⟨fun ⟨h1, h2⟩ => ⟨h1, ?_⟩, fun ⟨h1, h2⟩ => ⟨h1, ?_⟩⟩
  · have e1 : listed.getD i true = listed.getD i false := by simp [Array.getD_eq_getD_getElem?, hs, h1]
    simp only [List.getElem?_toArray, List.getElem?_eq_getElem h1, Option.map_some, Option.getD_some, Bool.and_eq_true, Bool.not_eq_true', List.all_eq_true] at h2 ⊢
    refine ⟨?_, fun e he => ?_⟩
    · rw [← h i, ← e1]; exact h2.1
    · have := Array.all_eq_true'.1 h2.2 e (by simpa using he)
      rw [← h e.on]
      exact this
  · have e1 : listed.getD i true = listed.getD i false := by simp [Array.getD_eq_getD_getElem?, hs, h1]
    simp only [List.getElem?_toArray, List.getElem?_eq_getElem h1, Option.map_some, Option.getD_some, Bool.and_eq_true, Bool.not_eq_true', List.all_eq_true] at h2 ⊢
    refine ⟨?_, Array.all_eq_true'.2 fun e he => ?_⟩
    · rw [e1, h i]; exact h2.1
    · have := h2.2 e (by simpa using he)
      rw [← h e.on] at this
      exact this
def qE (P : Program) (n : Nat) (l : List Oper) (K : Exit → AS → Prop) : Nat → List Nat → AS → Prop
  | 0, done, S => readyD l done = [] ∧ K .normal S
  | m + 1, done, S => readyD l done ≠ [] ∧ ∀ i ∈ readyD l done, ∃ o, l[i]? = some o ∧ o.guard = none ∧ zF P n o S K fun S1 => qE P n l K m (i :: done) S1
def DOne (P : Program) (n : Nat) (l : List Oper) (K : Exit → AS → Prop) (m : Nat) (done : List Nat) (S : AS) (i : Nat) : Prop :=
  ∃ o, l[i]? = some o ∧ o.guard = none ∧ zF P n o S K fun S1 => qE P n l K m (i :: done) S1
def zI (p : Nat → Prop) : List Nat → Prop
  | [] => True
  | i :: r => p i ∧ zI p r
theorem zI.all {p : Nat → Prop} : ∀ {rs : List Nat}, zI p rs → ∀ i ∈ rs, p i
  | [], _, i, hi => by simp at hi
  | j :: r, h, i, hi => by
    rcases List.mem_cons.1 hi with rfl | hi
    · exact h.1
    · exact zI.all h.2 i hi
theorem zI.nil {p : Nat → Prop} : zI p [] := trivial
theorem zI.cons {p : Nat → Prop} {i : Nat} {r : List Nat} (h : p i) (hr : zI p r) : zI p (i :: r) := ⟨h, hr⟩
section
variable {P : Program} {n : Nat} {l : List Oper} {K : Exit → AS → Prop} {fu : Nat} {done : List Nat} {S S1 : AS} {i d : Nat} {o : Oper}
theorem qE.fin (hr : readyD l done = []) (h : K .normal S) : qE P n l K 0 done S := ⟨hr, h⟩
theorem qE.many (hr : (readyD l done).isEmpty = false) (h : zI (DOne P n l K fu done S) (readyD l done)) : qE P n l K (fu + 1) done S :=
  ⟨(fun e => by rw [e] at hr; cases hr), h.all⟩
theorem DOne.v {bs : List Nat} {av : AV} (ho : l[i]? = some o) (hg : o.guard = none) (hd : o.dst = some d) (h : zX P n o S bs av none) (hr : qE P n l K fu (i :: done) (S.put d av)) : DOne P n l K fu done S i :=
  ⟨o, ho, hg, Step.t h.step (by rw [hd]; exact hr)⟩
theorem DOne.w (ho : l[i]? = some o) (hg : o.guard = none) (h : Step P n o S S1) (hr : qE P n l K fu (i :: done) S1) : DOne P n l K fu done S i := ⟨o, ho, hg, h.t hr⟩
theorem zZ.drawAll {id : Nat} (hm : P.follows .mixedOrders = true) (h : qE P n l K l.length [] S) : zZ P n (.region id l.toArray true) S K := by
  intro M w0 ρ a w Q hs hK
  have main : ∀ (m : Nat) (listed : Array Bool) (done : List Nat) (S : AS) (ρ : Nat → Value) (a : Act) (w : World), listed.size = l.length → (∀ i, listed.getD i false = done.contains i) → qE P n l K m done S → Sat M n w0 S ρ a w → wpAny P .any l.toArray Q m listed a w := by
    intro m
    induction m with
    | zero =>
      intro listed done S ρ a w hz hl hd hs
      refine ⟨List.eq_nil_iff_forall_not_mem.2 fun i hi => ?_, hK .normal S ρ a w hd.2 hs trivial⟩
      have := (vN hz hl i).1 hi
      rw [hd.1] at this
      simp at this
    | succ m ih =>
      intro listed done S ρ a w hz hl hd hs
      refine ⟨fun hnil => ?_, fun i hi => ?_⟩
      · obtain ⟨j, hj⟩ := List.exists_mem_of_ne_nil _ hd.1
        have := (vN hz hl j).2 hj
        rw [hnil] at this
        simp at this
      · obtain ⟨hil, _, _⟩ := xZ hi
        obtain ⟨o, ho, hg, ht⟩ := hd.2 i ((vN hz hl i).1 hi)
        unfold wpOp
        simp only [List.getElem?_toArray, ho]
        rw [if_pos (by simp [Region.wanted, hg])]
        refine .inl (ht M w0 ρ a w _ Q hs (fun S1 ρ' a' w' hd1 hs' => ?_) hK)
        refine ih _ _ S1 ρ' a' w' (by simp [hz]) (fun k => ?_) hd1 hs'
        simp only [Array.getD_eq_getD_getElem?, Array.getElem?_setIfInBounds, List.contains_cons]
        by_cases hik : i = k
        · subst hik
          simp [hz, hil]
        · have : (k == i) = false := by simpa using fun e => hik e.symm
          rw [if_neg hik, this, Bool.false_or, ← hl k, Array.getD_eq_getD_getElem?]
  refine wp_region_any hm ?_
  exact main _ _ [] S ρ a _ (by simp) (fun i => by rw [getD_replicate_false]; rfl) (by simpa using h) (hs.ext ((Below.refl _ _).drew))
end
attribute [irreducible] qE DOne
end Go.Proofs.YtmfbamiciieooaaGreatDoor
/- A region that draws its order, walked in each order that may be; what reads and writes registers alone comes first. Generic over the program. -/
namespace Go.Proofs.YtmfbamiciieooaaGreatDoor
set_option maxRecDepth 100000
set_option maxHeartbeats 16000000
open Go Go.RowKit
set_option linter.unusedSimpArgs false
set_option linter.unusedVariables false
/-- what is said where it panics is not of the slots -/
class PanK (K : Exit → AS → Prop) : Prop where
  h : ∀ S, K (.panic []) S → K (.panic []) { S with t := [] }
instance {next : AS → Prop} {K : Exit → AS → Prop} [h : PanK K] : PanK (zB next K) := ⟨fun S hk => h.h S hk⟩
instance {id : Nat} {K : Exit → AS → Prop} [h : PanK K] : PanK (zP id K) := ⟨fun S hk => h.h S hk⟩
instance {P : Program} {fn : Func} {ev : EV} {B : List Blk} : PanK (EndE P fn ev B) := ⟨fun S hk => by
  cases ev with
  | ret x => rcases hk.1 with h | h <;> cases h
  | pan x => exact hk⟩
instance {G : AS → Prop} : PanK (fun e S => (e = .ret ∨ e = .normal) ∧ G S) := ⟨fun S hk => by rcases hk.1 with h | h <;> cases h⟩
theorem Sat.bareT {M : Nat → Nat → Prop} {n : Nat} {w0 : Home} {S : AS} {ρ : Nat → Value} {a : Act} {d : Option Nat} {v : Value} {w : World} (h : Sat M n w0 S ρ (a.put d v) w) : Sat M n w0 { S with t := [] } ρ a w where
  below := h.below
  out := h.out
  tab := h.tab
  size := by
    have := h.size
    cases d <;> simpa [Act.put] using this
  defers := by
    have := h.defers
    cases d <;> simpa [Act.put] using this
  tmps := fun i => .any _
  blks := h.blks
  mine := h.mine
  fix := h.fix
  free := h.free
  dist := h.dist
/-- the ways out -/
def QK (M : Nat → Nat → Prop) (n : Nat) (w0 : Home) (K : Exit → AS → Prop) (e : Exit) (a : Act) (w : World) : Prop := ∃ S ρ, K (bare e) S ∧ Sat M n w0 S ρ a w ∧ ExOK M S ρ w e
/-- these are done; the others in each order that may be -/
def DGo (P : Program) (n : Nat) (l : List Oper) (K : Exit → AS → Prop) (fu : Nat) (done : List Nat) (S : AS) : Prop :=
  ∀ (M : Nat → Nat → Prop) (w0 : Home) (ρ : Nat → Value) (a : Act) (w : World) (listed : Array Bool), listed.size = l.length → (∀ i, listed.getD i false = done.contains i) → Sat M n w0 S ρ a w → wpAny P .any l.toArray (QK M n w0 K) fu listed a w
/-- this one is next -/
def zM (P : Program) (n : Nat) (l : List Oper) (K : Exit → AS → Prop) (fu : Nat) (done : List Nat) (S : AS) (i : Nat) : Prop :=
  ∀ (M : Nat → Nat → Prop) (w0 : Home) (ρ : Nat → Value) (a : Act) (w : World) (listed : Array Bool), listed.size = l.length → i < l.length → (∀ i, listed.getD i false = done.contains i) → Sat M n w0 S ρ a w →
    wpOp P l.toArray (QK M n w0 K) i (wpAny P .any l.toArray (QK M n w0 K) fu (listed.setIfInBounds i true)) a w
/-- the operation's value hangs on its operands alone -/
def FStep (P : Program) (n : Nat) (o : Oper) (S : AS) (av : AV) : Prop :=
  ∀ (M : Nat → Nat → Prop) (w0 : Home) (ρ : Nat → Value) (a : Act) (w : World), Sat M n w0 S ρ a w → ∃ v, (∀ w', (execOp a.eval o).run P w' = .ok (.value v) w') ∧ yY (Mut M S ρ) ρ w av v
def noSel (l : List Oper) : Bool := l.all fun o => match o.op with
  | .select _ _ => false
  | _ => true
/-- what is left hangs on it, or keeps apart from it -/
def freeB (l : List Oper) (done : List Nat) (i : Nat) : Bool := match l[i]? with
  | some o => noSel l && !done.contains i && o.guard.isNone && (o.after.toList.all fun e => !Region.binds .any e || done.contains e.on) && ((List.range l.length).all fun j => j == i || done.contains j || (match l[j]? with
    | some q => q.after.toList.any (fun e => Region.binds .any e && e.on == i) || o.apart l.toArray q
    | none => true))
  | none => false
theorem listed_step {l : List Oper} {listed : Array Bool} {done : List Nat} {i : Nat} (hz : listed.size = l.length) (hil : i < l.length) (hl : ∀ i, listed.getD i false = done.contains i) (k : Nat) : (listed.setIfInBounds i true).getD k false = (i :: done).contains k := by
  simp only [Array.getD_eq_getD_getElem?, Array.getElem?_setIfInBounds, List.contains_cons]
  by_cases hik : i = k
  · subst hik
    simp [hz, hil]
  · have : (k == i) = false := by simpa using fun e => hik e.symm
    rw [if_neg hik, this, Bool.false_or, ← hl k, Array.getD_eq_getD_getElem?]
section
variable {P : Program} {n : Nat} {l : List Oper} {K : Exit → AS → Prop} {fu : Nat} {done : List Nat} {S S1 : AS} {i d : Nat} {o : Oper}
theorem DGo.at_ (k : List Nat) (h : DGo P n l K fu k S) : DGo P n l K fu k S := h
theorem DGo.fin (hr : (readyD l done).isEmpty = true) (h : K .normal S) : DGo P n l K fu done S := by
  intro M w0 ρ a w listed hz hl hs
  have hq : QK M n w0 K .normal a w := ⟨S, ρ, h, hs, trivial⟩
  have hno : ∀ j, j ∉ Region.ready .any l.toArray listed := fun j hj => by
    have := (vN hz hl j).1 hj
    rw [List.isEmpty_iff.1 hr] at this
    simp at this
  cases fu with
  | zero => exact ⟨List.eq_nil_iff_forall_not_mem.2 hno, hq⟩
  | succ fu => exact ⟨fun _ => hq, fun j hj => absurd hj (hno j)⟩
theorem DGo.all (is : List Nat) (hr : (readyD l done == is && !is.isEmpty) = true) (h : zI (zM P n l K fu done S) is) : DGo P n l K (fu + 1) done S := by
  rw [Bool.and_eq_true, beq_iff_eq] at hr
  obtain ⟨rfl, hne⟩ := hr
  intro M w0 ρ a w listed hz hl hs
  refine ⟨fun hnil => ?_, fun j hj => ?_⟩
  · cases hd : readyD l done with
    | nil => rw [hd] at hne; cases hne
    | cons j r =>
      have := (vN hz hl j).2 (by rw [hd]; simp)
      rw [hnil] at this
      simp at this
  · have hj' := (vN hz hl j).1 hj
    exact h.all j hj' M w0 ρ a w listed hz (xZ hj).1 hl hs
theorem DGo.free [hp : PanK K] (i : Nat) {av : AV} (hf : freeB l done i = true) (ho : l[i]? = some o) (hd : o.dst = some d) (hn : d < n) (h : FStep P n o S av) (hr : DGo P n l K fu (i :: done) (S.put d av)) : DGo P n l K (fu + 1) done S := by
  intro M w0 ρ a w listed hz hl hs
  unfold freeB at hf
  rw [ho] at hf
  simp only [Bool.and_eq_true, Bool.not_eq_true', List.all_eq_true, List.mem_range, Bool.or_eq_true, beq_iff_eq] at hf
  obtain ⟨⟨⟨⟨hsel, hnd⟩, hg⟩, hrd⟩, hap⟩ := hf
  have hil : i < l.length := (List.getElem?_eq_some_iff.1 ho).1
  obtain ⟨v, hv, hrep⟩ := h M w0 ρ a w hs
  have hg' : o.guard = none := by simpa using hg
  have key := wpAny_first (P := P) (md := .any) (ops := l.toArray) (Q := QK M n w0 K) (i := i) (oi := o) (v := v) (by simpa using ho) (fun j q cs b hj e => by
      have hq : q ∈ l := List.mem_of_getElem? (by simpa using hj)
      have := List.all_eq_true.1 hsel q hq
      rw [e] at this
      cases this)
    (fun c a' w' ⟨S', ρ', h1, h2, h3⟩ => ⟨{ S' with t := [] }, ρ', hp.h S' h1, h2.bareT, by
      obtain ⟨u, hu, hx⟩ := h3
      exact ⟨u, hu, hx⟩⟩) fu listed a w
  refine key (fun j q hj hji hlj hno => ?_) ?_ (.inl ⟨by simp [Region.wanted, hg'], hv⟩) ?_
  · have hjl : j < l.length := by
      have := (Array.getElem?_eq_some_iff.1 hj).1
      simpa using this
    have hj' : l[j]? = some q := by simpa using hj
    rcases hap j hjl with (h1 | h1) | h1
    · exact absurd h1 hji
    · rw [← hl j] at h1
      have : listed.getD j true = true := by
        have hlt : j < listed.size := by rw [hz]; exact hjl
        simp only [Array.getD_eq_getD_getElem?, Array.getElem?_eq_getElem hlt, Option.getD_some] at h1 ⊢
        exact h1
      rw [this] at hlj
      cases hlj
    · rw [hj'] at h1
      simp only [Bool.or_eq_true, List.any_eq_true, Bool.and_eq_true, beq_iff_eq] at h1
      rcases h1 with ⟨e, he, hb, hon⟩ | h1
      · exact absurd hon (hno e (by simpa using he) hb)
      · exact h1
  · refine (vN hz hl i).2 ?_
    unfold readyD
    simp only [List.mem_filter, List.mem_range, ho, Bool.and_eq_true, Bool.not_eq_true', List.all_eq_true]
    exact ⟨hil, hnd, fun e he => by simpa using hrd e he⟩
  · refine hr M w0 ρ _ w _ (by simp [hz]) (listed_step hz hil hl) ?_
    rw [hd]
    exact hs.put hn hrep
theorem zM.at_ (i : Nat) (h : zM P n l K fu done S i) : zM P n l K fu done S i := h
theorem zM.ofT (ho : l[i]? = some o) (hg : o.guard = none) (h : zF P n o S K fun S1 => DGo P n l K fu (i :: done) S1) : zM P n l K fu done S i := by
  intro M w0 ρ a w listed hz hil hl hs
  unfold wpOp
  simp only [List.getElem?_toArray, ho]
  rw [if_pos (by simp [Region.wanted, hg])]
  exact .inl (h M w0 ρ a w _ _ hs (fun S1 ρ' a' w' hd1 hs' => hd1 M w0 ρ' a' w' _ (by simp [hz]) (listed_step hz hil hl) hs') fun e S' ρ' a' w' h1 h2 h3 => ⟨S', ρ', h1, h2, h3⟩)
theorem zM.ofTg {j t : Nat} {want b : Bool} (ho : l[i]? = some o) (hg : o.guard = some (j, want)) (ht : wZ l j = some t) (htn : t < n) (hb : S.tmp t = .p (.val (.bool b))) (hbw : b = want) (h : zF P n o S K fun S1 => DGo P n l K fu (i :: done) S1) : zM P n l K fu done S i := by
  intro M w0 ρ a w listed hz hil hl hs
  have hw := hs.wanted (ops := l.toArray) hg (by simpa [wZ] using ht) htn hb
  unfold wpOp
  simp only [List.getElem?_toArray, ho]
  rw [if_pos (by rw [hw]; simp [wantB, hbw])]
  exact .inl (h M w0 ρ a w _ _ hs (fun S1 ρ' a' w' hd1 hs' => hd1 M w0 ρ' a' w' _ (by simp [hz]) (listed_step hz hil hl) hs') fun e S' ρ' a' w' h1 h2 h3 => ⟨S', ρ', h1, h2, h3⟩)
theorem zM.v {bs : List Nat} {av : AV} (ho : l[i]? = some o) (hg : o.guard = none) (hd : o.dst = some d) (h : zX P n o S bs av none) (hr : DGo P n l K fu (i :: done) (S.put d av)) : zM P n l K fu done S i := .ofT ho hg (Step.t h.step (by rw [hd]; exact hr))
theorem zM.w (ho : l[i]? = some o) (hg : o.guard = none) (h : Step P n o S S1) (hr : DGo P n l K fu (i :: done) S1) : zM P n l K fu done S i := .ofT ho hg (h.t hr)
theorem zM.gv {j t : Nat} {want b : Bool} {bs : List Nat} {av : AV} (ho : l[i]? = some o) (hg : o.guard = some (j, want)) (ht : wZ l j = some t) (htn : t < n) (hb : S.tmp t = .p (.val (.bool b))) (hbw : b = want) (hd : o.dst = some d) (h : zX P n o S bs av none) (hr : DGo P n l K fu (i :: done) (S.put d av)) : zM P n l K fu done S i :=
  .ofTg ho hg ht htn hb hbw (Step.t h.step (by rw [hd]; exact hr))
theorem zZ.drawGo {id : Nat} (hm : P.follows .mixedOrders = true) (h : DGo P n l K l.length [] S) : zZ P n (.region id l.toArray true) S K := by
  intro M w0 ρ a w Q hs hK
  refine Code.wp_mono (Q := QK M n w0 K) (fun e a w ⟨S', ρ', h1, h2, h3⟩ => hK e S' ρ' a w h1 h2 h3) (wp_region_any hm ?_)
  have := h M w0 ρ a { w with drawn := w.drawn + 1 } (Array.replicate l.length false) (by simp) (fun i => by rw [getD_replicate_false]; rfl) (hs.ext ((Below.refl _ _).drew))
  simpa using this
/-! ### Values of registers -/
theorem f_mv {x : Operand} {av : AV} (ho : o.op = .move x ∨ o.op = .assign x) (hx : S.get x = av) : FStep P n o S av := fun M w0 ρ a w hs => ⟨a.eval x, fun w' => by unfold execOp; rcases ho with ho | ho <;> rw [ho] <;> rfl, hx ▸ hs.rep x⟩
theorem f_mvP {x : Operand} {v : PV} (ho : o.op = .move x) (hx : S.get x = .p v) : FStep P n o S (.p v) := f_mv (.inl ho) hx
theorem f_mvR {x : Operand} {i k : Nat} (ho : o.op = .move x) (hx : S.get x = .ptr i k) : FStep P n o S (.ptr i k) := f_mv (.inl ho) hx
theorem f_mvT {x : Operand} {l : List AV} (ho : o.op = .move x) (hx : S.get x = .tup l) : FStep P n o S (.tup l) := f_mv (.inl ho) hx
theorem f_mvC {x : Operand} {i : Nat} {l : List Nat} (ho : o.op = .move x) (hx : S.get x = .clo i l) : FStep P n o S (.clo i l) := f_mv (.inl ho) hx
theorem f_mvS {x : Operand} {l : List PV} (ho : o.op = .move x) (hx : S.get x = .pt l) : FStep P n o S (.pt l) := f_mv (.inl ho) hx
theorem f_asP {x : Operand} {v : PV} (ho : o.op = .assign x) (hx : S.get x = .p v) : FStep P n o S (.p v) := f_mv (.inr ho) hx
theorem f_asR {x : Operand} {i k : Nat} (ho : o.op = .assign x) (hx : S.get x = .ptr i k) : FStep P n o S (.ptr i k) := f_mv (.inr ho) hx
theorem f_asC {x : Operand} {i : Nat} {l : List Nat} (ho : o.op = .assign x) (hx : S.get x = .clo i l) : FStep P n o S (.clo i l) := f_mv (.inr ho) hx
theorem f_nilR {x : Operand} {id off : Nat} (ho : o.op = .nilCheck x) (hx : S.get x = .ptr id off) : FStep P n o S (.ptr id off) := fun M w0 ρ a w hs => by
  have h1 := hs.rep x
  rw [hx] at h1
  have h2 := h1
  obtain ⟨g, hgv, hv⟩ := wU h1
  refine ⟨a.eval x, fun w' => ?_, h2⟩
  unfold execOp
  rw [ho]
  simp only [hv]
  rfl
theorem f_fieldR {x : Operand} {s f k id off : Nat} [h : FieldA P s f k] (ho : o.op = .fieldAddr s x f) (hx : S.get x = .ptr id off) : FStep P n o S (.ptr id (off + k)) := fun M w0 ρ a w hs => by
  have h1 := hs.rep x
  rw [hx] at h1
  obtain ⟨g, hgv, hv⟩ := wU h1
  refine ⟨.pointer (some ⟨g, off + k, none⟩), fun w' => ?_, .ptr id (off + k) g hgv⟩
  unfold execOp
  rw [ho]
  simp only [hv, Sem.run_bind, h.h]
  rfl
theorem f_extract {x : Operand} {avs : List AV} {ix : Nat} {v : PV} (ho : o.op = .extract x ix) (hx : S.get x = .tup avs) (hi : avs[ix]? = some (.p v)) : FStep P n o S (.p v) := fun M w0 ρ a w hs => by
  have h1 := hs.rep x
  rw [hx] at h1
  generalize hev : a.eval x = ev at h1
  cases h1 with
  | tup _ vs hl h =>
    have hlt : ix < vs.length := by rw [hl]; exact (List.getElem?_eq_some_iff.1 hi).1
    refine ⟨vs[ix], fun w' => ?_, h ix _ _ hi (List.getElem?_eq_getElem hlt)⟩
    unfold execOp
    rw [ho]
    simp [hev, Instr.extract, hlt]
/-- one of these, found by itself -/
theorem DGo.fr [hp : PanK K] (i : Nat) {av : AV} (hr : DGo P n l K fu (i :: done) (S.put d av)) (ho : l[i]? = some o := by rfl) (hd : o.dst = some d := by rfl) (hn : d < n := by decide) (hf : freeB l done i = true := by kernel_rfl)
    (h : FStep P n o S av := by first | exact f_mvR rfl rfl | exact f_mvP rfl rfl | exact f_fieldR rfl rfl | exact f_nilR rfl rfl | exact f_extract rfl rfl rfl | exact f_asP rfl rfl | exact f_mvT rfl rfl | exact f_mvC rfl rfl | exact f_mvS rfl rfl | exact f_asR rfl rfl | exact f_asC rfl rfl) : DGo P n l K (fu + 1) done S := DGo.free i hf ho hd hn h hr
end
attribute [irreducible] DGo zM FStep
end Go.Proofs.YtmfbamiciieooaaGreatDoor
/- A scope whose code jumps back to its label. Generic over the program. -/
namespace Go.Proofs.YtmfbamiciieooaaGreatDoor
set_option maxRecDepth 100000
set_option maxHeartbeats 16000000
open Go Go.RowKit
/-- by a goto to label l: J; by any other goto: no way out -/
def xA (l : Nat) (J : AS → Prop) (K : Exit → AS → Prop) : Exit → AS → Prop
  | .goto l', S => l' = l ∧ J S
  | e, S => K e S
theorem xA.n {S : AS} {l : Nat} {J : AS → Prop} {K : Exit → AS → Prop} (h : K .normal S) : xA l J K .normal S := h
theorem xA.r {S : AS} {l : Nat} {J : AS → Prop} {K : Exit → AS → Prop} (h : K .ret S) : xA l J K .ret S := h
theorem xA.p {S : AS} {l : Nat} {J : AS → Prop} {K : Exit → AS → Prop} {c} (h : K (.panic c) S) : xA l J K (.panic c) S := h
theorem xA.g {S : AS} {l : Nat} {J : AS → Prop} {K : Exit → AS → Prop} (h : J S) : xA l J K (.goto l) S := ⟨rfl, h⟩
section
variable {P : Program} {n : Nat} {S : AS}
/-- the label stands at the scope's beginning -/
theorem zZ.scopeL {rest : Code} {K : Exit → AS → Prop} {ι : Type} (l : Nat) (inv : ι → AS) (ok : ι → Prop) (μ : ι → Nat) (i0 : ι) (h0 : Sub S (inv i0)) (hi0 : ok i0)
    (round : ∀ i, ok i → zZ P n rest (inv i) (xA l (fun S' => ∃ j, Sub S' (inv j) ∧ ok j ∧ μ j < μ i) K)) : zZ P n (.scope (.seq (.label l) rest)) S K := by
  intro M w0 ρ a w Q hs hK
  obtain ⟨ρ0, hs0⟩ := h0 M n w0 ρ a w hs
  intro b k cs
  have hg : gotoIn l (.inScope (.seq (.label l) rest) :: k) = some (.code (.seq .skip rest) :: .inScope (.seq (.label l) rest) :: k) := by simp [gotoIn, findLabel]
  have key : ∀ (m : Nat) (i : ι) (ρ : Nat → Value) (a : Act) (w : World), μ i = m → ok i → Sat M n w0 (inv i) ρ a w →
      ∃ e a' w', Q e a' w' ∧ Arrives P (lone (b.at a (.code rest :: .inScope (.seq (.label l) rest) :: k)) cs w) b k cs e a' w' := by
    intro m
    induction m using Nat.strongRecOn with
    | _ m ih =>
      intro i ρ a w hm hi hsi
      have hr := round i hi M w0 ρ a w (fun e a' w' => match e with
          | .goto l' => l' = l ∧ ∃ j ρ', ok j ∧ μ j < μ i ∧ Sat M n w0 (inv j) ρ' a' w'
          | e => Q e a' w') hsi (fun e S' ρ' a' w' hk hs' hx => by
        cases e with
        | goto l' =>
          obtain ⟨h1, j, hsub, hj, hlt⟩ := hk
          obtain ⟨ρ'', hs''⟩ := hsub M n w0 ρ' a' w' hs'
          exact ⟨h1, j, ρ'', hj, hlt, hs''⟩
        | normal => exact hK .normal S' ρ' a' w' hk hs' hx
        | exit id => exact hK (.exit id) S' ρ' a' w' hk hs' hx
        | ret => exact hK .ret S' ρ' a' w' hk hs' hx
        | panic c => exact hK (.panic c) S' ρ' a' w' hk hs' hx
        | outgrown => exact hK .outgrown S' ρ' a' w' hk hs' hx)
      obtain ⟨e, a₁, w₁, hq, harr⟩ := hr b (.inScope (.seq (.label l) rest) :: k) cs
      cases e with
      | normal => exact ⟨.normal, a₁, w₁, hq, Steps.trans harr (.one step_inScope)⟩
      | exit id => exact ⟨.exit id, a₁, w₁, hq, fun k' hk => harr k' (by simp [exitTo, hk])⟩
      | goto l' =>
        obtain ⟨rfl, j, ρ', hj, hlt, hs'⟩ := hq
        obtain ⟨e₂, a₂, w₂, hq₂, harr₂⟩ := ih (μ j) (by omega) j ρ' a₁ w₁ rfl hj hs'
        exact ⟨e₂, a₂, w₂, hq₂, .of_steps (Steps.trans (harr _ hg) (.head step_seq (.one step_skip))) harr₂⟩
      | ret => exact ⟨_, a₁, w₁, hq, harr⟩
      | panic ch => exact ⟨_, a₁, w₁, hq, harr⟩
      | outgrown => exact ⟨_, a₁, w₁, hq, harr⟩
  obtain ⟨e, a', w', hq, harr⟩ := key _ i0 ρ0 a w rfl hi0 hs0
  exact ⟨e, a', w', hq, .of_steps (.head step_scope (.head step_seq (.one step_label))) harr⟩
theorem xA.weak {l : Nat} {J J' : AS → Prop} {K : Exit → AS → Prop} {e : Exit} {S : AS} (h : xA l J K e S) (hJ : ∀ S, J S → J' S) : xA l J' K e S := by
  cases e with
  | goto l' => exact ⟨h.1, hJ _ h.2⟩
  | _ => exact h
/-- the label stands anywhere along the scope's code -/
theorem zZ.scopeG {body rest : Code} {K : Exit → AS → Prop} {ι : Type} (l : Nat) (inv : ι → AS) (ok : ι → Prop) (μ : ι → Nat) (hf : findLabel body l = some (.seq .skip rest))
    (round : ∀ i, ok i → zZ P n rest (inv i) (xA l (fun S' => ∃ j, Sub S' (inv j) ∧ ok j ∧ μ j < μ i) K))
    (first : (∀ i, ok i → zZ P n rest (inv i) (xA l (fun S' => ∃ j, Sub S' (inv j) ∧ ok j) K)) → zZ P n body S (xA l (fun S' => ∃ j, Sub S' (inv j) ∧ ok j) K)) : zZ P n (.scope body) S K := by
  intro M w0 ρ a w Q hs hK
  intro b k cs
  have hg : gotoIn l (.inScope body :: k) = some (.code (.seq .skip rest) :: .inScope body :: k) := by simp [gotoIn, hf]
  have key : ∀ (m : Nat) (i : ι) (ρ : Nat → Value) (a : Act) (w : World), μ i = m → ok i → Sat M n w0 (inv i) ρ a w →
      ∃ e a' w', Q e a' w' ∧ Arrives P (lone (b.at a (.code rest :: .inScope body :: k)) cs w) b k cs e a' w' := by
    intro m
    induction m using Nat.strongRecOn with
    | _ m ih =>
      intro i ρ a w hm hi hsi
      have hr := round i hi M w0 ρ a w (fun e a' w' => match e with
          | .goto l' => l' = l ∧ ∃ j ρ', ok j ∧ μ j < μ i ∧ Sat M n w0 (inv j) ρ' a' w'
          | e => Q e a' w') hsi (fun e S' ρ' a' w' hk hs' hx => by
        cases e with
        | goto l' =>
          obtain ⟨h1, j, hsub, hj, hlt⟩ := hk
          obtain ⟨ρ'', hs''⟩ := hsub M n w0 ρ' a' w' hs'
          exact ⟨h1, j, ρ'', hj, hlt, hs''⟩
        | normal => exact hK .normal S' ρ' a' w' hk hs' hx
        | exit id => exact hK (.exit id) S' ρ' a' w' hk hs' hx
        | ret => exact hK .ret S' ρ' a' w' hk hs' hx
        | panic c => exact hK (.panic c) S' ρ' a' w' hk hs' hx
        | outgrown => exact hK .outgrown S' ρ' a' w' hk hs' hx)
      obtain ⟨e, a₁, w₁, hq, harr⟩ := hr b (.inScope body :: k) cs
      cases e with
      | normal => exact ⟨.normal, a₁, w₁, hq, Steps.trans harr (.one step_inScope)⟩
      | exit id => exact ⟨.exit id, a₁, w₁, hq, fun k' hk => harr k' (by simp [exitTo, hk])⟩
      | goto l' =>
        obtain ⟨rfl, j, ρ', hj, hlt, hs'⟩ := hq
        obtain ⟨e₂, a₂, w₂, hq₂, harr₂⟩ := ih (μ j) (by omega) j ρ' a₁ w₁ rfl hj hs'
        exact ⟨e₂, a₂, w₂, hq₂, .of_steps (Steps.trans (harr _ hg) (.head step_seq (.one step_skip))) harr₂⟩
      | ret => exact ⟨_, a₁, w₁, hq, harr⟩
      | panic ch => exact ⟨_, a₁, w₁, hq, harr⟩
      | outgrown => exact ⟨_, a₁, w₁, hq, harr⟩
  have hb := first (fun i hi => (round i hi).mono fun e S h => h.weak fun S ⟨j, h1, h2, _⟩ => ⟨j, h1, h2⟩)
  have hr := hb M w0 ρ a w (fun e a' w' => match e with
      | .goto l' => l' = l ∧ ∃ j ρ', ok j ∧ Sat M n w0 (inv j) ρ' a' w'
      | e => Q e a' w') hs (fun e S' ρ' a' w' hk hs' hx => by
    cases e with
    | goto l' =>
      obtain ⟨h1, j, hsub, hj⟩ := hk
      obtain ⟨ρ'', hs''⟩ := hsub M n w0 ρ' a' w' hs'
      exact ⟨h1, j, ρ'', hj, hs''⟩
    | normal => exact hK .normal S' ρ' a' w' hk hs' hx
    | exit id => exact hK (.exit id) S' ρ' a' w' hk hs' hx
    | ret => exact hK .ret S' ρ' a' w' hk hs' hx
    | panic c => exact hK (.panic c) S' ρ' a' w' hk hs' hx
    | outgrown => exact hK .outgrown S' ρ' a' w' hk hs' hx)
  obtain ⟨e, a₁, w₁, hq, harr⟩ := hr b (.inScope body :: k) cs
  cases e with
  | normal => exact ⟨.normal, a₁, w₁, hq, .of_steps (.one step_scope) (Steps.trans harr (.one step_inScope))⟩
  | exit id => exact ⟨.exit id, a₁, w₁, hq, .of_steps (.one step_scope) (fun k' hk => harr k' (by simp [exitTo, hk]))⟩
  | goto l' =>
    obtain ⟨rfl, j, ρ', hj, hs'⟩ := hq
    obtain ⟨e₂, a₂, w₂, hq₂, harr₂⟩ := key _ j ρ' a₁ w₁ rfl hj hs'
    exact ⟨e₂, a₂, w₂, hq₂, .of_steps (.head step_scope (Steps.trans (harr _ hg) (.head step_seq (.one step_skip)))) harr₂⟩
  | ret => exact ⟨_, a₁, w₁, hq, .of_steps (.one step_scope) harr⟩
  | panic ch => exact ⟨_, a₁, w₁, hq, .of_steps (.one step_scope) harr⟩
  | outgrown => exact ⟨_, a₁, w₁, hq, .of_steps (b := b) (k := k) (cs := cs) (e := .outgrown) (.one step_scope) harr⟩
end
end Go.Proofs.YtmfbamiciieooaaGreatDoor
/- Where functions that make accesses, or go through a log, panic: what is said then is not of slots; nor by jumps. -/
namespace Go.Proofs.YtmfbamiciieooaaGreatDoor
set_option maxRecDepth 100000
set_option maxHeartbeats 16000000
open Go Go.RowKit
instance {l : Nat} {J : AS → Prop} {K : Exit → AS → Prop} [h : PanK K] : PanK (xA l J K) := ⟨fun S hk => h.h S hk⟩
theorem hasL_bare {S : AS} : ∀ (B : List Blk) (i : Nat), hasL S i B → hasL { S with t := [] } i B
  | [], _, _ => trivial
  | _ :: r, i, h => ⟨h.1, hasL_bare r (i + 1) h.2⟩
theorem fgL_bare {S : AS} : ∀ (B : List Blk) (i : Nat), fgL S i B → fgL { S with t := [] } i B
  | [], _, _ => trivial
  | _ :: r, i, h => ⟨h.1, fgL_bare r (i + 1) h.2⟩
instance {α : Type} {H : Hnd} {fn : Func} {res : α → AV} {bk : List Blk} {bk' : α → List Blk} {m : Held H.σ α} : PanK (EndH H fn res bk bk' m) := ⟨fun S hk => by
  cases hk with
  | pan hx hB hF h => exact .pan hx (hasL_bare _ _ hB) (fgL_bare _ _ hF) h
  | ret he hg hB h => rcases he with h | h <;> cases h⟩
end Go.Proofs.YtmfbamiciieooaaGreatDoor
/- A record is given back; a walk's steps: the program's, whatever makes its accesses: contracts. -/
namespace Go.Proofs.YtmfbamiciieooaaGreatDoor
set_option maxRecDepth 100000
set_option maxHeartbeats 16000000
open Go Go.RowKit
set_option linter.unusedSimpArgs false
set_option linter.unusedVariables false
attribute [local irreducible] zY zZ Step zX Sub zD zF Fn zB zP
theorem limbo_fn (e : Int) (h0 : 0 ≤ e) : Fn Tryz.prog 120 [.val (.int .u64 e)] (.p (.val (.int .i64 (vZ e)))) := by
  have g1 : e.tmod 3 = e % 3 := Int.tmod_eq_emod_of_nonneg h0
  have g2 : IntKind.i64.wrap (e % 3) = e % 3 := wrap_i64 _ (by omega)
  have g3 : IntKind.i64.wrap (4 + e % 3) = vZ e := wrap_i64 _ (by omega)
  refine vY Tryz.func120 rfl Tryz.ntmps120 (Nat.le_of_ble_eq_true rfl) ?_
  repeat' (first | (refine zY.nil ?_) | (refine zZ.is ?_; first | refine zZ.seq ?_ | (refine zZ.isR (id := 0) ?_; refine zZ.rc [0] [] (r := (.v zK .e)) (h := ?_)) | (refine zZ.isR (id := 1) ?_; refine zZ.rc [0, 2] [] (r := (.v zV (.v v34_0 (.v v6_0 (.v wC (.v zK .e)))))) (h := ?_)) | refine zZ.ret ?_) | refine zB.n ?_)
  all_goals exact ⟨.inl rfl, gives1 rfl rfl rfl⟩
def retS (H : Hnd) (t r at_ : Int) (d : Bool) (s : H.σ) : AS :=
  { t := [(0, H.doA), (1, .p (.val (.int .i64 t))), (2, .p (.val (.int .i64 r))), (6, .p (.val (.int .i64 at_))), (7, .p (.val (.bool d)))], s := [(1000, H.b0 s), (1001, H.b1 s), (1002, H.b2 s)] }
/-- what is left behind a round -/
def retRest (t r at_ : Int) (n : Nat) (d : Bool) : Pr Unit := bif d then .ret () else .loop (retRound t r at_) n ()
theorem retire_h (H : Hnd) (s0 : H.σ) {t r : Int} (ht : Small t) (hr : Rf r) : FnH H 125 [H.doA, .p (.val (.int .i64 t)), .p (.val (.int .i64 r))] [] (fun _ => .any) (fun _ => []) yes s0 (retireP t r) := by
  have wr : IntKind.u64.wrap r = r := wrap_u64 _ ⟨hr.lo, by have := hr.hi; omega⟩
  have hru := hr.u
  have cf := qZ (hr.rc ht) 7 (by decide)
  unfold Hnd.doA
  refine yO Tryz.func125 rfl Tryz.ntmps125 (Nat.le_of_ble_eq_true rfl) (by decide) (fine_retire t hr.u) fun hok hns => ?_
  repeat' (first | (refine zY.is ?_; first | refine zY.nil ?_ | (refine zY.at_ 6 rfl ?_; refine zY.rc (.v zK .e) ?_) | (refine zY.in_ [11] rfl ?_; refine zY.v rfl rfl (zL (limbo_fn _ (U.lo (by assumption))) rfl rfl rfl (by decide)) ?_) | (refine zY.in_ [10] rfl ?_; refine zY.ofT rfl (zF.hd (i := []) (f := vI H _ 3) (r := fun x s e g hk => ?_) (p := fun q s e => ?_) (t := ?_)))) | (refine zZ.is ?_; first | refine zZ.seq ?_ | (refine zZ.isR (id := 0) ?_; refine zZ.rc [0, 1, 2] [1000, 1001, 1002] (r := (.v xJ .e)) (h := ?_)) | (refine zZ.isR (id := 1) ?_; refine zZ.rc [0, 1, 2, 6] [1000, 1001, 1002] (r := (.v zK .e)) (h := ?_)) | refine zZ.block ?_) | refine zB.n ?_ | refine zB.p ?_)
  all_goals (first | exact fun e => hns (by clear hns; simp only [retireP, run_bind, zC, zJ, Held.zW, Held.zA, Held.zQ, cond_true, cond_false, *]) | exact .pan (q := q) rfl (by repeat' first | exact trivial | rfl | constructor) (by repeat' exact trivial) (by simp only [retireP, run_bind, zC, zJ, Held.zW, Held.zA, Held.zQ, cond_true, cond_false, *]) | skip)
  have ho0 : (retireP t r).run H.st s0 = (retLoop t r (vZ x)).run H.st s := by simp only [retireP, run_bind, zC, Held.zW, *]
  rw [ho0] at hns ⊢
  generalize vZ x = at_ at *
  refine zZ.loop (fun p : Bool × Nat × H.σ => retS H t r at_ p.1 p.2.2) (fun p => H.ok p.2.2 ∧ (retRest t r at_ p.2.1 p.1).run H.st p.2.2 = (retLoop t r at_).run H.st s) (fun p => p.2.1) (false, many, s) ?h0 ⟨by assumption, rfl⟩ ?rd
  case h0 =>
    exact zT K_x K_0
  case rd =>
    rintro ⟨d, n, s1⟩ ⟨hok1, ho⟩
    dsimp only at hok1 ho ⊢
    unfold retS Hnd.doA
    cases d with
    | true =>
      have ho : Held.done () s1 = (retLoop t r at_).run H.st s := ho
      rw [← ho] at hns ⊢
      repeat' (first | (refine zY.nil ?_) | (refine zZ.is ?_; first | refine zZ.seq ?_ | (refine zZ.isR (id := 2) ?_; refine zZ.rc [0, 1, 2, 6, 7, 8, 13] [1000, 1001, 1002] (r := (.v zV (.v qI .e))) (h := ?_)) | refine zZ.yH rfl bA ?_ | refine zZ.exit ?_) | refine zB.n ?_ | refine zP.eY ?_ | refine zB.e ?_)
      all_goals (exact .ret (x := ()) (by exact .inr rfl) (by exact .none rfl) (by repeat' first | exact trivial | rfl | constructor) (by simp only [run_bind, zC, zJ, Held.zW, Held.zA, Held.zQ, cond_true, cond_false, *] <;> rfl))
    | false =>
      have ho : (Pr.loop (retRound t r at_) n ()).run H.st s1 = (retLoop t r at_).run H.st s := ho
      cases n with
      | zero => exact absurd ho.symm hns
      | succ n =>
        rw [Pr.loop_succ] at ho
        rw [← ho] at hns ⊢
        repeat' (first | (refine zY.is ?_; first | refine zY.nil ?_ | (refine zY.at_ 21 rfl ?_; refine zY.rc (.v zV .e) ?_) | (refine zY.at_ 7 rfl ?_; refine zY.rc (.v zK .e) ?_) | (refine zY.at_ 8 rfl ?_; refine zY.rc (.v zK .e) ?_) | (refine zY.in_ [20] rfl ?_; refine zY.v rfl rfl (zL (cf) rfl rfl rfl (by decide)) ?_) | (refine zY.in_ [16] rfl ?_; refine zY.ofT rfl (zF.hd (i := []) (f := vI H _ _) (r := fun x s e g hk => ?_) (p := fun q s e => ?_) (t := ?_))) | (refine zY.in_ [22] rfl ?_; refine zY.ofT rfl (zF.hd (i := []) (f := qJ H _ _ _ (by assumption)) (r := fun x s e g hk => ?_) (p := fun q s e => ?_) (t := ?_))) | (refine zY.in_ [28] rfl ?_; refine zY.ofT rfl (zF.hd (i := []) (f := cas_h H _ _ _ _ (by assumption) hru) (r := fun x s e g hk => ?_) (p := fun q s e => ?_) (t := ?_)))) | (refine zZ.is ?_; first | refine zZ.seq ?_ | (refine zZ.isR (id := 2) ?_; refine zZ.rc [0, 1, 2, 6, 7, 8, 13] [1000, 1001, 1002] (r := (.v zV (.v v52_4 .e))) (h := ?_)) | (refine zZ.isR (id := 3) ?_; refine zZ.rc [0, 1, 2, 6, 7, 8, 13] [1000, 1001, 1002] (r := (.v xJ (.v zV .e))) (h := ?_)) | (refine zZ.isR (id := 4) ?_; refine zZ.rc [0, 1, 2, 6, 7, 8, 13] [1000, 1001, 1002] (r := (.v xJ (.v zV (.v zV .e)))) (h := ?_)) | (refine zZ.isR (id := 5) ?_; refine zZ.rc [0, 1, 2, 6, 7, 8, 13] [1000, 1001, 1002] (r := (.v xJ (.v zV (.v zV (.v zV (.v v6_0 .e)))))) (h := ?_)) | refine zZ.yF rfl bA ?_ | refine zZ.skip ?_ | refine zZ.block ?_) | refine zB.n ?_ | refine zB.p ?_ | refine zP.n ?_ | refine zP.p ?_)
        all_goals (first | exact fun e => hns (by clear hns; simp only [retRound, run_bind, zC, zJ, Held.zW, Held.zA, Held.zQ, cond_true, cond_false, *]) | exact .pan (q := q) rfl (by repeat' first | exact trivial | rfl | constructor) (by repeat' exact trivial) (by simp only [retRound, run_bind, zC, zJ, Held.zW, Held.zA, Held.zQ, cond_true, cond_false, *]) | skip)
        refine ⟨(x, n, s), ?_, ⟨by assumption, ?_⟩, Nat.lt_succ_self n⟩
        · exact zT K_x K_0
        · clear ho hns
          simp only [retRound, run_bind, zC, Held.zW, *]
          cases x <;> rfl
/-! ### A walk's variable, and its steps -/
def vQ (H : Hnd) (t p x : Int) : Blk := .box 154 [H.doA, .p (.val (.int .i64 t)), .p (.val (.int .i64 p)), .p (.val (.int .i64 x))]
theorem start_h (H : Hnd) (s0 : H.σ) {t p x : Int} (ht : Small t) : FnH H 114 [.ptr 1003 0] [vQ H t p x] (fun _ => .any) (fun w => [vQ H t 0 (xU w)]) U s0 (xL 0) := by
  have cn : Fn Tryz.prog 61 [.val (.int .i64 t), .val (.int .i64 0)] (.p (.val (.int .i64 0))) := cnext_fn t 0 ht (by decide)
  unfold vQ Hnd.doA
  refine yO Tryz.func114 rfl Tryz.ntmps114 (Nat.le_of_ble_eq_true rfl) (by decide) (yQ _) fun hok hns => ?_
  repeat' (first | (refine zZ.is ?_; (refine zZ.isR (id := 0) ?_; refine zZ.rk [0] [1000, 1001, 1002, 1003] ?_; refine zZ.drawGo (by kernel_rfl) ?_)) | (refine DGo.at_ [] ?_; refine DGo.fr 0 ?_) | (refine DGo.at_ [0] ?_; refine DGo.fr 1 ?_) | (refine DGo.at_ [1, 0] ?_; refine DGo.fr 2 ?_) | (refine DGo.at_ [2, 1, 0] ?_; refine DGo.fr 3 ?_) | (refine DGo.at_ [3, 2, 1, 0] ?_; refine DGo.fr 4 ?_) | (refine DGo.at_ [4, 3, 2, 1, 0] ?_; refine DGo.fr 6 ?_) | (refine DGo.at_ [6, 4, 3, 2, 1, 0] ?_; refine DGo.fr 7 ?_) | (refine DGo.at_ [7, 6, 4, 3, 2, 1, 0] ?_; refine DGo.fr 8 ?_) | (refine DGo.at_ [8, 7, 6, 4, 3, 2, 1, 0] ?_; refine DGo.all [5, 9] (by kernel_rfl) ?_) | (refine DGo.at_ [9, 8, 7, 6, 4, 3, 2, 1, 0] ?_; refine DGo.all [5, 10] (by kernel_rfl) ?_) | (refine DGo.at_ [10, 9, 8, 7, 6, 4, 3, 2, 1, 0] ?_; refine DGo.all [5] (by kernel_rfl) ?_) | (refine DGo.at_ [5, 10, 9, 8, 7, 6, 4, 3, 2, 1, 0] ?_; refine DGo.all [11] (by kernel_rfl) ?_) | (refine DGo.at_ [11, 5, 10, 9, 8, 7, 6, 4, 3, 2, 1, 0] ?_; refine DGo.all [12] (by kernel_rfl) ?_) | (refine DGo.at_ [12, 11, 5, 10, 9, 8, 7, 6, 4, 3, 2, 1, 0] ?_; refine DGo.fr 13 ?_) | (refine DGo.at_ [13, 12, 11, 5, 10, 9, 8, 7, 6, 4, 3, 2, 1, 0] ?_; refine DGo.fr 14 ?_) | (refine DGo.at_ [14, 13, 12, 11, 5, 10, 9, 8, 7, 6, 4, 3, 2, 1, 0] ?_; refine DGo.all [15] (by kernel_rfl) ?_) | (refine DGo.at_ [15, 14, 13, 12, 11, 5, 10, 9, 8, 7, 6, 4, 3, 2, 1, 0] ?_; refine DGo.fr 16 ?_) | (refine DGo.at_ [16, 15, 14, 13, 12, 11, 5, 10, 9, 8, 7, 6, 4, 3, 2, 1, 0] ?_; refine DGo.fr 17 ?_) | (refine DGo.at_ [17, 16, 15, 14, 13, 12, 11, 5, 10, 9, 8, 7, 6, 4, 3, 2, 1, 0] ?_; refine DGo.all [18] (by kernel_rfl) ?_) | (refine DGo.at_ [18, 17, 16, 15, 14, 13, 12, 11, 5, 10, 9, 8, 7, 6, 4, 3, 2, 1, 0] ?_; refine DGo.fin (by kernel_rfl) ?_) | (refine DGo.at_ [5, 9, 8, 7, 6, 4, 3, 2, 1, 0] ?_; refine DGo.all [10] (by kernel_rfl) ?_) | (refine DGo.at_ [10, 5, 9, 8, 7, 6, 4, 3, 2, 1, 0] ?_; refine DGo.all [11] (by kernel_rfl) ?_) | (refine DGo.at_ [11, 10, 5, 9, 8, 7, 6, 4, 3, 2, 1, 0] ?_; refine DGo.all [12] (by kernel_rfl) ?_) | (refine DGo.at_ [12, 11, 10, 5, 9, 8, 7, 6, 4, 3, 2, 1, 0] ?_; refine DGo.fr 13 ?_) | (refine DGo.at_ [13, 12, 11, 10, 5, 9, 8, 7, 6, 4, 3, 2, 1, 0] ?_; refine DGo.fr 14 ?_) | (refine DGo.at_ [14, 13, 12, 11, 10, 5, 9, 8, 7, 6, 4, 3, 2, 1, 0] ?_; refine DGo.all [15] (by kernel_rfl) ?_) | (refine DGo.at_ [15, 14, 13, 12, 11, 10, 5, 9, 8, 7, 6, 4, 3, 2, 1, 0] ?_; refine DGo.fr 16 ?_) | (refine DGo.at_ [16, 15, 14, 13, 12, 11, 10, 5, 9, 8, 7, 6, 4, 3, 2, 1, 0] ?_; refine DGo.fr 17 ?_) | (refine DGo.at_ [17, 16, 15, 14, 13, 12, 11, 10, 5, 9, 8, 7, 6, 4, 3, 2, 1, 0] ?_; refine DGo.all [18] (by kernel_rfl) ?_) | (refine DGo.at_ [18, 17, 16, 15, 14, 13, 12, 11, 10, 5, 9, 8, 7, 6, 4, 3, 2, 1, 0] ?_; refine DGo.fin (by kernel_rfl) ?_) | (refine DGo.at_ [5, 8, 7, 6, 4, 3, 2, 1, 0] ?_; refine DGo.all [9] (by kernel_rfl) ?_) | (refine DGo.at_ [9, 5, 8, 7, 6, 4, 3, 2, 1, 0] ?_; refine DGo.all [10] (by kernel_rfl) ?_) | (refine DGo.at_ [10, 9, 5, 8, 7, 6, 4, 3, 2, 1, 0] ?_; refine DGo.all [11] (by kernel_rfl) ?_) | (refine DGo.at_ [11, 10, 9, 5, 8, 7, 6, 4, 3, 2, 1, 0] ?_; refine DGo.all [12] (by kernel_rfl) ?_) | (refine DGo.at_ [12, 11, 10, 9, 5, 8, 7, 6, 4, 3, 2, 1, 0] ?_; refine DGo.fr 13 ?_) | (refine DGo.at_ [13, 12, 11, 10, 9, 5, 8, 7, 6, 4, 3, 2, 1, 0] ?_; refine DGo.fr 14 ?_) | (refine DGo.at_ [14, 13, 12, 11, 10, 9, 5, 8, 7, 6, 4, 3, 2, 1, 0] ?_; refine DGo.all [15] (by kernel_rfl) ?_) | (refine DGo.at_ [15, 14, 13, 12, 11, 10, 9, 5, 8, 7, 6, 4, 3, 2, 1, 0] ?_; refine DGo.fr 16 ?_) | (refine DGo.at_ [16, 15, 14, 13, 12, 11, 10, 9, 5, 8, 7, 6, 4, 3, 2, 1, 0] ?_; refine DGo.fr 17 ?_) | (refine DGo.at_ [17, 16, 15, 14, 13, 12, 11, 10, 9, 5, 8, 7, 6, 4, 3, 2, 1, 0] ?_; refine DGo.all [18] (by kernel_rfl) ?_) | (refine DGo.at_ [18, 17, 16, 15, 14, 13, 12, 11, 10, 9, 5, 8, 7, 6, 4, 3, 2, 1, 0] ?_; refine DGo.fin (by kernel_rfl) ?_) | refine zI.cons ?_ ?_ | exact zI.nil | (refine zM.at_ 5 ?_; refine zM.v rfl rfl rfl (yP rfl rfl rfl rfl rfl (by decide)) ?_) | (refine zM.at_ 9 ?_; refine zM.v rfl rfl rfl (yX rfl rfl rfl rfl rfl (by decide)) ?_) | (refine zM.at_ 10 ?_; refine zM.v rfl rfl rfl (by exact zL (cn) rfl rfl rfl (by decide)) ?_) | (refine zM.at_ 11 ?_; refine zM.ofT rfl rfl (zF.hd (i := []) (f := vI H _ _) (r := fun x s e g hk => ?_) (p := fun q s e => ?_) (t := ?_))) | (refine zM.at_ 12 ?_; refine zM.v rfl rfl rfl (by exact zL (ref_fn _ (U.lo (by assumption)) (U.hi (by assumption))) rfl rfl rfl (by decide)) ?_) | (refine zM.at_ 15 ?_; refine zM.w rfl rfl (by exact yT rfl rfl rfl rfl rfl (by rfl) (by exact Nat.le_of_ble_eq_true rfl) rfl rfl) ?_) | (refine zM.at_ 18 ?_; refine zM.w rfl rfl (by exact yT rfl rfl rfl rfl rfl (by rfl) (by exact Nat.le_of_ble_eq_true rfl) rfl rfl) ?_))
  all_goals (first | exact fun e => hns (by clear hns; simp only [run_bind, zC, zJ, Held.zW, Held.zA, Held.zQ, cond_true, cond_false, *]) | exact .pan (q := q) rfl (by repeat' first | exact trivial | rfl | constructor) (by repeat' first | exact trivial | exact ⟨_, rfl, rfl⟩ | constructor) (by simp only [run_bind, zC, zJ, Held.zW, Held.zA, Held.zQ, cond_true, cond_false, *]) | exact .ret (x := x) (by exact .inr rfl) (by exact .none rfl) (by repeat' first | exact trivial | rfl | constructor) (by simp only [run_bind, zC, zJ, Held.zW, Held.zA, Held.zQ, cond_true, cond_false, *] <;> rfl))
theorem field_h (H : Hnd) (s0 : H.σ) {t p x f : Int} (hx : Rc t x) (hf : 0 ≤ f ∧ f ≤ 7) : FnH H 81 [.ptr 1003 0, .p (.val (.int .i64 f))] [vQ H t p x] (fun w => .p (.val (.int .u64 w))) (fun _ => [vQ H t p x]) U s0 (xL (yK t x f)) := by
  have cf := qZ hx f hf
  unfold vQ Hnd.doA
  refine yO Tryz.func81 rfl Tryz.ntmps81 (Nat.le_of_ble_eq_true rfl) (by decide) (yQ _) fun hok hns => ?_
  repeat' (first | (refine zY.nil ?_) | (refine zZ.is ?_; first | refine zZ.seq ?_ | (refine zZ.isR (id := 0) ?_; refine zZ.rc [0, 1] [1000, 1001, 1002, 1003] (r := (.v zK .e)) (h := ?_)) | (refine zZ.isR (id := 1) ?_; refine zZ.rk [0, 1, 4] [1000, 1001, 1002, 1003] ?_; refine zZ.draws ?_) | refine zZ.ret ?_) | refine zB.n ?_ | refine zB.p ?_ | (refine Draws.is ?_; first | refine Draws.rc (.v v0_2 (.v v4_0 (.v zH (.v wB (.v v0_2 (.v v4_0 (.v zH (.v zN (.v v0_2 (.v v4_0 (.v zH (.v zN (.v zV .e))))))))))))) ?_ | (refine Draws.in_ [18] rfl ?_; refine Draws.v rfl rfl (zL (cf) rfl rfl rfl (by decide)) ?_) | refine Draws.done (by kernel_rfl) (by kernel_rfl) (by kernel_rfl) ?_) | (refine zD.is ?_; first | refine zD.nil ?_ | (refine zD.at_ 4 rfl ?_; refine zD.rc (.v zK .e) ?_) | (refine zD.in_ [19] rfl ?_; refine zD.ofT rfl (zF.hd (i := []) (f := vI H _ _) (r := fun x s e g hk => ?_) (p := fun q s e => ?_) (t := ?_)))))
  all_goals (first | exact fun e => hns (by clear hns; simp only [run_bind, zC, zJ, Held.zW, Held.zA, Held.zQ, cond_true, cond_false, *]) | exact .pan (q := q) rfl (by repeat' first | exact trivial | rfl | constructor) (by repeat' first | exact trivial | exact ⟨_, rfl, rfl⟩ | constructor) (by simp only [run_bind, zC, zJ, Held.zW, Held.zA, Held.zQ, cond_true, cond_false, *]) | exact .ret (by exact .inl rfl) (by exact .one rfl rfl) (by repeat' first | exact trivial | rfl | constructor) (by simp only [run_bind, zC, zJ, Held.zW, Held.zA, Held.zQ, cond_true, cond_false, *] <;> rfl))
theorem on_h (H : Hnd) (s0 : H.σ) {t p x w : Int} (hw : U w) : FnH H 98 [.ptr 1003 0, .p (.val (.int .u64 w))] [vQ H t p x] (fun _ => .any) (fun _ => [vQ H t x (xU w)]) yes s0 (.ret ()) := by
  have cr := ref_fn w hw.1 hw.2
  unfold vQ Hnd.doA
  refine yO Tryz.func98 rfl Tryz.ntmps98 (Nat.le_of_ble_eq_true rfl) (by decide) trivial fun hok hns => ?_
  repeat' (first | (refine zZ.is ?_; (refine zZ.isR (id := 0) ?_; refine zZ.rk [0, 1] [1000, 1001, 1002, 1003] ?_; refine zZ.drawGo (by kernel_rfl) ?_)) | (refine DGo.at_ [] ?_; refine DGo.fr 0 ?_) | (refine DGo.at_ [0] ?_; refine DGo.fr 1 ?_) | (refine DGo.at_ [1, 0] ?_; refine DGo.fr 2 ?_) | (refine DGo.at_ [2, 1, 0] ?_; refine DGo.fr 3 ?_) | (refine DGo.at_ [3, 2, 1, 0] ?_; refine DGo.fr 4 ?_) | (refine DGo.at_ [4, 3, 2, 1, 0] ?_; refine DGo.fr 6 ?_) | (refine DGo.at_ [6, 4, 3, 2, 1, 0] ?_; refine DGo.all [5, 7] (by kernel_rfl) ?_) | (refine DGo.at_ [7, 6, 4, 3, 2, 1, 0] ?_; refine DGo.all [5] (by kernel_rfl) ?_) | (refine DGo.at_ [5, 7, 6, 4, 3, 2, 1, 0] ?_; refine DGo.fr 8 ?_) | (refine DGo.at_ [8, 5, 7, 6, 4, 3, 2, 1, 0] ?_; refine DGo.fr 9 ?_) | (refine DGo.at_ [9, 8, 5, 7, 6, 4, 3, 2, 1, 0] ?_; refine DGo.all [10] (by kernel_rfl) ?_) | (refine DGo.at_ [10, 9, 8, 5, 7, 6, 4, 3, 2, 1, 0] ?_; refine DGo.fr 11 ?_) | (refine DGo.at_ [11, 10, 9, 8, 5, 7, 6, 4, 3, 2, 1, 0] ?_; refine DGo.fr 12 ?_) | (refine DGo.at_ [12, 11, 10, 9, 8, 5, 7, 6, 4, 3, 2, 1, 0] ?_; refine DGo.all [13] (by kernel_rfl) ?_) | (refine DGo.at_ [13, 12, 11, 10, 9, 8, 5, 7, 6, 4, 3, 2, 1, 0] ?_; refine DGo.fin (by kernel_rfl) ?_) | (refine DGo.at_ [5, 6, 4, 3, 2, 1, 0] ?_; refine DGo.all [7] (by kernel_rfl) ?_) | (refine DGo.at_ [7, 5, 6, 4, 3, 2, 1, 0] ?_; refine DGo.fr 8 ?_) | (refine DGo.at_ [8, 7, 5, 6, 4, 3, 2, 1, 0] ?_; refine DGo.fr 9 ?_) | (refine DGo.at_ [9, 8, 7, 5, 6, 4, 3, 2, 1, 0] ?_; refine DGo.all [10] (by kernel_rfl) ?_) | (refine DGo.at_ [10, 9, 8, 7, 5, 6, 4, 3, 2, 1, 0] ?_; refine DGo.fr 11 ?_) | (refine DGo.at_ [11, 10, 9, 8, 7, 5, 6, 4, 3, 2, 1, 0] ?_; refine DGo.fr 12 ?_) | (refine DGo.at_ [12, 11, 10, 9, 8, 7, 5, 6, 4, 3, 2, 1, 0] ?_; refine DGo.all [13] (by kernel_rfl) ?_) | (refine DGo.at_ [13, 12, 11, 10, 9, 8, 7, 5, 6, 4, 3, 2, 1, 0] ?_; refine DGo.fin (by kernel_rfl) ?_) | refine zI.cons ?_ ?_ | exact zI.nil | (refine zM.at_ 5 ?_; refine zM.v rfl rfl rfl (yX rfl rfl rfl rfl rfl (by decide)) ?_) | (refine zM.at_ 7 ?_; refine zM.v rfl rfl rfl (by exact zL (cr) rfl rfl rfl (by decide)) ?_) | (refine zM.at_ 10 ?_; refine zM.w rfl rfl (by exact yT rfl rfl rfl rfl rfl (by rfl) (by exact Nat.le_of_ble_eq_true rfl) rfl rfl) ?_) | (refine zM.at_ 13 ?_; refine zM.w rfl rfl (by exact yT rfl rfl rfl rfl rfl (by rfl) (by exact Nat.le_of_ble_eq_true rfl) rfl rfl) ?_))
  all_goals (exact .ret (x := ()) (by exact .inr rfl) (by exact .none rfl) (by repeat' first | exact trivial | rfl | constructor) (by simp only [run_bind, zC, zJ, Held.zW, Held.zA, Held.zQ, cond_true, cond_false, *] <;> rfl))
theorem save2_h (H : Hnd) (s0 : H.σ) {t x : Int} (hx : Rc t x) : FnH H 82 [H.doA, .p (.val (.int .i64 t)), .p (.val (.int .i64 x)), .p (.val (.int .i64 2))] [] (fun x => .p (.val (.bool x))) (fun _ => []) yes s0 (saveP t x 2) := save_h H s0 hx (.inr rfl)
def tookB (H : Hnd) (t p x w : Int) (r : Took) : Blk := vQ H t p (bif r.d then xU w else x)
theorem out_h (H : Hnd) (s0 : H.σ) {t p x w : Int} (ht : Small t) (hW : WOK p x) (hw : U w) : FnH H 115 [.ptr 1003 0, .p (.val (.int .u64 w))] [vQ H t p x] (fun r => .tup ([.val (.bool r.d), .val (.bool r.ok)].map .p)) (fun r => [tookB H t p x w r]) yes s0 (takeP t p x w) := by
  have cn := cnext_fn t p ht hW.p.le
  have c1 := link_fn x hW.x.le
  have c2 := link_fn (xU w) (qU w).le
  have c3 := ref_fn w hw.1 hw.2
  have u1 := hW.x.u2
  have u2 := (qU w).u2
  have hf := fine_take t p w hW.x
  have hx := hW.x.rc ht
  unfold tookB vQ Hnd.doA
  refine yO Tryz.func115 rfl Tryz.ntmps115 (Nat.le_of_ble_eq_true rfl) (by decide) hf fun hok hns => ?_
  repeat' (first | (refine zY.is ?_; first | refine zY.nil ?_ | (refine zY.at_ 58 rfl ?_; refine zY.rc (.v v4_0 (.v zH (.w zR .e))) ?_) | (refine zY.in_ [57] rfl ?_; refine zY.v rfl rfl (zL (c3) rfl rfl rfl (by decide)) ?_)) | (refine zZ.is ?_; first | refine zZ.seq ?_ | (refine zZ.isR (id := 0) ?_; refine zZ.rc [0, 1] [1000, 1001, 1002, 1003] (r := (.v zK (.v zK .e))) (h := ?_)) | (refine zZ.isR (id := 1) ?_; refine zZ.rk [0, 1, 4, 5] [1000, 1001, 1002, 1003] ?_; refine zZ.draws ?_) | (refine zZ.isR (id := 2) ?_; refine zZ.rc [0, 1, 4, 5] [1000, 1001, 1002, 1003] (r := (.v zK (.v zK .e))) (h := ?_)) | (refine zZ.isR (id := 3) ?_; refine zZ.rc [0, 1, 4, 5] [1000, 1001, 1002, 1003] (r := (.v v0_2 (.v v4_0 (.v zH (.v zN (.v zK .e)))))) (h := ?_)) | (refine zZ.isR (id := 4) ?_; refine zZ.rk [0, 1, 4, 5, 6] [1000, 1001, 1002, 1003] ?_; refine zZ.draws ?_) | (refine zZ.isR (id := 5) ?_; refine zZ.rc [0, 1, 4, 5, 6] [1000, 1001, 1002, 1003] (r := (.v zK (.v zK .e))) (h := ?_)) | (refine zZ.isR (id := 6) ?_; refine zZ.rk [0, 1, 4, 5, 6] [1000, 1001, 1002, 1003] ?_; refine zZ.draws ?_) | (refine zZ.isR (id := 7) ?_; refine zZ.rc [0, 1, 4, 5] [1000, 1001, 1002, 1003] (r := (.v v0_2 (.v zV .e))) (h := ?_)) | (refine zZ.isR (id := 8) ?_; refine zZ.rc [4, 5] [1000, 1001, 1002, 1003] (r := (.v zK (.v zK .e))) (h := ?_)) | refine zZ.cond rfl (fun h => ?_) (fun h => ?_) | refine zZ.skip ?_ | refine zZ.ret ?_) | refine zB.n ?_ | refine zB.r ?_ | refine zB.p ?_ | (refine Draws.is ?_; first | refine Draws.rc (.v zV .e) ?_ | refine Draws.rc (.v v0_2 (.v v4_0 (.v zH (.v wB (.v v0_2 (.v v4_0 (.v zH (.v zN (.v zV .e))))))))) ?_ | refine Draws.rc (.v v0_2 (.v v4_0 (.v zH (.v wB (.v v0_2 (.v v4_0 (.v zH (.v zN (.v v0_2 (.v v4_0 (.v zH (.v zN .e)))))))))))) ?_ | (refine Draws.in_ [37] rfl ?_; refine Draws.v rfl rfl (zL (cn) rfl rfl rfl (by decide)) ?_) | (refine Draws.in_ [39] rfl ?_; refine Draws.v rfl rfl (zL (c1) rfl rfl rfl (by decide)) ?_) | (refine Draws.in_ [42] rfl ?_; refine Draws.v rfl rfl (zL (c2) rfl rfl rfl (by decide)) ?_) | (refine Draws.in_ [41] rfl ?_; refine Draws.v rfl rfl (zL (c3) rfl rfl rfl (by decide)) ?_) | refine Draws.done (by kernel_rfl) (by kernel_rfl) (by kernel_rfl) ?_) | (refine zD.is ?_; first | refine zD.nil ?_ | (refine zD.at_ 20 rfl ?_; refine zD.rc (.v v52_8 .e) ?_) | (refine zD.at_ 44 rfl ?_; refine zD.rc (.v v52_8 .e) ?_) | (refine zD.in_ [19] rfl ?_; refine zD.ofT rfl (zF.hd (i := []) (f := save2_h H _ hx) (r := fun x s e g hk => ?_) (p := fun q s e => ?_) (t := ?_))) | (refine zD.in_ [43] rfl ?_; refine zD.ofT rfl (zF.hd (i := []) (f := cas_h H _ _ _ _ u1 u2) (r := fun x s e g hk => ?_) (p := fun q s e => ?_) (t := ?_))) | (refine zD.in_ [54] rfl ?_; refine zD.ofT rfl (zF.hd (i := []) (f := retire_h H _ ht hW.x) (r := fun x s e g hk => ?_) (p := fun q s e => ?_) (t := ?_)))))
  all_goals try simp only [Bool.not_eq_true', Bool.not_eq_false'] at *
  all_goals first
    | exact .ret (x := .fail) (.inl rfl) (.tup rfl (by decide) (.cons (.tmp rfl) (.cons (.tmp rfl) .nil))) (by repeat' first | exact trivial | rfl | constructor) (by simp only [takeP, run_bind, zC, zJ, Held.zW, cond_true, cond_false, *])
    | exact .ret (x := .miss) (.inl rfl) (.tup rfl (by decide) (.cons (.tmp rfl) (.cons (.tmp rfl) .nil))) (by repeat' first | exact trivial | rfl | constructor) (by simp only [takeP, run_bind, zC, zJ, Held.zW, cond_true, cond_false, *])
    | skip
  all_goals (first | exact fun e => hns (by clear hns; simp only [takeP, run_bind, zC, zJ, Held.zW, Held.zA, Held.zQ, cond_true, cond_false, *]) | exact .pan (q := q) rfl (by repeat' first | exact trivial | rfl | constructor) (by repeat' first | exact trivial | exact ⟨_, rfl, rfl⟩ | constructor) (by simp only [takeP, run_bind, zC, zJ, Held.zW, Held.zA, Held.zQ, cond_true, cond_false, *]) | exact .ret (x := .done) (by exact .inl rfl) (by exact .tup rfl (by decide) (.cons (.tmp rfl) (.cons (.tmp rfl) .nil))) (by repeat' first | exact trivial | rfl | constructor) (by simp only [takeP, run_bind, zC, zJ, Held.zW, Held.zA, Held.zQ, cond_true, cond_false, *] <;> rfl))
end Go.Proofs.YtmfbamiciieooaaGreatDoor
/- The pool; pins: the program's, whatever makes its accesses: contracts. -/
namespace Go.Proofs.YtmfbamiciieooaaGreatDoor
set_option maxRecDepth 100000
set_option maxHeartbeats 16000000
open Go Go.RowKit
set_option linter.unusedSimpArgs false
set_option linter.unusedVariables false
attribute [local irreducible] zY zZ Step zX Sub zD zF Fn zB zP xA
theorem tag1 {w : Int} (h : U w) : 0 ≤ tagF w + 1 := by have := h.1; unfold tagF; omega
theorem wtag1 {w : Int} (h : U w) : IntKind.u64.wrap (tagF w + 1) = tagF w + 1 := by
  have h1 := h.1
  have h2 := h.2
  unfold tagF
  exact wrap_u64 _ (by omega)
theorem wfirst (w : Int) : IntKind.u64.wrap (x9 w) = x9 w := wrap_u64 _ (by have := firstF_lo w; have := firstF_hi w; omega)
def popS (H : Hnd) (t : Int) (s : H.σ) : AS := { t := [(0, H.doA), (1, .p (.val (.int .i64 t))), (4, .p (.val (.int .i64 0)))], s := [(1000, H.b0 s), (1001, H.b1 s), (1002, H.b2 s)] }
theorem pop_h (H : Hnd) (s0 : H.σ) {t : Int} (ht : Small t) : FnH H 83 [H.doA, .p (.val (.int .i64 t))] [] (fun r => .p (.val (.int .i64 r))) (fun _ => []) Rf s0 (popP t) := by
  unfold Hnd.doA
  refine yO Tryz.func83 rfl Tryz.ntmps83 (Nat.le_of_ble_eq_true rfl) (by decide) (fine_pop t) fun hok hns => ?_
  repeat' (first | (refine zY.nil ?_) | (refine zZ.is ?_; first | refine zZ.seq ?_ | (refine zZ.isR (id := 0) ?_; refine zZ.rc [0, 1] [1000, 1001, 1002] (r := (.v zK .e)) (h := ?_))) | refine zB.n ?_)
  refine zZ.scopeL 0 (fun q : Nat × H.σ => popS H t q.2) (fun q => H.ok q.2 ∧ (Pr.loop (popRound t) q.1 ()).run H.st q.2 = (popP t).run H.st s0) (fun q => q.1) (many, s0) ?h0 ⟨hok, rfl⟩ ?rd
  case h0 =>
    exact zT K_3 K_0
  case rd =>
    rintro ⟨n, s1⟩ ⟨hok1, ho⟩
    dsimp only at hok1 ho ⊢
    rw [← ho] at hns ⊢
    unfold popS Hnd.doA
    cases n with
    | zero => exact absurd rfl hns
    | succ n =>
      rw [vK] at ho hns ⊢
      have F1 := fun (w : Int) (h : U w) => wtag1 h
      repeat' (first | (refine zY.is ?_; first | refine zY.nil ?_ | (refine zY.at_ 25 rfl ?_; refine zY.rc (.v v30_1 .e) ?_) | (refine zY.at_ 5 rfl ?_; refine zY.rc (.v zK .e) ?_) | (refine zY.at_ 6 rfl ?_; refine zY.rc (.v zK .e) ?_) | (refine zY.at_ 7 rfl ?_; refine zY.rc (.v zK .e) ?_) | (refine zY.in_ [11, 19] rfl ?_; refine zY.v rfl rfl (zL (first_fn _ (U.lo (by assumption)) (U.hi (by assumption))) rfl rfl rfl (by decide)) ?_) | (refine zY.in_ [24] rfl ?_; refine zY.v rfl rfl (zL (tag_fn _) rfl rfl rfl (by decide)) ?_) | (refine zY.in_ [26] rfl ?_; refine zY.v rfl rfl (zL (top_fn _ _ (firstF_lo _) (firstF_hi _) (tag1 (by assumption))) rfl rfl rfl (by decide)) ?_) | (refine zY.in_ [17] rfl ?_; refine zY.v rfl rfl (zL (qZ ((qV _).rc ht) 7 (by decide)) rfl rfl rfl (by decide)) ?_) | (refine zY.in_ [9, 18] rfl ?_; refine zY.ofT rfl (zF.hd (i := []) (f := vI H _ _) (r := fun x s e g hk => ?_) (p := fun q s e => ?_) (t := ?_))) | (refine zY.in_ [27] rfl ?_; refine zY.ofT rfl (zF.hd (i := []) (f := cas_h H _ _ _ _ (by assumption) (topF_U (qV _))) (r := fun x s e g hk => ?_) (p := fun q s e => ?_) (t := ?_)))) | (refine zZ.is ?_; first | refine zZ.seq ?_ | (refine zZ.isR (id := 1) ?_; refine zZ.rc [0, 1, 4, 5, 6, 7, 13, 27] [1000, 1001, 1002] (r := (.v xJ .e)) (h := ?_)) | (refine zZ.isR (id := 2) ?_; refine zZ.rc [0, 1, 4, 5, 6, 7, 13, 27] [1000, 1001, 1002] (r := (.v zV .e)) (h := ?_)) | (refine zZ.isR (id := 3) ?_; refine zZ.rc [0, 1, 4, 5, 6, 7, 13, 27] [1000, 1001, 1002] (r := (.v zV (.v v41_8 .e))) (h := ?_)) | (refine zZ.isR (id := 4) ?_; refine zZ.rc [0, 1, 4, 5, 6, 7, 13, 27] [1000, 1001, 1002] (r := (.v zK .e)) (h := ?_)) | (refine zZ.isR (id := 5) ?_; refine zZ.rc [0, 1, 4, 5, 6, 7, 13, 27] [1000, 1001, 1002] (r := (.v xJ (.v zV (.v zV .e)))) (h := ?_)) | (refine zZ.isR (id := 6) ?_; refine zZ.rc [0, 1, 4, 5, 6, 7, 13, 27] [1000, 1001, 1002] (r := (.v xJ (.v zV (.v zV (.v zV .e))))) (h := ?_)) | (refine zZ.isR (id := 7) ?_; refine zZ.rc [0, 1, 4, 5, 6, 7, 13, 27] [1000, 1001, 1002] (r := (.v zV (.v zK .e))) (h := ?_)) | refine zZ.cond rfl (fun h => ?_) (fun h => ?_) | refine zZ.skip ?_ | refine zZ.ret ?_ | refine zZ.goto ?_) | refine zB.n ?_ | refine zB.r ?_ | refine zB.p ?_ | refine xA.r ?_ | refine xA.g ?_ | refine xA.p ?_)
      all_goals (first | exact fun e => hns (by clear hns; simp only [popRound, run_bind, zC, zJ, Held.zW, Held.zA, Held.zQ, cond_true, cond_false, *]) | exact .pan (q := q) rfl (by repeat' first | exact trivial | rfl | constructor) (by repeat' exact trivial) (by simp only [popRound, run_bind, zC, zJ, Held.zW, Held.zA, Held.zQ, cond_true, cond_false, *]) | exact .ret (by exact .inl rfl) (by exact .one rfl rfl) (by repeat' first | exact trivial | rfl | constructor) (by simp only [popRound, run_bind, zC, zJ, Held.zW, Held.zA, Held.zQ, cond_true, cond_false, *] <;> rfl) | skip)
      have e1 : (popRound t ()).run H.st s1 = .done (.inl ()) s := by
        clear ho hns
        simp only [popRound, run_bind, zC, zJ, Held.zW, cond_true, cond_false, *]
      refine ⟨(n, s), ?_, ⟨by assumption, by rw [run_bind, e1, Held.zW]; rfl⟩, Nat.lt_succ_self n⟩
      exact zT K_3 K_0
def pushS (H : Hnd) (t r : Int) (s : H.σ) : AS := { t := [(0, H.doA), (1, .p (.val (.int .i64 t))), (2, .p (.val (.int .i64 r)))], s := [(1000, H.b0 s), (1001, H.b1 s), (1002, H.b2 s)] }
theorem push_h (H : Hnd) (s0 : H.σ) {t r : Int} (ht : Small t) (hr : Rf r) : FnH H 52 [H.doA, .p (.val (.int .i64 t)), .p (.val (.int .i64 r))] [] (fun _ => .any) (fun _ => []) yes s0 (pushP t r) := by
  have cf := qZ (hr.rc ht) 7 (by decide)
  have ct := fun g => top_fn r g hr.lo (by have := hr.hi; omega)
  unfold Hnd.doA
  refine yO Tryz.func52 rfl Tryz.ntmps52 (Nat.le_of_ble_eq_true rfl) (by decide) (fine_push t hr) fun hok hns => ?_
  refine zZ.scopeL 0 (fun q : Nat × H.σ => pushS H t r q.2) (fun q => H.ok q.2 ∧ (Pr.loop (qL t r) q.1 ()).run H.st q.2 = (pushP t r).run H.st s0) (fun q => q.1) (many, s0) ?h0 ⟨hok, rfl⟩ ?rd
  case h0 =>
    exact zT K_y K_0
  case rd =>
    rintro ⟨n, s1⟩ ⟨hok1, ho⟩
    dsimp only at hok1 ho ⊢
    rw [← ho] at hns ⊢
    unfold pushS Hnd.doA
    cases n with
    | zero => exact absurd rfl hns
    | succ n =>
      rw [vK] at ho hns ⊢
      have F1 := fun (w : Int) (h : U w) => wtag1 h
      have F2 := wfirst
      repeat' (first | (refine zY.is ?_; first | refine zY.nil ?_ | (refine zY.at_ 13 rfl ?_; refine zY.rc (.v zV .e) ?_) | (refine zY.at_ 15 rfl ?_; refine zY.rc (.v v6_2 .e) ?_) | (refine zY.at_ 22 rfl ?_; refine zY.rc (.v v30_1 .e) ?_) | (refine zY.at_ 25 rfl ?_; refine zY.rc (.v v52_8 .e) ?_) | (refine zY.at_ 6 rfl ?_; refine zY.rc (.v zK .e) ?_) | (refine zY.in_ [14] rfl ?_; refine zY.v rfl rfl (zL (first_fn _ (U.lo (by assumption)) (U.hi (by assumption))) rfl rfl rfl (by decide)) ?_) | (refine zY.in_ [21] rfl ?_; refine zY.v rfl rfl (zL (tag_fn _) rfl rfl rfl (by decide)) ?_) | (refine zY.in_ [23] rfl ?_; refine zY.v rfl rfl (zL (ct _ (tag1 (by assumption))) rfl rfl rfl (by decide)) ?_) | (refine zY.in_ [12] rfl ?_; refine zY.v rfl rfl (zL (cf) rfl rfl rfl (by decide)) ?_) | (refine zY.in_ [8] rfl ?_; refine zY.ofT rfl (zF.hd (i := []) (f := vI H _ _) (r := fun x s e g hk => ?_) (p := fun q s e => ?_) (t := ?_))) | (refine zY.in_ [16] rfl ?_; refine zY.ofT rfl (zF.hd (i := []) (f := qJ H _ _ _ (Rf.u (qV _))) (r := fun x s e g hk => ?_) (p := fun q s e => ?_) (t := ?_))) | (refine zY.in_ [24] rfl ?_; refine zY.ofT rfl (zF.hd (i := []) (f := cas_h H _ _ _ _ (by assumption) (topF_U hr)) (r := fun x s e g hk => ?_) (p := fun q s e => ?_) (t := ?_)))) | (refine zZ.is ?_; first | refine zZ.seq ?_ | (refine zZ.isR (id := 0) ?_; refine zZ.rc [0, 1, 2, 6, 25] [1000, 1001, 1002] (r := (.v xJ .e)) (h := ?_)) | (refine zZ.isR (id := 1) ?_; refine zZ.rc [0, 1, 2, 6, 25] [1000, 1001, 1002] (r := (.v xJ (.v zV (.v zV .e)))) (h := ?_)) | (refine zZ.isR (id := 2) ?_; refine zZ.rc [0, 1, 2, 6, 25] [1000, 1001, 1002] (r := (.v xJ (.v zV (.v zV (.v zV .e))))) (h := ?_)) | refine zZ.cond rfl (fun h => ?_) (fun h => ?_) | refine zZ.skip ?_ | refine zZ.goto ?_) | refine zB.n ?_ | refine zB.p ?_ | refine xA.n ?_ | refine xA.g ?_ | refine xA.p ?_)
      all_goals try simp only [Bool.not_eq_true', Bool.not_eq_false'] at *
      all_goals (first | exact fun e => hns (by clear hns; simp only [qL, run_bind, zC, zJ, Held.zW, Held.zA, Held.zQ, cond_true, cond_false, *]) | exact .pan (q := q) rfl (by repeat' first | exact trivial | rfl | constructor) (by repeat' exact trivial) (by simp only [qL, run_bind, zC, zJ, Held.zW, Held.zA, Held.zQ, cond_true, cond_false, *]) | exact .ret (x := ()) (by exact .inr rfl) (by exact .none rfl) (by repeat' first | exact trivial | rfl | constructor) (by simp only [qL, run_bind, zC, zJ, Held.zW, Held.zA, Held.zQ, cond_true, cond_false, *] <;> rfl) | skip)
      have e1 : (qL t r ()).run H.st s1 = .done (.inl ()) s := by
        clear ho hns
        simp only [qL, run_bind, zC, zJ, Held.zW, cond_true, cond_false, *]
      refine ⟨(n, s), ?_, ⟨by assumption, by rw [run_bind, e1, Held.zW]; rfl⟩, Nat.lt_succ_self n⟩
      exact zT K_y K_0
theorem pin_h (H : Hnd) (s0 : H.σ) {me : Int} (hm : Small me) : FnH H 63 [H.doA, .p (.val (.int .i64 me))] [] (fun _ => .any) (fun _ => []) yes s0 (pinP me) := by
  have cp := pin_fn me hm
  have F1 := fun e : Int => (rfl : IntKind.u64.wrap (e + 1) = wr1 e)
  unfold Hnd.doA
  refine yO Tryz.func63 rfl Tryz.ntmps63 (Nat.le_of_ble_eq_true rfl) (by decide) (fine_pin me) fun hok hns => ?_
  repeat' (first | (refine zY.is ?_; first | refine zY.nil ?_ | (refine zY.at_ 7 rfl ?_; refine zY.rc (.v xJ .e) ?_) | (refine zY.at_ 9 rfl ?_; refine zY.rc (.v v30_1 .e) ?_) | (refine zY.in_ [6] rfl ?_; refine zY.v rfl rfl (zL (cp) rfl rfl rfl (by decide)) ?_) | (refine zY.in_ [8] rfl ?_; refine zY.ofT rfl (zF.hd (i := []) (f := vI H _ _) (r := fun x s e g hk => ?_) (p := fun q s e => ?_) (t := ?_))) | (refine zY.in_ [10] rfl ?_; refine zY.ofT rfl (zF.hd (i := []) (f := qJ H _ _ _ (wr1_U _)) (r := fun x s e g hk => ?_) (p := fun q s e => ?_) (t := ?_)))) | (refine zZ.is ?_; (refine zZ.isR (id := 0) ?_; refine zZ.rc [0, 1] [1000, 1001, 1002] (r := (.v xJ (.v zV .e))) (h := ?_))))
  all_goals (first | exact fun e => hns (by clear hns; simp only [pinP, run_bind, zC, zJ, Held.zW, Held.zA, Held.zQ, cond_true, cond_false, *]) | exact .pan (q := q) rfl (by repeat' first | exact trivial | rfl | constructor) (by repeat' exact trivial) (by simp only [pinP, run_bind, zC, zJ, Held.zW, Held.zA, Held.zQ, cond_true, cond_false, *]) | exact .ret (x := ()) (by exact .inr rfl) (by exact .none rfl) (by repeat' first | exact trivial | rfl | constructor) (by simp only [pinP, run_bind, zC, zJ, Held.zW, Held.zA, Held.zQ, cond_true, cond_false, *] <;> rfl))
theorem unpin_h (H : Hnd) (s0 : H.σ) {me : Int} (hm : Small me) : FnH H 65 [H.doA, .p (.val (.int .i64 me))] [] (fun _ => .any) (fun _ => []) yes s0 (unpinP me) := by
  have cp := pin_fn me hm
  unfold Hnd.doA
  refine yO Tryz.func65 rfl Tryz.ntmps65 (Nat.le_of_ble_eq_true rfl) (by decide) (fine_unpin me) fun hok hns => ?_
  repeat' (first | (refine zY.is ?_; first | refine zY.nil ?_ | (refine zY.in_ [6] rfl ?_; refine zY.v rfl rfl (zL (cp) rfl rfl rfl (by decide)) ?_) | (refine zY.in_ [7] rfl ?_; refine zY.ofT rfl (zF.hd (i := []) (f := qJ H _ _ _ U.zero) (r := fun x s e g hk => ?_) (p := fun q s e => ?_) (t := ?_)))) | (refine zZ.is ?_; (refine zZ.isR (id := 0) ?_; refine zZ.rc [0, 1] [1000, 1001, 1002] (r := (.v xJ (.v zV .e))) (h := ?_))))
  all_goals (first | exact fun e => hns (by clear hns; simp only [unpinP, run_bind, zC, zJ, Held.zW, Held.zA, Held.zQ, cond_true, cond_false, *]) | exact .pan (q := q) rfl (by repeat' first | exact trivial | rfl | constructor) (by repeat' exact trivial) (by simp only [unpinP, run_bind, zC, zJ, Held.zW, Held.zA, Held.zQ, cond_true, cond_false, *]) | exact .ret (x := ()) (by exact .inr rfl) (by exact .none rfl) (by repeat' first | exact trivial | rfl | constructor) (by simp only [unpinP, run_bind, zC, zJ, Held.zW, Held.zA, Held.zQ, cond_true, cond_false, *] <;> rfl))
theorem swap_h (H : Hnd) (s0 : H.σ) (c v : Int) (hv : U v) : FnH H 119 [H.doA, .p (.val (.int .i64 c)), .p (.val (.int .u64 v))] [] (fun x => .p (.val (.int .u64 x))) (fun _ => []) U s0 (swapP c v) := by
  unfold Hnd.doA
  refine yO Tryz.func119 rfl Tryz.ntmps119 (Nat.le_of_ble_eq_true rfl) (by decide) (fine_swap c hv) fun hok hns => ?_
  repeat' (first | (refine zY.is ?_; first | refine zY.nil ?_ | (refine zY.at_ 12 rfl ?_; refine zY.rc (.v v11_0 (.v zK .e)) ?_) | (refine zY.in_ [11] rfl ?_; refine zY.ofT rfl (zF.hd (i := []) (f := do_h H s0 (qR 4 c v 0 xQ) (fine_swap c hv).1) (r := fun x s e g hk => ?_) (p := fun q s e => ?_) (t := ?_)))) | (refine zZ.is ?_; first | refine zZ.seq ?_ | (refine zZ.isR (id := 0) ?_; refine zZ.rc [0, 1, 2] [1000, 1001, 1002] (r := (.v zK .e)) (h := ?_)) | (refine zZ.isR (id := 1) ?_; refine zZ.rc [0, 1, 2, 6] [1000, 1001, 1002] (r := (.v xJ (.v zV (.v zV (.v y9 .e))))) (h := ?_)) | refine zZ.ret ?_) | refine zB.n ?_ | refine zB.p ?_)
  all_goals first
    | exact fun e => absurd (by show (Pr.bind (.ask (qR 4 c v 0 xQ) .ret) fun r : xM => .ret r.n).run H.st s0 = _; rw [run_bind, e]; rfl) hns
    | exact .pan (q := q) rfl (by repeat' first | exact trivial | rfl | constructor) (by repeat' exact trivial) (by show (Pr.bind (.ask (qR 4 c v 0 xQ) .ret) fun r : xM => .ret r.n).run H.st s0 = _; rw [run_bind, e]; rfl)
    | exact .ret (by exact .inl rfl) (.one rfl rfl) (by repeat' first | exact trivial | rfl | constructor) (by show (Pr.bind (.ask (qR 4 c v 0 xQ) .ret) fun r : xM => .ret r.n).run H.st s0 = _; rw [run_bind, e]; rfl)
end Go.Proofs.YtmfbamiciieooaaGreatDoor
/- Rounds of a range over a function: code in a round; a frame that sleeps while others run. Generic over the program. -/
namespace Go.Proofs.YtmfbamiciieooaaGreatDoor
set_option maxRecDepth 100000
set_option maxHeartbeats 16000000
open Go Go.RowKit
set_option linter.unusedSimpArgs false
set_option linter.unusedVariables false
section
variable {P : Program} {n : Nat} {S : AS}
/-- the wide fence, at a frame of a round or of none -/
def wideF (r : Option Nat) : Fence := { Fence.wide with round := r }
theorem sem_at (r : Option Nat) (ρ : Operand → Value) (o : Oper) (h : ∀ c, o.op ≠ .defer c) : o.semAt r ρ = execOp ρ o := by
  cases r with
  | none => rfl
  | some l => exact Oper.semAt_some l ρ o h
/-- An operation that is no defer statement is carried out in a round as everywhere. -/
theorem wp_in {o : Oper} {a : Act} {w : World} {next next' : Act → World → Prop} {Q Q' : Exit → Act → World → Prop} (r : Option Nat) (hd : ∀ c, o.op ≠ .defer c) (hn : ∀ a w, next a w → next' a w) (hq : ∀ e a w, e ≠ .normal → Q e a w → Q' e a w) (h : o.wp P a w next Q) : o.wpIn (wideF r) 0 P a w next' Q' := by
  refine ⟨fun _ _ => trivial, ?_⟩
  show o.uponIn _ 0 P a next' Q' ((o.semAt r a.eval).run P w)
  rw [sem_at r a.eval o hd]
  unfold Oper.wp at h
  revert h
  cases (execOp a.eval o).run P w with
  | ok x w' =>
    cases x with
    | value v => exact fun h => hn _ _ h
    | skip => exact fun h => hn _ _ h
    | defer d => exact fun h => hn _ _ h
    | enter f args =>
      intro h
      have h1 : CallsIn (wideF r) 0 P f args w' _ := callsIn_wide.2 h
      refine ⟨fun h => (by cases h), h1.mono fun e w'' he => ?_⟩
      cases e with
      | returned v => exact hn _ _ he
      | panicked chain => exact hq _ _ _ (by simp) he
      | outgrown =>
        obtain ⟨a0, w0, h0⟩ := he
        exact ⟨a0, w0, hq _ _ _ (by simp) h0⟩
    | row row args =>
      intro h
      refine ⟨fun h => (by cases h), fun c cs _ => ?_⟩
      obtain ⟨v, w'', h1, h2⟩ := h c cs
      exact ⟨v, w'', hn _ _ h1, stepsIn_wide.2 h2⟩
    | _ => exact fun h => h.elim
  | halt s w' =>
    cases s with
    | panic v => exact fun h => hq _ _ _ (by simp) h
    | _ => exact fun h => h.elim
/-- operations, and others behind them -/
theorem wpList_app {ops : Array Oper} {Q Q' : Exit → Act → World → Prop} {l2 : List Oper} (r : Option Nat) (hq : ∀ a w, ¬ Q .outgrown a w) (hqq : ∀ e a w, e ≠ .normal → Q e a w → Q' e a w) (h2 : ∀ a w, Q .normal a w → wpListIn (wideF r) 0 P ops Q' l2 a w) :
    ∀ {l1 : List Oper} {a : Act} {w : World}, (∀ o ∈ l1, ∀ c, o.op ≠ .defer c) → wpList P ops Q l1 a w → wpListIn (wideF r) 0 P ops Q' (l1 ++ l2) a w
  | [], a, w, _, h => h2 a w h
  | o :: rest, a, w, hd, h => by
    unfold wpList at h
    show wpListIn _ _ _ _ _ (o :: (rest ++ l2)) a w
    unfold wpListIn
    by_cases hw : Region.wanted o (yielded ops a.tmps) = true
    · rw [if_pos hw] at h ⊢
      rcases h with h | ⟨_, a', w', h⟩
      · exact wp_in r (hd o (by simp)) (fun a w h => wpList_app r hq hqq h2 (fun o ho => hd o (by simp [ho])) h) hqq h
      · exact absurd h (hq a' w')
    · rw [if_neg hw] at h ⊢
      exact ⟨fun _ _ => trivial, wpList_app r hq hqq h2 (fun o ho => hd o (by simp [ho])) h⟩
theorem wpList_in {ops : Array Oper} {Q : Exit → Act → World → Prop} (r : Option Nat) (hq : ∀ a w, ¬ Q .outgrown a w) {rest : List Oper} {a : Act} {w : World} (hd : ∀ o ∈ rest, ∀ c, o.op ≠ .defer c) (h : wpList P ops Q rest a w) : wpListIn (wideF r) 0 P ops Q rest a w := by
  have := wpList_app (l2 := []) r hq (fun _ _ _ _ h => h) (fun a w h => h) hd h
  rwa [List.append_nil] at this
/-- Code in a round of loop l. -/
def ACodeR (l : Nat) (P : Program) (n : Nat) (c : Code) (S : AS) (K : Exit → AS → Prop) : Prop :=
  (∀ S, ¬ K .outgrown S) → ∀ (M : Nat → Nat → Prop) (w0 : Home) (ρ : Nat → Value) (a : Act) (w : World) (Q : Exit → Act → World → Prop),
    Sat M n w0 S ρ a w → (∀ e S' ρ' a' w', K (bare e) S' → Sat M n w0 S' ρ' a' w' → ExOK M S' ρ' w' e → Q e a' w') → c.wpIn (Fence.wide.inRound l) 0 P Q a w
def noDefer (l : List Oper) : Bool := l.all fun o => match o.op with
  | .defer _ => false
  | _ => true
theorem noDefer_of {l : List Oper} (h : noDefer l = true) : ∀ o ∈ l, ∀ c, o.op ≠ .defer c := fun o ho c e => by
  have := List.all_eq_true.1 h o ho
  rw [e] at this
  cases this
theorem ACodeR.region {r id : Nat} {l : List Oper} {K : Exit → AS → Prop} (hd : noDefer l = true) (h : zY P n l.toArray l S K) : ACodeR r P n (.region id l.toArray false) S K := by
  intro h0 M w0 ρ a w Q hs hK
  have h1 := h M w0 ρ a w (fun e a' w' => e ≠ .outgrown ∧ Q e a' w') hs fun e S' ρ' a' w' hk hs' hx => ⟨fun e1 => by subst e1; exact h0 _ hk, hK e S' ρ' a' w' hk hs' hx⟩
  have h2 : wpListIn (Fence.wide.inRound r) 0 P _ _ _ _ _ := wpList_in (some r) (fun a w h => h.1 rfl) (noDefer_of hd) h1
  exact wpIn_mono (wpIn_region_lit h2) fun e a w h => h.2
theorem ACodeR.block {r id : Nat} {c : Code} {K : Exit → AS → Prop} (h : ACodeR r P n c S (zP id K)) : ACodeR r P n (.block id c) S K :=
  fun h0 M w0 ρ a w Q hs hK => wpIn_block (h h0 M w0 ρ a w _ hs fun e S' ρ' a' w' hk hs' hx => by
    cases e with
    | exit id' =>
      show if id' = id then Q .normal a' w' else Q (.exit id') a' w'
      have hk' : if id' = id then K .normal S' else K (.exit id') S' := hk
      by_cases h1 : id' = id
      · rw [if_pos h1] at hk' ⊢; exact hK _ _ ρ' a' w' hk' hs' hx
      · rw [if_neg h1] at hk' ⊢; exact hK _ _ ρ' a' w' hk' hs' hx
    | normal => exact hK .normal S' ρ' a' w' hk hs' hx
    | goto l => exact hK (.goto l) S' ρ' a' w' hk hs' hx
    | ret => exact hK .ret S' ρ' a' w' hk hs' hx
    | panic c => exact hK (.panic c) S' ρ' a' w' hk hs' hx
    | outgrown => exact hK .outgrown S' ρ' a' w' hk hs' hx)
/-- at home anew: in the world as it is; its own blocks are handed over to it -/
def Home.anew (h : Home) (w : World) (T : Nat → Prop) (hl : Lays w) (ht : ∀ g, Tabs g → ¬ T g) : Home := ⟨w, T, hl, ht, h.r, h.ptr, h.lo, h.d⟩
end
end Go.Proofs.YtmfbamiciieooaaGreatDoor
/- An array's literal. Generic over the program. -/
namespace Go.Proofs.YtmfbamiciieooaaGreatDoor
set_option maxRecDepth 100000
set_option maxHeartbeats 16000000
open Go Go.RowKit
section
variable {P : Program} {n : Nat} {o : Oper} {S : AS} {d : Nat} {t : TypeId}
theorem run_buildArr {m e sz by_ : Nat} {z ze : Value} [ht : Und P t (.array m e)] [hi : InfoA P e ze sz by_] [hz : ZeroA P t z] (parts : List (Nat × Value)) (w : World) (cells : Array Value) (h : Instr.fill (fun i => some (i * sz, sz)) z.cells.toList.toArray parts = some cells) :
    (Instr.build t parts.toArray).run P w = .ok (.agg cells) w := by
  have hs : (sizeOf e).run P w = .ok sz w := by
    have h1 := hi.h
    cases h2 : P.info? e with
    | none => rw [h2] at h1; cases h1
    | some i =>
      rw [h2] at h1
      simp only [Option.map_some, Option.some.injEq, Prod.mk.injEq] at h1
      simp [sizeOf, typeInfo, h2, h1.2.1]
  unfold Instr.build
  simp only [Sem.run_bind, hz.h, Result.andThen_ok, run_underlying ht.h, hs]
  rw [Array.toArray_toList] at h
  rw [h]
  rfl
theorem w_buildArr {ps : Array (Nat × Operand)} {m e sz by_ : Nat} {z ze : Value} {zs : List AV} {cs : List PV} [ht : Und P t (.array m e)] [hi : InfoA P e ze sz by_] [hz : ZeroA P t z] (ho : o.op = .build t ps) (h1 : z.cells.toList.all (fun u => u.oneCell') = true)
    (hk : ps.toList.all (fun p => (S.get p.2).vU) = true)
    (hf : fillA (fun i => some (i * sz, sz)) (z.cells.toList.map fun u => .p (.val u)) (ps.toList.map fun p => (p.1, S.get p.2)) = some zs) (hp : pures zs = some cs) (hd : o.dst = some d) (hn : d < n) : zX P n o S [] (.p (.agg cs)) none :=
  zX.pure hd hn fun S2 hg _ M w0 ρ a w hs => by
    have hzs := qC hp
    have hargs : ∀ p ∈ ps.toList, S2.get p.2 = S.get p.2 := fun p hp => hg p.2 (by rw [ho]; simp only [Op.operands, List.mem_map]; exact ⟨p, hp, rfl⟩)
    obtain ⟨us, h3, h2⟩ := fill_rep (fun i => some (i * sz, sz)) S.get a.eval ps.toList _ zs z.cells.toList (parts_ok hs hargs hk) hf (zerosA fun u hu => List.all_eq_true.1 h1 u hu)
    refine ⟨.agg us.toArray, w, ?_, Below.refl _ _, .p (.agg _ _ (by rw [h2.len, hzs]; simp) (fun i c v h3 h4 => qO (h2.each i (.p c) v (by rw [hzs, List.getElem?_map, h3]; rfl) h4)) h2.one)⟩
    unfold execOp
    rw [ho]
    have e1 := run_buildArr (P := P) (t := t) (ps.toList.map fun p => (p.1, a.eval p.2)) w us.toArray h3
    have e2 : (ps.toList.map fun p => (p.1, a.eval p.2)).toArray = ps.map fun p => (p.1, a.eval p.2) := by apply Array.ext'; simp
    rw [e2] at e1
    simp [e1]
end
end Go.Proofs.YtmfbamiciieooaaGreatDoor
/- Own rows of pure elements; rows that are frozen wherever they are spoken of; calls of function values. Generic over the program. -/
namespace Go.Proofs.YtmfbamiciieooaaGreatDoor
set_option maxRecDepth 100000
set_option maxHeartbeats 16000000
open Go Go.RowKit
/-! ### Rows of pure elements -/
def qF (e sz : Nat) (es : List PV) : Blk := .prow e sz es.length (flat es)
theorem qG (e sz : Nat) (es : List PV) : Alike (.row e sz es.length ((flat es).map AV.p)) (qF e sz es) := .rp _ _ _ _
theorem rowV_alike' (e sz : Nat) (es : List PV) : Alike (qF e sz es) (.row e sz es.length ((flat es).map AV.p)) := .pr _ _ _ _
theorem flat_append (xs ys : List PV) : flat (xs ++ ys) = flat xs ++ flat ys := by simp [flat]
section
variable {P : Program} {n : Nat} {o : Oper} {S : AS} {d : Nat} {t : TypeId} {x y : Operand}
theorem w_appV {id e sz by_ : Nat} {z : Value} {cs bs : List PV} [ht : Und P t (.slice e)] [hi : InfoA P e z sz by_] (ho : o.op = .call { callee := .builtin .append, args := #[x, y], argTypes := #[t, t] }) (hx : S.get x = .own id) (hb : S.blk id = some (qF e sz cs))
    (hy : S.get y = .p (.sl bs)) (hes : ∀ e ∈ bs, e.cells.length = sz) (hlim : (cs.length + bs.length) * by_ ≤ 140737488355328 ∧ cs.length + bs.length ≤ maxLen) (hzs : z.cells.size = sz) (hsz : 0 < sz) (hd : o.dst = some d) (hn : d < n) :
    Step P n o S ((S.create id (qF e sz (cs ++ bs))).put d (.own id)) := by
  have h := w_appendP (P := P) (S := S.tag id (.row e sz cs.length ((flat cs).map AV.p))) (o := o) (d := d) ho (by rw [AS.wI]; exact hx) (by rw [AS.xE, if_pos rfl]) (by rw [AS.wI]; exact hy) hes hlim hzs hsz hd hn
  have e1 : Blk.row e sz (cs.length + bs.length) ((flat cs).map AV.p ++ (flat bs).map AV.p) = .row e sz (cs ++ bs).length ((flat (cs ++ bs)).map AV.p) := by
    rw [flat_append, List.map_append, List.length_append]
  rw [e1] at h
  exact h.same (vX hb (rowV_alike' e sz cs)) (((vE hb (qG e sz cs)).create id (qG e sz (cs ++ bs))).put d _)
theorem w_indexV {ix : Operand} {id e ty sz : Nat} {j : Int} {k : IntKind} {es : List PV} {agg : Bool} [ht : Und P t (.slice e)] [he : TyA P e agg sz] (ho : o.op = .indexAddr t x ix) (hx : S.get x = .own id) (hb : S.blk id = some (qF ty sz es)) (hi : S.get ix = .p (.val (.int k j)))
    (hj : 0 ≤ j ∧ j < es.length) (hd : o.dst = some d) (hn : d < n) : zX P n o S [id] (.ptr id (j.toNat * sz)) none :=
  zX.tag hb (rowV_alike' ty sz es) (qG ty sz es) (by simp) (w_indexO (S := S.tag id (.row ty sz es.length ((flat es).map AV.p))) ho (by rw [AS.wI]; exact hx) (by rw [AS.xE, if_pos rfl]) (by rw [AS.wI]; exact hi) hj hd hn)
theorem flat_set {sz : Nat} : ∀ {es : List PV} {i : Nat} {v : PV}, (∀ e ∈ es, e.cells.length = sz) → v.cells.length = sz → i < es.length → splice (flat es) (i * sz) v.cells = flat (es.set i v)
  | [], i, v, _, _, h => by simp at h
  | e :: es, 0, v, he, hv, _ => by
    have h1 := he e (by simp)
    have : flat (e :: es) = e.cells ++ flat es := by simp [flat]
    rw [Nat.zero_mul, this, List.set_cons_zero]
    have h2 : flat (v :: es) = v.cells ++ flat es := by simp [flat]
    rw [h2]
    apply List.ext_getElem?
    intro j
    rw [xV (by simp; omega)]
    by_cases hj : j < v.cells.length
    · rw [if_neg (by omega), if_pos (by omega), List.getElem?_append_left hj, Nat.sub_zero]
    · rw [if_neg (by omega), if_neg (by omega), List.getElem?_append_right (by omega), List.getElem?_append_right (by omega), h1, hv]
  | e :: es, i + 1, v, he, hv, hi => by
    have h1 := he e (by simp)
    have ih := flat_set (es := es) (i := i) (v := v) (fun e h => he e (by simp [h])) hv (by simpa using hi)
    have h3 : flat (e :: es) = e.cells ++ flat es := by simp [flat]
    have h4 : flat ((e :: es).set (i + 1) v) = e.cells ++ flat (es.set i v) := by simp [flat]
    have hfl := flat_len (es := es) (sz := sz) (fun e h => he e (by simp [h]))
    have hi' : i < es.length := by simpa using hi
    have hle : i * sz + sz ≤ (flat es).length := by
      rw [hfl]
      have : (i + 1) * sz ≤ es.length * sz := Nat.mul_le_mul_right _ hi'
      rw [Nat.add_mul] at this
      omega
    rw [h3, h4, ← ih]
    apply List.ext_getElem?
    intro j
    have e1 : (i + 1) * sz = sz + i * sz := by rw [Nat.add_mul]; omega
    rw [xV (by rw [List.length_append, h1, hv, e1]; omega), e1]
    by_cases hj : j < e.cells.length
    · rw [if_pos (show j < sz + i * sz by omega), List.getElem?_append_left hj, List.getElem?_append_left hj]
    · rw [List.getElem?_append_right (by omega), List.getElem?_append_right (by omega), xV (by rw [hv]; omega), h1, hv]
      by_cases h5 : j < sz + i * sz
      · rw [if_pos h5, if_pos (show j - sz < i * sz by omega)]
      · rw [if_neg h5, if_neg (show ¬ j - sz < i * sz by omega)]
        by_cases h6 : j < sz + i * sz + sz
        · rw [if_pos h6, if_pos (show j - sz < i * sz + sz by omega)]
          congr 1
          omega
        · rw [if_neg h6, if_neg (show ¬ j - sz < i * sz + sz by omega)]
theorem splice_map {α β : Type} (f : α → β) (l : List α) (o : Nat) (v : List α) : splice (l.map f) o (v.map f) = (splice l o v).map f := by simp [splice, List.map_take, List.map_drop]
theorem w_storeV {id off i e sz : Nat} {es : List PV} {v : PV} {agg : Bool} [h : TyA P t agg sz] (ho : o.op = .store t x y) (hx : S.get x = .ptr id off) (hb : S.blk id = some (qF e sz es)) (hy : S.get y = .p v) (hk : (AV.p v).vU = true) (hes : ∀ e ∈ es, e.cells.length = sz) (hv : v.cells.length = sz) (hoff : off = i * sz) (hi : i < es.length) (hd : o.dst = none) :
    Step P n o S (S.tag id (qF e sz (es.set i v))) := by
  subst hoff
  have hfl := flat_len hes
  have hle : i * sz + sz ≤ (flat es).length := by
    rw [hfl]
    have : (i + 1) * sz ≤ es.length * sz := Nat.mul_le_mul_right _ hi
    rw [Nat.add_mul] at this
    omega
  have h1 := yT (P := P) (n := n) (S := S.tag id (.row e sz es.length ((flat es).map AV.p))) (o := o) (agg := agg) (m := sz) ho (by rw [AS.wI]; exact hx) (by rw [AS.xE, if_pos rfl]) (by rw [AS.wI, hy]) hk (by show (v.cells.map AV.p).length = sz; rw [List.length_map, hv]) (by show i * sz + sz ≤ ((flat es).map AV.p).length; rw [List.length_map]; exact hle) rfl hd
  have e1 : (Blk.row e sz es.length ((flat es).map AV.p)).setXs (splice (Blk.row e sz es.length ((flat es).map AV.p)).xs (i * sz) (AV.p v).xH) = .row e sz (es.set i v).length ((flat (es.set i v)).map AV.p) := by
    show Blk.row e sz es.length (splice ((flat es).map AV.p) (i * sz) (v.cells.map AV.p)) = _
    rw [splice_map, flat_set hes hv hi, List.length_set]
  rw [e1] at h1
  refine h1.same (vX hb (rowV_alike' e sz es)) ⟨fun _ => rfl, fun j => ?_⟩
  show (if id = j then some _ else if id = j then some _ else S.blk j) = none ∧ (if id = j then some _ else S.blk j) = none ∨ ∃ b b', (if id = j then some _ else if id = j then some _ else S.blk j) = some b ∧ (if id = j then some _ else S.blk j) = some b' ∧ Alike b b'
  by_cases hj : id = j
  · subst hj
    rw [if_pos rfl, if_pos rfl]
    exact .inr ⟨_, _, rfl, rfl, qG e sz (es.set i v)⟩
  · rw [if_neg hj, if_neg hj, if_neg hj]
    cases S.blk j with
    | none => exact .inl ⟨rfl, rfl⟩
    | some b => exact .inr ⟨b, b, rfl, rfl, .refl b⟩
theorem flat_at {sz : Nat} {es : List PV} (hes : ∀ e ∈ es, e.cells.length = sz) {i : Nat} {c : PV} (hc : es[i]? = some c) : ((flat es).drop (i * sz)).take sz = c.cells := flat_get hes hc
theorem w_loadVN {id off i e sz : Nat} {es cs : List PV} [h : TyA P t true sz] (ho : o.op = .load t x) (hx : S.get x = .ptr id off) (hb : S.blk id = some (qF e sz es)) (hes : ∀ e ∈ es, e.cells.length = sz) (hoff : off = i * sz) (hc : es[i]? = some (.agg cs)) (hd : o.dst = some d) (hn : d < n) : zX P n o S [id] (.p (.agg cs)) none := by
  subst hoff
  refine a_loadRN (b := qF e sz es) ho hx hb ?_ (hes _ (List.mem_of_getElem? hc)) h.ag h.sz hd hn
  show (((flat es).map AV.p).drop (i * sz)).take sz = cs.map AV.p
  rw [← List.map_drop, ← List.map_take, flat_at hes hc]
  rfl
theorem flat_rep {zp : PV} {sz : Nat} (hz : zp.cells.length = sz) (hsz : 0 < sz) : ∀ {m j : Nat}, j < m * sz → (flat (List.replicate m zp))[j]? = zp.cells[j % sz]?
  | 0, j, h => by omega
  | m + 1, j, h => by
    have e : flat (List.replicate (m + 1) zp) = zp.cells ++ flat (List.replicate m zp) := by simp [flat, List.replicate_succ]
    rw [e]
    by_cases hj : j < sz
    · rw [List.getElem?_append_left (by omega), Nat.mod_eq_of_lt hj]
    · rw [Nat.add_mul] at h
      rw [List.getElem?_append_right (by omega), hz, flat_rep hz hsz (by omega), Nat.mod_eq_sub_mod (show sz ≤ j by omega)]
theorem w_makeV {e sz by_ m : Nat} {k : IntKind} {z : Value} {xl xc : Operand} [ht : Und P t (.slice e)] [hi : InfoA P e z sz by_] (ho : o.op = .makeSlice t xl xc) (hl : S.get xl = .p (.val (.int k (m : Int)))) (hc : S.get xc = .p (.val (.int k (m : Int)))) (hlim : m * sz ≤ 16777216 ∧ by_ * m ≤ 281474976710656 ∧ m ≤ maxLen)
    (hzs : z.cells.size = sz) (hsz : 0 < sz) {zp : PV} (hzp : zp.cells = z.cells.toList.map PV.val) (h1 : z.cells.toList.all (fun u => u.oneCell') = true) (hd : o.dst = some d) (hn : d < n) : zX P n o S [] (.own d) (some (qF e sz (List.replicate m zp))) :=
  zX.made hd hn fun S2 hg _ M w0 ρ a w hs => by
    have r1 := hs.val ((hg xl (by rw [ho]; simp [Op.operands])).trans hl)
    have r2 := hs.val ((hg xc (by rw [ho]; simp [Op.operands])).trans hc)
    obtain ⟨i, hi1, hi2⟩ := Option.map_eq_some_iff.1 hi.h
    simp only [Prod.mk.injEq] at hi2
    obtain ⟨hz, hisz, hiby⟩ := hi2
    obtain ⟨w', hr, hown, hgr⟩ := run_makeSlice_full (P := P) w 0 t e i z sz ht.h hi1 hz hisz k k m hlim.1 (by rw [hiby]; exact hlim.2.1) hlim.2.2 (Nat.zero_le _)
    refine ⟨.slice (some ⟨w.heap.size, 0, none⟩) m m, w', ?_, hgr, fun k hk => ?_, ?_, .inl rfl⟩
    · unfold execOp
      rw [ho]
      simp only [r1, r2, Sem.run_bind, hr]
      rfl
    · simp only [zU, Option.some.injEq] at hk; omega
    · have hlen : (madeCells z.cells (m * sz)).toList.length = m * sz := by rw [Array.length_toList, size_madeCells]
      have hzl : z.cells.toList.length = sz := by rw [Array.length_toList]; exact hzs
      have hat : ∀ j, j < m * sz → (madeCells z.cells (m * sz)).toList[j]? = z.cells.toList[j % sz]? := fun j hj => by
        have hjs : j % sz < z.cells.size := by rw [hzs]; exact Nat.mod_lt _ hsz
        simp only [madeCells, Array.toList_map, Array.toList_range, List.getElem?_map, List.getElem?_range hj, Option.map_some, Array.getElem?_toList, hzs]
        rw [getElem!_pos z.cells _ hjs, Array.getElem?_eq_getElem hjs]
      have hfl : flat (List.replicate m zp) = (madeCells z.cells (m * sz)).toList.map PV.val := by
        apply List.ext_getElem?
        intro j
        by_cases hj : j < m * sz
        · rw [flat_rep (sz := sz) (by rw [hzp, List.length_map, hzl]) hsz hj, hzp, List.getElem?_map, List.getElem?_map, hat j hj]
        · rw [List.getElem?_eq_none (l := (madeCells z.cells (m * sz)).toList.map PV.val) (by rw [List.length_map, hlen]; omega), List.getElem?_eq_none]
          rw [flat_len (sz := sz) (fun e he => by rw [List.eq_of_mem_replicate he, hzp, List.length_map, hzl]), List.length_replicate]
          omega
      refine ⟨_, by rw [List.length_replicate]; exact hown, ⟨by rw [hfl, List.length_map, List.length_map], fun j c v h2 h3 => ?_, fun v hv => ?_⟩⟩
      · rw [hfl, List.map_map, List.getElem?_map, h3] at h2
        cases h2
        exact .p (.val _)
      · obtain ⟨j, hj⟩ := List.getElem?_of_mem hv
        have hjl : j < m * sz := by
          have := (List.getElem?_eq_some_iff.1 hj).1
          rw [hlen] at this
          exact this
        rw [hat j hjl] at hj
        exact List.all_eq_true.1 h1 v (List.mem_of_getElem? hj)
end
end Go.Proofs.YtmfbamiciieooaaGreatDoor
/- Rows that are frozen wherever they are spoken of; rows that are lent and grow; calls of function values; arrays. Generic over the program. -/
namespace Go.Proofs.YtmfbamiciieooaaGreatDoor
set_option maxRecDepth 100000
set_option maxHeartbeats 16000000
open Go Go.RowKit
/-! ### Frozen wherever it is spoken of -/
def AV.frz (id : Nat) (x : PV) : AV → AV
  | .own j => if j = id then .p x else .own j
  | y => y.kill id
def Blk.frz (id : Nat) (x : PV) : Blk → Blk
  | .row t s n xs => .row t s n (xs.map (AV.frz id x))
  | .prow t s n xs => .prow t s n xs
  | .box t xs => .box t (xs.map (AV.frz id x))
  | .lent t s n xs => .lent t s n xs
  | .obj mp Q => .obj mp Q
def AS.frz (S : AS) (id : Nat) (x : PV) : AS := { t := S.t.map fun p => (p.1, p.2.frz id x), s := (dropL S.s id).map fun p => (p.1, p.2.frz id x) }
theorem AS.tmp_frz (S : AS) (id : Nat) (x : PV) (i : Nat) : (S.frz id x).tmp i = (S.tmp i).frz id x := by
  simp only [AS.tmp, AS.frz, look_map]
  cases look S.t i <;> rfl
theorem AS.blk_frz (S : AS) (id : Nat) (x : PV) (j : Nat) : (S.frz id x).blk j = if id = j then none else (S.blk j).map (Blk.frz id x) := by
  simp only [AS.blk, AS.frz, look_map, look_dropL]
  by_cases hj : id = j
  · rw [if_pos hj, if_pos hj]; rfl
  · rw [if_neg hj, if_neg hj]
theorem Blk.turns_frz (b : Blk) (id : Nat) (x : PV) (c : Nat) : (b.frz id x).turns c ↔ b.turns c := by cases b <;> exact Iff.rfl
theorem yY.frz {M : Nat → Nat → Prop} {ρ : Nat → Value} {w : World} {y : AV} {v : Value} {id : Nat} {x : PV} (h : yY M ρ w y v) (hx : Rep M w x (ρ id)) : yY M ρ w (y.frz id x) v := by
  have hk := h.killed id (ρ id)
  rw [upd_self] at hk
  cases y with
  | own j =>
    show yY M ρ w (if j = id then .p x else .own j) v
    by_cases hj : j = id
    · subst hj
      rw [if_pos rfl, vD h]
      exact .p hx
    · rw [if_neg hj]
      exact h
  | _ => exact hk
theorem yA.frz {M : Nat → Nat → Prop} {ρ : Nat → Value} {w : World} {xs : List AV} {ys : List Value} {id : Nat} {x : PV} (h : yA M ρ w xs ys) (hx : Rep M w x (ρ id)) : yA M ρ w (xs.map (AV.frz id x)) ys :=
  ⟨by simp [h.len], fun i c v hc hv => by
    rw [List.getElem?_map, Option.map_eq_some_iff] at hc
    obtain ⟨c', hc', rfl⟩ := hc
    exact (h.each i c' v hc' hv).frz hx, h.one⟩
section
variable {M : Nat → Nat → Prop} {n : Nat} {w0 : Home} {w w' : World} {S : AS} {ρ : Nat → Value} {a : Act}
theorem Mut.frz {id k c : Nat} {x : PV} (h : Mut M (S.frz id x) ρ k c) : Mut M (S.drop id) ρ k c := by
  rcases h with h | ⟨j, b, hb, hk, ht⟩
  · exact .inl h
  · rw [AS.blk_frz] at hb
    split at hb
    · cases hb
    · rename_i hne
      obtain ⟨b1, h1, rfl⟩ := Option.map_eq_some_iff.1 hb
      exact .inr ⟨j, b1.kill id, by rw [AS.xR, if_neg hne, h1]; rfl, hk, (Blk.turns_kill b1 id c).2 ((Blk.turns_frz b1 id x c).1 ht)⟩
theorem Sat.frz_of (h : Sat M n w0 S ρ a w) {id : Nat} {x : PV} (hx : Rep (Mut M (S.drop id) ρ) w x (ρ id)) : Sat M n w0 (S.frz id x) ρ a w := by
  have hx' : Rep (Mut M (S.frz id x) ρ) w x (ρ id) := hx.mono fun _ _ _ hk => Mut.frz hk
  have hm : ∀ k c, k < w.heap.size → Mut M (S.frz id x) ρ k c → Mut M S ρ k c := fun k c _ hk => Mut.drop (Mut.frz hk)
  refine ⟨h.below, h.out, h.tab, h.size, h.defers, fun i => ?_, fun j b hb => ?_, fun j b k hb hk => ?_, h.fix, h.free, fun i j bi bj k hi hj => ?_⟩
  · rw [AS.tmp_frz]
    exact ((h.tmps i).mono hm).frz hx'
  · rw [AS.blk_frz] at hb
    split at hb
    · cases hb
    · obtain ⟨b1, h1, rfl⟩ := Option.map_eq_some_iff.1 hb
      have := h.blks j b1 h1
      cases b1 with
      | row t size m xs =>
        obtain ⟨ys, ho, hc⟩ := this
        exact ⟨ys, ho, (hc.mono hm).frz hx'⟩
      | prow t size m xs =>
        obtain ⟨ys, ho, hc⟩ := this
        exact ⟨ys, ho, hc.mono hm⟩
      | lent t size m xs =>
        obtain ⟨ys, ho, hc⟩ := this
        exact ⟨ys, ho, hc.mono hm⟩
      | obj mp Q => exact this
      | box t xs =>
        obtain ⟨g, ys, hv, hg, hh, hc⟩ := this
        exact ⟨g, ys, hv, hg, hh, (hc.mono hm).frz hx'⟩
  · rw [AS.blk_frz] at hb
    split at hb
    · cases hb
    · obtain ⟨b1, h1, _⟩ := Option.map_eq_some_iff.1 hb
      exact h.mine j b1 k h1 hk
  · rw [AS.blk_frz] at hi hj
    split at hi
    · cases hi
    · split at hj
      · cases hj
      · obtain ⟨b1, h1, _⟩ := Option.map_eq_some_iff.1 hi
        obtain ⟨b2, h2, _⟩ := Option.map_eq_some_iff.1 hj
        exact h.dist i j b1 b2 k h1 h2
end
theorem sub_frz {S : AS} {id e sz : Nat} {es : List PV} (hb : S.blk id = some (qF e sz es)) : Sub S (S.frz id (.sl es)) :=
  fun M n w0 ρ a w hs => by
    refine ⟨ρ, hs.frz_of ?_⟩
    have h1 := ((vX hb (rowV_alike' e sz es)).sat hs).frozen (id := id) (es := es) (by rw [AS.xE, if_pos rfl]) rfl
    refine h1.mono fun k c _ hk => ?_
    rcases hk with hk | ⟨j, b, hj, hk, ht⟩
    · exact .inl hk
    · rw [AS.xR] at hj
      split at hj
      · cases hj
      · rename_i hne
        refine .inr ⟨j, b, ?_, hk, ht⟩
        rw [AS.xR, if_neg hne, AS.xE, if_neg hne]
        exact hj
/-! ### Rows that are lent -/
def lentV (e sz : Nat) (es : List PV) : Blk := .lent e sz es.length (flat es)
theorem sub_lend {S : AS} {id e sz : Nat} {es : List PV} (hb : S.blk id = some (qF e sz es)) : Sub S (S.tag id (lentV e sz es)) :=
  fun M n w0 ρ a w h => by
    have hm : ∀ k c, k < w.heap.size → Mut M (S.tag id (lentV e sz es)) ρ k c → Mut M S ρ k c := fun k c _ hk => by
      rcases hk with hk | ⟨j, b, hj, hk, ht⟩
      · exact .inl hk
      · rw [AS.xE] at hj
        split at hj
        · rename_i he
          subst he
          exact .inr ⟨id, _, hb, hk, trivial⟩
        · exact .inr ⟨j, b, hj, hk, ht⟩
    have some_of : ∀ j b, (S.tag id (lentV e sz es)).blk j = some b → ∃ b1, S.blk j = some b1 := fun j b hj => by
      rw [AS.xE] at hj
      split at hj
      · rename_i he; subst he; exact ⟨_, hb⟩
      · exact ⟨b, hj⟩
    refine ⟨ρ, h.below, h.out, h.tab, h.size, h.defers, fun i => (h.tmps i).mono hm, fun j b hj => ?_, fun j b k hj hk => ?_, h.fix, h.free, fun i j bi bj k hi hj => ?_⟩
    · rw [AS.xE] at hj
      split at hj
      · rename_i he
        subst he
        obtain rfl := Option.some.inj hj
        obtain ⟨ys, ho, hc⟩ := h.blks id _ hb
        exact ⟨ys, ho, hc.mono hm⟩
      · have := h.blks j b hj
        cases b with
        | row t size m xs => obtain ⟨ys, ho, hc⟩ := this; exact ⟨ys, ho, hc.mono hm⟩
        | prow t size m xs => obtain ⟨ys, ho, hc⟩ := this; exact ⟨ys, ho, hc.mono hm⟩
        | lent t size m xs => obtain ⟨ys, ho, hc⟩ := this; exact ⟨ys, ho, hc.mono hm⟩
        | obj mp Q => exact this
        | box t xs => obtain ⟨g, ys, hv, hg, hh, hc⟩ := this; exact ⟨g, ys, hv, hg, hh, hc.mono hm⟩
    · obtain ⟨b1, h1⟩ := some_of j b hj
      exact h.mine j b1 k h1 hk
    · obtain ⟨b1, h1⟩ := some_of i bi hi
      obtain ⟨b2, h2⟩ := some_of j bj hj
      exact h.dist i j b1 b2 k h1 h2
/-- what is lent reads as a slice that nobody turns -/
theorem Sat.lentRep {M : Nat → Nat → Prop} {n : Nat} {w0 : Home} {w : World} {S : AS} {ρ : Nat → Value} {a : Act} (h : Sat M n w0 S ρ a w) {id e sz : Nat} {es : List PV} (hb : S.blk id = some (lentV e sz es)) : Rep (Mut M S ρ) w (.sl es) (ρ id) := by
  obtain ⟨ys, ho, hc⟩ := h.blks id _ hb
  have hyl : ys.length = es.length * sz := ho.1
  rcases ho.2 with ⟨hv, hm0⟩ | ⟨g, cap, cur, hv, hg, hh, hn, hcm, hs, ht⟩
  · rw [hv]
    have : es = [] := List.eq_nil_of_length_eq_zero hm0
    subst this
    exact .nil
  · rw [hv]
    have hgm : zU (ρ id) = some g := by rw [hv]; rfl
    refine .sl es g 0 es.length cap ys rfl (by simpa using hc.len) (fun j y hy => ?_) (fun j c y hcj hy => ?_) hc.one ?_ (Array.getElem?_eq_some_iff.1 hh).1 hn hcm
    · rw [Nat.zero_add, cell_of_row w g j cur e (0, 0) hh]
      rw [← ht, List.getElem?_take] at hy
      split at hy
      · simpa using hy
      · cases hy
    · exact qO (hc.each j (.p c) y (by rw [List.getElem?_map, hcj]; rfl) hy)
    · rintro i hi (hk | ⟨j, b, hbj, hkj, htj⟩)
      · exact h.out g _ hk (h.mine id _ g hb hgm)
      · have := h.dist id j _ b g hb hbj hgm hkj
        subst this
        rw [hb] at hbj
        obtain rfl := Option.some.inj hbj
        have : es.length * sz ≤ 0 + i := htj
        omega
theorem sub_view {S : AS} {d id e sz : Nat} {es : List PV} (hd : S.tmp d = .own id) (hb : S.blk id = some (lentV e sz es)) : Sub S (S.put d (.p (.sl es))) :=
  fun M n w0 ρ a w hs => by
    refine ⟨ρ, hs.retype (.p ?_)⟩
    have h1 := hs.tmps d
    rw [hd] at h1
    rw [vD h1]
    exact hs.lentRep hb
end Go.Proofs.YtmfbamiciieooaaGreatDoor
