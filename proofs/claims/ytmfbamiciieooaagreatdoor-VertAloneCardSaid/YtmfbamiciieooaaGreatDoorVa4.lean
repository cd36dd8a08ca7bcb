/- Operations on vertices that step alone, one behind the other, by any threads, answer as a set of vertices does. (Part 4 of 10.) -/
import Derived.Test.YtmfbamiciieooaaGreatDoorVa3
import Derived.Laws.BitsAllLaws
import Derived.Laws.OwnMore
import Derived.ArgAppend
import Derived.Laws.Cover3
import Derived.Deep.Upon
/- Calls, with what is found by itself. Generic over the program. -/
namespace Go.Proofs.YtmfbamiciieooaaGreatDoor
set_option maxRecDepth 100000
set_option maxHeartbeats 16000000
open Go Go.RowKit
set_option linter.unusedVariables false
section
variable {P : Program} {n : Nat} {o : Oper} {S : AS} {d : Nat} {K : Exit → AS → Prop}
theorem enA {f : FuncId} {avs : List AV} (h : Enters P o S f avs := by first | exact enters_fn rfl | exact enters_clo rfl rfl | exact enters_val rfl rfl | exact enters_mp rfl rfl | exact enters_mv rfl rfl rfl rfl) : Enters P o S f avs := h
theorem haA {ids : List Nat} {B : List Blk} (h : Hands S ids B := by exact vR (by decide) rfl (by repeat' first | exact trivial | rfl | constructor)) : Hands S ids B := h
/-- a call that ends -/
theorem zG.eR {f : FuncId} {avs xs : List AV} {B B' : List Blk} {rx : AV} {N : AS → Prop} (ids : List Nat) (hf : FnE P f xs B (.ret rx) B') (k : N ((S.after ids B').put d (rx.ren (sig ids)))) (hd : o.dst = some d := by rfl) (hn : d < n := by decide) (he : Enters P o S f avs := by exact enA) (hx : avs = xs.map (AV.ren (sig ids)) := by rfl) (hh : Hands S ids B := by exact haA)
    (hl : B'.length = B.length := by rfl) (hok : B'.all (Blk.okE B.length) = true := by rfl) (hxs : xs.all (AV.okE B.length) = true := by rfl) (hrx : rx.okE B.length = true := by rfl) : zG P n o S K N := zG.eRet ids hf hd hn he hx hh hl hok hxs hrx k
/-- a call that panics -/
theorem zG.eP {f : FuncId} {avs xs : List AV} {B B' : List Blk} {rx : AV} {N : AS → Prop} (ids : List Nat) (hf : FnE P f xs B (.pan rx) B') (k : K (.panic []) { S.after ids B' with x := rx.ren (sig ids) }) (he : Enters P o S f avs := by exact enA) (hx : avs = xs.map (AV.ren (sig ids)) := by rfl) (hh : Hands S ids B := by exact haA)
    (hl : B'.length = B.length := by rfl) (hok : B'.all (Blk.okE B.length) = true := by rfl) (hxs : xs.all (AV.okE B.length) = true := by rfl) (hrx : rx.okE B.length = true := by rfl) : zG P n o S K N := zG.ePan ids hf he hx hh hl hok hxs hrx k
end
section
variable {n : Nat} {o : Oper} {S : AS} {d : Nat} {K : Exit → AS → Prop}
/-- a call of what makes accesses -/
theorem zG.hd {α : Type} {f0 : FuncId} {avs xs : List AV} {bk : List Blk} {res : α → AV} {bk' : α → List Blk} {good : α → Prop} {H : Hnd} {s : H.σ} {p0 : Pr α} {N : AS → Prop} (i : List Nat) (hd : o.dst = some d := by rfl) (hn : d < n := by decide) (he : Enters Tryz.prog o S f0 avs := by exact enA)
    (hx : avs = xs.map (AV.ren (sig (1000 :: 1001 :: 1002 :: i))) := by rfl) (hnd : (1000 :: 1001 :: 1002 :: i).Nodup := by decide)
    (h0 : S.blk 1000 = some (H.b0 s) := by first | rfl | exact xB rfl (H.nk _).1 (by repeat' first | exact KB.refl | apply KB.kill | decide)) (h1 : S.blk 1001 = some (H.b1 s) := by first | rfl | exact xB rfl (H.nk _).2.1 (by repeat' first | exact KB.refl | apply KB.kill | decide)) (h2 : S.blk 1002 = some (H.b2 s) := by first | rfl | exact xB rfl (H.nk _).2.2 (by repeat' first | exact KB.refl | apply KB.kill | decide))
    (hat : AtB S (1000 :: 1001 :: 1002 :: i) i bk := by repeat' first | exact trivial | rfl | constructor) (hbk : bk.all (Blk.okE (bk.length + 3)) = true := by rfl) (hxs : xs.all (AV.okE (bk.length + 3)) = true := by rfl) (hrx : ∀ x, (res x).okE (bk.length + 3) = true := by exact fun _ => rfl)
    (hbk' : ∀ x, (bk' x).length = bk.length ∧ (bk' x).all (Blk.okE (bk.length + 3)) = true := by exact fun _ => ⟨rfl, rfl⟩) (hok : H.ok s := by assumption) (f : FnH H f0 xs bk res bk' good s p0)
    (r : ∀ x s', p0.run H.st s = .done x s' → good x → H.ok s' → N (({ S with s := vH (1000 :: 1001 :: 1002 :: i) (H.b0 s' :: H.b1 s' :: H.b2 s' :: (bk' x).map (Blk.ren (sig (1000 :: 1001 :: 1002 :: i)))) S.s } : AS).put d ((res x).ren (sig (1000 :: 1001 :: 1002 :: i)))))
    (p : ∀ q s', p0.run H.st s = .need q s' → K (.panic []) { S with s := vH (1000 :: 1001 :: 1002 :: i) (H.b0 s' :: H.b1 s' :: H.b2 s' :: (bk.map Blk.forget).map (Blk.ren (sig (1000 :: 1001 :: 1002 :: i)))) S.s, x := needA (accQ q) })
    (t : p0.run H.st s ≠ .stuck) : zG Tryz.prog n o S K N := zG.held H i hd hn he hx hnd h0 h1 h2 hat hbk hxs hrx hbk' hok f r p t
end
end Go.Proofs.YtmfbamiciieooaaGreatDoor
/- The accesses of play, whatever makes them; and by a log: contracts. -/
namespace Go.Proofs.YtmfbamiciieooaaGreatDoor
set_option maxRecDepth 100000
set_option maxHeartbeats 16000000
open Go Go.RowKit
set_option linter.unusedSimpArgs false
set_option linter.unusedVariables false
attribute [local irreducible] zY zZ Step zX Sub zD zG Fn
theorem do_ret3 (L : List xO) (i : Nat) (r : xO) (hr : L[i]? = some r) (hL : L.length ≤ 1000000) (kind cell a b : Int) (data : PV) :
    FnE Tryz.prog 47 [.p (accV kind cell a b data), .ptr 1000 0, .ptr 1001 0] [atB i, logB L, isB false] (.ret (.p (resV r))) [atB (i + 1), logB L, isB false] := by
  have hi : i < L.length := (List.getElem?_eq_some_iff.1 hr).1
  have g1 : decide ((i : Int) = ((L.map resV).length : Int)) = false := decide_eq_false (by simp; omega)
  have g2 : IntKind.i64.wrap ((i : Int) + 1) = ((i + 1 : Nat) : Int) := by rw [wrap_i64 _ (by omega)]; omega
  have g3 : IntKind.i64.wrap (((i + 1 : Nat) : Int) - 1) = (i : Int) := by rw [wrap_i64 _ (by omega)]; omega
  have g4 := resV_cells L
  have g5 : (L.map resV)[i]? = some (resV r) := by rw [List.getElem?_map, hr]; rfl
  refine fn_ofE Tryz.func47 rfl Tryz.ntmps47 (Nat.le_of_ble_eq_true rfl) (by decide) ?_
  repeat' (first | (refine zY.nil ?_) | (refine zZ.is ?_; first | refine zZ.seq ?_ | (refine zZ.isR (id := 0) ?_; refine zZ.rc [0, 1, 2] [3, 4, 1000, 1001, 1002] (r := (.m yT (.m zT .e))) (h := ?_)) | (refine zZ.isR (id := 1) ?_; refine zZ.rc [1, 2, 3, 4] [3, 4, 1000, 1001, 1002] (r := (.v zO (.v zO (.v v57_1 (.v v41_0 .e))))) (h := ?_)) | (refine zZ.isR (id := 3) ?_; refine zZ.rc [1, 2, 4] [3, 4, 1000, 1001, 1002] (r := (.v zO (.v wM (.w zS .e)))) (h := ?_)) | (refine zZ.isR (id := 4) ?_; refine zZ.rc [1, 2, 4] [3, 4, 1000, 1001, 1002] (r := (.v zO (.v zO (.v v31_0 (.v v7_18 (.v v2_7 (.w zS .e))))))) (h := ?_)) | refine zZ.yG rfl bA ?_ | refine zZ.skip ?_ | refine zZ.ret ?_))
  all_goals exact ⟨.inl rfl, _, Sub.refl _, .p (r := .cell 4 55) rfl (.cellN rfl rfl (by rfl) (by rfl)), wU (by repeat' first | exact trivial | rfl | constructor)⟩
theorem do_pan3 (L : List xO) (_ : L.length ≤ 1000000) (kind cell a b : Int) (data : PV) :
    FnE Tryz.prog 47 [.p (accV kind cell a b data), .ptr 1000 0, .ptr 1001 0] [atB L.length, logB L, isB false] (.pan (needA (accV kind cell a b data))) [atB L.length, logB L, isB false] := by
  have g1 : decide ((L.length : Int) = ((L.map resV).length : Int)) = true := decide_eq_true (by simp)
  refine fn_ofE Tryz.func47 rfl Tryz.ntmps47 (Nat.le_of_ble_eq_true rfl) (by decide) ?_
  repeat' (first | (refine zY.is ?_; first | refine zY.nil ?_ | refine zY.ofT rfl (zG.panic rfl rfl ?_)) | (refine zZ.is ?_; first | refine zZ.seq ?_ | (refine zZ.isR (id := 0) ?_; refine zZ.rc [0, 1, 2] [3, 4, 1000, 1001, 1002] (r := (.m yT (.m zT .e))) (h := ?_)) | (refine zZ.isR (id := 1) ?_; refine zZ.rc [1, 2, 3, 4] [3, 4, 1000, 1001, 1002] (r := (.v zO (.v zO (.v v57_1 (.v v41_0 .e))))) (h := ?_)) | (refine zZ.isR (id := 2) ?_; refine zZ.rc [1, 2, 3, 4] [3, 4, 1000, 1001, 1002] (r := (.v xU (.v xV (.v v13_0 .e)))) (h := ?_)) | refine zZ.yN rfl bA ?_))
  all_goals exact ⟨rfl, rfl, wU (by repeat' first | exact trivial | rfl | constructor)⟩
/-- a log -/
def hLog (L : List xO) (hL : LogOK L) : Hnd where
  σ := Nat
  fn := 47
  b0 := atB
  b1 := fun _ => logB L
  b2 := fun _ => isB false
  ok := fun i => i ≤ L.length
  st := vU L
  stOK := stOK_log hL
  has := inferInstance
  okE := fun _ _ _ => ⟨rfl, rfl, rfl⟩
  ren := fun _ _ => ⟨rfl, rfl, rfl⟩
  nk := fun _ => ⟨fun _ _ => rfl, fun _ _ => rfl, fun _ _ => rfl⟩
  doOK := fun i q hi _ => by
    cases e : L[i]? with
    | some r =>
      have m : vU L i q = .ret r (i + 1) := by unfold vU; rw [e]
      rw [m]
      exact do_ret3 L i r e hL.1 q.kind q.cell q.a q.b q.d
    | none =>
      have m : vU L i q = .need q L.length := by unfold vU; rw [e]
      have hl : i = L.length := by have := List.getElem?_eq_none_iff.1 e; have : i ≤ L.length := hi; omega
      rw [m]
      subst hl
      exact do_pan3 L hL.1 q.kind q.cell q.a q.b q.d
/-! ### The accesses -/
theorem qZ (H : Hnd) (s0 : H.σ) (c : Int) : FnH H 56 [H.doA, .p (.val (.int .i64 c))] [] (fun x => .p (.val (.int .u64 x))) (fun _ => []) U s0 (xD c) := by
  unfold Hnd.doA
  refine yH Tryz.func56 rfl Tryz.ntmps56 (Nat.le_of_ble_eq_true rfl) (by decide) (yQ c) fun hok hns => ?_
  repeat' (first | (refine zY.is ?_; first | refine zY.nil ?_ | (refine zY.at_ 9 rfl ?_; refine zY.rc (.v v11_0 (.v zB .e)) ?_) | (refine zY.in_ [8] rfl ?_; refine zY.ofT rfl (zG.hd (i := []) (f := do_h H s0 (wS 0 c 0 0 xZ) (yQ c).1) (r := fun x s e g hk => ?_) (p := fun q s e => ?_) (t := ?_)))) | (refine zZ.is ?_; first | refine zZ.seq ?_ | (refine zZ.isR (id := 0) ?_; refine zZ.rc [0, 1] [1000, 1001, 1002] (r := (.v zB .e)) (h := ?_)) | (refine zZ.isR (id := 1) ?_; refine zZ.rc [0, 1, 4] [1000, 1001, 1002] (r := (.v xJ (.v zV (.v xV .e)))) (h := ?_)) | refine zZ.ret ?_))
  all_goals first
    | exact fun e => absurd (by show (Pr.bind (.ask (wS 0 c 0 0 xZ) .ret) fun r : xO => .ret r.n).run H.st s0 = _; rw [run_bind, e]; rfl) hns
    | exact .pan (q := q) rfl (by repeat' first | exact trivial | rfl | constructor) (by repeat' exact trivial) (by show (Pr.bind (.ask (wS 0 c 0 0 xZ) .ret) fun r : xO => .ret r.n).run H.st s0 = _; rw [run_bind, e]; rfl)
    | exact .ret (by exact .inl rfl) (.one rfl rfl) (by repeat' first | exact trivial | rfl | constructor) (by show (Pr.bind (.ask (wS 0 c 0 0 xZ) .ret) fun r : xO => .ret r.n).run H.st s0 = _; rw [run_bind, e]; rfl)
theorem qR (H : Hnd) (s0 : H.σ) (c v : Int) (hv : U v) : FnH H 64 [H.doA, .p (.val (.int .i64 c)), .p (.val (.int .u64 v))] [] (fun _ => .any) (fun _ => []) yes s0 (vT c v) := by
  unfold Hnd.doA
  refine yH Tryz.func64 rfl Tryz.ntmps64 (Nat.le_of_ble_eq_true rfl) (by decide) (vJ c hv) fun hok hns => ?_
  repeat' (first | (refine zY.is ?_; first | refine zY.nil ?_ | (refine zY.in_ [10] rfl ?_; refine zY.ofT rfl (zG.hd (i := []) (f := do_h H s0 (wS 1 c v 0 xZ) (vJ c hv).1) (r := fun x s e g hk => ?_) (p := fun q s e => ?_) (t := ?_)))) | (refine zZ.is ?_; (refine zZ.isR (id := 0) ?_; refine zZ.rc [0, 1, 2] [1000, 1001, 1002] (r := (.v xJ (.v zV (.v zV (.v xV .e))))) (h := ?_))))
  all_goals first
    | exact fun e => absurd (by show (Pr.bind (.ask (wS 1 c v 0 xZ) .ret) fun r : xO => .ret ()).run H.st s0 = _; rw [run_bind, e]; rfl) hns
    | exact .pan (q := q) rfl (by repeat' first | exact trivial | rfl | constructor) (by repeat' exact trivial) (by show (Pr.bind (.ask (wS 1 c v 0 xZ) .ret) fun r : xO => .ret ()).run H.st s0 = _; rw [run_bind, e]; rfl)
    | exact .ret (by exact .inr rfl) (.none rfl) (by repeat' first | exact trivial | rfl | constructor) (by show (Pr.bind (.ask (wS 1 c v 0 xZ) .ret) fun r : xO => .ret ()).run H.st s0 = _; rw [run_bind, e]; rfl)
theorem cas_h (H : Hnd) (s0 : H.σ) (c a b : Int) (ha : U a) (hb : U b) : FnH H 88 [H.doA, .p (.val (.int .i64 c)), .p (.val (.int .u64 a)), .p (.val (.int .u64 b))] [] (fun x => .p (.val (.bool x))) (fun _ => []) yes s0 (casP c a b) := by
  unfold Hnd.doA
  refine yH Tryz.func88 rfl Tryz.ntmps88 (Nat.le_of_ble_eq_true rfl) (by decide) (vD c ha hb) fun hok hns => ?_
  repeat' (first | (refine zY.is ?_; first | refine zY.nil ?_ | (refine zY.at_ 15 rfl ?_; refine zY.rc (.v v11_0 (.v v41_8 (.v zB .e))) ?_) | (refine zY.in_ [14] rfl ?_; refine zY.ofT rfl (zG.hd (i := []) (f := do_h H s0 (wS 2 c a b xZ) (vD c ha hb).1) (r := fun x s e g hk => ?_) (p := fun q s e => ?_) (t := ?_)))) | (refine zZ.is ?_; first | refine zZ.seq ?_ | (refine zZ.isR (id := 0) ?_; refine zZ.rc [0, 1, 2, 3] [1000, 1001, 1002] (r := (.v zB .e)) (h := ?_)) | (refine zZ.isR (id := 1) ?_; refine zZ.rc [0, 1, 2, 3, 8] [1000, 1001, 1002] (r := (.v xJ (.v zV (.v zV (.v zV (.v xV .e)))))) (h := ?_)) | refine zZ.ret ?_))
  all_goals first
    | exact fun e => absurd (by show (Pr.bind (.ask (wS 2 c a b xZ) .ret) fun r : xO => .ret (decide (r.n = 1))).run H.st s0 = _; rw [run_bind, e]; rfl) hns
    | exact .pan (q := q) rfl (by repeat' first | exact trivial | rfl | constructor) (by repeat' exact trivial) (by show (Pr.bind (.ask (wS 2 c a b xZ) .ret) fun r : xO => .ret (decide (r.n = 1))).run H.st s0 = _; rw [run_bind, e]; rfl)
    | exact .ret (by exact .inl rfl) (.one rfl rfl) (by repeat' first | exact trivial | rfl | constructor) (by show (Pr.bind (.ask (wS 2 c a b xZ) .ret) fun r : xO => .ret (decide (r.n = 1))).run H.st s0 = _; rw [run_bind, e]; rfl)
theorem add_h (H : Hnd) (s0 : H.σ) (c v : Int) (hv : U v) : FnH H 85 [H.doA, .p (.val (.int .i64 c)), .p (.val (.int .u64 v))] [] (fun x => .p (.val (.int .u64 x))) (fun _ => []) U s0 (addP c v) := by
  unfold Hnd.doA
  refine yH Tryz.func85 rfl Tryz.ntmps85 (Nat.le_of_ble_eq_true rfl) (by decide) (fine_add c hv) fun hok hns => ?_
  repeat' (first | (refine zY.is ?_; first | refine zY.nil ?_ | (refine zY.at_ 12 rfl ?_; refine zY.rc (.v v11_0 (.v zB .e)) ?_) | (refine zY.in_ [11] rfl ?_; refine zY.ofT rfl (zG.hd (i := []) (f := do_h H s0 (wS 3 c v 0 xZ) (fine_add c hv).1) (r := fun x s e g hk => ?_) (p := fun q s e => ?_) (t := ?_)))) | (refine zZ.is ?_; first | refine zZ.seq ?_ | (refine zZ.isR (id := 0) ?_; refine zZ.rc [0, 1, 2] [1000, 1001, 1002] (r := (.v zB .e)) (h := ?_)) | (refine zZ.isR (id := 1) ?_; refine zZ.rc [0, 1, 2, 6] [1000, 1001, 1002] (r := (.v xJ (.v zV (.v zV (.v xV .e))))) (h := ?_)) | refine zZ.ret ?_))
  all_goals first
    | exact fun e => absurd (by show (Pr.bind (.ask (wS 3 c v 0 xZ) .ret) fun r : xO => .ret r.n).run H.st s0 = _; rw [run_bind, e]; rfl) hns
    | exact .pan (q := q) rfl (by repeat' first | exact trivial | rfl | constructor) (by repeat' exact trivial) (by show (Pr.bind (.ask (wS 3 c v 0 xZ) .ret) fun r : xO => .ret r.n).run H.st s0 = _; rw [run_bind, e]; rfl)
    | exact .ret (by exact .inl rfl) (.one rfl rfl) (by repeat' first | exact trivial | rfl | constructor) (by show (Pr.bind (.ask (wS 3 c v 0 xZ) .ret) fun r : xO => .ret r.n).run H.st s0 = _; rw [run_bind, e]; rfl)
end Go.Proofs.YtmfbamiciieooaaGreatDoor
/- Words and cells, the program's and the document's: contracts. -/
namespace Go.Proofs.YtmfbamiciieooaaGreatDoor
set_option maxRecDepth 100000
set_option maxHeartbeats 16000000
open Go Go.RowKit
attribute [local irreducible] zY zZ Step zX Sub zD Fn
def qI (s b : Int) : Int := s % 4611686018427387904 * 4 + b % 4
def qJ (w b : Int) : Bool := (decide (b % 2 = 0) || decide (w % 2 = 1)) && (decide (b % 4 < 2) || decide (w / 2 % 2 = 1))
theorem wrapU (x : Int) : IntKind.u64.wrap x = x % 18446744073709551616 := by simp [IntKind.wrap, IntKind.signed, IntKind.bits]
theorem and3 (x : Int) (h0 : 0 ≤ x) (h1 : x < 18446744073709551616) : bits .and .u64 x 3 = x % 4 := by
  obtain ⟨n, rfl⟩ := Int.eq_ofNat_of_zero_le h0
  rw [show (3 : Int) = ((3 : Nat) : Int) from rfl, u64_and_nat n 3 (by omega) (by decide)]
  have : n &&& 3 = n % 4 := Nat.and_two_pow_sub_one_eq_mod n 2
  rw [this]
  omega
theorem orLow (a b : Int) (h0 : 0 ≤ a) (h1 : a < 4611686018427387904) (b0 : 0 ≤ b) (b1 : b < 4) : bits .or .u64 (a * 4) b = a * 4 + b := by
  obtain ⟨n, rfl⟩ := Int.eq_ofNat_of_zero_le h0
  obtain ⟨m, rfl⟩ := Int.eq_ofNat_of_zero_le b0
  rw [show (n : Int) * 4 = ((n * 4 : Nat) : Int) from by omega, u64_or_nat (n * 4) m (by omega) (by omega)]
  have : n * 4 ||| m = n * 4 + m := by
    have := Nat.shiftLeft_add_eq_or_of_lt (show m < 2 ^ 2 by omega) n
    rw [Nat.shiftLeft_eq] at this
    exact this.symm
  rw [this]
  omega
theorem andHas (w q : Int) (h0 : 0 ≤ w) (h1 : w < 18446744073709551616) (q0 : 0 ≤ q) (q1 : q < 4) : decide (bits .and .u64 w q = q) = ((decide (q % 2 = 0) || decide (w % 2 = 1)) && (decide (q < 2) || decide (w / 2 % 2 = 1))) := by
  obtain ⟨n, rfl⟩ := Int.eq_ofNat_of_zero_le h0
  have e : ∀ m : Nat, m < 4 → bits .and .u64 (n : Int) (m : Int) = ((n &&& m : Nat) : Int) := fun m hm => u64_and_nat n m (by omega) (by omega)
  have h : q = ((0 : Nat) : Int) ∨ q = ((1 : Nat) : Int) ∨ q = ((2 : Nat) : Int) ∨ q = ((3 : Nat) : Int) := by omega
  have b1 : n &&& 1 = n % 2 := Nat.and_two_pow_sub_one_eq_mod n 1
  have b3 : n &&& 3 = n % 4 := Nat.and_two_pow_sub_one_eq_mod n 2
  have b2 : n &&& 2 = n / 2 % 2 * 2 := by
    apply Nat.eq_of_testBit_eq
    intro i
    rw [Nat.testBit_and]
    match i with
    | 0 => simp [Nat.testBit_zero]
    | 1 => simp [Nat.testBit_succ, Nat.testBit_zero]
    | i + 2 => simp [Nat.testBit_succ]
  rcases h with rfl | rfl | rfl | rfl
  · rw [e 0 (by decide)]; simp
  · rw [e 1 (by decide), b1]; simp only [← Bool.decide_or, ← Bool.decide_and, decide_eq_decide]; omega
  · rw [e 2 (by decide), b2]; simp only [← Bool.decide_or, ← Bool.decide_and, decide_eq_decide]; omega
  · rw [e 3 (by decide), b3]; simp only [← Bool.decide_or, ← Bool.decide_and, decide_eq_decide]; omega
theorem flag_fn (s b : Int) : Fn Tryz.prog 86 [.val (.int .u64 s), .val (.int .i64 b)] (.p (.val (.int .u64 (qI s b)))) := by
  have g1 : IntKind.u64.wrap (s * 2 ^ (2 : Int).toNat) = s % 4611686018427387904 * 4 := by rw [wrapU]; show s * 4 % _ = _; omega
  have g2 := wrapU b
  have g3 : bits .and .u64 (b % 18446744073709551616) 3 = b % 4 := by rw [and3 _ (by omega) (by omega)]; omega
  have g4 : bits .or .u64 (s % 4611686018427387904 * 4) (b % 4) = qI s b := orLow _ _ (by omega) (by omega) (by omega) (by omega)
  refine vW Tryz.func86 rfl Tryz.ntmps86 (Nat.le_of_ble_eq_true rfl) ?_
  repeat' (first | (refine zY.nil ?_) | (refine zZ.is ?_; first | refine zZ.seq ?_ | (refine zZ.isR (id := 0) ?_; refine zZ.rc [0, 1] [] (r := (.v zB .e)) (h := ?_)) | (refine zZ.isR (id := 1) ?_; refine zZ.rc [0, 1, 4] [] (r := (.v zV (.v v38_0 (.v zV (.v v6_0 (.v v35_0 (.v v36_0 (.v zB .e)))))))) (h := ?_)) | refine zZ.ret ?_))
  all_goals exact ⟨.inl rfl, gives1 rfl rfl rfl⟩
theorem wstamp_fn (w : Int) : Fn Tryz.prog 55 [.val (.int .u64 w)] (.p (.val (.int .u64 (w / 4)))) := by
  refine vW Tryz.func55 rfl Tryz.ntmps55 (Nat.le_of_ble_eq_true rfl) ?_
  repeat' (first | (refine zY.nil ?_) | (refine zZ.is ?_; first | refine zZ.seq ?_ | (refine zZ.isR (id := 0) ?_; refine zZ.rc [0] [] (r := (.v zB .e)) (h := ?_)) | (refine zZ.isR (id := 1) ?_; refine zZ.rc [0, 2] [] (r := (.v zV (.v v39_1 (.v zB .e)))) (h := ?_)) | refine zZ.ret ?_))
  all_goals exact ⟨.inl rfl, gives1 rfl rfl rfl⟩
theorem mark_fn (w : Int) (h0 : 0 ≤ w) (h1 : w < 18446744073709551616) : Fn Tryz.prog 60 [.val (.int .u64 w)] (.p (.val (.bool (decide (w % 2 = 1))))) := by
  have g1 : bits .and .u64 w 1 = w % 2 := by
    obtain ⟨n, rfl⟩ := Int.eq_ofNat_of_zero_le h0
    rw [show (1 : Int) = ((1 : Nat) : Int) from rfl, u64_and_nat n 1 (by omega) (by decide)]
    have : n &&& 1 = n % 2 := Nat.and_two_pow_sub_one_eq_mod n 1
    rw [this]
    omega
  refine vW Tryz.func60 rfl Tryz.ntmps60 (Nat.le_of_ble_eq_true rfl) ?_
  repeat' (first | (refine zY.nil ?_) | (refine zZ.is ?_; first | refine zZ.seq ?_ | (refine zZ.isR (id := 0) ?_; refine zZ.rc [0] [] (r := (.v zB .e)) (h := ?_)) | (refine zZ.isR (id := 1) ?_; refine zZ.rc [0, 2] [] (r := (.v zV (.v v35_0 (.v v41_8 (.v zB .e))))) (h := ?_)) | refine zZ.ret ?_))
  all_goals exact ⟨.inl rfl, gives1 rfl rfl rfl⟩
theorem has_fn (w b : Int) (h0 : 0 ≤ w) (h1 : w < 18446744073709551616) : Fn Tryz.prog 123 [.val (.int .u64 w), .val (.int .i64 b)] (.p (.val (.bool (qJ w b)))) := by
  have g2 := wrapU b
  have g3 : bits .and .u64 (b % 18446744073709551616) 3 = b % 4 := by rw [and3 _ (by omega) (by omega)]; omega
  have g4 : decide (bits .and .u64 w (b % 4) = b % 4) = qJ w b := by
    rw [andHas w (b % 4) h0 h1 (by omega) (by omega)]
    unfold qJ
    have : b % 4 % 2 = b % 2 := by omega
    rw [this]
  refine vW Tryz.func123 rfl Tryz.ntmps123 (Nat.le_of_ble_eq_true rfl) ?_
  repeat' (first | (refine zY.nil ?_) | (refine zZ.is ?_; first | refine zZ.seq ?_ | (refine zZ.isR (id := 0) ?_; refine zZ.rc [0, 1] [] (r := (.v zB .e)) (h := ?_)) | (refine zZ.isR (id := 1) ?_; refine zZ.rc [0, 1, 4] [] (r := (.v zV (.v v6_0 (.v v35_0 (.v zB .e))))) (h := ?_)) | (refine zZ.isR (id := 2) ?_; refine zZ.rc [0, 4, 5] [] (r := (.v zV (.v zV (.v v35_3 (.v zV (.v v41_0 (.v zB .e))))))) (h := ?_)) | refine zZ.ret ?_))
  all_goals exact ⟨.inl rfl, gives1 rfl rfl rfl⟩
/-- where a record's field lies -/
def zQ (t r f : Int) : Int := 8 + t + 8 * (r - 1) + f
def Small (x : Int) : Prop := -1073741824 ≤ x ∧ x ≤ 1073741824
theorem size_fn (t c : Int) (h0 : Small t) (h1 : Small c) : Fn Tryz.prog 93 [.val (.int .i64 t), .val (.int .i64 c)] (.p (.val (.int .i64 (8 + t + 8 * c)))) := by
  unfold Small at h0 h1
  refine vW Tryz.func93 rfl Tryz.ntmps93 (Nat.le_of_ble_eq_true rfl) ?_
  repeat' (first | (refine zY.nil ?_) | (refine zZ.is ?_; first | refine zZ.seq ?_ | (refine zZ.isR (id := 0) ?_; refine zZ.rc [0, 1] [] (r := (.v zB .e)) (h := ?_)) | (refine zZ.isR (id := 1) ?_; refine zZ.rc [0, 1, 4] [] (r := (.v zV (.v v30_5 (.v zV (.v v32_5 (.v v30_5 (.v zB .e))))))) (h := ?_)) | refine zZ.ret ?_))
  all_goals exact ⟨.inl rfl, gives1 rfl rfl rfl⟩
theorem field_fn (t r f : Int) (h0 : Small t) (h1 : 0 ≤ r ∧ r ≤ 1048576) (h2 : Small f) : Fn Tryz.prog 57 [.val (.int .i64 t), .val (.int .i64 r), .val (.int .i64 f)] (.p (.val (.int .i64 (zQ t r f)))) := by
  have c1 := size_fn t (r - 1) h0 (by unfold Small; omega)
  unfold Small at h0 h2
  refine vW Tryz.func57 rfl Tryz.ntmps57 (Nat.le_of_ble_eq_true rfl) ?_
  repeat' (first | (refine zY.is ?_; first | refine zY.nil ?_ | (refine zY.at_ 11 rfl ?_; refine zY.rc (.v zV (.v v30_5 (.v zB .e))) ?_) | (refine zY.in_ [10] rfl ?_; refine zY.v rfl rfl (zP (c1) rfl rfl rfl (by decide)) ?_)) | (refine zZ.is ?_; first | refine zZ.seq ?_ | (refine zZ.isR (id := 0) ?_; refine zZ.rc [0, 1, 2] [] (r := (.v zB .e)) (h := ?_)) | (refine zZ.isR (id := 1) ?_; refine zZ.rc [0, 1, 2, 6] [] (r := (.v zV (.v zV (.v v31_5 .e)))) (h := ?_)) | refine zZ.ret ?_))
  all_goals exact ⟨.inl rfl, gives1 rfl rfl rfl⟩
theorem fieldRef_fn (t r f : Int) (h0 : Small t) (h1 : 0 ≤ r ∧ r ≤ 1048576) (h2 : Small f) : Fn Tryz.prog 22 [.val (.int .i64 t), .val (.int .i64 r), .val (.int .i64 f)] (.p (.val (.int .i64 (zQ t r f)))) := by
  unfold Small at h0 h2
  refine vW Tryz.func22 rfl Tryz.ntmps22 (Nat.le_of_ble_eq_true rfl) ?_
  repeat' (first | (refine zY.nil ?_) | (refine zZ.is ?_; first | refine zZ.seq ?_ | (refine zZ.isR (id := 0) ?_; refine zZ.rc [0, 1, 2] [] (r := (.v zB .e)) (h := ?_)) | (refine zZ.isR (id := 1) ?_; refine zZ.rc [0, 1, 2, 6] [] (r := (.v zV (.v v30_5 (.v zV (.v v31_5 (.v v32_5 (.v v30_5 (.v zV (.v v30_5 (.v zB .e)))))))))) (h := ?_)) | refine zZ.ret ?_))
  all_goals exact ⟨.inl rfl, gives1 rfl rfl rfl⟩
end Go.Proofs.YtmfbamiciieooaaGreatDoor
/- Operations of records, and their answers. -/
namespace Go.Proofs.YtmfbamiciieooaaGreatDoor
set_option maxRecDepth 100000
set_option maxHeartbeats 16000000
open Go Go.RowKit
/-- a record's place -/
def Rec (t r : Int) : Prop := Small t ∧ 1 ≤ r ∧ r ≤ 1048576
/-- a record's place, or none's -/
def Rc (t r : Int) : Prop := Small t ∧ 0 ≤ r ∧ r ≤ 1048576
def outV (e : Int) (is : Bool) (n w : Int) : PV := .agg [.val (.int .i64 e), .val (.bool is), .val (.int .i64 n), .val (.int .u64 w), xZ]
def opV (k u v w : Int) : PV := .agg [.val (.int .i64 k), .val (.int .i64 u), .val (.int .i64 v), .val (.int .u64 w)]
structure OutI where
  e : Int
  is : Bool
  w : Int
/-- an operation of a record, and of a bit -/
structure OpOK (t k u v w : Int) : Prop where
  rec_ : k = 20 ∨ k = 21 ∨ k = 22 ∨ k = 23 ∨ k = 7 → Rec t u
  bit : k = 7 ∨ k = 23 → v = 1 ∨ v = 2
  w : U w
def opB (k u v w : Int) : Blk := .box 37 [.p (.val (.int .i64 k)), .p (.val (.int .i64 u)), .p (.val (.int .i64 v)), .p (.val (.int .u64 w))]
end Go.Proofs.YtmfbamiciieooaaGreatDoor
/- Records, flags, and what is durable, as trees. -/
namespace Go.Proofs.YtmfbamiciieooaaGreatDoor
set_option maxRecDepth 100000
set_option maxHeartbeats 16000000
open Go Go.RowKit
set_option linter.unusedSimpArgs false
set_option linter.unusedVariables false
theorem wrapU_U (n : Int) : U (IntKind.u64.wrap n) := by rw [wrapU]; unfold U; omega
theorem U.quo {f : Int} (h : U f) : U (f / 4) := ⟨by have := h.1; omega, by have := h.2; omega⟩
def ov1 (b f : Int) : Bool := qJ f b
def over2 (s b g : Int) : Bool := !decide (g / 4 = s) || qJ g b
theorem orBit (f b : Int) (h0 : 0 ≤ f) (h1 : f < 18446744073709551616) (hb : b = 1 ∨ b = 2) (hn : qJ f b = false) : bits .or .u64 f b = f + b ∧ f + b < 18446744073709551616 := by
  obtain ⟨n, rfl⟩ := Int.eq_ofNat_of_zero_le h0
  unfold qJ at hn
  rcases hb with rfl | rfl
  · simp at hn
    have e : n ||| 1 = n + 1 := by
      have h2 := Nat.shiftLeft_add_eq_or_of_lt (show 1 < 2 ^ 1 by decide) (n / 2)
      rw [Nat.shiftLeft_eq] at h2
      have h3 : n / 2 * 2 ^ 1 = n := by omega
      rw [h3] at h2
      exact h2.symm
    rw [show (1 : Int) = ((1 : Nat) : Int) from rfl, u64_or_nat n 1 (by omega) (by decide), e]
    constructor <;> omega
  · simp at hn
    have e : n ||| 2 = n + 2 := by
      have h2 := Nat.shiftLeft_add_eq_or_of_lt (show n % 4 < 2 ^ 2 by omega) (n / 4)
      have h3 := Nat.shiftLeft_add_eq_or_of_lt (show n % 4 + 2 < 2 ^ 2 by omega) (n / 4)
      rw [Nat.shiftLeft_eq] at h2 h3
      have h4 : n / 4 * 2 ^ 2 + n % 4 = n := by omega
      have h5 : n % 4 ||| 2 = n % 4 + 2 := by
        have : n % 4 = 0 ∨ n % 4 = 1 := by omega
        rcases this with h | h <;> rw [h] <;> rfl
      rw [h4] at h2
      have h6 : n ||| 2 = (n / 4 * 2 ^ 2 ||| n % 4) ||| 2 := congrArg (· ||| 2) h2
      rw [h6, Nat.or_assoc, h5, ← h3]
      omega
    rw [show (2 : Int) = ((2 : Nat) : Int) from rfl, u64_or_nat n 2 (by omega) (by decide), e]
    constructor <;> omega
theorem over2_has {s b g : Int} (h : over2 s b g = false) : qJ g b = false := by
  unfold over2 at h
  simp only [Bool.or_eq_false_iff] at h
  exact h.2
theorem orU {f b : Int} (hf : U f) (hb : b = 1 ∨ b = 2) (hn : qJ f b = false) : U (f + b) := ⟨by have := hf.1; rcases hb with rfl | rfl <;> omega, (orBit f b hf.1 hf.2 hb hn).2⟩
def flagP (t r : Int) : Pr Int := xD (zQ t r 2)
/-- one round -/
def wO (over : Int → Bool) (c b : Int) (_ : Unit) : Pr (Unit ⊕ Unit) := (xD c).bind fun f => bif over f then .ret (.inr ()) else (casP c f (f + b)).bind fun d => .ret (bif d then .inr () else .inl ())
def setP (over : Int → Bool) (c b : Int) : Pr Unit := .loop (wO over c b) many ()
/-- accesses of a disk, up to the first that fails -/
def diskP : List Ned → Pr Bool
  | [] => .ret true
  | q :: qs => .ask q fun r => bif r.fail then .ret false else diskP qs
def wrAcc (k s y u v x : Int) : List Ned := [wS 5 0 0 0 (.sl (byts (vS k s y u v x))), wS 6 0 0 0 xZ]
def wrP (t r b k s y u v x : Int) : Pr Bool := (diskP (wrAcc k s y u v x)).bind fun ok => bif ok then (setP (over2 s b) (zQ t r 2) b).bind fun _ => .ret true else .ret false
def restP (t r b f : Int) : Pr Bool :=
  bif qJ f b then .ret true else bif decide (b = 1) then
    (xD (zQ t r 1)).bind fun n1 => (xD (zQ t r 4)).bind fun n2 => (xD (zQ t r 5)).bind fun n3 => (xD (zQ t r 6)).bind fun n4 => wrP t r b 1 (f / 4) n1 n2 n3 n4
  else wrP t r b 2 (f / 4) 0 0 0 0
def saveP (t r b : Int) : Pr Bool := (flagP t r).bind fun f => restP t r b f
def wX (s y e u v x : Int) : List (Int × Int) := [(2, qI s 0), (1, y), (3, e), (4, u), (5, v), (6, x)]
def wK (t r : Int) : List (Int × Int) → Pr Unit
  | [] => .ret ()
  | p :: l => (vT (zQ t r p.1) p.2).bind fun _ => wK t r l
def makeP (t r y e u v x : Int) : Pr Int := (addP 2 1).bind fun n => (wK t r (wX (IntKind.u64.wrap (n + 1)) y e u v x)).bind fun _ => .ret (IntKind.u64.wrap (n + 1))
/-! ### They ask what may be asked -/
theorem putF_range (b : List Int) (hb : ∀ x ∈ b, 0 ≤ x ∧ x < 256) (hl : putOk b) : ∀ x ∈ putF b, 0 ≤ x ∧ x < 256 := by
  intro x hx
  have h2 : b.length ≤ 65535 := hl.2
  rw [putF_ref b hl] at hx
  simp only [List.mem_cons, List.cons_append, List.nil_append] at hx
  have hm : moreF 0 b < 4294967296 := moreF_lt 0 b
  rcases hx with rfl | rfl | rfl | rfl | rfl | rfl | hx
  all_goals first
    | exact hb x hx
    | omega
theorem putF_lenP (b : List Int) (hl : putOk b) : (putF b).length = 6 + b.length := by rw [putF_ref b hl]; simp; omega
theorem bytesE_ok (k s y u v x : Int) : (∀ c ∈ vS k s y u v x, 0 ≤ c ∧ c < 256) ∧ (vS k s y u v x).length ≤ 1000 := by
  unfold vS
  by_cases h : mayB k s y u v x = true
  · rw [if_pos h]
    refine ⟨putF_range _ (encL_range' k s y u v x) (encL_le2 k s y u v x), ?_⟩
    rw [putF_lenP _ (encL_le2 k s y u v x)]
    unfold encL
    by_cases hk : k = 1 <;> simp [hk, bytesOf]
  · rw [if_neg h]
    exact ⟨fun c hc => by simp at hc, by simp⟩
theorem asked_wr (k s y u v x : Int) : ∀ q ∈ wrAcc k s y u v x, Asked q := by
  intro q hq
  simp only [wrAcc, List.mem_cons, List.not_mem_nil, or_false] at hq
  rcases hq with rfl | rfl
  · exact ⟨rfl, U.zero, U.zero, .inr ⟨rfl, _, (bytesE_ok k s y u v x).1, (bytesE_ok k s y u v x).2, rfl⟩⟩
  · exact ⟨rfl, U.zero, U.zero, .inl ⟨.inr rfl, rfl⟩⟩
theorem fine_round {over : Int → Bool} {c b : Int} (hb : b = 1 ∨ b = 2) (ho : ∀ f, over f = false → qJ f b = false) (u : Unit) : (wO over c b u).yY (Next yes yes) :=
  .bind (yQ _) fun f hf => .condB (fun _ => Pr.yY.ret trivial) fun h => .bind (vD _ hf ⟨by have := hf.1; rcases hb with rfl | rfl <;> omega, (orBit f b hf.1 hf.2 hb (ho f h)).2⟩) fun d _ => Pr.yY.ret (by cases d <;> trivial)
theorem fine_set {over : Int → Bool} {c b : Int} (hb : b = 1 ∨ b = 2) (ho : ∀ f, over f = false → qJ f b = false) : (setP over c b).yY yes :=
  Pr.yY.loop yes (fun _ => ⟨_, _, rfl⟩) (fun u _ => fine_round hb ho u) () trivial
theorem fine_disk : ∀ {qs : List Ned}, (∀ q ∈ qs, Asked q) → (diskP qs).yY yes
  | [], _ => Pr.yY.ret trivial
  | q :: qs, h => fine_ask (h q (by simp)) fun r _ => .cond (Pr.yY.ret trivial) (fine_disk fun q' hq => h q' (by simp [hq]))
theorem fine_wr (t r b k s y u v x : Int) (hb : b = 1 ∨ b = 2) : (wrP t r b k s y u v x).yY yes := .bind (fine_disk (asked_wr k s y u v x)) fun _ _ => .cond (.bind (fine_set hb fun _ h => over2_has h) fun _ _ => trivial) trivial
theorem fine_rest (t r b f : Int) (hb : b = 1 ∨ b = 2) : (restP t r b f).yY yes :=
  .cond trivial (.cond (.bind (yQ _) fun _ _ => .bind (yQ _) fun _ _ => .bind (yQ _) fun _ _ => .bind (yQ _) fun _ _ => fine_wr _ _ _ _ _ _ _ _ _ hb) (fine_wr _ _ _ _ _ _ _ _ _ hb))
theorem fine_save (t r b : Int) (hb : b = 1 ∨ b = 2) : (saveP t r b).yY yes := .bind (yQ _) fun _ _ => fine_rest _ _ _ _ hb
theorem flagF_U (s b : Int) : U (qI s b) := by unfold qI U; omega
theorem fine_stores (t r : Int) : ∀ (l : List (Int × Int)), (∀ p ∈ l, U p.2) → (wK t r l).yY yes
  | [], _ => trivial
  | p :: l, h => .bind (vJ _ (h p (by simp))) fun _ _ => fine_stores t r l fun p' hp => h p' (by simp [hp])
theorem items_U {s y e u v x : Int} (hy : U y) (he : U e) (hu : U u) (hv : U v) (hx : U x) : ∀ p ∈ wX s y e u v x, U p.2 := by
  intro p hp
  simp only [wX, List.mem_cons, List.not_mem_nil, or_false] at hp
  rcases hp with rfl | rfl | rfl | rfl | rfl | rfl
  · exact flagF_U _ _
  · exact hy
  · exact he
  · exact hu
  · exact hv
  · exact hx
theorem fine_make (t r : Int) {y e u v x : Int} (hy : U y) (he : U e) (hu : U u) (hv : U v) (hx : U x) : (makeP t r y e u v x).yY U :=
  .bind (fine_add _ (by unfold U; decide)) fun _ _ => .bind (fine_stores t r _ (items_U hy he hu hv hx)) fun _ _ => wrapU_U _
end Go.Proofs.YtmfbamiciieooaaGreatDoor
/- References in words; the place of what follows: contracts. -/
namespace Go.Proofs.YtmfbamiciieooaaGreatDoor
set_option maxRecDepth 100000
set_option maxHeartbeats 16000000
open Go Go.RowKit
set_option linter.unusedSimpArgs false
set_option linter.unusedVariables false
attribute [local irreducible] zY zZ Step zX Sub zD zG Fn
def xQ (w : Int) : Int := w / 2 % 1048576
theorem refW_lo (w : Int) : 0 ≤ xQ w := by unfold xQ; omega
theorem refW_hi (w : Int) : xQ w < 1048576 := by unfold xQ; omega
def yZ (t r : Int) : Int := bif decide (r = 0) then 0 else zQ t r 0
theorem andLow (x : Int) (k : Nat) (hk : 2 ^ k ≤ 18446744073709551616) (h0 : 0 ≤ x) (h1 : x < 18446744073709551616) : bits .and .u64 x ((2 ^ k - 1 : Nat) : Int) = x % ((2 ^ k : Nat) : Int) := by
  obtain ⟨n, rfl⟩ := Int.eq_ofNat_of_zero_le h0
  rw [u64_and_nat n _ (by omega) (by omega), Nat.and_two_pow_sub_one_eq_mod]
  omega
theorem ref_fn (w : Int) (h0 : 0 ≤ w) (h1 : w < 18446744073709551616) : Fn Tryz.prog 97 [.val (.int .u64 w)] (.p (.val (.int .i64 (xQ w)))) := by
  have g1 : bits .and .u64 (w / 2) 1048575 = xQ w := andLow (w / 2) 20 (by decide) (by omega) (by omega)
  have g2 : IntKind.i64.wrap (xQ w) = xQ w := wrap_i64 _ (by have := refW_lo w; have := refW_hi w; omega)
  refine vW Tryz.func97 rfl Tryz.ntmps97 (Nat.le_of_ble_eq_true rfl) ?_
  repeat' (first | (refine zY.nil ?_) | (refine zZ.is ?_; first | refine zZ.seq ?_ | (refine zZ.isR (id := 0) ?_; refine zZ.rc [0] [] (r := (.v zB .e)) (h := ?_)) | (refine zZ.isR (id := 1) ?_; refine zZ.rc [0, 2] [] (r := (.v zV (.v v39_1 (.v v35_0 (.v v6_0 (.v zB .e)))))) (h := ?_)) | refine zZ.ret ?_))
  all_goals exact ⟨.inl rfl, gives1 rfl rfl rfl⟩
theorem refRef_fn (w : Int) (h0 : 0 ≤ w) (h1 : w < 18446744073709551616) : Fn Tryz.prog 45 [.val (.int .u64 w)] (.p (.val (.int .i64 (xQ w)))) := by
  have g1 : IntKind.u64.wrap (w.tdiv 2) = w / 2 := by rw [Int.tdiv_eq_ediv_of_nonneg h0, wrapU]; omega
  have g2 : (w / 2).tmod 1048576 = xQ w := Int.tmod_eq_emod_of_nonneg (by omega)
  have g3 : IntKind.i64.wrap (xQ w) = xQ w := wrap_i64 _ (by have := refW_lo w; have := refW_hi w; omega)
  refine vW Tryz.func45 rfl Tryz.ntmps45 (Nat.le_of_ble_eq_true rfl) ?_
  repeat' (first | (refine zY.nil ?_) | (refine zZ.is ?_; first | refine zZ.seq ?_ | (refine zZ.isR (id := 0) ?_; refine zZ.rc [0] [] (r := (.v zB .e)) (h := ?_)) | (refine zZ.isR (id := 1) ?_; refine zZ.rc [0, 2] [] (r := (.v zV (.v v33_0 (.v v34_0 (.v v6_0 (.v zB .e)))))) (h := ?_)) | refine zZ.ret ?_))
  all_goals exact ⟨.inl rfl, gives1 rfl rfl rfl⟩
theorem link_fn (r : Int) (h : 0 ≤ r ∧ r ≤ 1048576) : Fn Tryz.prog 91 [.val (.int .i64 r), .val (.bool false)] (.p (.val (.int .u64 (2 * r)))) := by
  have g1 : IntKind.u64.wrap r = r := wrap_u64 _ (by omega)
  have g2 : IntKind.u64.wrap (r * 2 ^ (1 : Int).toNat) = 2 * r := by rw [wrapU]; show r * 2 % _ = _; omega
  refine vW Tryz.func91 rfl Tryz.ntmps91 (Nat.le_of_ble_eq_true rfl) ?_
  repeat' (first | (refine zY.nil ?_) | (refine zZ.is ?_; first | refine zZ.seq ?_ | (refine zZ.isR (id := 0) ?_; refine zZ.rc [0, 1] [] (r := (.v zB .e)) (h := ?_)) | (refine zZ.isR (id := 1) ?_; refine zZ.rc [0, 1, 4] [] (r := (.v zV (.v v6_0 (.v v38_0 (.v zB .e))))) (h := ?_)) | (refine zZ.isR (id := 2) ?_; refine zZ.rc [1, 4, 5] [] (r := (.v zV .e)) (h := ?_)) | (refine zZ.isR (id := 4) ?_; refine zZ.rc [4, 5] [] (r := (.v zV (.v zB .e))) (h := ?_)) | refine zZ.yG rfl bA ?_ | refine zZ.skip ?_ | refine zZ.ret ?_))
  all_goals exact ⟨.inl rfl, gives1 rfl rfl rfl⟩
theorem cnext_fn (t r : Int) (h0 : Small t) (h1 : 0 ≤ r ∧ r ≤ 1048576) : Fn Tryz.prog 61 [.val (.int .i64 t), .val (.int .i64 r)] (.p (.val (.int .i64 (yZ t r)))) := by
  have c1 := field_fn t r 0 h0 h1 (by unfold Small; omega)
  unfold yZ
  refine vW Tryz.func61 rfl Tryz.ntmps61 (Nat.le_of_ble_eq_true rfl) ?_
  cases hb : decide (r = 0)
  all_goals
    repeat' (first | (refine zY.is ?_; first | refine zY.nil ?_ | (refine zY.at_ 4 rfl ?_; refine zY.rc (.v zB .e) ?_) | (refine zY.in_ [9] rfl ?_; refine zY.v rfl rfl (zP (c1) rfl rfl rfl (by decide)) ?_)) | (refine zZ.is ?_; first | refine zZ.seq ?_ | (refine zZ.isR (id := 0) ?_; refine zZ.rc [0, 1] [] (r := (.v zB .e)) (h := ?_)) | (refine zZ.isR (id := 1) ?_; refine zZ.rc [0, 1, 4] [] (r := (.v zV (.v v41_0 .e))) (h := ?_)) | (refine zZ.isR (id := 2) ?_; refine zZ.rc [0, 1, 4] [] (r := (.v zB .e)) (h := ?_)) | (refine zZ.isR (id := 3) ?_; refine zZ.rc [0, 1, 4] [] (r := (.v zV (.v zV .e))) (h := ?_)) | refine zZ.yN rfl bA ?_ | refine zZ.yG rfl bA ?_ | refine zZ.skip ?_ | refine zZ.ret ?_) | refine zF.r ?_)
    all_goals exact ⟨.inl rfl, gives1 rfl rfl rfl⟩
end Go.Proofs.YtmfbamiciieooaaGreatDoor
/- The document's functions over a log: where they stand in what is told. -/
namespace Go.Proofs.YtmfbamiciieooaaGreatDoor
set_option maxRecDepth 100000
set_option maxHeartbeats 16000000
open Go Go.RowKit
set_option linter.unusedSimpArgs false
set_option linter.unusedVariables false
theorem vY {ι α : Type} (body : ι → Pr (ι ⊕ α)) (n : Nat) (s : ι) : Pr.loop body (n + 1) s = (body s).bind (Sum.elim (Pr.loop body n) .ret) := by
  rw [Pr.loop_succ]
  congr 1
  funext x
  cases x <;> rfl
/-- there q tells what is left of P -/
structure At {α : Type} (L : List xO) (P : Pr α) (σ : CSt) (q : Pr α) (τ : CSt) : Prop where
  i : τ.i ≤ L.length
  go : ∀ y υ, Rel L q τ y υ → Rel L P σ y υ
section
variable {α β ι : Type} {L : List xO} {P q : Pr α} {σ τ υ : CSt} {good : β → Prop} {m : Nat}
end
end Go.Proofs.YtmfbamiciieooaaGreatDoor
/- The sorted list's operations, as trees. -/
namespace Go.Proofs.YtmfbamiciieooaaGreatDoor
set_option maxRecDepth 100000
set_option maxHeartbeats 16000000
open Go Go.RowKit
set_option linter.unusedSimpArgs false
set_option linter.unusedVariables false
/-- a reference, as words hold it -/
structure Rf (x : Int) : Prop where
  lo : 0 ≤ x
  hi : x ≤ 1048575
theorem kK (w : Int) : Rf (xQ w) := ⟨refW_lo w, by have := refW_hi w; omega⟩
theorem rf_0 : Rf 0 := ⟨by decide, by decide⟩
theorem Rf.u {x : Int} (h : Rf x) : U x := ⟨h.lo, by have := h.hi; omega⟩
theorem Rf.u2 {x : Int} (h : Rf x) : U (2 * x) := ⟨by have := h.lo; omega, by have := h.hi; omega⟩
theorem Rf.rc {t x : Int} (h : Rf x) (ht : Small t) : Rc t x := ⟨ht, h.lo, by have := h.hi; omega⟩
theorem Rf.le {x : Int} (h : Rf x) : 0 ≤ x ∧ x ≤ 1048576 := ⟨h.lo, by have := h.hi; omega⟩
theorem U.succ {w : Int} (h : U w) (he : decide (w % 2 = 1) = false) : U (w + 1) := by
  have := of_decide_eq_false he
  have h1 := h.1
  have h2 := h.2
  constructor <;> omega
/-! ### A record is given back -/
def retRound (t r at_ : Int) (_ : Unit) : Pr (Unit ⊕ Unit) := (xD at_).bind fun h => (vT (zQ t r 7) h).bind fun _ => (casP at_ h r).bind fun d => .ret (bif d then .inr () else .inl ())
def retLoop (t r at_ : Int) : Pr Unit := .loop (retRound t r at_) many ()
def yB (e : Int) : Int := 4 + e % 3
def retireP (t r : Int) : Pr Unit := (xD 3).bind fun e => retLoop t r (yB e)
theorem fine_retL (t r at_ : Int) (hr : U r) : (retLoop t r at_).yY yes :=
  Pr.yY.loop yes (fun _ => ⟨_, _, rfl⟩) (fun u _ => .bind (yQ _) fun _ hh => .bind (vJ _ hh) fun _ _ => .bind (vD _ hh hr) fun d _ => Pr.yY.ret (by cases d <;> trivial)) () trivial
theorem fine_retire (t : Int) {r : Int} (hr : U r) : (retireP t r).yY yes := .bind (yQ _) fun _ _ => fine_retL _ _ _ hr
/-! ### A walk along the list: it begins anew, or is at a record behind another one -/
structure wZ where
  p : Int
  x : Int
  is : Bool
  ok : Bool
abbrev WSt := Option (Int × Int)
structure WOK (a b : Int) : Prop where
  p : Rf a
  x : Rf b
  n : decide (b = 0) = false
theorem WOK.one {p x : Int} (h : WOK p x) : 1 ≤ x := by have := of_decide_eq_false h.n; have := h.x.lo; omega
def wok : WSt → Prop
  | none => True
  | some (p, x) => WOK p x
structure FOK (r : wZ) : Prop where
  p : Rf r.p
  x : Rf r.x
  n : r.is = true → 1 ≤ r.x
def endW (p x : Int) : WSt ⊕ wZ := bif decide (x = 0) then .inr ⟨p, 0, false, true⟩ else .inl (some (p, x))
theorem endW_ok {p : Int} (w : Int) (hp : Rf p) : Next wok FOK (endW p (xQ w)) := by
  unfold endW
  cases h : decide (xQ w = 0)
  · exact ⟨hp, kK w, h⟩
  · exact ⟨hp, rf_0, fun h => by cases h⟩
/-- what is marked is taken out, or another one was quicker, or the disk failed -/
inductive Took where
  | fail
  | miss
  | done
def Took.d : Took → Bool
  | .done => true
  | _ => false
def Took.ok : Took → Bool
  | .fail => false
  | _ => true
def takeP (t p x w : Int) : Pr Took := (saveP t x 2).bind fun ok => bif ok then (casP (yZ t p) (2 * x) (2 * xQ w)).bind fun d => bif d then (retireP t x).bind fun _ => .ret .done else .ret .miss else .ret .fail
theorem fine_take (t p w : Int) {x : Int} (hx : Rf x) : (takeP t p x w).yY yes :=
  .bind (fine_save _ _ _ (.inr rfl)) fun _ _ => .cond (.bind (vD _ hx.u2 (kK w).u2) fun _ _ => .cond (.bind (fine_retire _ hx.u) fun _ _ => trivial) trivial) trivial
def tookR (p x w : Int) : Took → WSt ⊕ wZ
  | .done => endW p (xQ w)
  | .miss => .inl none
  | .fail => .inr ⟨p, x, false, false⟩
def tookP (t p x w : Int) : Pr (WSt ⊕ wZ) := (takeP t p x w).bind fun r => .ret (tookR p x w r)
theorem fine_took (t w : Int) {p x : Int} (h : WOK p x) : (tookP t p x w).yY (Next wok FOK) :=
  .bind (fine_take t p w h.x) fun r _ => Pr.yY.ret (by
    cases r with
    | done => exact endW_ok w h.p
    | miss => trivial
    | fail => exact ⟨h.p, h.x, fun h => by cases h⟩)
/-- a round, by what is done at a record that isn't marked -/
def yX (t : Int) (at_ : Int → Int → Int → Pr (WSt ⊕ wZ)) : WSt → Pr (WSt ⊕ wZ)
  | none => (xD 0).bind fun h => .ret (endW 0 (xQ h))
  | some (p, x) => (xD (zQ t x 0)).bind fun w => bif decide (w % 2 = 1) then tookP t p x w else at_ p x w
def walkP (t : Int) (at_ : Int → Int → Int → Pr (WSt ⊕ wZ)) : Pr wZ := .loop (yX t at_) many none
theorem fine_walkR {t : Int} {at_ : Int → Int → Int → Pr (WSt ⊕ wZ)} (h : ∀ p x w, WOK p x → U w → decide (w % 2 = 1) = false → (at_ p x w).yY (Next wok FOK)) : ∀ s, wok s → (yX t at_ s).yY (Next wok FOK)
  | none, _ => .bind (yQ _) fun w _ => Pr.yY.ret (endW_ok w rf_0)
  | some (p, x), hw => .bind (yQ _) fun w hu => .condB (fun _ => fine_took t w hw) fun hm => h p x w hw hu hm
theorem fine_walk {t : Int} {at_ : Int → Int → Int → Pr (WSt ⊕ wZ)} (h : ∀ p x w, WOK p x → U w → decide (w % 2 = 1) = false → (at_ p x w).yY (Next wok FOK)) : (walkP t at_).yY FOK :=
  Pr.yY.loop wok (fun s => by match s with | none => exact ⟨_, _, rfl⟩ | some (p, x) => exact ⟨_, _, rfl⟩) (fine_walkR h) none trivial
def xX (t k p x w : Int) : Pr (WSt ⊕ wZ) := (xD (zQ t x 1)).bind fun n => bif decide (k ≤ n) then .ret (.inr ⟨p, x, decide (n = k), true⟩) else .ret (endW x (xQ w))
theorem fine_searchAt (t k p x w : Int) (h : WOK p x) : (xX t k p x w).yY (Next wok FOK) :=
  .bind (yQ _) fun _ _ => .cond (Pr.yY.ret ⟨h.p, h.x, fun _ => h.one⟩) (Pr.yY.ret (endW_ok w h.x))
def alongP (t k : Int) : Pr wZ := walkP t (xX t k)
theorem fine_along (t k : Int) : (alongP t k).yY FOK := fine_walk fun p x w h _ _ => fine_searchAt t k p x w h
def vI (t k : Int) : Pr wZ := (alongP t k).bind fun r => bif r.ok then .ret r else .ret ⟨0, 0, false, false⟩
theorem fine_search (t k : Int) : (vI t k).yY FOK := .bind (fine_along t k) fun _ h => .cond (Pr.yY.ret h) (Pr.yY.ret ⟨rf_0, rf_0, fun h => by cases h⟩)
theorem nextF_pos (t : Int) {x : Int} (h : decide (x = 0) = false) : yZ t x = zQ t x 0 := by unfold yZ; rw [h]; rfl
/-! ### Marks -/
def setMark (t x w : Int) : Pr Bool := casP (yZ t x) w (w + 1)
def markP (t x : Int) : Pr Bool := (xD (yZ t x)).bind fun w => bif decide (w % 2 = 1) then .ret false else setMark t x w
theorem fine_mark (t x : Int) : (markP t x).yY yes := .bind (yQ _) fun _ hw => .condB (fun _ => trivial) fun h => vD _ hw (hw.succ h)
/-! ### A sweep -/
/-- a record that isn't marked: does it stay to be looked at again? -/
def sweepIn (t s x w : Int) : Pr Bool := (xD (zQ t x 1)).bind fun k => bif decide (k % 2147483648 = 0) then .ret false else (xD (zQ t x 4)).bind fun su => (xD (zQ t x 5)).bind fun sv =>
  bif !decide (su = s) && !decide (sv = s) then .ret false else (setMark t x w).bind fun d => bif d then (setP (ov1 2) (zQ t x 2) 2).bind fun _ => .ret true else .ret true
theorem fine_sweepIn (t s x w : Int) (hw : U w) (h : decide (w % 2 = 1) = false) : (sweepIn t s x w).yY yes :=
  .bind (yQ _) fun _ _ => .cond trivial (.bind (yQ _) fun _ _ => .bind (yQ _) fun _ _ => .cond trivial (.bind (vD _ hw (hw.succ h)) fun _ _ => .cond (.bind (fine_set (.inr rfl) fun _ h => h) fun _ _ => trivial) trivial))
def xH (t s p x w : Int) : Pr (WSt ⊕ wZ) := (sweepIn t s x w).bind fun b => bif b then .ret (.inl (some (p, x))) else .ret (endW x (xQ w))
def sweepL (t s : Int) : Pr wZ := walkP t (xH t s)
theorem fine_sweepL (t s : Int) : (sweepL t s).yY FOK := fine_walk fun p x w h hw hm => .bind (fine_sweepIn t s x w hw hm) fun _ _ => .cond (Pr.yY.ret h) (Pr.yY.ret (endW_ok w h.x))
def kJ (t s : Int) : Pr Bool := (sweepL t s).bind fun r => .ret r.ok
theorem fine_sweep (t s : Int) : (kJ t s).yY yes := .bind (fine_sweepL t s) fun _ _ => trivial
/-! ### Seeks, and links -/
def endS (x : Int) : Int ⊕ (Int × Bool) := bif decide (x = 0) then .inr (0, false) else .inl x
def wG (t k x : Int) : Pr (Int ⊕ (Int × Bool)) := (xD (zQ t x 1)).bind fun n => bif decide (k ≤ n) then .ret (.inr (x, decide (n = k))) else (xD (zQ t x 0)).bind fun w => .ret (endS (xQ w))
def seekP (t from_ k : Int) : Pr (Int × Bool) := (xD (yZ t from_)).bind fun w => bif decide (xQ w = 0) then .ret (0, false) else .loop (wG t k) many (xQ w)
structure SOK (a : Int) : Prop where
  x : Rf a
  n : decide (a = 0) = false
theorem SOK.one {x : Int} (h : SOK x) : 1 ≤ x := by have := of_decide_eq_false h.n; have := h.x.lo; omega
structure SFound (r : Int × Bool) : Prop where
  x : Rf r.1
  n : r.2 = true → 1 ≤ r.1
theorem endS_ok (w : Int) : Next SOK SFound (endS (xQ w)) := by
  unfold endS
  cases h : decide (xQ w = 0)
  · exact ⟨kK w, h⟩
  · exact ⟨rf_0, fun h => by cases h⟩
theorem fine_seekR (t k x : Int) (hx : SOK x) : (wG t k x).yY (Next SOK SFound) :=
  .bind (yQ _) fun _ _ => .cond (Pr.yY.ret ⟨hx.x, fun _ => hx.one⟩) (.bind (yQ _) fun w _ => Pr.yY.ret (endS_ok w))
theorem fine_seek (t from_ k : Int) : (seekP t from_ k).yY SFound :=
  .bind (yQ _) fun w _ => .condB (fun _ => Pr.yY.ret ⟨rf_0, fun h => by cases h⟩) fun h0 => Pr.yY.loop SOK (fun _ => ⟨_, _, rfl⟩) (fine_seekR t k) _ ⟨kK w, h0⟩
def linkP (t p x r : Int) : Pr Bool := (vT (yZ t r) (2 * x)).bind fun _ => casP (yZ t p) (2 * x) (2 * r)
theorem fine_link (t p : Int) {x r : Int} (hx : Rf x) (hr : Rf r) : (linkP t p x r).yY yes := .bind (vJ _ hx.u2) fun _ _ => vD _ hx.u2 hr.u2
/-! ### What is left -/
/-- what is left, at a record or at none -/
def contS (t k : Int) (n : Nat) (x : Int) : Pr (Int × Bool) := bif decide (x = 0) then .ret (0, false) else .loop (wG t k) n x
theorem contS_eq (t k : Int) (n : Nat) (x : Int) : Sum.elim (Pr.loop (wG t k) n) .ret (endS x) = contS t k n x := by
  unfold endS contS
  cases decide (x = 0) <;> rfl
/-- the same of a walk -/
def contL (t : Int) (at_ : Int → Int → Int → Pr (WSt ⊕ wZ)) (n : Nat) (p x : Int) : Pr wZ := bif decide (x = 0) then .ret ⟨p, 0, false, true⟩ else .loop (yX t at_) n (some (p, x))
theorem qY (t : Int) (at_ : Int → Int → Int → Pr (WSt ⊕ wZ)) (n : Nat) (p x : Int) : Sum.elim (Pr.loop (yX t at_) n) .ret (endW p x) = contL t at_ n p x := by
  unfold endW contL
  cases decide (x = 0) <;> rfl
/-! ### An operation -/
structure OutN where
  e : Int
  is : Bool
  n : Int
  w : Int
structure OpL (k u v w : Int) : Prop where
  u : k = 9 ∨ k = 24 ∨ k = 25 → Rf u
  v : k = 24 → Rf v ∧ Rf w
  w : U w
end Go.Proofs.YtmfbamiciieooaaGreatDoor
/- Tops in words; threads' pins; keys of vertices: contracts. -/
namespace Go.Proofs.YtmfbamiciieooaaGreatDoor
set_option maxRecDepth 100000
set_option maxHeartbeats 16000000
open Go Go.RowKit
set_option linter.unusedSimpArgs false
set_option linter.unusedVariables false
attribute [local irreducible] zY zZ Step zX Sub zD zG Fn
def yM (w : Int) : Int := w % 1048576
def tagF (w : Int) : Int := w / 1048576
def topF (r g : Int) : Int := g % 17592186044416 * 1048576 + r
theorem firstF_lo (w : Int) : 0 ≤ yM w := by unfold yM; omega
theorem firstF_hi (w : Int) : yM w < 1048576 := by unfold yM; omega
theorem first_fn (w : Int) (h0 : 0 ≤ w) (h1 : w < 18446744073709551616) : Fn Tryz.prog 87 [.val (.int .u64 w)] (.p (.val (.int .i64 (yM w)))) := by
  have g1 : bits .and .u64 w 1048575 = yM w := andLow w 20 (by decide) h0 h1
  have g2 : IntKind.i64.wrap (yM w) = yM w := wrap_i64 _ (by have := firstF_lo w; have := firstF_hi w; omega)
  refine vW Tryz.func87 rfl Tryz.ntmps87 (Nat.le_of_ble_eq_true rfl) ?_
  repeat' (first | (refine zY.nil ?_) | (refine zZ.is ?_; first | refine zZ.seq ?_ | (refine zZ.isR (id := 0) ?_; refine zZ.rc [0] [] (r := (.v zB .e)) (h := ?_)) | (refine zZ.isR (id := 1) ?_; refine zZ.rc [0, 2] [] (r := (.v zV (.v v35_0 (.v v6_0 (.v zB .e))))) (h := ?_)) | refine zZ.ret ?_))
  all_goals exact ⟨.inl rfl, gives1 rfl rfl rfl⟩
theorem tag_fn (w : Int) : Fn Tryz.prog 90 [.val (.int .u64 w)] (.p (.val (.int .u64 (tagF w)))) := by
  refine vW Tryz.func90 rfl Tryz.ntmps90 (Nat.le_of_ble_eq_true rfl) ?_
  repeat' (first | (refine zY.nil ?_) | (refine zZ.is ?_; first | refine zZ.seq ?_ | (refine zZ.isR (id := 0) ?_; refine zZ.rc [0] [] (r := (.v zB .e)) (h := ?_)) | (refine zZ.isR (id := 1) ?_; refine zZ.rc [0, 2] [] (r := (.v zV (.v v39_1 (.v zB .e)))) (h := ?_)) | refine zZ.ret ?_))
  all_goals exact ⟨.inl rfl, gives1 rfl rfl rfl⟩
theorem orTop (r q : Int) (h0 : 0 ≤ r) (h1 : r < 1048576) (q0 : 0 ≤ q) (q1 : q < 17592186044416) : bits .or .u64 r (q * 1048576) = q * 1048576 + r := by
  obtain ⟨n, rfl⟩ := Int.eq_ofNat_of_zero_le h0
  obtain ⟨m, rfl⟩ := Int.eq_ofNat_of_zero_le q0
  have e1 : (m : Int) * 1048576 = ((m * 1048576 : Nat) : Int) := by omega
  rw [e1, u64_or_nat n (m * 1048576) (by omega) (by omega), Nat.or_comm]
  have h2 := Nat.shiftLeft_add_eq_or_of_lt (show n < 2 ^ 20 by omega) m
  rw [Nat.shiftLeft_eq] at h2
  rw [show m * 1048576 = m * 2 ^ 20 from rfl, ← h2]
  omega
theorem top_fn (r g : Int) (h0 : 0 ≤ r) (h1 : r < 1048576) (g0 : 0 ≤ g) : Fn Tryz.prog 89 [.val (.int .i64 r), .val (.int .u64 g)] (.p (.val (.int .u64 (topF r g)))) := by
  have g1 : IntKind.u64.wrap r = r := wrap_u64 _ (by omega)
  have g2 : IntKind.u64.wrap (g * 2 ^ (20 : Int).toNat) = g % 17592186044416 * 1048576 := by rw [wrapU]; show g * 1048576 % _ = _; omega
  have g3 : bits .or .u64 r (g % 17592186044416 * 1048576) = topF r g := orTop r _ h0 h1 (by omega) (by omega)
  refine vW Tryz.func89 rfl Tryz.ntmps89 (Nat.le_of_ble_eq_true rfl) ?_
  repeat' (first | (refine zY.nil ?_) | (refine zZ.is ?_; first | refine zZ.seq ?_ | (refine zZ.isR (id := 0) ?_; refine zZ.rc [0, 1] [] (r := (.v zB .e)) (h := ?_)) | (refine zZ.isR (id := 1) ?_; refine zZ.rc [0, 1, 4] [] (r := (.v zV (.v v6_0 (.v zV (.v v38_0 (.v v36_0 (.v zB .e))))))) (h := ?_)) | refine zZ.ret ?_))
  all_goals exact ⟨.inl rfl, gives1 rfl rfl rfl⟩
theorem pin_fn (i : Int) (h : Small i) : Fn Tryz.prog 99 [.val (.int .i64 i)] (.p (.val (.int .i64 (8 + i)))) := by
  unfold Small at h
  have g1 : IntKind.i64.wrap (8 + i) = 8 + i := wrap_i64 _ (by omega)
  refine vW Tryz.func99 rfl Tryz.ntmps99 (Nat.le_of_ble_eq_true rfl) ?_
  repeat' (first | (refine zY.nil ?_) | (refine zZ.is ?_; first | refine zZ.seq ?_ | (refine zZ.isR (id := 0) ?_; refine zZ.rc [0] [] (r := (.v zB .e)) (h := ?_)) | (refine zZ.isR (id := 1) ?_; refine zZ.rc [0, 2] [] (r := (.v zV (.v wM (.v zB .e)))) (h := ?_)) | refine zZ.ret ?_))
  all_goals exact ⟨.inl rfl, gives1 rfl rfl rfl⟩
/-! ### Vertices' keys -/
def vOK (u : Int) : Bool := decide (0 ≤ u ∧ u < 1073741824)
def vkF (u : Int) : Int := bif vOK u then u * 2147483648 else 0
def vkE (u : Int) : Int := bif vOK u then 0 else 4
theorem kvertex_fn (u : Int) : Fn Tryz.prog 62 [.val (.int .i64 u)] (.p (.val (.bool (vOK u)))) := by
  refine vW Tryz.func62 rfl Tryz.ntmps62 (Nat.le_of_ble_eq_true rfl) ?_
  by_cases h0 : 0 ≤ u
  · by_cases h1 : u < 1073741824
    · have g1 : decide (u ≥ 0) = true := decide_eq_true h0
      have g2 : decide (u < 1073741824) = true := decide_eq_true h1
      have e : vOK u = true := decide_eq_true ⟨h0, h1⟩
      rw [e]
      repeat' (first | (refine zY.nil ?_) | (refine zZ.is ?_; first | refine zZ.seq ?_ | (refine zZ.isR (id := 0) ?_; refine zZ.rc [0] [] (r := (.v zB .e)) (h := ?_)) | (refine zZ.isR (id := 1) ?_; refine zZ.rc [0, 2] [] (r := (.v zV (.v v46_0 (.v zV (.gY zV (.gY xI (.v xR (.v zB .e)))))))) (h := ?_)) | refine zZ.ret ?_))
      all_goals exact ⟨.inl rfl, gives1 rfl rfl rfl⟩
    · have g1 : decide (u ≥ 0) = true := decide_eq_true h0
      have g2 : decide (u < 1073741824) = false := decide_eq_false h1
      have e : vOK u = false := decide_eq_false fun h => h1 h.2
      rw [e]
      repeat' (first | (refine zY.nil ?_) | (refine zZ.is ?_; first | refine zZ.seq ?_ | (refine zZ.isR (id := 0) ?_; refine zZ.rc [0] [] (r := (.v zB .e)) (h := ?_)) | (refine zZ.isR (id := 1) ?_; refine zZ.rc [0, 2] [] (r := (.v zV (.v v46_0 (.v zV (.gY zV (.gY xI (.v xR (.v zB .e)))))))) (h := ?_)) | refine zZ.ret ?_))
      all_goals exact ⟨.inl rfl, gives1 rfl rfl rfl⟩
  · have g1 : decide (u ≥ 0) = false := decide_eq_false h0
    have e : vOK u = false := decide_eq_false fun h => h0 h.1
    rw [e]
    repeat' (first | (refine zY.nil ?_) | (refine zZ.is ?_; first | refine zZ.seq ?_ | (refine zZ.isR (id := 0) ?_; refine zZ.rc [0] [] (r := (.v zB .e)) (h := ?_)) | (refine zZ.isR (id := 1) ?_; refine zZ.rc [0, 2] [] (r := (.v zV (.v v46_0 (.v zV (.gT (.gT (.v wW (.v zB .e)))))))) (h := ?_)) | refine zZ.ret ?_))
    all_goals exact ⟨.inl rfl, gives1 rfl rfl rfl⟩
theorem vertex_fn (u : Int) : Fn Tryz.prog 30 [.val (.int .i64 u)] (.tup [.val (.int .u64 (vkF u)), .val (.int .i64 (vkE u))]) := by
  have c := kvertex_fn u
  refine vW Tryz.func30 rfl Tryz.ntmps30 (Nat.le_of_ble_eq_true rfl) ?_
  cases e : vOK u <;> rw [e] at c <;> unfold vkF vkE <;> rw [e]
  case true =>
    have h := of_decide_eq_true e
    have g1 : IntKind.u64.wrap u = u := wrap_u64 _ (by omega)
    have g2 : IntKind.u64.wrap (u * 2 ^ (31 : Int).toNat) = u * 2147483648 := by rw [wrapU]; show u * 2147483648 % _ = _; omega
    repeat' (first | (refine zY.is ?_; first | refine zY.nil ?_ | (refine zY.at_ 6 rfl ?_; refine zY.rc (.v kQ .e) ?_) | (refine zY.in_ [5] rfl ?_; refine zY.v rfl rfl (zP (c) rfl rfl rfl (by decide)) ?_)) | (refine zZ.is ?_; first | refine zZ.seq ?_ | (refine zZ.isR (id := 0) ?_; refine zZ.rc [0] [] (r := (.v zB (.v zB .e))) (h := ?_)) | (refine zZ.isR (id := 1) ?_; refine zZ.rc [0, 2, 3] [] (r := (.v zV .e)) (h := ?_)) | (refine zZ.isR (id := 3) ?_; refine zZ.rc [0, 2, 3] [] (r := (.v zV (.v v6_0 (.v v38_0 (.v zB (.v zB .e)))))) (h := ?_)) | refine zZ.yG rfl bA ?_ | refine zZ.skip ?_ | refine zZ.ret ?_))
    all_goals exact ⟨.inl rfl, givesT (ts := [2, 3]) rfl (by decide) rfl⟩
  case false =>
    repeat' (first | (refine zY.is ?_; first | refine zY.nil ?_ | (refine zY.at_ 6 rfl ?_; refine zY.rc (.v v52_4 .e) ?_) | (refine zY.in_ [5] rfl ?_; refine zY.v rfl rfl (zP (c) rfl rfl rfl (by decide)) ?_)) | (refine zZ.is ?_; first | refine zZ.seq ?_ | (refine zZ.isR (id := 0) ?_; refine zZ.rc [0] [] (r := (.v zB (.v zB .e))) (h := ?_)) | (refine zZ.isR (id := 1) ?_; refine zZ.rc [0, 2, 3] [] (r := (.v zV .e)) (h := ?_)) | (refine zZ.isR (id := 2) ?_; refine zZ.rc [0, 2, 3] [] (r := (.v zB (.v zB .e))) (h := ?_)) | refine zZ.yN rfl bA ?_ | refine zZ.ret ?_) | refine zF.r ?_)
    all_goals exact ⟨.inl rfl, givesT (ts := [2, 3]) rfl (by decide) rfl⟩
end Go.Proofs.YtmfbamiciieooaaGreatDoor
/- The pool's, the epochs', and the vertices' operations, as trees. -/
namespace Go.Proofs.YtmfbamiciieooaaGreatDoor
set_option maxRecDepth 100000
set_option maxHeartbeats 16000000
open Go Go.RowKit
set_option linter.unusedSimpArgs false
set_option linter.unusedVariables false
theorem qL (w : Int) : Rf (yM w) := ⟨firstF_lo w, by have := firstF_hi w; omega⟩
theorem topF_U {r g : Int} (hr : Rf r) : U (topF r g) := by
  have h1 := hr.lo
  have h2 := hr.hi
  unfold topF U
  constructor <;> omega
/-! ### Records that are free -/
def qM (t : Int) (_ : Unit) : Pr (Unit ⊕ Int) := (xD 1).bind fun w => bif decide (yM w = 0) then .ret (.inr 0) else (xD (zQ t (yM w) 7)).bind fun n => (casP 1 w (topF (yM n) (tagF w + 1))).bind fun d => .ret (bif d then .inr (yM w) else .inl ())
def popP (t : Int) : Pr Int := .loop (qM t) many ()
theorem fine_popR (t : Int) (u : Unit) : (qM t u).yY (Next yes Rf) :=
  .bind (yQ _) fun w hw => .cond (Pr.yY.ret rf_0) (.bind (yQ _) fun n _ => .bind (vD _ hw (topF_U (qL n))) fun d _ => Pr.yY.ret (by cases d; exact trivial; exact qL w))
theorem fine_pop (t : Int) : (popP t).yY Rf := Pr.yY.loop yes (fun _ => ⟨_, _, rfl⟩) (fun u _ => fine_popR t u) () trivial
def qA (t r : Int) (_ : Unit) : Pr (Unit ⊕ Unit) := (xD 1).bind fun w => (vT (zQ t r 7) (yM w)).bind fun _ => (casP 1 w (topF r (tagF w + 1))).bind fun d => .ret (bif d then .inr () else .inl ())
def pushP (t r : Int) : Pr Unit := .loop (qA t r) many ()
theorem fine_pushR (t : Int) {r : Int} (hr : Rf r) (u : Unit) : (qA t r u).yY (Next yes yes) :=
  .bind (yQ _) fun w hw => .bind (vJ _ (qL w).u) fun _ _ => .bind (vD _ hw (topF_U hr)) fun d _ => Pr.yY.ret (by cases d <;> trivial)
theorem fine_push (t : Int) {r : Int} (hr : Rf r) : (pushP t r).yY yes := Pr.yY.loop yes (fun _ => ⟨_, _, rfl⟩) (fun u _ => fine_pushR t hr u) () trivial
/-! ### Epochs -/
abbrev wr1 (e : Int) : Int := IntKind.u64.wrap (e + 1)
abbrev wr2 (e : Int) : Int := IntKind.u64.wrap (e + 2)
theorem wr1_U (e : Int) : U (wr1 e) := wrapU_U _
theorem wr2_U (e : Int) : U (wr2 e) := wrapU_U _
def pinP (me : Int) : Pr Unit := (xD 3).bind fun e => vT (8 + me) (wr1 e)
def unpinP (me : Int) : Pr Unit := vT (8 + me) 0
theorem fine_pin (me : Int) : (pinP me).yY yes := .bind (yQ _) fun _ _ => vJ _ (wr1_U _)
theorem fine_unpin (me : Int) : (unpinP me).yY yes := vJ _ U.zero
/-- are all threads of i.. out, or in at this epoch? -/
def scanP (e : Int) : Nat → Nat → Pr Bool
  | 0, _ => .ret true
  | k + 1, i => (xD (8 + i)).bind fun p => bif !decide (p = 0) && !decide (p = wr1 e) then .ret false else scanP e k (i + 1)
theorem fine_scan (e : Int) : ∀ k i, (scanP e k i).yY yes
  | 0, _ => Pr.yY.ret trivial
  | k + 1, i => .bind (yQ _) fun _ _ => .cond (Pr.yY.ret trivial) (fine_scan e k (i + 1))
def endC (x : Int) : Int ⊕ Unit := bif decide (x = 0) then .inr () else .inl x
/-- along a chain, with something done for each record -/
def wR (t : Int) (yb : Int → Pr Unit) (r : Int) : Pr (Int ⊕ Unit) := (xD (zQ t r 7)).bind fun n => (yb r).bind fun _ => .ret (endC (yM n))
def chainL (t : Int) (yb : Int → Pr Unit) (n : Nat) (r : Int) : Pr Unit := bif decide (r = 0) then .ret () else .loop (wR t yb) n r
def chainP (t : Int) (yb : Int → Pr Unit) (h : Int) : Pr Unit := chainL t yb many (yM h)
theorem endC_ok (w : Int) : Next Rf yes (endC (yM w)) := by
  unfold endC
  cases decide (yM w = 0)
  · exact qL w
  · trivial
theorem fine_chainR (t : Int) {yb : Int → Pr Unit} (hy : ∀ r, Rf r → (yb r).yY yes) (r : Int) (hr : Rf r) : (wR t yb r).yY (Next Rf yes) := .bind (yQ _) fun n _ => .bind (hy r hr) fun _ _ => Pr.yY.ret (endC_ok n)
theorem fine_chainL (t : Int) {yb : Int → Pr Unit} (hy : ∀ r, Rf r → (yb r).yY yes) (r : Int) (hr : Rf r) : (chainL t yb many r).yY yes := .cond (Pr.yY.ret trivial) (Pr.yY.loop Rf (fun _ => ⟨_, _, rfl⟩) (fine_chainR t hy) r hr)
theorem chainL_eq (t : Int) (yb : Int → Pr Unit) (n : Nat) (x : Int) : Sum.elim (Pr.loop (wR t yb) n) .ret (endC x) = chainL t yb n x := by
  unfold endC chainL
  cases decide (x = 0) <;> rfl
def advRest (t e : Int) (ok : Bool) : Pr Bool := bif ok then (casP 3 e (wr1 e)).bind fun d => bif d then (swapP (yB (wr2 e)) 0).bind fun h => (chainP t (pushP t) h).bind fun _ => .ret true else .ret false else .ret false
def wC (t : Int) : Pr Bool := (xD 3).bind fun e => (scanP e t.toNat 0).bind (advRest t e)
theorem fine_advR (t : Int) {e : Int} (he : U e) (ok : Bool) : (advRest t e ok).yY yes :=
  .cond (.bind (vD _ he (wr1_U e)) fun _ _ => .cond (.bind (fine_swap _ U.zero) fun h _ => .bind (fine_chainL t (fun r hr => fine_push t hr) _ (qL h)) fun _ _ => Pr.yY.ret trivial) (Pr.yY.ret trivial)) (Pr.yY.ret trivial)
theorem fine_advance (t : Int) : (wC t).yY yes := .bind (yQ _) fun e he => .bind (fine_scan e _ _) fun ok _ => fine_advR t he ok
def allocL (t me : Int) : Nat → Int → Pr Int
  | 0, r => .ret r
  | k + 1, r => bif decide (r = 0) then (pinP me).bind fun _ => (wC t).bind fun _ => (popP t).bind fun r => allocL t me k r else .ret r
def allocP (t me : Int) : Pr Int := (popP t).bind (allocL t me 3)
theorem fine_allocL (t me : Int) : ∀ k r, Rf r → (allocL t me k r).yY Rf
  | 0, _, h => Pr.yY.ret h
  | k + 1, r, h => .cond (.bind (fine_pin me) fun _ _ => .bind (fine_advance t) fun _ _ => .bind (fine_pop t) fun r hr => fine_allocL t me k r hr) (Pr.yY.ret h)
theorem fine_alloc (t me : Int) : (allocP t me).yY Rf := .bind (fine_pop t) fun r hr => fine_allocL t me 3 r hr
/-! ### Vertices -/
/-- an error, is it so, is it durable; and what the program says where it isn't -/
structure OutB where
  e : Int
  is : Bool
  ok : Bool
  alt : Bool
def AltOK (o : OutB) : Prop := o.ok = true → o.alt = o.is
def toldP (t r b : Int) (is : Bool) : Pr OutB := (saveP t r b).bind fun ok => .ret ⟨0, is, ok, is⟩
theorem fine_told (t r : Int) {b : Int} (is : Bool) (hb : b = 1 ∨ b = 2) : (toldP t r b is).yY AltOK := .bind (fine_save t r b hb) fun _ _ => Pr.yY.ret fun _ => rfl
def qX (t k r : Int) (_ : Unit) : Pr (Unit ⊕ OutB) := (vI t k).bind fun f => bif f.ok then bif f.is then (pushP t r).bind fun _ => (toldP t f.x 1 false).bind fun o => .ret (.inr o)
  else (linkP t f.p f.x r).bind fun d => bif d then (toldP t r 1 true).bind fun o => .ret (.inr o) else .ret (.inl ())
  else (pushP t r).bind fun _ => .ret (.inr ⟨0, false, false, false⟩)
def vaddP (t me k : Int) : Pr OutB := (vI t k).bind fun f => bif f.ok then bif f.is then toldP t f.x 1 false
  else (allocP t me).bind fun r => bif decide (r = 0) then .ret ⟨3, false, true, false⟩ else (makeP t r k 0 0 0 0).bind fun _ => .loop (qX t k r) many ()
  else .ret ⟨0, false, false, false⟩
theorem search_ask (t k : Int) {β : Type} (f : wZ → Pr β) : ∃ q g, (vI t k).bind f = .ask q g := by
  unfold vI alongP walkP
  exact ⟨_, _, rfl⟩
theorem fine_addR (t k : Int) {r : Int} (hr : Rf r) (u : Unit) : (qX t k r u).yY (Next yes AltOK) :=
  .bind (fine_search t k) fun f hf => .cond (.cond (.bind (fine_push t hr) fun _ _ => .bind (fine_told t _ _ (.inl rfl)) fun _ h => Pr.yY.ret h) (.bind (fine_link t _ hf.x hr) fun _ _ => .cond (.bind (fine_told t _ _ (.inl rfl)) fun _ h => Pr.yY.ret h) (Pr.yY.ret trivial)))
    (.bind (fine_push t hr) fun _ _ => Pr.yY.ret fun _ => rfl)
theorem fine_addL (t k : Int) {r : Int} (hr : Rf r) : (Pr.loop (qX t k r) many ()).yY AltOK := Pr.yY.loop yes (fun _ => search_ask t k _) (fun u _ => fine_addR t k hr u) () trivial
theorem fine_vadd (t me : Int) {k : Int} (hk : U k) : (vaddP t me k).yY AltOK :=
  .bind (fine_search t k) fun f _ => .cond (.cond (fine_told t _ _ (.inl rfl)) (.bind (fine_alloc t me) fun r hr => .cond (Pr.yY.ret fun _ => rfl) (.bind (fine_make t r hk U.zero U.zero U.zero U.zero) fun _ _ => fine_addL t k hr))) (Pr.yY.ret fun _ => rfl)
def vE (t k : Int) (_ : Unit) : Pr (Unit ⊕ OutB) := (vI t k).bind fun f => bif f.ok then bif f.is then (markP t f.x).bind fun d => bif d then (xD (zQ t f.x 2)).bind fun w => (saveP t f.x 2).bind fun ok => bif ok then (kJ t (w / 4)).bind fun s => .ret (.inr ⟨0, true, s, true⟩)
  else .ret (.inr ⟨0, false, false, true⟩) else .ret (.inl ()) else .ret (.inr ⟨0, false, true, false⟩) else .ret (.inr ⟨0, false, false, false⟩)
def vremP (t k : Int) : Pr OutB := .loop (vE t k) many ()
theorem fine_remR (t k : Int) (u : Unit) : (vE t k u).yY (Next yes AltOK) :=
  .bind (fine_search t k) fun f hf => .cond (.cond (.bind (fine_mark t _) fun _ _ => .cond (.bind (yQ _) fun _ _ => .bind (fine_save t _ _ (.inr rfl)) fun _ _ => .cond (.bind (fine_sweep t _) fun _ _ => Pr.yY.ret fun _ => rfl) (Pr.yY.ret fun h => by cases h)) (Pr.yY.ret trivial)) (Pr.yY.ret fun _ => rfl)) (Pr.yY.ret fun _ => rfl)
theorem fine_vrem (t k : Int) : (vremP t k).yY AltOK := Pr.yY.loop yes (fun _ => search_ask t k _) (fun u _ => fine_remR t k u) () trivial
def vhasP (t k : Int) : Pr OutB := (seekP t 0 k).bind fun f => bif f.2 then (xD (zQ t f.1 0)).bind fun w => bif decide (w % 2 = 1) then toldP t f.1 2 false else toldP t f.1 1 true else .ret ⟨0, false, true, false⟩
theorem fine_vhas (t k : Int) : (vhasP t k).yY AltOK := .bind (fine_seek t 0 k) fun f hf => .cond (.bind (yQ _) fun _ _ => .cond (fine_told t _ _ (.inr rfl)) (fine_told t _ _ (.inl rfl))) (Pr.yY.ret fun _ => rfl)
/-- an operation, entered and left -/
def leaveP (me : Int) (o : OutB) : Pr OutN := bif o.ok then (unpinP me).bind fun _ => .ret ⟨o.e, o.is, 0, 0⟩ else (vT 7 1).bind fun _ => (unpinP me).bind fun _ => .ret ⟨7, false, 0, 0⟩
def inP (me : Int) (body : Pr OutB) : Pr OutN := (xD 7).bind fun w => bif !decide (w = 0) then .ret ⟨6, false, 0, 0⟩ else (pinP me).bind fun _ => body.bind (leaveP me)
theorem fine_leave (me : Int) (o : OutB) : (leaveP me o).yY yes := .cond (.bind (fine_unpin me) fun _ _ => Pr.yY.ret trivial) (.bind (vJ _ (by unfold U; decide)) fun _ _ => .bind (fine_unpin me) fun _ _ => Pr.yY.ret trivial)
theorem fine_in (me : Int) {body : Pr OutB} (h : body.yY AltOK) : (inP me body).yY yes := .bind (yQ _) fun _ _ => .cond (Pr.yY.ret trivial) (.bind (fine_pin me) fun _ _ => .bind h fun o _ => fine_leave me o)
def vopB (t me k u : Int) : Pr OutB := bif decide (k = 11) then vaddP t me (vkF u) else bif decide (k = 12) then vremP t (vkF u) else vhasP t (vkF u)
def qE (t me k u : Int) : Pr OutN := bif decide (k = 11) || (decide (k = 12) || decide (k = 13)) then bif vOK u then inP me (vopB t me k u) else .ret ⟨4, false, 0, 0⟩ else .ret ⟨1, false, 0, 0⟩
theorem vkF_U (u : Int) : U (vkF u) := by
  unfold vkF U
  cases h : vOK u
  · show (0 : Int) ≤ 0 ∧ (0 : Int) < _
    decide
  · have := of_decide_eq_true h
    show 0 ≤ u * 2147483648 ∧ u * 2147483648 < 18446744073709551616
    constructor <;> omega
theorem fine_vopB (t me k u : Int) : (vopB t me k u).yY AltOK := .cond (fine_vadd t me (vkF_U u)) (.cond (fine_vrem t _) (fine_vhas t _))
theorem fine_vop (t me k u : Int) : (qE t me k u).yY yes := .cond (.cond (fine_in me (fine_vopB t me k u)) (Pr.yY.ret trivial)) (Pr.yY.ret trivial)
end Go.Proofs.YtmfbamiciieooaaGreatDoor
/- A region that draws its order, walked in each order that may be. Generic over the program. -/
namespace Go.Proofs.YtmfbamiciieooaaGreatDoor
set_option maxRecDepth 100000
set_option maxHeartbeats 16000000
open Go Go.RowKit
/-- what may come next, these being done -/
def readyD (l : List Oper) (done : List Nat) : List Nat := (List.range l.length).filter fun i => !done.contains i && (match l[i]? with
  | some o => o.after.toList.all fun e => !Region.binds .any e || done.contains e.on
  | none => false)
theorem qW {l : List Oper} {listed : Array Bool} {done : List Nat} (hs : listed.size = l.length) (h : ∀ i, listed.getD i false = done.contains i) (i : Nat) : i ∈ Region.ready .any l.toArray listed ↔ i ∈ readyD l done := by
  unfold Region.ready readyD
  simp only [List.size_toArray, List.mem_filter, List.mem_range]
  refine ⟨fun ⟨h1, h2⟩ => ⟨h1, ?_⟩, fun ⟨h1, h2⟩ => ⟨h1, ?_⟩⟩
  · have e1 : listed.getD i true = listed.getD i false := by simp [Array.getD_eq_getD_getElem?, hs, h1]
    simp only [List.getElem?_toArray, List.getElem?_eq_getElem h1, Option.map_some, Option.getD_some, Bool.and_eq_true, Bool.not_eq_true', List.all_eq_true] at h2 ⊢
    refine ⟨?_, fun e he => ?_⟩
    · rw [← h i, ← e1]; exact h2.1
    · have := Array.all_eq_true'.1 h2.2 e (by simpa using he)
      rw [← h e.on]
      exact this
  · have e1 : listed.getD i true = listed.getD i false := by simp [Array.getD_eq_getD_getElem?, hs, h1]
    simp only [List.getElem?_toArray, List.getElem?_eq_getElem h1, Option.map_some, Option.getD_some, Bool.and_eq_true, Bool.not_eq_true', List.all_eq_true] at h2 ⊢
    refine ⟨?_, Array.all_eq_true'.2 fun e he => ?_⟩
    · rw [e1, h i]; exact h2.1
    · have := h2.2 e (by simpa using he)
      rw [← h e.on] at this
      exact this
def DAll (P : Program) (n : Nat) (l : List Oper) (K : Exit → AS → Prop) : Nat → List Nat → AS → Prop
  | 0, done, S => readyD l done = [] ∧ K .normal S
  | m + 1, done, S => readyD l done ≠ [] ∧ ∀ i ∈ readyD l done, ∃ o, l[i]? = some o ∧ o.guard = none ∧ zG P n o S K fun S1 => DAll P n l K m (i :: done) S1
def DOne (P : Program) (n : Nat) (l : List Oper) (K : Exit → AS → Prop) (m : Nat) (done : List Nat) (S : AS) (i : Nat) : Prop :=
  ∃ o, l[i]? = some o ∧ o.guard = none ∧ zG P n o S K fun S1 => DAll P n l K m (i :: done) S1
def zI (p : Nat → Prop) : List Nat → Prop
  | [] => True
  | i :: r => p i ∧ zI p r
theorem zI.all {p : Nat → Prop} : ∀ {rs : List Nat}, zI p rs → ∀ i ∈ rs, p i
  | [], _, i, hi => by simp at hi
  | j :: r, h, i, hi => by
    rcases List.mem_cons.1 hi with rfl | hi
    · exact h.1
    · exact zI.all h.2 i hi
theorem zI.nil {p : Nat → Prop} : zI p [] := trivial
theorem zI.cons {p : Nat → Prop} {i : Nat} {r : List Nat} (h : p i) (hr : zI p r) : zI p (i :: r) := ⟨h, hr⟩
section
variable {P : Program} {n : Nat} {l : List Oper} {K : Exit → AS → Prop} {fu : Nat} {done : List Nat} {S S1 : AS} {i d : Nat} {o : Oper}
theorem DAll.fin (hr : readyD l done = []) (h : K .normal S) : DAll P n l K 0 done S := ⟨hr, h⟩
theorem DAll.many (hr : (readyD l done).isEmpty = false) (h : zI (DOne P n l K fu done S) (readyD l done)) : DAll P n l K (fu + 1) done S :=
  ⟨(fun e => by rw [e] at hr; cases hr), h.all⟩
theorem DOne.v {bs : List Nat} {av : AV} (ho : l[i]? = some o) (hg : o.guard = none) (hd : o.dst = some d) (h : zX P n o S bs av none) (hr : DAll P n l K fu (i :: done) (S.put d av)) : DOne P n l K fu done S i :=
  ⟨o, ho, hg, Step.t h.step (by rw [hd]; exact hr)⟩
theorem DOne.w (ho : l[i]? = some o) (hg : o.guard = none) (h : Step P n o S S1) (hr : DAll P n l K fu (i :: done) S1) : DOne P n l K fu done S i := ⟨o, ho, hg, h.t hr⟩
theorem zZ.drawAll {id : Nat} (hm : P.follows .mixedOrders = true) (h : DAll P n l K l.length [] S) : zZ P n (.region id l.toArray true) S K := by
  intro M w0 ρ a w Q hs hK
  have main : ∀ (m : Nat) (listed : Array Bool) (done : List Nat) (S : AS) (ρ : Nat → Value) (a : Act) (w : World), listed.size = l.length → (∀ i, listed.getD i false = done.contains i) → DAll P n l K m done S → Sat M n w0 S ρ a w → wpAny P .any l.toArray Q m listed a w := by
    intro m
    induction m with
    | zero =>
      intro listed done S ρ a w hz hl hd hs
      refine ⟨List.eq_nil_iff_forall_not_mem.2 fun i hi => ?_, hK .normal S ρ a w hd.2 hs trivial⟩
      have := (qW hz hl i).1 hi
      rw [hd.1] at this
      simp at this
    | succ m ih =>
      intro listed done S ρ a w hz hl hd hs
      refine ⟨fun hnil => ?_, fun i hi => ?_⟩
      · obtain ⟨j, hj⟩ := List.exists_mem_of_ne_nil _ hd.1
        have := (qW hz hl j).2 hj
        rw [hnil] at this
        simp at this
      · obtain ⟨hil, _, _⟩ := yD hi
        obtain ⟨o, ho, hg, ht⟩ := hd.2 i ((qW hz hl i).1 hi)
        unfold wpOp
        simp only [List.getElem?_toArray, ho]
        rw [if_pos (by simp [Region.wanted, hg])]
        refine .inl (ht M w0 ρ a w _ Q hs (fun S1 ρ' a' w' hd1 hs' => ?_) hK)
        refine ih _ _ S1 ρ' a' w' (by simp [hz]) (fun k => ?_) hd1 hs'
        simp only [Array.getD_eq_getD_getElem?, Array.getElem?_setIfInBounds, List.contains_cons]
        by_cases hik : i = k
        · subst hik
          simp [hz, hil]
        · have : (k == i) = false := by simpa using fun e => hik e.symm
          rw [if_neg hik, this, Bool.false_or, ← hl k, Array.getD_eq_getD_getElem?]
  refine wp_region_any hm ?_
  exact main _ _ [] S ρ a _ (by simp) (fun i => by rw [getD_replicate_false]; rfl) (by simpa using h) (hs.ext ((Below.refl _ _).drew))
end
attribute [irreducible] DAll DOne
end Go.Proofs.YtmfbamiciieooaaGreatDoor
/- An array's literal. Generic over the program. -/
namespace Go.Proofs.YtmfbamiciieooaaGreatDoor
set_option maxRecDepth 100000
set_option maxHeartbeats 16000000
open Go Go.RowKit
section
variable {P : Program} {n : Nat} {o : Oper} {S : AS} {d : Nat} {t : TypeId}
theorem run_buildArr {m e sz by_ : Nat} {z ze : Value} [ht : Und P t (.array m e)] [hi : InfoA P e ze sz by_] [hz : ZeroA P t z] (parts : List (Nat × Value)) (w : World) (cells : Array Value) (h : Instr.fill (fun i => some (i * sz, sz)) z.cells.toList.toArray parts = some cells) :
    (Instr.build t parts.toArray).run P w = .ok (.agg cells) w := by
  have hs : (sizeOf e).run P w = .ok sz w := by
    have h1 := hi.h
    cases h2 : P.info? e with
    | none => rw [h2] at h1; cases h1
    | some i =>
      rw [h2] at h1
      simp only [Option.map_some, Option.some.injEq, Prod.mk.injEq] at h1
      simp [sizeOf, typeInfo, h2, h1.2.1]
  unfold Instr.build
  simp only [Sem.run_bind, hz.h, Result.andThen_ok, run_underlying ht.h, hs]
  rw [Array.toArray_toList] at h
  rw [h]
  rfl
theorem w_buildArr {ps : Array (Nat × Operand)} {m e sz by_ : Nat} {z ze : Value} {zs : List AV} {cs : List PV} [ht : Und P t (.array m e)] [hi : InfoA P e ze sz by_] [hz : ZeroA P t z] (ho : o.op = .build t ps) (h1 : z.cells.toList.all (fun u => u.oneCell') = true)
    (hk : ps.toList.all (fun p => (S.get p.2).qD) = true)
    (hf : fillA (fun i => some (i * sz, sz)) (z.cells.toList.map fun u => .p (.val u)) (ps.toList.map fun p => (p.1, S.get p.2)) = some zs) (hp : pures zs = some cs) (hd : o.dst = some d) (hn : d < n) : zX P n o S [] (.p (.agg cs)) none :=
  zX.pure hd hn fun S2 hg _ M w0 ρ a w hs => by
    have hzs := q8 hp
    have hargs : ∀ p ∈ ps.toList, S2.get p.2 = S.get p.2 := fun p hp => hg p.2 (by rw [ho]; simp only [Op.operands, List.mem_map]; exact ⟨p, hp, rfl⟩)
    obtain ⟨us, h3, h2⟩ := fill_rep (fun i => some (i * sz, sz)) S.get a.eval ps.toList _ zs z.cells.toList (parts_ok hs hargs hk) hf (zerosA fun u hu => List.all_eq_true.1 h1 u hu)
    refine ⟨.agg us.toArray, w, ?_, Below.refl _ _, .p (.agg _ _ (by rw [h2.len, hzs]; simp) (fun i c v h3 h4 => kX (h2.each i (.p c) v (by rw [hzs, List.getElem?_map, h3]; rfl) h4)) h2.one)⟩
    unfold execOp
    rw [ho]
    have e1 := run_buildArr (P := P) (t := t) (ps.toList.map fun p => (p.1, a.eval p.2)) w us.toArray h3
    have e2 : (ps.toList.map fun p => (p.1, a.eval p.2)).toArray = ps.map fun p => (p.1, a.eval p.2) := by apply Array.ext'; simp
    rw [e2] at e1
    simp [e1]
end
end Go.Proofs.YtmfbamiciieooaaGreatDoor
/- Own rows of pure elements; rows that are frozen wherever they are spoken of; calls of function values. Generic over the program. -/
namespace Go.Proofs.YtmfbamiciieooaaGreatDoor
set_option maxRecDepth 100000
set_option maxHeartbeats 16000000
open Go Go.RowKit
/-! ### Rows of pure elements -/
def vG (e sz : Nat) (es : List PV) : Blk := .prow e sz es.length (flat es)
theorem qV (e sz : Nat) (es : List PV) : Alike (.row e sz es.length ((flat es).map AV.p)) (vG e sz es) := .rp _ _ _ _
theorem kZ (e sz : Nat) (es : List PV) : Alike (vG e sz es) (.row e sz es.length ((flat es).map AV.p)) := .pr _ _ _ _
theorem flat_append (xs ys : List PV) : flat (xs ++ ys) = flat xs ++ flat ys := by simp [flat]
section
variable {P : Program} {n : Nat} {o : Oper} {S : AS} {d : Nat} {t : TypeId} {x y : Operand}
theorem w_appV {id e sz by_ : Nat} {z : Value} {cs bs : List PV} [ht : Und P t (.slice e)] [hi : InfoA P e z sz by_] (ho : o.op = .call { callee := .builtin .append, args := #[x, y], argTypes := #[t, t] }) (hx : S.get x = .own id) (hb : S.blk id = some (vG e sz cs))
    (hy : S.get y = .p (.sl bs)) (hes : ∀ e ∈ bs, e.cells.length = sz) (hlim : (cs.length + bs.length) * by_ ≤ 140737488355328 ∧ cs.length + bs.length ≤ maxLen) (hzs : z.cells.size = sz) (hsz : 0 < sz) (hd : o.dst = some d) (hn : d < n) :
    Step P n o S ((S.create id (vG e sz (cs ++ bs))).put d (.own id)) := by
  have h := w_appendP (P := P) (S := S.tag id (.row e sz cs.length ((flat cs).map AV.p))) (o := o) (d := d) ho (by rw [AS.wI]; exact hx) (by rw [AS.xG, if_pos rfl]) (by rw [AS.wI]; exact hy) hes hlim hzs hsz hd hn
  have e1 : Blk.row e sz (cs.length + bs.length) ((flat cs).map AV.p ++ (flat bs).map AV.p) = .row e sz (cs ++ bs).length ((flat (cs ++ bs)).map AV.p) := by
    rw [flat_append, List.map_append, List.length_append]
  rw [e1] at h
  exact h.same (vB hb (kZ e sz cs)) (((vO hb (qV e sz cs)).create id (qV e sz (cs ++ bs))).put d _)
theorem w_lenV {id e sz t' : Nat} {es : List PV} [ht : Und P t (.slice t')] (ho : o.op = .call { callee := .builtin .len, args := #[x], argTypes := #[t] }) (hx : S.get x = .own id) (hb : S.blk id = some (vG e sz es)) (hd : o.dst = some d) (hn : d < n) : zX P n o S [id] (.p (.val (.int .i64 es.length))) none :=
  zX.tag hb (kZ e sz es) (qV e sz es) (by simp) (w_lenO (S := S.tag id (.row e sz es.length ((flat es).map AV.p))) ho (by rw [AS.wI]; exact hx) (by rw [AS.xG, if_pos rfl]) hd hn)
theorem w_indexV {ix : Operand} {id e ty sz : Nat} {j : Int} {k : IntKind} {es : List PV} {agg : Bool} [ht : Und P t (.slice e)] [he : TyA P e agg sz] (ho : o.op = .indexAddr t x ix) (hx : S.get x = .own id) (hb : S.blk id = some (vG ty sz es)) (hi : S.get ix = .p (.val (.int k j)))
    (hj : 0 ≤ j ∧ j < es.length) (hd : o.dst = some d) (hn : d < n) : zX P n o S [id] (.ptr id (j.toNat * sz)) none :=
  zX.tag hb (kZ ty sz es) (qV ty sz es) (by simp) (w_indexO (S := S.tag id (.row ty sz es.length ((flat es).map AV.p))) ho (by rw [AS.wI]; exact hx) (by rw [AS.xG, if_pos rfl]) (by rw [AS.wI]; exact hi) hj hd hn)
theorem flat_set {sz : Nat} : ∀ {es : List PV} {i : Nat} {v : PV}, (∀ e ∈ es, e.cells.length = sz) → v.cells.length = sz → i < es.length → splice (flat es) (i * sz) v.cells = flat (es.set i v)
  | [], i, v, _, _, h => by simp at h
  | e :: es, 0, v, he, hv, _ => by
    have h1 := he e (by simp)
    have : flat (e :: es) = e.cells ++ flat es := by simp [flat]
    rw [Nat.zero_mul, this, List.set_cons_zero]
    have h2 : flat (v :: es) = v.cells ++ flat es := by simp [flat]
    rw [h2]
    apply List.ext_getElem?
    intro j
    rw [xK (by simp; omega)]
    by_cases hj : j < v.cells.length
    · rw [if_neg (by omega), if_pos (by omega), List.getElem?_append_left hj, Nat.sub_zero]
    · rw [if_neg (by omega), if_neg (by omega), List.getElem?_append_right (by omega), List.getElem?_append_right (by omega), h1, hv]
  | e :: es, i + 1, v, he, hv, hi => by
    have h1 := he e (by simp)
    have ih := flat_set (es := es) (i := i) (v := v) (fun e h => he e (by simp [h])) hv (by simpa using hi)
    have h3 : flat (e :: es) = e.cells ++ flat es := by simp [flat]
    have h4 : flat ((e :: es).set (i + 1) v) = e.cells ++ flat (es.set i v) := by simp [flat]
    have hfl := flat_len (es := es) (sz := sz) (fun e h => he e (by simp [h]))
    have hi' : i < es.length := by simpa using hi
    have hle : i * sz + sz ≤ (flat es).length := by
      rw [hfl]
      have : (i + 1) * sz ≤ es.length * sz := Nat.mul_le_mul_right _ hi'
      rw [Nat.add_mul] at this
      omega
    rw [h3, h4, ← ih]
    apply List.ext_getElem?
    intro j
    have e1 : (i + 1) * sz = sz + i * sz := by rw [Nat.add_mul]; omega
    rw [xK (by rw [List.length_append, h1, hv, e1]; omega), e1]
    by_cases hj : j < e.cells.length
    · rw [if_pos (show j < sz + i * sz by omega), List.getElem?_append_left hj, List.getElem?_append_left hj]
    · rw [List.getElem?_append_right (by omega), List.getElem?_append_right (by omega), xK (by rw [hv]; omega), h1, hv]
      by_cases h5 : j < sz + i * sz
      · rw [if_pos h5, if_pos (show j - sz < i * sz by omega)]
      · rw [if_neg h5, if_neg (show ¬ j - sz < i * sz by omega)]
        by_cases h6 : j < sz + i * sz + sz
        · rw [if_pos h6, if_pos (show j - sz < i * sz + sz by omega)]
          congr 1
          omega
        · rw [if_neg h6, if_neg (show ¬ j - sz < i * sz + sz by omega)]
theorem splice_map {α β : Type} (f : α → β) (l : List α) (o : Nat) (v : List α) : splice (l.map f) o (v.map f) = (splice l o v).map f := by simp [splice, List.map_take, List.map_drop]
theorem w_storeV {id off i e sz : Nat} {es : List PV} {v : PV} {agg : Bool} [h : TyA P t agg sz] (ho : o.op = .store t x y) (hx : S.get x = .ptr id off) (hb : S.blk id = some (vG e sz es)) (hy : S.get y = .p v) (hk : (AV.p v).qD = true) (hes : ∀ e ∈ es, e.cells.length = sz) (hv : v.cells.length = sz) (hoff : off = i * sz) (hi : i < es.length) (hd : o.dst = none) :
    Step P n o S (S.tag id (vG e sz (es.set i v))) := by
  subst hoff
  have hfl := flat_len hes
  have hle : i * sz + sz ≤ (flat es).length := by
    rw [hfl]
    have : (i + 1) * sz ≤ es.length * sz := Nat.mul_le_mul_right _ hi
    rw [Nat.add_mul] at this
    omega
  have h1 := yO (P := P) (n := n) (S := S.tag id (.row e sz es.length ((flat es).map AV.p))) (o := o) (agg := agg) (m := sz) ho (by rw [AS.wI]; exact hx) (by rw [AS.xG, if_pos rfl]) (by rw [AS.wI, hy]) hk (by show (v.cells.map AV.p).length = sz; rw [List.length_map, hv]) (by show i * sz + sz ≤ ((flat es).map AV.p).length; rw [List.length_map]; exact hle) rfl hd
  have e1 : (Blk.row e sz es.length ((flat es).map AV.p)).setXs (splice (Blk.row e sz es.length ((flat es).map AV.p)).xs (i * sz) (AV.p v).xP) = .row e sz (es.set i v).length ((flat (es.set i v)).map AV.p) := by
    show Blk.row e sz es.length (splice ((flat es).map AV.p) (i * sz) (v.cells.map AV.p)) = _
    rw [splice_map, flat_set hes hv hi, List.length_set]
  rw [e1] at h1
  refine h1.same (vB hb (kZ e sz es)) ⟨fun _ => rfl, fun j => ?_⟩
  show (if id = j then some _ else if id = j then some _ else S.blk j) = none ∧ (if id = j then some _ else S.blk j) = none ∨ ∃ b b', (if id = j then some _ else if id = j then some _ else S.blk j) = some b ∧ (if id = j then some _ else S.blk j) = some b' ∧ Alike b b'
  by_cases hj : id = j
  · subst hj
    rw [if_pos rfl, if_pos rfl]
    exact .inr ⟨_, _, rfl, rfl, qV e sz (es.set i v)⟩
  · rw [if_neg hj, if_neg hj, if_neg hj]
    cases S.blk j with
    | none => exact .inl ⟨rfl, rfl⟩
    | some b => exact .inr ⟨b, b, rfl, rfl, .refl b⟩
theorem flat_at {sz : Nat} {es : List PV} (hes : ∀ e ∈ es, e.cells.length = sz) {i : Nat} {c : PV} (hc : es[i]? = some c) : ((flat es).drop (i * sz)).take sz = c.cells := flat_get hes hc
theorem w_loadVN {id off i e sz : Nat} {es cs : List PV} [h : TyA P t true sz] (ho : o.op = .load t x) (hx : S.get x = .ptr id off) (hb : S.blk id = some (vG e sz es)) (hes : ∀ e ∈ es, e.cells.length = sz) (hoff : off = i * sz) (hc : es[i]? = some (.agg cs)) (hd : o.dst = some d) (hn : d < n) : zX P n o S [id] (.p (.agg cs)) none := by
  subst hoff
  refine a_loadRN (b := vG e sz es) ho hx hb ?_ (hes _ (List.mem_of_getElem? hc)) h.ag h.sz hd hn
  show (((flat es).map AV.p).drop (i * sz)).take sz = cs.map AV.p
  rw [← List.map_drop, ← List.map_take, flat_at hes hc]
  rfl
theorem w_loadV1 {id off e : Nat} {es : List PV} {c : PV} {m : Nat} [h : TyA P t false m] (ho : o.op = .load t x) (hx : S.get x = .ptr id off) (hb : S.blk id = some (vG e 1 es)) (hes : ∀ e ∈ es, e.cells = [e]) (hc : es[off]? = some c) (hd : o.dst = some d) (hn : d < n) : zX P n o S [id] (.p c) none := by
  refine a_loadR1 (b := vG e 1 es) ho hx hb ?_ h.ag hd hn
  show ((flat es).map AV.p)[off]? = _
  rw [flat_ones hes, List.getElem?_map, hc]
  rfl
theorem flat_rep {zp : PV} {sz : Nat} (hz : zp.cells.length = sz) (hsz : 0 < sz) : ∀ {m j : Nat}, j < m * sz → (flat (List.replicate m zp))[j]? = zp.cells[j % sz]?
  | 0, j, h => by omega
  | m + 1, j, h => by
    have e : flat (List.replicate (m + 1) zp) = zp.cells ++ flat (List.replicate m zp) := by simp [flat, List.replicate_succ]
    rw [e]
    by_cases hj : j < sz
    · rw [List.getElem?_append_left (by omega), Nat.mod_eq_of_lt hj]
    · rw [Nat.add_mul] at h
      rw [List.getElem?_append_right (by omega), hz, flat_rep hz hsz (by omega), Nat.mod_eq_sub_mod (show sz ≤ j by omega)]
theorem w_makeV {e sz by_ m : Nat} {k : IntKind} {z : Value} {xl xc : Operand} [ht : Und P t (.slice e)] [hi : InfoA P e z sz by_] (ho : o.op = .makeSlice t xl xc) (hl : S.get xl = .p (.val (.int k (m : Int)))) (hc : S.get xc = .p (.val (.int k (m : Int)))) (hlim : m * sz ≤ 16777216 ∧ by_ * m ≤ 281474976710656 ∧ m ≤ maxLen)
    (hzs : z.cells.size = sz) (hsz : 0 < sz) {zp : PV} (hzp : zp.cells = z.cells.toList.map PV.val) (h1 : z.cells.toList.all (fun u => u.oneCell') = true) (hd : o.dst = some d) (hn : d < n) : zX P n o S [] (.own d) (some (vG e sz (List.replicate m zp))) :=
  zX.made hd hn fun S2 hg _ M w0 ρ a w hs => by
    have r1 := hs.val ((hg xl (by rw [ho]; simp [Op.operands])).trans hl)
    have r2 := hs.val ((hg xc (by rw [ho]; simp [Op.operands])).trans hc)
    obtain ⟨i, hi1, hi2⟩ := Option.map_eq_some_iff.1 hi.h
    simp only [Prod.mk.injEq] at hi2
    obtain ⟨hz, hisz, hiby⟩ := hi2
    obtain ⟨w', hr, hown, hgr⟩ := run_makeSlice_full (P := P) w 0 t e i z sz ht.h hi1 hz hisz k k m hlim.1 (by rw [hiby]; exact hlim.2.1) hlim.2.2 (Nat.zero_le _)
    refine ⟨.slice (some ⟨w.heap.size, 0, none⟩) m m, w', ?_, hgr, fun k hk => ?_, ?_, .inl rfl⟩
    · unfold execOp
      rw [ho]
      simp only [r1, r2, Sem.run_bind, hr]
      rfl
    · simp only [zU, Option.some.injEq] at hk; omega
    · have hlen : (madeCells z.cells (m * sz)).toList.length = m * sz := by rw [Array.length_toList, size_madeCells]
      have hzl : z.cells.toList.length = sz := by rw [Array.length_toList]; exact hzs
      have hat : ∀ j, j < m * sz → (madeCells z.cells (m * sz)).toList[j]? = z.cells.toList[j % sz]? := fun j hj => by
        have hjs : j % sz < z.cells.size := by rw [hzs]; exact Nat.mod_lt _ hsz
        simp only [madeCells, Array.toList_map, Array.toList_range, List.getElem?_map, List.getElem?_range hj, Option.map_some, Array.getElem?_toList, hzs]
        rw [getElem!_pos z.cells _ hjs, Array.getElem?_eq_getElem hjs]
      have hfl : flat (List.replicate m zp) = (madeCells z.cells (m * sz)).toList.map PV.val := by
        apply List.ext_getElem?
        intro j
        by_cases hj : j < m * sz
        · rw [flat_rep (sz := sz) (by rw [hzp, List.length_map, hzl]) hsz hj, hzp, List.getElem?_map, List.getElem?_map, hat j hj]
        · rw [List.getElem?_eq_none (l := (madeCells z.cells (m * sz)).toList.map PV.val) (by rw [List.length_map, hlen]; omega), List.getElem?_eq_none]
          rw [flat_len (sz := sz) (fun e he => by rw [List.eq_of_mem_replicate he, hzp, List.length_map, hzl]), List.length_replicate]
          omega
      refine ⟨_, by rw [List.length_replicate]; exact hown, ⟨by rw [hfl, List.length_map, List.length_map], fun j c v h2 h3 => ?_, fun v hv => ?_⟩⟩
      · rw [hfl, List.map_map, List.getElem?_map, h3] at h2
        cases h2
        exact .p (.val _)
      · obtain ⟨j, hj⟩ := List.getElem?_of_mem hv
        have hjl : j < m * sz := by
          have := (List.getElem?_eq_some_iff.1 hj).1
          rw [hlen] at this
          exact this
        rw [hat j hjl] at hj
        exact List.all_eq_true.1 h1 v (List.mem_of_getElem? hj)
end
end Go.Proofs.YtmfbamiciieooaaGreatDoor
/- Rows that are frozen wherever they are spoken of; rows that are lent and grow; calls of function values; arrays. Generic over the program. -/
namespace Go.Proofs.YtmfbamiciieooaaGreatDoor
set_option maxRecDepth 100000
set_option maxHeartbeats 16000000
open Go Go.RowKit
/-! ### Frozen wherever it is spoken of -/
def AV.frz (id : Nat) (x : PV) : AV → AV
  | .own j => if j = id then .p x else .own j
  | y => y.kill id
def Blk.frz (id : Nat) (x : PV) : Blk → Blk
  | .row t s n xs => .row t s n (xs.map (AV.frz id x))
  | .prow t s n xs => .prow t s n xs
  | .box t xs => .box t (xs.map (AV.frz id x))
  | .lent t s n xs => .lent t s n xs
  | .obj mp Q => .obj mp Q
def AS.frz (S : AS) (id : Nat) (x : PV) : AS := { t := S.t.map fun p => (p.1, p.2.frz id x), s := (dropL S.s id).map fun p => (p.1, p.2.frz id x) }
theorem AS.tmp_frz (S : AS) (id : Nat) (x : PV) (i : Nat) : (S.frz id x).tmp i = (S.tmp i).frz id x := by
  simp only [AS.tmp, AS.frz, look_map]
  cases look S.t i <;> rfl
theorem AS.blk_frz (S : AS) (id : Nat) (x : PV) (j : Nat) : (S.frz id x).blk j = if id = j then none else (S.blk j).map (Blk.frz id x) := by
  simp only [AS.blk, AS.frz, look_map, look_dropL]
  by_cases hj : id = j
  · rw [if_pos hj, if_pos hj]; rfl
  · rw [if_neg hj, if_neg hj]
theorem Blk.turns_frz (b : Blk) (id : Nat) (x : PV) (c : Nat) : (b.frz id x).turns c ↔ b.turns c := by cases b <;> exact Iff.rfl
theorem yV.frz {M : Nat → Nat → Prop} {ρ : Nat → Value} {w : World} {y : AV} {v : Value} {id : Nat} {x : PV} (h : yV M ρ w y v) (hx : Rep M w x (ρ id)) : yV M ρ w (y.frz id x) v := by
  have hk := h.killed id (ρ id)
  rw [upd_self] at hk
  cases y with
  | own j =>
    show yV M ρ w (if j = id then .p x else .own j) v
    by_cases hj : j = id
    · subst hj
      rw [if_pos rfl, vN h]
      exact .p hx
    · rw [if_neg hj]
      exact h
  | _ => exact hk
theorem yK.frz {M : Nat → Nat → Prop} {ρ : Nat → Value} {w : World} {xs : List AV} {ys : List Value} {id : Nat} {x : PV} (h : yK M ρ w xs ys) (hx : Rep M w x (ρ id)) : yK M ρ w (xs.map (AV.frz id x)) ys :=
  ⟨by simp [h.len], fun i c v hc hv => by
    rw [List.getElem?_map, Option.map_eq_some_iff] at hc
    obtain ⟨c', hc', rfl⟩ := hc
    exact (h.each i c' v hc' hv).frz hx, h.one⟩
section
variable {M : Nat → Nat → Prop} {n : Nat} {w0 : Home} {w w' : World} {S : AS} {ρ : Nat → Value} {a : Act}
theorem Mut.frz {id k c : Nat} {x : PV} (h : Mut M (S.frz id x) ρ k c) : Mut M (S.drop id) ρ k c := by
  rcases h with h | ⟨j, b, hb, hk, ht⟩
  · exact .inl h
  · rw [AS.blk_frz] at hb
    split at hb
    · cases hb
    · rename_i hne
      obtain ⟨b1, h1, rfl⟩ := Option.map_eq_some_iff.1 hb
      exact .inr ⟨j, b1.kill id, by rw [AS.wV, if_neg hne, h1]; rfl, hk, (Blk.turns_kill b1 id c).2 ((Blk.turns_frz b1 id x c).1 ht)⟩
theorem Sat.frz_of (h : Sat M n w0 S ρ a w) {id : Nat} {x : PV} (hx : Rep (Mut M (S.drop id) ρ) w x (ρ id)) : Sat M n w0 (S.frz id x) ρ a w := by
  have hx' : Rep (Mut M (S.frz id x) ρ) w x (ρ id) := hx.mono fun _ _ _ hk => Mut.frz hk
  have hm : ∀ k c, k < w.heap.size → Mut M (S.frz id x) ρ k c → Mut M S ρ k c := fun k c _ hk => Mut.drop (Mut.frz hk)
  refine ⟨h.below, h.out, h.tab, h.size, h.defers, fun i => ?_, fun j b hb => ?_, fun j b k hb hk => ?_, h.fix, h.free, fun i j bi bj k hi hj => ?_⟩
  · rw [AS.tmp_frz]
    exact ((h.tmps i).mono hm).frz hx'
  · rw [AS.blk_frz] at hb
    split at hb
    · cases hb
    · obtain ⟨b1, h1, rfl⟩ := Option.map_eq_some_iff.1 hb
      have := h.blks j b1 h1
      cases b1 with
      | row t size m xs =>
        obtain ⟨ys, ho, hc⟩ := this
        exact ⟨ys, ho, (hc.mono hm).frz hx'⟩
      | prow t size m xs =>
        obtain ⟨ys, ho, hc⟩ := this
        exact ⟨ys, ho, hc.mono hm⟩
      | lent t size m xs =>
        obtain ⟨ys, ho, hc⟩ := this
        exact ⟨ys, ho, hc.mono hm⟩
      | obj mp Q => exact this
      | box t xs =>
        obtain ⟨g, ys, hv, hg, hh, hc⟩ := this
        exact ⟨g, ys, hv, hg, hh, (hc.mono hm).frz hx'⟩
  · rw [AS.blk_frz] at hb
    split at hb
    · cases hb
    · obtain ⟨b1, h1, _⟩ := Option.map_eq_some_iff.1 hb
      exact h.mine j b1 k h1 hk
  · rw [AS.blk_frz] at hi hj
    split at hi
    · cases hi
    · split at hj
      · cases hj
      · obtain ⟨b1, h1, _⟩ := Option.map_eq_some_iff.1 hi
        obtain ⟨b2, h2, _⟩ := Option.map_eq_some_iff.1 hj
        exact h.dist i j b1 b2 k h1 h2
end
theorem sub_frz {S : AS} {id e sz : Nat} {es : List PV} (hb : S.blk id = some (vG e sz es)) : Sub S (S.frz id (.sl es)) :=
  fun M n w0 ρ a w hs => by
    refine ⟨ρ, hs.frz_of ?_⟩
    have h1 := ((vB hb (kZ e sz es)).sat hs).frozen (id := id) (es := es) (by rw [AS.xG, if_pos rfl]) rfl
    refine h1.mono fun k c _ hk => ?_
    rcases hk with hk | ⟨j, b, hj, hk, ht⟩
    · exact .inl hk
    · rw [AS.wV] at hj
      split at hj
      · cases hj
      · rename_i hne
        refine .inr ⟨j, b, ?_, hk, ht⟩
        rw [AS.wV, if_neg hne, AS.xG, if_neg hne]
        exact hj
/-! ### Rows that are lent -/
def lentV (e sz : Nat) (es : List PV) : Blk := .lent e sz es.length (flat es)
theorem sub_lend {S : AS} {id e sz : Nat} {es : List PV} (hb : S.blk id = some (vG e sz es)) : Sub S (S.tag id (lentV e sz es)) :=
  fun M n w0 ρ a w h => by
    have hm : ∀ k c, k < w.heap.size → Mut M (S.tag id (lentV e sz es)) ρ k c → Mut M S ρ k c := fun k c _ hk => by
      rcases hk with hk | ⟨j, b, hj, hk, ht⟩
      · exact .inl hk
      · rw [AS.xG] at hj
        split at hj
        · rename_i he
          subst he
          exact .inr ⟨id, _, hb, hk, trivial⟩
        · exact .inr ⟨j, b, hj, hk, ht⟩
    have some_of : ∀ j b, (S.tag id (lentV e sz es)).blk j = some b → ∃ b1, S.blk j = some b1 := fun j b hj => by
      rw [AS.xG] at hj
      split at hj
      · rename_i he; subst he; exact ⟨_, hb⟩
      · exact ⟨b, hj⟩
    refine ⟨ρ, h.below, h.out, h.tab, h.size, h.defers, fun i => (h.tmps i).mono hm, fun j b hj => ?_, fun j b k hj hk => ?_, h.fix, h.free, fun i j bi bj k hi hj => ?_⟩
    · rw [AS.xG] at hj
      split at hj
      · rename_i he
        subst he
        obtain rfl := Option.some.inj hj
        obtain ⟨ys, ho, hc⟩ := h.blks id _ hb
        exact ⟨ys, ho, hc.mono hm⟩
      · have := h.blks j b hj
        cases b with
        | row t size m xs => obtain ⟨ys, ho, hc⟩ := this; exact ⟨ys, ho, hc.mono hm⟩
        | prow t size m xs => obtain ⟨ys, ho, hc⟩ := this; exact ⟨ys, ho, hc.mono hm⟩
        | lent t size m xs => obtain ⟨ys, ho, hc⟩ := this; exact ⟨ys, ho, hc.mono hm⟩
        | obj mp Q => exact this
        | box t xs => obtain ⟨g, ys, hv, hg, hh, hc⟩ := this; exact ⟨g, ys, hv, hg, hh, hc.mono hm⟩
    · obtain ⟨b1, h1⟩ := some_of j b hj
      exact h.mine j b1 k h1 hk
    · obtain ⟨b1, h1⟩ := some_of i bi hi
      obtain ⟨b2, h2⟩ := some_of j bj hj
      exact h.dist i j b1 b2 k h1 h2
/-- what is lent reads as a slice that nobody turns -/
theorem Sat.lentRep {M : Nat → Nat → Prop} {n : Nat} {w0 : Home} {w : World} {S : AS} {ρ : Nat → Value} {a : Act} (h : Sat M n w0 S ρ a w) {id e sz : Nat} {es : List PV} (hb : S.blk id = some (lentV e sz es)) : Rep (Mut M S ρ) w (.sl es) (ρ id) := by
  obtain ⟨ys, ho, hc⟩ := h.blks id _ hb
  have hyl : ys.length = es.length * sz := ho.1
  rcases ho.2 with ⟨hv, hm0⟩ | ⟨g, cap, cur, hv, hg, hh, hn, hcm, hs, ht⟩
  · rw [hv]
    have : es = [] := List.eq_nil_of_length_eq_zero hm0
    subst this
    exact .nil
  · rw [hv]
    have hgm : zU (ρ id) = some g := by rw [hv]; rfl
    refine .sl es g 0 es.length cap ys rfl (by simpa using hc.len) (fun j y hy => ?_) (fun j c y hcj hy => ?_) hc.one ?_ (Array.getElem?_eq_some_iff.1 hh).1 hn hcm
    · rw [Nat.zero_add, cell_of_row w g j cur e (0, 0) hh]
      rw [← ht, List.getElem?_take] at hy
      split at hy
      · simpa using hy
      · cases hy
    · exact kX (hc.each j (.p c) y (by rw [List.getElem?_map, hcj]; rfl) hy)
    · rintro i hi (hk | ⟨j, b, hbj, hkj, htj⟩)
      · exact h.out g _ hk (h.mine id _ g hb hgm)
      · have := h.dist id j _ b g hb hbj hgm hkj
        subst this
        rw [hb] at hbj
        obtain rfl := Option.some.inj hbj
        have : es.length * sz ≤ 0 + i := htj
        omega
theorem sub_view {S : AS} {d id e sz : Nat} {es : List PV} (hd : S.tmp d = .own id) (hb : S.blk id = some (lentV e sz es)) : Sub S (S.put d (.p (.sl es))) :=
  fun M n w0 ρ a w hs => by
    refine ⟨ρ, hs.retype (.p ?_)⟩
    have h1 := hs.tmps d
    rw [hd] at h1
    rw [vN h1]
    exact hs.lentRep hb
end Go.Proofs.YtmfbamiciieooaaGreatDoor
/- A lent row grows; calls of function values; arrays in variables; slices that are compared with nil. Generic over the program. -/
namespace Go.Proofs.YtmfbamiciieooaaGreatDoor
set_option maxRecDepth 100000
set_option maxHeartbeats 16000000
open Go Go.RowKit
section
variable {P : Program} {n : Nat} {o : Oper} {S : AS} {d : Nat} {t : TypeId} {x y : Operand}
theorem s_appL {id e sz by_ : Nat} {z : Value} {cs bs : List PV} [ht : Und P t (.slice e)] [hi : InfoA P e z sz by_] (ho : o.op = .call { callee := .builtin .append, args := #[x, y], argTypes := #[t, t] }) (hx : S.get x = .own id) (hb : S.blk id = some (lentV e sz cs))
    (hy : S.get y = .p (.sl bs)) (hes : ∀ e ∈ bs, e.cells.length = sz) (hlim : (cs.length + bs.length) * by_ ≤ 140737488355328 ∧ cs.length + bs.length ≤ maxLen) (hzs : z.cells.size = sz) (hsz : 0 < sz) (hd : o.dst = some d) (hn : d < n) :
    Step P n o S ((S.create id (lentV e sz (cs ++ bs))).put d (.own id)) := by
  intro M w0 ρ a w K Q hs hK
  obtain ⟨i, hi1, hi2⟩ := Option.map_eq_some_iff.1 hi.h
  simp only [Prod.mk.injEq] at hi2
  obtain ⟨hz, hisz, hiby⟩ := hi2
  have h1 := hs.rep x
  rw [hx] at h1
  have hv := vN h1
  obtain ⟨ys, hown, hys⟩ := hs.blks id _ hb
  have hown : w.ownsRow 0 e sz (ρ id) cs.length ys := hown
  obtain ⟨us, hus, hnews⟩ := news_p (ρ := ρ) (yS hs hy) hes
  have e1 : zU (ρ id) = (ρ id).ownBlock := own_slice hown
  have hfree : w0.r id = none := row_free hs hown
  have main : ∀ v' w' row, (Builtin.append_ #[t, t] o.type #[ρ id, a.eval y]).run P w = .ok v' w' → w.grownBy w' row → w'.ownsRow 0 e sz v' (cs.length + bs.length) (ys ++ us) → (row = none ∨ row = (ρ id).ownBlock) →
      (∀ k, zU v' = some k → w.heap.size ≤ k ∨ row = some k) → (∀ k c, row = some k → c < cs.length * sz → w'.cell? ⟨k, c, none⟩ = w.cell? ⟨k, c, none⟩) → o.wp P a w K Q := by
    intro v' w' row hr hg hown' hrow hv' hcell
    have hall : yK (Mut M S ρ) ρ w ((flat (cs ++ bs)).map AV.p) (ys ++ us) := by
      rw [flat_append, List.map_append]
      exact ⟨by simp [hys.len, hus.len], fun i c v h1 h2 => by
        by_cases hi : i < ((flat cs).map AV.p).length
        · rw [List.getElem?_append_left hi] at h1
          rw [List.getElem?_append_left (by rw [hys.len]; exact hi)] at h2
          exact hys.each i c v h1 h2
        · rw [List.getElem?_append_right (by omega)] at h1
          rw [List.getElem?_append_right (by rw [hys.len]; omega), hys.len] at h2
          exact hus.each _ c v h1 h2, fun v hv => by
        rcases List.mem_append.1 hv with hv | hv
        · exact hys.one v hv
        · exact hus.one v hv⟩
    have hks : Keeps (fun k c => Mut M S ρ k c ∨ (zU v' = some k ∧ (lentV e sz (cs ++ bs)).turns c)) w w' := ⟨hg.size, fun k c hk hnm => by
      by_cases hrk : row = some k
      · refine hcell k c hrk (Nat.lt_of_not_le fun hle => hnm (.inl (.inr ⟨id, _, hb, ?_, hle⟩)))
        rcases hrow with h | h
        · rw [h] at hrk; cases hrk
        · rw [e1, ← h]; exact hrk
      · exact World.cell?_of_block (w := w) (hg.block k hk fun e => hrk e.symm)⟩
    have hmut : ∀ k c, k < w.heap.size → (Mut M S ρ k c ∨ (zU v' = some k ∧ (lentV e sz (cs ++ bs)).turns c)) → Mut M S ρ k c := fun k c hk h => by
      rcases h with h | ⟨h, ht⟩
      · exact h
      · rcases hv' k h with h2 | h2
        · omega
        · rcases hrow with h3 | h3
          · rw [h3] at h2; cases h2
          · refine .inr ⟨id, _, hb, by rw [e1, ← h3]; exact h2, ?_⟩
            have h4 : (cs ++ bs).length * sz ≤ c := ht
            have h5 : cs.length * sz ≤ (cs ++ bs).length * sz := Nat.mul_le_mul_right _ (by rw [List.length_append]; omega)
            exact Nat.le_trans h5 h4
    have hs' := hs.change id (lentV e sz (cs ++ bs)) v' row hfree hg (fun k hk => ?_) hv' ⟨ys ++ us, by rw [List.length_append]; exact hown', (hall.mono hmut).keep hks⟩
    · unfold Oper.wp execOp
      simp only [ho, resolve, invoke, builtin, Sem.run_bind, Sem.run_pure, Result.andThen_ok, List.map_toArray, List.map_cons, List.map_nil, hv, hr]
      show K (a.put o.dst v') w'
      rw [hd]
      refine hK _ _ w' (hs'.put hn ?_)
      have := yV.own (M := Mut M (S.create id (lentV e sz (cs ++ bs))) (upd ρ id v')) (ρ := upd ρ id v') (w := w') id
      simpa [upd] using this
    · refine ⟨_, hb, ?_, fun c ht => ?_, fun c hnt => hcell k c hk (Nat.lt_of_not_le hnt)⟩
      · rcases hrow with h | h
        · rw [h] at hk; cases hk
        · rw [e1, ← h]; exact hk
      · have h4 : (cs ++ bs).length * sz ≤ c := ht
        have h5 : cs.length * sz ≤ (cs ++ bs).length * sz := Nat.mul_le_mul_right _ (by rw [List.length_append]; omega)
        exact Nat.le_trans h5 h4
  rcases hnews with ⟨hyv, hk0, hu0⟩ | ⟨ad, c, hyv, hul, hcell⟩
  · have hb0 : bs = [] := List.eq_nil_of_length_eq_zero hk0
    subst hu0
    subst hb0
    exact main (ρ id) w (ρ id).ownBlock (by rw [hyv]; exact run_append_owned_none (P := P) w 0 t o.type e i sz ht.h hi1 (ρ id) cs.length ys hown) ⟨rfl, rfl, rfl, Nat.le_refl _, fun _ _ _ => rfl⟩ (by simpa using hown) (.inr rfl) (fun k hk => .inr (by rw [← e1]; exact hk)) (fun _ _ _ _ => rfl)
  · obtain ⟨v', w', hr, hown', hg, _, hob⟩ := run_append_own_at (P := P) w 0 t o.type e i z sz by_ ht.h hi1 hz hisz hiby hzs hsz (ρ id) cs.length ys hown ad bs.length c us hul hcell hus.one hlim.2 hlim.1 (Nat.zero_le _)
    have e2 : zU v' = v'.ownBlock := own_slice hown'
    rcases hown.2 with ⟨hnil, hc0⟩ | ⟨g, cap, cur, hvg, _, hh, hncap, hcm, hcs, htk⟩
    · rw [← hyv] at hr
      refine main v' w' none hr (by rw [hnil] at hg; exact hg) hown' (.inl rfl) (fun k hk => ?_) (fun k c h => by cases h)
      rw [e2] at hk
      rcases hob with h3 | h3
      · rw [h3, hnil] at hk; cases hk
      · rw [h3] at hk; simp at hk; exact .inl (by omega)
    · have hin : ∀ j u, ys[j]? = some u → w.cell? ⟨g, 0 + j, none⟩ = some u := fun j u hu => by
        rw [Nat.zero_add, cell_of_row w g j cur e (0, 0) hh]
        rw [← htk, List.getElem?_take] at hu
        split at hu
        · simpa using hu
        · cases hu
      by_cases hroom : cs.length + bs.length ≤ cap
      · have hr2 := run_append_room_cells (P := P) w t o.type e i ht.h hi1 g 0 cs.length cap ad bs.length c us (by rw [hisz]; exact hul) hcell hus.one hroom (fun j hj => ?_) (fun j hj => frozen_of_row w g _ cur e hh)
        · rw [hvg] at hr
          have he := hr.symm.trans hr2
          injection he with he1 he2
          subst he1
          subst he2
          rw [← hyv, ← hvg] at hr
          refine main _ _ (some g) hr (by rw [hvg] at hg; exact hg) hown' (.inr (by rw [hvg]; rfl)) (fun k hk => .inr (by simpa [zU] using hk)) (fun k c' hk hc' => ?_)
          obtain rfl : g = k := by simpa using hk
          refine World.cell?_setCells_out g us _ w ⟨g, c', none⟩ (fun _ _ => .inl ?_)
          show c' < 0 + cs.length * i.size
          rw [hisz]; omega
        · rw [cell_of_row w g _ cur e (0, 0) hh]
          have h6 : 0 + cs.length * i.size + j < cur.size := by
            rw [hcs, hisz]
            have : (cs.length + bs.length) * sz ≤ cap * sz := Nat.mul_le_mul_right _ hroom
            rw [Nat.add_mul] at this
            omega
          rw [Array.getElem?_eq_getElem h6]
          rfl
      · obtain ⟨v2, w2, hr2, hown2, hg2⟩ := run_append_arg_grows (P := P) w t o.type e i z sz by_ ht.h hi1 hz hisz hiby hzs hsz ⟨g, 0, none⟩ cs.length cap ys hown.1 (fun j u hu => by rw [add_lit]; exact hin j u hu) ad bs.length c us hul hcell (by omega) hlim.2 hlim.1
        rw [hvg] at hr
        have he := hr.symm.trans hr2
        injection he with he1 he2
        subst he1
        subst he2
        rw [← hyv, ← hvg] at hr
        refine main _ _ none hr hg2 hown' (.inl rfl) (fun k hk => ?_) (fun k c' hk => by cases hk)
        rcases hown2.2 with ⟨he3, _⟩ | ⟨g2, _, _, he3, hg3, _⟩
        · rw [he3] at hk; cases hk
        · rw [he3] at hk
          simp only [zU, Option.some.injEq] at hk
          exact .inl (by omega)
/-! ### Calls of function values -/
theorem enters_val {f : FuncId} {args : Array Operand} {ts : Array TypeId} [hc : HasFn P f] (ho : o.op = .call { callee := .value x, args := args, argTypes := ts }) (hx : S.get x = .p (.val (.func (.func f) #[] #[]))) : Enters P o S f (args.toList.map S.get) :=
  fun M n w0 ρ a w hs => by
    have hv := hs.val hx
    refine ⟨args.toList.map a.eval, ?_, by simp, reps_get hs args.toList⟩
    have e : (args.toList.map a.eval).toArray = args.map a.eval := by apply Array.ext'; simp
    unfold execOp
    rw [ho, e]
    simp [resolve, Deferred.ofValue, hv, invoke, hc.h]
/-- a pure contract, as one of variables -/
theorem FnE.ofFn {f : FuncId} {xs : List PV} {r : PV} (h : Fn P f xs (.p r)) : FnE P f (xs.map AV.p) [] (.ret (.p r)) [] := by
  intro M hh ρ vs _ hs hvl hvs
  have := h (Mut M (asB []) ρ) hh.w vs ⟨hs.lays, hs.tabs⟩ (fun k c hk => Mut.lt hs hk) (by simpa using hvl) (fun i x v h1 h2 => kX (hvs i (.p x) v (by rw [List.getElem?_map, h1]; rfl) h2))
  exact this.mono fun e w' ⟨v, he, hr, hb⟩ => ⟨ρ, hs.ext hb, v, he, .p hr⟩
theorem FnE.ofFnT {f : FuncId} {xs : List PV} {l : List PV} (h : Fn P f xs (.tup l)) : FnE P f (xs.map AV.p) [] (.ret (.tup (l.map AV.p))) [] := by
  intro M hh ρ vs _ hs hvl hvs
  have := h (Mut M (asB []) ρ) hh.w vs ⟨hs.lays, hs.tabs⟩ (fun k c hk => Mut.lt hs hk) (by simpa using hvl) (fun i x v h1 h2 => kX (hvs i (.p x) v (by rw [List.getElem?_map, h1]; rfl) h2))
  refine this.mono fun e w' ⟨v, he, ⟨us, hu, hul, hue⟩, hb⟩ => ⟨ρ, hs.ext hb, v, he, ?_⟩
  subst hu
  refine .tup _ us (by simpa using hul) fun i c u h1 h2 => ?_
  rw [List.getElem?_map, Option.map_eq_some_iff] at h1
  obtain ⟨y, hy, rfl⟩ := h1
  exact .p (hue i y u hy h2)
/-! ### Compared with nil -/
theorem r_eqlNil {yt : TypeId} {es : List PV} {r : Bool} {e : TypeId} [ht : Und P t (.slice e)] (ho : o.op = .binOp .eql t x y yt) (hx : S.get x = .p (.sl es)) (hy : S.get y = .p (.val (.slice none 0 0))) (hne : es ≠ []) (hr : false = r) (hd : o.dst = some d) (hn : d < n) : zX P n o S [] (.p (.val (.bool r))) none := by
  subst hr
  exact zX.pure hd hn fun S2 hg _ M w0 ρ a w hs => by
    have r1 := yS hs ((hg x (by rw [ho]; simp [Op.operands])).trans hx)
    have r2 := hs.val ((hg y (by rw [ho]; simp [Op.operands])).trans hy)
    rcases rep_sl r1 with ⟨_, h0⟩ | ⟨g, off, cap, ys, hv, _⟩
    · exact (hne h0).elim
    · refine ⟨.bool false, w, ?_, Below.refl _ _, .p (.val _)⟩
      unfold execOp
      rw [ho]
      simp only [hv, r2, Sem.run_bind]
      simp [eqGuard, binOp, run_equal_slice_nil w t e (some ⟨g, off, none⟩) es.length cap ht.h]
/-! ### Arrays in variables -/
theorem w_idxArr {ix : Operand} {id off m e sz : Nat} {j : Int} {k : IntKind} {agg : Bool} [ht : Und P t (.array m e)] [he : TyA P e agg sz] (ho : o.op = .indexAddr t x ix) (hx : S.get x = .ptr id off) (hi : S.get ix = .p (.val (.int k j))) (hj : 0 ≤ j ∧ j < m) (hd : o.dst = some d) (hn : d < n) : zX P n o S [] (.ptr id (off + j.toNat * sz)) none :=
  zX.pure hd hn fun S2 hg _ M w0 ρ a w hs => by
    have h1 := hs.rep x
    rw [hg x (by rw [ho]; simp [Op.operands]), hx] at h1
    have h2 := hs.val ((hg ix (by rw [ho]; simp [Op.operands])).trans hi)
    obtain ⟨g, hgv, hv⟩ := vK h1
    refine ⟨.pointer (some ⟨g, off + j.toNat * sz, none⟩), w, ?_, Below.refl _ _, .ptr id _ g hgv⟩
    have hel : P.elem t = e := by simp [Program.elem, ht.h]
    have hal : P.arrayLen t = m := by simp [Program.arrayLen, ht.h]
    unfold execOp
    rw [ho]
    simp only [hv, h2, Sem.run_bind]
    rw [run_indexAt_array w t _ _ _ (by rw [hel, hal]; exact ht.h), hal, if_pos hj, hel, he.sz w]
    simp [Result.andThen, add_lit]
end
end Go.Proofs.YtmfbamiciieooaaGreatDoor
/- Calls that give an own row; ends that do. Generic over the program. -/
namespace Go.Proofs.YtmfbamiciieooaaGreatDoor
set_option maxRecDepth 100000
set_option maxHeartbeats 16000000
set_option linter.unusedSimpArgs false
open Go Go.RowKit
section
variable {P : Program} {n : Nat} {o : Oper} {S : AS} {d : Nat} {t : TypeId} {x y : Operand}
theorem w_build0V {e sz by_ : Nat} {z : Value} [ht : Und P t (.slice e)] [hi : InfoA P e z sz by_] (ho : o.op = .buildSlice t 0 #[]) (hd : o.dst = some d) (hn : d < n) : zX P n o S [] (.own d) (some (vG e sz [])) := (w_build0 ho hd hn).nb (qV e sz [])
theorem w_callRowV {f : Nat} {args : Array Operand} {ts : Array TypeId} {xs : List PV} {e sz : Nat} {es : List PV} [hc : HasFn P f] (hf : Fn P f xs (.row e sz es.length (flat es))) (ho : o.op = .call { callee := .value (.func f), args := args, argTypes := ts })
    (hx : args.toList.map S.get = xs.map AV.p) (hd : o.dst = some d) (hn : d < n) : zX P n o S [] (.own d) (some (vG e sz es)) := by
  intro S2 hg _ M w0 ρ a w K Q hs hK
  have hargs : ∀ x ∈ args.toList, S2.get x = S.get x := fun x hx => hg x (by rw [ho]; simp [Op.operands, Call.operands]; exact .inr (by simpa using hx))
  have he : (execOp a.eval o).run P w = .ok (.enter f (args.map a.eval)) w := by
    unfold execOp
    rw [ho]
    simp [resolve, Deferred.ofValue, Act.eval, invoke, hc.h]
  unfold Oper.wp
  rw [he, Oper.upon_enter]
  have hlen : (args.toList.map a.eval).length = xs.length := by
    have := congrArg List.length hx
    simpa using this
  have := hf (Mut M S2 ρ) w (args.toList.map a.eval) ⟨hs.lays, hs.tabs⟩ (fun k c hk => Mut.lt hs hk) hlen (fun i x v h1 h2 => by
    rw [List.getElem?_map, Option.map_eq_some_iff] at h2
    obtain ⟨y, hy, rfl⟩ := h2
    have h3 : S.get y = .p x := by
      have h4 : (args.toList.map S.get)[i]? = (xs.map AV.p)[i]? := by rw [hx]
      rw [List.getElem?_map, List.getElem?_map, hy, h1] at h4
      simpa using h4
    exact yS hs ((hargs y (List.mem_of_getElem? hy)).trans h3))
  have e1 : (args.toList.map a.eval).toArray = args.map a.eval := by apply Array.ext'; simp
  rw [e1] at this
  refine this.mono ?_
  rintro en w' ⟨v, rfl, ⟨ys, hown, hl⟩, hb⟩
  show K (a.put o.dst v) w'
  rw [hd] at hK ⊢
  have hnew : ∀ k, zU v = some k → w.heap.size ≤ k := fun k hk => by
    rcases hown.2 with ⟨rfl, _⟩ | ⟨g, cap, cur, rfl, hg2, _⟩
    · cases hk
    · simp only [zU, Option.some.injEq] at hk; omega
  have hs' := hs.change d (vG e sz es) v none (hs.free d hn) (w' := w') ⟨hb.os, hb.tape, hb.output, hb.size, fun k hk _ => hb.block k hk⟩ (fun k hk => by cases hk) (fun k hk => .inl (hnew k hk))
    ⟨ys, vM hown (fun _ _ => Nat.zero_le _), ⟨by simpa using hl.len, fun i c u h1 h2 => by
      rw [List.getElem?_map, Option.map_eq_some_iff] at h1
      obtain ⟨y, hy, rfl⟩ := h1
      exact .p ((hl.each i y u hy h2).mono fun k c _ hk => hk.elim .inl fun h => .inr h.1), hl.one⟩⟩
  refine hK _ _ w' (hs'.put hn ?_)
  have := yV.own (M := Mut M (S2.create d (vG e sz es)) (upd ρ d v)) (ρ := upd ρ d v) (w := w') d
  simpa [upd] using this
def Blk.isRow : Blk → Bool
  | .box _ _ => false
  | _ => true
theorem own_cell {M : Nat → Nat → Prop} {n : Nat} {w0 : Home} {w : World} {S : AS} {ρ : Nat → Value} {a : Act} (hs : Sat M n w0 S ρ a w) {id2 : Nat} {b2 : Blk} (hb2 : S.blk id2 = some b2) (hrow : b2.isRow = true) : (ρ id2).cells.toList = [ρ id2] ∧ (ρ id2).oneCell' = true := by
  have h := hs.blks id2 _ hb2
  have key : ∀ {e sz m : Nat} {ys : List Value}, w.ownsRow 0 e sz (ρ id2) m ys → (ρ id2).cells.toList = [ρ id2] ∧ (ρ id2).oneCell' = true := fun hown => by
    rcases hown.2 with ⟨e, _⟩ | ⟨g', cap, cur, e, _⟩ <;> (rw [e]; exact ⟨rfl, rfl⟩)
  cases b2 with
  | box _ _ => cases hrow
  | obj mp Q => obtain ⟨g, o, e, _⟩ := h; rw [e]; cases mp <;> exact ⟨rfl, rfl⟩
  | row _ _ _ _ => obtain ⟨ys, h, _⟩ := h; exact key h
  | prow _ _ _ _ => obtain ⟨ys, h, _⟩ := h; exact key h
  | lent _ _ _ _ => obtain ⟨ys, h, _⟩ := h; exact key h
theorem own_cells {M : Nat → Nat → Prop} {n : Nat} {w0 : Home} {w : World} {S : AS} {ρ : Nat → Value} {a : Act} (hs : Sat M n w0 S ρ a w) {id2 : Nat} {b2 : Blk} {v : Value} (hb2 : S.blk id2 = some b2) (hrow : b2.isRow = true) (h2 : yV (Mut M S ρ) ρ w (.own id2) v) :
    yK (Mut M S ρ) ρ w (AV.own id2).xP v.cells.toList := by
  obtain rfl : v = ρ id2 := by cases h2; rfl
  obtain ⟨h3, h4⟩ := own_cell hs hb2 hrow
  rw [h3]
  exact ⟨rfl, fun i c u h1 h3 => by
    cases i with
    | zero => simp [AV.xP] at h1 h3; subst h1; subst h3; exact .own id2
    | succ i => simp [AV.xP] at h1, fun u hu => by simp at hu; subst hu; exact h4⟩
/-- a store of an own row's slice -/
theorem s_storeO {id off id2 : Nat} {b b2 : Blk} (ho : o.op = .store t x y) (hx : S.get x = .ptr id off) (hb : S.blk id = some b) (hy : S.get y = .own id2) (hb2 : S.blk id2 = some b2) (hrow : b2.isRow = true) (hm : ∀ w, (sizeOf t).run P w = .ok 1 w)
    (hle : off + 1 ≤ b.xs.length) (hlb : b.lentB = false) (hd : o.dst = none) : Step P n o S { S with s := putL S.s id (b.setXs (splice b.xs off (AV.own id2).xP)) } := by
  have hlen : (AV.own id2).xP.length = 1 := rfl
  intro M w0 ρ a w K Q hs hK
  have hfr := Blk.turns_of hlb
  have h1 := hs.rep x
  rw [hx] at h1
  obtain ⟨g, hgv, hv⟩ := vK h1
  have h2 := hs.rep y
  rw [hy] at h2
  have hcy : yK (Mut M S ρ) ρ w (AV.own id2).xP (a.eval y).cells.toList := own_cells hs hb2 hrow h2
  have hB := hs.blks id b hb
  have key : ∃ cur ty, w.heap[g]? = some (.cells cur ty (0, 0)) ∧ off + (a.eval y).cells.toList.length ≤ cur.size ∧
      (∀ w' : World, w.grownBy w' (some g) → w'.heap[g]? = some (.cells (splice cur.toList off (a.eval y).cells.toList).toArray ty (0, 0)) → xM (Mut M S ρ) 0 ρ w' (ρ id) (b.setXs (splice b.xs off (AV.own id2).xP))) := by
    have keeps : ∀ {w' : World}, w.grownBy w' (some g) → Keeps (Mut M S ρ) w w' := fun {w'} hg => ⟨hg.size, fun k c hk hnm => World.cell?_of_block (w := w) (hg.block k hk (fun e => hnm (.inr ⟨id, b, hb, by rw [hgv]; exact e.symm, hfr c⟩)))⟩
    cases b with
    | lent ty size k xs => cases hlb
    | obj mp Q => cases hlb
    | box ty xs =>
      obtain ⟨g', ys, e, hg, hh, hc⟩ := hB
      have eg : g' = g := by rw [e] at hgv; simpa [zU] using hgv
      subst eg
      refine ⟨ys.toArray, ty, hh, ?_, fun w' hgr hh' => ⟨g', splice ys off (a.eval y).cells.toList, e, hg, by simpa using hh', (hc.splice hcy (by rw [hlen]; exact hle)).keep (keeps hgr)⟩⟩
      have e1 := hcy.len
      have e2 := hc.len
      have e3 : off + 1 ≤ xs.length := hle
      simp only [List.size_toArray]
      omega
    | row ty size k xs =>
      obtain ⟨ys, ⟨hl, ho2⟩, hc⟩ := hB
      have e1 := hcy.len
      have e2 := hc.len
      have e3 : off + 1 ≤ xs.length := hle
      rcases ho2 with ⟨e, _⟩ | ⟨g', cap, cur, e, hbg, hh, hkc, hcm, hcs, htk⟩
      · rw [e] at hgv; simp [zU] at hgv
      · have eg : g' = g := by rw [e] at hgv; simpa [zU] using hgv
        subst eg
        have hsz : k * size ≤ cur.size := by rw [hcs]; exact Nat.mul_le_mul_right _ hkc
        refine ⟨cur, ty, hh, by omega, fun w' hgr hh' => ⟨splice ys off (a.eval y).cells.toList, ⟨by rw [wP (by omega)]; exact hl, .inr ⟨g', cap, _, e, hbg, hh', hkc, hcm, ?_, ?_⟩⟩, (hc.splice hcy (by rw [hlen]; exact hle)).keep (keeps hgr)⟩⟩
        · simp only [List.size_toArray]
          rw [wP (by simp only [Array.length_toList] at *; omega)]
          simpa using hcs
        · apply List.ext_getElem?
          intro i
          rw [List.getElem?_take]
          rw [xK (by simp only [Array.length_toList] at *; omega), xK (by omega)]
          have hi : ∀ (i : Nat), i < k * size → cur.toList[i]? = ys[i]? := fun i hi => by rw [← htk, List.getElem?_take, if_pos hi]
          by_cases h3 : i < k * size
          · rw [if_pos h3]
            split
            · exact hi i h3
            · split
              · rfl
              · exact hi i h3
          · rw [if_neg h3]
            rw [if_neg (by omega), if_neg (by omega)]
            exact (List.getElem?_eq_none (by omega)).symm
    | prow ty size k xs =>
      obtain ⟨ys, ⟨hl, ho2⟩, hc⟩ := hB
      have e1 := hcy.len
      have e2 := hc.len
      have e3 : off + 1 ≤ (xs.map AV.p).length := hle
      rcases ho2 with ⟨e, _⟩ | ⟨g', cap, cur, e, hbg, hh, hkc, hcm, hcs, htk⟩
      · rw [e] at hgv; simp [zU] at hgv
      · have eg : g' = g := by rw [e] at hgv; simpa [zU] using hgv
        subst eg
        have hsz : k * size ≤ cur.size := by rw [hcs]; exact Nat.mul_le_mul_right _ hkc
        refine ⟨cur, ty, hh, by omega, fun w' hgr hh' => ⟨splice ys off (a.eval y).cells.toList, ⟨by rw [wP (by omega)]; exact hl, .inr ⟨g', cap, _, e, hbg, hh', hkc, hcm, ?_, ?_⟩⟩, (hc.splice hcy (by rw [hlen]; exact hle)).keep (keeps hgr)⟩⟩
        · simp only [List.size_toArray]
          rw [wP (by simp only [Array.length_toList] at *; omega)]
          simpa using hcs
        · apply List.ext_getElem?
          intro i
          rw [List.getElem?_take]
          rw [xK (by simp only [Array.length_toList] at *; omega), xK (by omega)]
          have hi : ∀ (i : Nat), i < k * size → cur.toList[i]? = ys[i]? := fun i hi => by rw [← htk, List.getElem?_take, if_pos hi]
          by_cases h3 : i < k * size
          · rw [if_pos h3]
            split
            · exact hi i h3
            · split
              · rfl
              · exact hi i h3
          · rw [if_neg h3]
            rw [if_neg (by omega), if_neg (by omega)]
            exact (List.getElem?_eq_none (by omega)).symm
  obtain ⟨cur, ty, hh, hfit, hfin⟩ := key
  have hst := run_storeCells_at P g off ty (a.eval y).cells.toList 0 cur w hh (by simpa using hfit) hcy.one
  have hsz : (a.eval y).cells.size = 1 := by have := hcy.len; rw [hlen] at this; simpa using this
  have hrun : (execOp a.eval o).run P w = .ok .skip (w.setRow g (splice cur.toList off (a.eval y).cells.toList).toArray) := by
    unfold execOp
    rw [ho]
    simp only [hv, Instr.storeAt, Instr.sureAddr, storeVar, Sem.run_bind, Sem.run_pure, Result.andThen_ok, hm, hsz, ne_eq, not_true_eq_false, if_false]
    simp only [Nat.add_zero] at hst
    rw [hst]
    rfl
  have hgr : w.grownBy (w.setRow g (splice cur.toList off (a.eval y).cells.toList).toArray) (some g) := ⟨rfl, rfl, rfl, by simp, fun k _ hk => setRow_other w g k _ (fun e => hk (by rw [e]))⟩
  unfold Oper.wp
  rw [hrun]
  show K (a.put o.dst undef) _
  rw [hd]
  exact hK ρ a _ (hs.turn hb hgv hgr hfr (hfin _ hgr (setRow_heap w g cur _ ty _ hh)))
theorem w_storeO {id off id2 : Nat} {b b2 : Blk} {agg : Bool} [h : TyA P t agg 1] (ho : o.op = .store t x y) (hx : S.get x = .ptr id off) (hb : S.blk id = some b) (hy : S.get y = .own id2) (hb2 : S.blk id2 = some b2) (hrow : b2.isRow = true)
    (hle : off + 1 ≤ b.xs.length) (hlb : b.lentB = false) (hd : o.dst = none) : Step P n o S { S with s := putL S.s id (b.setXs (splice b.xs off [AV.own id2])) } :=
  s_storeO ho hx hb hy hb2 hrow h.sz hle hlb hd
end
theorem givesRowV {P : Program} {fn : Func} {S : AS} {t id e sz : Nat} {es : List PV} (hr : fn.results = #[.tmp t]) (ht : S.tmp t = .own id) (hb : S.blk id = some (vG e sz es)) : ∃ S', Sub S S' ∧ GivesV P fn S' (.row e sz es.length (flat es)) :=
  ⟨_, (vB hb (kZ e sz es)).sub, .row hr ht (by rw [AS.xG, if_pos rfl])⟩
end Go.Proofs.YtmfbamiciieooaaGreatDoor
/- Instances that hang on functions' types. Written by inst.py. -/
namespace Go.Proofs.YtmfbamiciieooaaGreatDoor
set_option maxRecDepth 100000
set_option maxHeartbeats 16000000
open Go Go.RowKit
set_option maxRecDepth 100000
instance ty88 : TyA Tryz.prog 88 false 1 := ⟨fun _ => by kernel_rfl, fun _ => by kernel_rfl⟩
instance ze88 : ZeroA Tryz.prog 88 (Value.nilFunc) := ⟨fun _ => by kernel_rfl⟩
instance ty145 : TyA Tryz.prog 145 false 1 := ⟨fun _ => by kernel_rfl, fun _ => by kernel_rfl⟩
instance bu147 : BuildA Tryz.prog 147 [(0, 1), (1, 1)] := ⟨by kernel_rfl, by kernel_rfl⟩
end Go.Proofs.YtmfbamiciieooaaGreatDoor
/- Worlds: copies of rows, accesses of words: contracts. -/
namespace Go.Proofs.YtmfbamiciieooaaGreatDoor
set_option maxRecDepth 100000
set_option maxHeartbeats 16000000
open Go Go.RowKit
set_option linter.unusedSimpArgs false
attribute [local irreducible] zY zZ Step zX Sub zD zG Fn
/-- words, as a slice's elements -/
def wds (ws : List Int) : List PV := ws.map fun n => .val (.int .u64 n)
theorem wds_len (ws : List Int) : (wds ws).length = ws.length := by simp [wds]
theorem wds_one (ws : List Int) : ∀ e ∈ wds ws, e.cells = [e] := fun e he => by
  obtain ⟨x, _, rfl⟩ := List.mem_map.1 he
  rfl
theorem wds_cells (ws : List Int) : ∀ e ∈ wds ws, e.cells.length = 1 := fun e he => by rw [wds_one ws e he]; rfl
theorem grow_lim (n k : Nat) (h : n ≤ 1000000) (hk : k ≤ 1000) : (([] : List PV).length + n) * k ≤ 140737488355328 ∧ ([] : List PV).length + n ≤ maxLen := by
  have h2 : n * k ≤ 1000000 * 1000 := Nat.mul_le_mul h hk
  simp only [List.length_nil, Nat.zero_add, maxLen]
  omega
theorem cloneW_fn (ws : List Int) (h0 : 1 ≤ ws.length) (h1 : ws.length ≤ 1000000) : Fn Tryz.prog 35 [.sl (wds ws)] (.row 27 1 (wds ws).length (flat (wds ws))) := by
  have g1 := wds_cells ws
  have g2 : wds ws ≠ [] := fun e => by have := congrArg List.length e; rw [wds_len, List.length_nil] at this; omega
  have g3 := grow_lim (wds ws).length 8 (by rw [wds_len]; exact h1) (by decide)
  refine yP Tryz.func35 rfl Tryz.ntmps35 (Nat.le_of_ble_eq_true rfl) ?_
  repeat' (first | (refine zY.nil ?_) | (refine zZ.is ?_; first | refine zZ.seq ?_ | (refine zZ.isR (id := 0) ?_; refine zZ.rc [0] [2, 5] (r := (.v zB .e)) (h := ?_)) | (refine zZ.isR (id := 1) ?_; refine zZ.rc [0, 2] [2, 5] (r := (.v zV (.v v41_41 .e))) (h := ?_)) | (refine zZ.isR (id := 3) ?_; refine zZ.rc [0, 2] [2, 5] (r := (.m m20_0 (.v zV (.w w55_2 (.v v1_1 .e))))) (h := ?_)) | refine zZ.yG rfl bA ?_ | refine zZ.skip ?_ | refine zZ.ret ?_))
  all_goals exact ⟨by first | exact .inl rfl | exact .inr rfl, givesRowV rfl rfl rfl⟩
/-! ### The accesses of a word -/
def funV (f : Nat) : Value := .func (.func f) #[] #[]
def turnsL : List PV := [.agg [.val (.int .i64 0), .val (funV 106)], .agg [.val (.int .i64 1), .val (funV 107)], .agg [.val (.int .i64 2), .val (funV 108)], .agg [.val (.int .i64 3), .val (funV 109)], .agg [.val (.int .i64 4), .val (funV 110)]]
theorem turns_fn : Fn Tryz.prog 72 [] (.p (.sl turnsL)) := by
  refine yP Tryz.func72 rfl Tryz.ntmps72 (Nat.le_of_ble_eq_true rfl) ?_
  have ps_ := trivial
  repeat' (first | (refine zY.nil ?_) | (refine zZ.is ?_; first | refine zZ.seq ?_ | (refine zZ.isR (id := 0) ?_; refine zZ.rc [] [0, 6] (r := (.v zB .e)) (h := ?_)) | (refine zZ.isR (id := 1) ?_; refine zZ.rc [0] [0, 6] (r := (.v xV (.v xV (.v xV (.v xV (.v xV (.v v20_0 (.v zB .e)))))))) (h := ?_)) | refine zZ.ret ?_))
  all_goals exact ⟨by first | exact .inl rfl | exact .inr rfl, _, Sub.refl _, .p rfl (.tmp rfl)⟩
/-- what an access of a word tells, and the word then -/
def qB (kind old a b : Int) : Int × Int := if kind = 0 then (old, old) else if kind = 1 then (0, a) else if kind = 2 then (if old = a then (1, b) else (0, old)) else if kind = 3 then (old, IntKind.u64.wrap (old + a)) else (old, a)
theorem turn1_fn (old kind cell a b : Int) (d w : PV) : Fn Tryz.prog 106 [.val (.int .u64 old), .agg [.val (.int .i64 kind), .val (.int .i64 cell), .val (.int .u64 a), .val (.int .u64 b), d, w]] (.tup [.val (.int .u64 old), .val (.int .u64 old)]) := by
  refine yP Tryz.func106 rfl Tryz.ntmps106 (Nat.le_of_ble_eq_true rfl) ?_
  repeat' (first | (refine zY.nil ?_) | (refine zZ.is ?_; first | refine zZ.seq ?_ | (refine zZ.isR (id := 0) ?_; refine zZ.rc [0, 1] [3] (r := (.m yT (.v zB (.v zB .e)))) (h := ?_)) | (refine zZ.isR (id := 1) ?_; refine zZ.rc [0, 4, 5] [3] (r := (.v zV (.v zV (.v zB (.v zB .e))))) (h := ?_)) | refine zZ.ret ?_))
  all_goals exact ⟨by first | exact .inl rfl | exact .inr rfl, _, Sub.refl _, .tupE rfl (by decide) (.cons (.tmp rfl) (.cons (.tmp rfl) .nil)) rfl⟩
theorem turn2_fn (old kind cell a b : Int) (d w : PV) : Fn Tryz.prog 107 [.val (.int .u64 old), .agg [.val (.int .i64 kind), .val (.int .i64 cell), .val (.int .u64 a), .val (.int .u64 b), d, w]] (.tup [.val (.int .u64 0), .val (.int .u64 a)]) := by
  refine yP Tryz.func107 rfl Tryz.ntmps107 (Nat.le_of_ble_eq_true rfl) ?_
  repeat' (first | (refine zY.nil ?_) | (refine zZ.is ?_; first | refine zZ.seq ?_ | (refine zZ.isR (id := 0) ?_; refine zZ.rc [1] [3] (r := (.m yT (.v zB (.v zB .e)))) (h := ?_)) | (refine zZ.isR (id := 1) ?_; refine zZ.dc [3, 4, 5] [3] (r := (.v zM (.v zO (.v zB (.v zB .e))))) (q := .e) (h := ?_)) | refine zZ.ret ?_) | (refine zD.nil ?_))
  all_goals exact ⟨by first | exact .inl rfl | exact .inr rfl, _, Sub.refl _, .tupE rfl (by decide) (.cons (.tmp rfl) (.cons (.tmp rfl) .nil)) rfl⟩
theorem turn3_fn (old kind cell a b : Int) (d w : PV) : Fn Tryz.prog 108 [.val (.int .u64 old), .agg [.val (.int .i64 kind), .val (.int .i64 cell), .val (.int .u64 a), .val (.int .u64 b), d, w]] (.tup [.val (.int .u64 (qB 2 old a b).1), .val (.int .u64 (qB 2 old a b).2)]) := by
  refine yP Tryz.func108 rfl Tryz.ntmps108 (Nat.le_of_ble_eq_true rfl) ?_
  repeat' (first | (refine zY.nil ?_) | (refine zZ.is ?_; first | refine zZ.seq ?_ | (refine zZ.isR (id := 0) ?_; refine zZ.rc [0, 1] [3] (r := (.m yT (.v zB (.v zB .e)))) (h := ?_)) | (refine zZ.isR (id := 1) ?_; refine zZ.rc [0, 3, 4, 5] [3] (r := (.v zV (.v zM (.v zO (.v v41_8 .e))))) (h := ?_)) | (refine zZ.isR (id := 2) ?_; refine zZ.dc [0, 3, 4, 5] [3] (r := (.v zM (.v zO (.v zB (.v zB .e))))) (q := .e) (h := ?_)) | (refine zZ.isR (id := 3) ?_; refine zZ.rc [0, 4, 5] [3] (r := (.v zV (.v zB (.v zB .e)))) (h := ?_)) | refine zZ.cond rfl (fun h => ?_) (fun h => ?_) | refine zZ.skip ?_ | refine zZ.ret ?_) | refine zF.r ?_ | (refine zD.nil ?_))
  all_goals exact ⟨by first | exact .inl rfl | exact .inr rfl, _, Sub.refl _, .tupE rfl (by decide) (.cons (.tmp rfl) (.cons (.tmp rfl) .nil)) (by simp_all [qB])⟩
theorem turn4_fn (old kind cell a b : Int) (d w : PV) : Fn Tryz.prog 109 [.val (.int .u64 old), .agg [.val (.int .i64 kind), .val (.int .i64 cell), .val (.int .u64 a), .val (.int .u64 b), d, w]] (.tup [.val (.int .u64 old), .val (.int .u64 (IntKind.u64.wrap (old + a)))]) := by
  refine yP Tryz.func109 rfl Tryz.ntmps109 (Nat.le_of_ble_eq_true rfl) ?_
  repeat' (first | (refine zY.nil ?_) | (refine zZ.is ?_; first | refine zZ.seq ?_ | (refine zZ.isR (id := 0) ?_; refine zZ.rc [0, 1] [3] (r := (.m yT (.v zB (.v zB .e)))) (h := ?_)) | (refine zZ.isR (id := 1) ?_; refine zZ.dc [0, 3, 4, 5] [3] (r := (.v zV (.v zV (.v zM (.v zO (.v v30_6 (.v zB (.v zB .e)))))))) (q := .e) (h := ?_)) | refine zZ.ret ?_) | (refine zD.nil ?_))
  all_goals exact ⟨by first | exact .inl rfl | exact .inr rfl, _, Sub.refl _, .tupE rfl (by decide) (.cons (.tmp rfl) (.cons (.tmp rfl) .nil)) rfl⟩
theorem turn5_fn (old kind cell a b : Int) (d w : PV) : Fn Tryz.prog 110 [.val (.int .u64 old), .agg [.val (.int .i64 kind), .val (.int .i64 cell), .val (.int .u64 a), .val (.int .u64 b), d, w]] (.tup [.val (.int .u64 old), .val (.int .u64 (a))]) := by
  refine yP Tryz.func110 rfl Tryz.ntmps110 (Nat.le_of_ble_eq_true rfl) ?_
  repeat' (first | (refine zY.nil ?_) | (refine zZ.is ?_; first | refine zZ.seq ?_ | (refine zZ.isR (id := 0) ?_; refine zZ.rc [0, 1] [3] (r := (.m yT (.v zB (.v zB .e)))) (h := ?_)) | (refine zZ.isR (id := 1) ?_; refine zZ.dc [0, 3, 4, 5] [3] (r := (.v zV (.v zM (.v zO (.v zB (.v zB .e)))))) (q := .e) (h := ?_)) | refine zZ.ret ?_) | (refine zD.nil ?_))
  all_goals exact ⟨by first | exact .inl rfl | exact .inr rfl, _, Sub.refl _, .tupE rfl (by decide) (.cons (.tmp rfl) (.cons (.tmp rfl) .nil)) rfl⟩
end Go.Proofs.YtmfbamiciieooaaGreatDoor
/- An access of a word: contracts. -/
namespace Go.Proofs.YtmfbamiciieooaaGreatDoor
set_option maxRecDepth 100000
set_option maxHeartbeats 16000000
open Go Go.RowKit
set_option linter.unusedSimpArgs false
attribute [local irreducible] zY zZ Step zX Sub zD zG Fn
def memV (t c : Int) (ws : List Int) : PV := .agg [.val (.int .i64 t), .val (.int .i64 c), .sl (wds ws)]
def resN (n : Int) : PV := .agg [.val (.int .u64 n), .val (.slice none 0 0), .val (.bool false)]
theorem turns_cells : ∀ e ∈ turnsL, e.cells.length = 2 := fun e he => by
  simp only [turnsL, List.mem_cons, List.not_mem_nil, or_false] at he
  rcases he with rfl | rfl | rfl | rfl | rfl <;> rfl
theorem wds_set (ws : List Int) (i : Nat) (x : Int) : (wds ws).set i (.val (.int .u64 x)) = wds (ws.set i x) := by simp [wds, List.map_set]
theorem wds_at {ws : List Int} {i : Nat} {x : Int} (h : ws[i]? = some x) : (wds ws)[i]? = some (.val (.int .u64 x)) := by simp [wds, h]
theorem set_same {ws : List Int} {i : Nat} {x : Int} (h : ws[i]? = some x) : ws.set i x = ws := by
  apply List.ext_getElem?
  intro j
  rw [List.getElem?_set]
  by_cases hj : i = j
  · subst hj
    have := (List.getElem?_eq_some_iff.1 h).1
    rw [if_pos rfl, if_pos this, h]
  · rw [if_neg hj]
theorem eq_of_nd {x y : Int} (h : (!decide (x = y)) = false) : x = y := by simpa using h
theorem turns_at {k : Nat} (hk : k ≤ 4) (old cell a b : Int) (d w : PV) : ∃ f, HasFn Tryz.prog f ∧ turnsL[k]? = some (.agg [.val (.int .i64 ((k : Nat) : Int)), .val (.func (.func f) #[] #[])]) ∧
    FnE Tryz.prog f [.p (.val (.int .u64 old)), .p (.agg [.val (.int .i64 ((k : Nat) : Int)), .val (.int .i64 cell), .val (.int .u64 a), .val (.int .u64 b), d, w])] [] (.ret (.tup ([.val (.int .u64 (qB k old a b).1), .val (.int .u64 (qB k old a b).2)].map .p))) [] := by
  have h5 : k = 0 ∨ k = 1 ∨ k = 2 ∨ k = 3 ∨ k = 4 := by omega
  rcases h5 with rfl | rfl | rfl | rfl | rfl
  · exact ⟨_, inferInstance, rfl, FnE.ofFnT (turn1_fn old 0 cell a b d w)⟩
  · exact ⟨_, inferInstance, rfl, FnE.ofFnT (turn2_fn old 1 cell a b d w)⟩
  · exact ⟨_, inferInstance, rfl, FnE.ofFnT (turn3_fn old 2 cell a b d w)⟩
  · exact ⟨_, inferInstance, rfl, FnE.ofFnT (turn4_fn old 3 cell a b d w)⟩
  · exact ⟨_, inferInstance, rfl, FnE.ofFnT (turn5_fn old 4 cell a b d w)⟩
theorem words_end {t c n n' : Int} {ws' : List Int} {W : List PV} (h1 : W = wds ws') (h2 : n = n') : [memV t c ws', resN n'] = [.agg [.val (.int .i64 t), .val (.int .i64 c), .sl W], .agg [.val (.int .u64 n), .val (.slice none 0 0), .val (.bool false)]] := by
  subst h1 h2
  rfl
def wordsS (t c kind a b old : Int) (i : Nat) (ws : List Int) (d : PV) (k : Nat) : AS :=
  { t := [(2, .ptr 2 0), (3, .ptr 3 0), (4, .ptr 4 0), (5, .ptr 5 0), (6, .p (.val (.int .u64 old))), (30, .p (.sl turnsL)), (31, .p (.val (.int .i64 5))), (32, .p (.val (.int .i64 (k : Nat))))],
    s := [(2, .box 26 [.p (.val (.int .i64 t)), .p (.val (.int .i64 c)), .p (.sl (wds ws))]), (3, .box 50 [.p (.val (.int .i64 kind)), .p (.val (.int .i64 i)), .p (.val (.int .u64 a)), .p (.val (.int .u64 b)), .p d, .p xZ]),
      (4, .box 26 [.p (.val (.int .i64 0)), .p (.val (.int .i64 0)), .p (.val (.slice none 0 0))]), (5, .box 55 [.p (.val (.int .u64 0)), .p (.val (.slice none 0 0)), .p (.val (.bool false))])] }
theorem words_fn (t c kd a b old : Int) (hkd : 0 ≤ kd ∧ kd ≤ 4) (i : Nat) (ws : List Int) (d : PV) (hi : ws[i]? = some old) (h1 : ws.length ≤ 1000000) :
    Fn Tryz.prog 36 [memV t c ws, accV kd i a b d] (.tup [memV t c (ws.set i (qB kd old a b).2), resN (qB kd old a b).1]) := by
  have hlt : i < ws.length := (List.getElem?_eq_some_iff.1 hi).1
  have g1 := wds_cells ws
  have g2 := turns_cells
  have g3 := wds_at hi
  have g4 : decide ((i : Int) < 0) = false := decide_eq_false (by omega)
  have g5 : decide (((wds ws).length : Int) ≤ (i : Int)) = false := decide_eq_false (by rw [wds_len]; omega)
  have g6 : (0 : Int) ≤ (i : Int) ∧ (i : Int) < (wds ws).length := by rw [wds_len]; omega
  have g7 : (i : Int).toNat < (wds ws).length := by rw [wds_len]; omega
  have c1 := cloneW_fn ws (by omega) h1
  refine yP Tryz.func36 rfl Tryz.ntmps36 (Nat.le_of_ble_eq_true rfl) ?_
  repeat' (first | (refine zY.is ?_; first | refine zY.nil ?_ | (refine zY.at_ 31 rfl ?_; refine zY.rc (.v v57_1 (.v zV .e)) ?_) | (refine zY.in_ [30] rfl ?_; refine zY.v rfl rfl (zP (turns_fn) rfl rfl rfl (by decide)) ?_)) | (refine zZ.is ?_; first | refine zZ.seq ?_ | (refine zZ.isR (id := 0) ?_; refine zZ.rc [0, 1] [2, 3, 4, 5, 8, 19, 30, 31, 46, 54] (r := (.m yT (.m yT (.m zT (.m zT .e))))) (h := ?_)) | (refine zZ.isR (id := 1) ?_; refine zZ.rc [2, 3, 4, 5] [2, 3, 4, 5, 8, 19, 30, 31, 46, 54] (r := (.v zM (.v zO (.v xI (.v zV (.gY zM (.gY zO (.gY zM (.gY zO (.gY v57_1 (.gY v46_0 (.v wW .e)))))))))))) (h := ?_)) | (refine zZ.isR (id := 3) ?_; refine zZ.rc [2, 3, 4, 5] [2, 3, 4, 5, 8, 19, 30, 31, 46, 54] (r := (.v zM (.v zO (.v zM (.v zO (.v v7_18 (.v v2_1 (.v zB .e)))))))) (h := ?_)) | (refine zZ.isR (id := 4) ?_; refine zZ.rc [2, 3, 4, 5, 6] [2, 3, 4, 5, 8, 19, 30, 31, 46, 54] (r := .e) (h := ?_)) | refine zZ.yG rfl bA ?_ | refine zZ.skip ?_ | refine zZ.block ?_))
  refine zZ.loop (wordsS t c kd a b old i ws d) (fun k => (k : Int) ≤ kd) (fun k => 5 - k) 0 ?h0 hkd.1 ?rd
  case h0 =>
    exact z8 K_t K_g
  case rd =>
    rintro k hk
    obtain ⟨f, hp, hT, hf⟩ := turns_at (k := k) (by omega) old i a b d xZ
    have g8 : (0 : Int) ≤ ((k : Nat) : Int) ∧ ((k : Nat) : Int) < turnsL.length := by show _ ∧ _ < (5 : Int); omega
    have g9 : turnsL[((k : Nat) : Int).toNat]? = some _ := hT
    have gl : decide (((k : Nat) : Int) < 5) = true := decide_eq_true (by omega)
    have gw : IntKind.i64.wrap (((k : Nat) : Int) + 1) = ((k + 1 : Nat) : Int) := by rw [wrap_i64 _ (by omega)]; omega
    by_cases hke : (k : Int) = kd
    case neg =>
      have gd : (!decide (((k : Nat) : Int) = kd)) = true := by simp; exact hke
      repeat' (first | (refine zY.nil ?_) | (refine zZ.is ?_; first | refine zZ.seq ?_ | (refine zZ.isR (id := 5) ?_; refine zZ.rc [2, 3, 4, 5, 6, 8, 9, 10, 30, 31, 32, 33, 40, 51] [2, 3, 4, 5, 8, 19, 30, 31, 46, 54] (r := (.v xI .e)) (h := ?_)) | (refine zZ.isR (id := 6) ?_; refine zZ.rc [2, 3, 4, 5, 6, 8, 9, 10, 30, 31, 32, 33, 40, 51] [2, 3, 4, 5, 8, 19, 30, 31, 46, 54] (r := (.v v7_18 (.v v2_7 (.m zT (.w zS .e))))) (h := ?_)) | (refine zZ.isR (id := 7) ?_; refine zZ.rc [2, 3, 4, 5, 6, 8, 9, 10, 30, 31, 32, 33, 40, 51] [2, 3, 4, 5, 8, 19, 30, 31, 46, 54] (r := (.v zM (.v zO (.v zM (.v zO (.v v42_0 .e)))))) (h := ?_)) | (refine zZ.isR (id := 13) ?_; refine zZ.rc [2, 3, 4, 5, 6, 8, 9, 10, 30, 31, 32, 33, 40, 51] [2, 3, 4, 5, 8, 19, 30, 31, 46, 54] (r := (.v wM (.v zV .e))) (h := ?_)) | refine zZ.yN rfl bA ?_ | refine zZ.skip ?_ | refine zZ.block ?_ | refine zZ.exit ?_) | refine zF.n ?_)
      refine ⟨k + 1, ?_, (by omega), by omega⟩
      exact z8 K_t K_g
    case pos =>
      subst hke
      have gx : (!decide (((k : Nat) : Int) = ((k : Nat) : Int))) = false := by simp
      repeat' (first | (refine zY.is ?_; first | refine zY.nil ?_ | (refine zY.at_ 41 rfl ?_; refine zY.rc (.v vZ (.v yJ (.v yJ (.v zB (.v zB .e))))) ?_) | (refine zY.at_ 55 rfl ?_; refine zY.rc (.v zM (.w w24_0 .e)) ?_) | (refine zY.in_ [54] rfl ?_; refine zY.m rfl rfl (w_callRowV c1 rfl rfl rfl (by decide)) ?_) | (refine zY.in_ [46] rfl ?_; refine zY.ofT rfl (zG.eR [] (hf) ?_))) | (refine zZ.is ?_; first | refine zZ.seq ?_ | (refine zZ.isR (id := 5) ?_; refine zZ.rc [2, 3, 4, 5, 6, 8, 9, 10, 30, 31, 32, 33, 40, 51] [2, 3, 4, 5, 8, 19, 30, 31, 46, 54] (r := (.v xI .e)) (h := ?_)) | (refine zZ.isR (id := 6) ?_; refine zZ.rc [2, 3, 4, 5, 6, 8, 9, 10, 30, 31, 32, 33, 40, 51] [2, 3, 4, 5, 8, 19, 30, 31, 46, 54] (r := (.v v7_18 (.v v2_7 (.m zT (.w zS .e))))) (h := ?_)) | (refine zZ.isR (id := 7) ?_; refine zZ.rc [2, 3, 4, 5, 6, 8, 9, 10, 30, 31, 32, 33, 40, 51] [2, 3, 4, 5, 8, 19, 30, 31, 46, 54] (r := (.v zM (.v zO (.v zM (.v zO (.v v42_0 .e)))))) (h := ?_)) | (refine zZ.isR (id := 8) ?_; refine zZ.rc [2, 3, 4, 5, 6, 8, 9, 10, 30, 31, 32, 33, 40, 51] [2, 3, 4, 5, 8, 19, 30, 31, 46, 54] (r := (.v zM (.v zO (.v zV (.v xU .e))))) (h := ?_)) | (refine zZ.isR (id := 9) ?_; refine zZ.rc [2, 3, 4, 5, 6, 8, 9, 10, 30, 31, 32, 33, 40, 51] [2, 3, 4, 5, 8, 19, 30, 31, 46, 54] (r := (.v zV (.v zV (.v v42_8 .e)))) (h := ?_)) | (refine zZ.isR (id := 10) ?_; refine zZ.rc [2, 3, 4, 5, 6, 8, 9, 10, 30, 31, 32, 33, 40, 51] [2, 3, 4, 5, 8, 19, 30, 31, 46, 54] (r := (.v zM (.v zO .e))) (h := ?_)) | (refine zZ.isR (id := 11) ?_; refine zZ.rc [2, 3, 4, 5, 6, 8, 9, 10, 30, 31, 32, 33, 40, 51] [2, 3, 4, 5, 8, 19, 30, 31, 46, 54] (r := (.v zM (.v v2_8 (.v zM (.v zO (.v zV (.v kV (.w w24_1 .e)))))))) (h := ?_)) | (refine zZ.isR (id := 12) ?_; (first | refine zZ.sub (sub_frz (id := 54) rfl) ?_ | skip); refine zZ.rc [2, 3, 4, 5, 6, 8, 9, 10, 30, 31, 32, 33, 40, 51] [2, 3, 4, 5, 8, 19, 30, 31, 46, 54] (r := (.v xU (.v zV (.v xV (.w zS (.w zS .e)))))) (h := ?_)) | refine zZ.yN rfl bA ?_ | refine zZ.yG rfl bA ?_ | refine zZ.cond rfl (fun h => ?_) (fun h => ?_) | refine zZ.skip ?_ | refine zZ.block ?_ | refine zZ.ret ?_) | refine zF.r ?_ | refine zR.r ?_)
      all_goals refine ⟨by first | exact .inl rfl | exact .inr rfl, _, Sub.refl _, .tupE (rs := [.cell 4 26, .cell 5 55]) rfl (by decide) (.cons (.cellN rfl rfl (by rfl) (by rfl)) (.cons (.cellN rfl rfl (by rfl) (by rfl)) .nil)) ?_⟩
      all_goals first
        | exact words_end (wds_set ws i _) rfl
        | exact words_end (congrArg wds (set_same (hi.trans (congrArg some (eq_of_nd h).symm))).symm) rfl
        | exact words_end (congrArg wds (set_same hi).symm) rfl
theorem wordsOut_fn (t c kd cell a b : Int) (ws : List Int) (d : PV) (hi : cell < 0 ∨ (ws.length : Int) ≤ cell) :
    Fn Tryz.prog 36 [memV t c ws, accV kd cell a b d] (.tup [memV t c ws, resN 0]) := by
  by_cases hn : cell < 0
  case pos =>
    have g4 : decide (cell < 0) = true := decide_eq_true hn
    refine yP Tryz.func36 rfl Tryz.ntmps36 (Nat.le_of_ble_eq_true rfl) ?_
    repeat' (first | (refine zY.nil ?_) | (refine zZ.is ?_; first | refine zZ.seq ?_ | (refine zZ.isR (id := 0) ?_; refine zZ.rc [0, 1] [2, 3, 4, 5, 8, 19, 30, 31, 46, 54] (r := (.m yT (.m yT (.m zT (.m zT .e))))) (h := ?_)) | (refine zZ.isR (id := 1) ?_; refine zZ.rc [2, 3, 4, 5] [2, 3, 4, 5, 8, 19, 30, 31, 46, 54] (r := (.v zM (.v zO (.v xI (.v zV (.gF (.gF (.gF (.gF (.gF (.gF (.v xR .e)))))))))))) (h := ?_)) | (refine zZ.isR (id := 2) ?_; refine zZ.rc [2, 3, 4, 5] [2, 3, 4, 5, 8, 19, 30, 31, 46, 54] (r := (.v xU (.v xV (.w zS (.w zS .e))))) (h := ?_)) | refine zZ.yN rfl bA ?_ | refine zZ.ret ?_) | refine zF.r ?_)
    all_goals exact ⟨by first | exact .inl rfl | exact .inr rfl, _, Sub.refl _, .tupE (rs := [.cell 4 26, .cell 5 55]) rfl (by decide) (.cons (.cellN rfl rfl (by rfl) (by rfl)) (.cons (.cellN rfl rfl (by rfl) (by rfl)) .nil)) rfl⟩
  case neg =>
    have g4 : decide (cell < 0) = false := decide_eq_false hn
    have g5 : decide (((wds ws).length : Int) ≤ cell) = true := decide_eq_true (by rw [wds_len]; omega)
    refine yP Tryz.func36 rfl Tryz.ntmps36 (Nat.le_of_ble_eq_true rfl) ?_
    repeat' (first | (refine zY.nil ?_) | (refine zZ.is ?_; first | refine zZ.seq ?_ | (refine zZ.isR (id := 0) ?_; refine zZ.rc [0, 1] [2, 3, 4, 5, 8, 19, 30, 31, 46, 54] (r := (.m yT (.m yT (.m zT (.m zT .e))))) (h := ?_)) | (refine zZ.isR (id := 1) ?_; refine zZ.rc [2, 3, 4, 5] [2, 3, 4, 5, 8, 19, 30, 31, 46, 54] (r := (.v zM (.v zO (.v xI (.v zV (.gY zM (.gY zO (.gY zM (.gY zO (.gY v57_1 (.gY v46_0 (.v wW .e)))))))))))) (h := ?_)) | (refine zZ.isR (id := 2) ?_; refine zZ.rc [2, 3, 4, 5] [2, 3, 4, 5, 8, 19, 30, 31, 46, 54] (r := (.v xU (.v xV (.w zS (.w zS .e))))) (h := ?_)) | refine zZ.yN rfl bA ?_ | refine zZ.ret ?_) | refine zF.r ?_)
    all_goals exact ⟨by first | exact .inl rfl | exact .inr rfl, _, Sub.refl _, .tupE (rs := [.cell 4 26, .cell 5 55]) rfl (by decide) (.cons (.cellN rfl rfl (by rfl) (by rfl)) (.cons (.cellN rfl rfl (by rfl) (by rfl)) .nil)) rfl⟩
end Go.Proofs.YtmfbamiciieooaaGreatDoor
/- Appending to a slice cut to its length: s[:n:n]. Generic over the program. -/
namespace Go.Proofs.YtmfbamiciieooaaGreatDoor
set_option maxRecDepth 100000
set_option maxHeartbeats 16000000
open Go Go.RowKit
set_option linter.unusedSimpArgs false
theorem RepL.append {M : Nat → Nat → Prop} {w : World} {xs xs' : List PV} {ys ys' : List Value} (h : RepL M w xs ys) (h' : RepL M w xs' ys') : RepL M w (xs ++ xs') (ys ++ ys') :=
  ⟨by rw [List.length_append, List.length_append, h.len, h'.len], fun i c v h1 h2 => by
    by_cases hi : i < xs.length
    · rw [List.getElem?_append_left hi] at h1
      rw [List.getElem?_append_left (by rw [h.len]; exact hi)] at h2
      exact h.each i c v h1 h2
    · rw [List.getElem?_append_right (by omega)] at h1
      rw [List.getElem?_append_right (by rw [h.len]; omega), h.len] at h2
      exact h'.each _ c v h1 h2, fun v hv => by
    rcases List.mem_append.1 hv with hv | hv
    · exact h.one v hv
    · exact h'.one v hv⟩
theorem cellsA_pure {M : Nat → Nat → Prop} {ρ : Nat → Value} {w : World} {xs : List PV} {ys : List Value} (h : yK M ρ w (xs.map AV.p) ys) : RepL M w xs ys :=
  ⟨by simpa using h.len, fun i c v h1 h2 => kX (h.each i (.p c) v (by rw [List.getElem?_map, h1]; rfl) h2), h.one⟩
theorem rep_ownsRow {M : Nat → Nat → Prop} {w w' : World} {e sz : Nat} {v : Value} {k : Nat} {es : List PV} {us : List Value} (hM : ∀ k c, M k c → k < w.heap.size) (h : w'.ownsRow w.heap.size e sz v k us) (hk : k = es.length) (hu : RepL M w' (flat es) us) : Rep M w' (.sl es) v := by
  rcases h.2 with ⟨rfl, h0⟩ | ⟨g, cap, cur, rfl, hg, hh, hkc, hcm, hcs, htk⟩
  · have : es = [] := List.eq_nil_of_length_eq_zero (by omega)
    subst this
    exact .nil
  · refine .sl es g 0 k cap us hk hu.len (fun j y hy => ?_) hu.each hu.one (fun j hj hm => ?_) (Array.getElem?_eq_some_iff.1 hh).1 hkc hcm
    · rw [Nat.zero_add, cell_of_row w' g j cur e (0, 0) hh]
      rw [← htk, List.getElem?_take] at hy
      split at hy
      · simpa using hy
      · cases hy
    · have := hM _ _ hm
      omega
section
variable {P : Program} {n : Nat} {ops : Array Oper} {S : AS} {K : Exit → AS → Prop}
theorem zY.appTight {o1 o2 o3 : Oper} {rest : List Oper} {d1 d2 d3 t e sz by_ : Nat} {x y xh xm : Operand} {z : Value} {es bs : List PV} {k2 k3 : IntKind} {h m : Int} {agg : Bool} [ht : Und P t (.slice e)] [hi : InfoA P e z sz by_] [he : TyA P e agg sz]
    (h1 : o1.op = .slice t x none (some xh) (some xm)) (g1 : o1.guard = none) (e1 : o1.dst = some d1)
    (h2 : o2.op = .move y) (g2 : o2.guard = none) (e2 : o2.dst = some d2)
    (h3 : o3.op = .call { callee := .builtin .append, args := #[.tmp d1, .tmp d2], argTypes := #[t, t] }) (g3 : o3.guard = none) (e3 : o3.dst = some d3)
    (hx : S.get x = .p (.sl es)) (hh : S.get xh = .p (.val (.int k2 h))) (hm : S.get xm = .p (.val (.int k3 m))) (hhe : h = es.length) (hme : m = es.length) (hy : S.get y = .p (.sl bs)) (hne : d2 ≠ d1) (hyd : (S.put d1 .any).get y = .p (.sl bs))
    (hn1 : d1 < n) (hn2 : d2 < n) (hn3 : d3 < n) (hes : ∀ e ∈ es, e.cells.length = sz) (hbs : ∀ e ∈ bs, e.cells.length = sz)
    (hlim : (es.length + bs.length) * by_ ≤ 140737488355328 ∧ es.length + bs.length ≤ maxLen) (hzs : z.cells.size = sz) (hsz : 0 < sz)
    (hr : zY P n ops rest (((S.put d1 .any).put d2 (.p (.sl bs))).put d3 (.p (.sl (es ++ bs)))) K) : zY P n ops (o1 :: o2 :: o3 :: rest) S K := by
  subst hhe hme
  intro M w0 ρ a w Q hs hK
  obtain ⟨i, hi1, hi2⟩ := Option.map_eq_some_iff.1 hi.h
  simp only [Prod.mk.injEq] at hi2
  obtain ⟨hz, hisz, hiby⟩ := hi2
  have hel : P.elem t = e := by simp [Program.elem, ht.h]
  have ht2 : P.underlying t = some (.slice (P.elem t)) := by rw [hel]; exact ht.h
  have r1 := yS hs hx
  have r2 := hs.val hh
  have r3 := hs.val hm
  -- the slice cut to its length
  have key : ∃ v1, (execOp a.eval o1).run P w = .ok (.value v1) w ∧ (((∃ b, v1 = .slice b 0 0) ∧ es = []) ∨ ∃ g off ys, v1 = .slice (some ⟨g, off, none⟩) es.length es.length ∧ RepL (Mut M S ρ) w (flat es) ys ∧ (∀ v ∈ ys, v.oneCell' = true) ∧ (∀ (j : Nat) y, ys[j]? = some y → w.cell? ⟨g, off + j, none⟩ = some y) ∧ (∀ j, j < ys.length → ¬ Mut M S ρ g (off + j)) ∧ g < w.heap.size ∧ es.length ≤ maxLen) := by
    rcases rep_sl r1 with ⟨⟨b, hv⟩, h0⟩ | ⟨g, off, cap, ys, hv, hly, hcell, hM, hgl, hcap, hmx⟩
    · subst h0
      refine ⟨.slice b 0 0, ?_, .inl ⟨⟨b, rfl⟩, rfl⟩⟩
      unfold execOp
      rw [h1]
      simp only [Option.map_some, Option.map_none, hv, r2, r3, Sem.run_bind, run_sliceAt_slice w t _ _ _ _ ht2, run_slice_hm w t b 0 0 ht2 _ _ (([] : List PV).length : Int) (([] : List PV).length : Int) (by simp) (by simp) (by simp)]
      rw [hel, he.sz w]
      rfl
    · refine ⟨.slice (some ⟨g, off, none⟩) es.length es.length, ?_, .inr ⟨g, off, ys, rfl, hly, hly.one, hcell, hM, hgl, by omega⟩⟩
      unfold execOp
      rw [h1]
      simp only [Option.map_some, Option.map_none, hv, r2, r3, Sem.run_bind, run_sliceAt_slice w t _ _ _ _ ht2, run_slice_hm w t (some ⟨g, off, none⟩) es.length cap ht2 _ _ (es.length : Int) (es.length : Int) (by omega) (by omega) (by omega)]
      rw [hel, he.sz w]
      simp [sliced, Result.andThen, Addr.add]
  obtain ⟨v1, hr1, hv1⟩ := key
  unfold wpList
  rw [if_pos (by simp [Region.wanted, g1])]
  refine .inl ?_
  unfold Oper.wp
  rw [hr1]
  show wpList P ops Q (o2 :: o3 :: rest) (a.put o1.dst v1) w
  rw [e1]
  have hs1 : Sat M n w0 (S.put d1 .any) ρ (a.put (some d1) v1) w := hs.put hn1 (.any v1)
  have ry := yS hs1 hyd
  unfold wpList
  rw [if_pos (by simp [Region.wanted, g2])]
  refine .inl ?_
  unfold Oper.wp
  have hr2 : (execOp (a.put (some d1) v1).eval o2).run P w = .ok (.value ((a.put (some d1) v1).eval y)) w := by
    unfold execOp
    rw [h2]
    rfl
  rw [hr2]
  show wpList P ops Q (o3 :: rest) ((a.put (some d1) v1).put o2.dst _) w
  rw [e2]
  generalize hvy : (a.put (some d1) v1).eval y = vy at ry ⊢
  have hs2 := hs1.put (d := d2) hn2 (.p ry)
  have t1 : ((a.put (some d1) v1).put (some d2) vy).eval (.tmp d1) = v1 := by
    have : d1 < a.tmps.size := by rw [hs.size]; exact hn1
    simp [Act.eval, Act.put, Array.getD_eq_getD_getElem?, Array.getElem?_setIfInBounds, hne, this]
  have t2 : ((a.put (some d1) v1).put (some d2) vy).eval (.tmp d2) = vy := by
    have : d2 < a.tmps.size := by rw [hs.size]; exact hn2
    simp [Act.eval, Act.put, Array.getD_eq_getD_getElem?, Array.getElem?_setIfInBounds, this]
  obtain ⟨us, hus, hnews⟩ := news_p (ρ := ρ) ry hbs
  have hMut : Mut M ((S.put d1 .any).put d2 (.p (.sl bs))) ρ = Mut M S ρ := rfl
  have main : ∀ v' w', (Builtin.append_ #[t, t] o3.type #[v1, vy]).run P w = .ok v' w' → Below w.heap.size w w' → Rep (Mut M S ρ) w' (.sl (es ++ bs)) v' → wpList P ops Q (o3 :: rest) ((a.put (some d1) v1).put (some d2) vy) w := by
    intro v' w' hr3 hb hrep
    unfold wpList
    rw [if_pos (by simp [Region.wanted, g3])]
    refine .inl ?_
    unfold Oper.wp execOp
    simp only [h3, resolve, invoke, builtin, Sem.run_bind, Sem.run_pure, Result.andThen_ok, List.map_toArray, List.map_cons, List.map_nil, t1, t2, hr3]
    show wpList P ops Q rest (((a.put (some d1) v1).put (some d2) vy).put o3.dst v') w'
    rw [e3]
    exact hr M w0 ρ _ w' Q ((hs2.ext hb).put hn3 (.p hrep)) hK
  have hflat : flat (es ++ bs) = flat es ++ flat bs := by simp [flat]
  have hlt : ∀ k c, Mut M S ρ k c → k < w.heap.size := fun k c hk => Mut.lt hs hk
  have grown : ∀ v' w' ys, w.grownBy w' none → w'.ownsRow w.heap.size e sz v' (es.length + bs.length) (ys ++ us) → RepL (Mut M S ρ) w (flat es) ys → Rep (Mut M S ρ) w' (.sl (es ++ bs)) v' := by
    intro v' w' ys hg hown hys
    have hk : Keeps (Mut M S ρ) w w' := ⟨hg.size, fun k c hk _ => World.cell?_of_block (w := w) (hg.block k hk (by simp))⟩
    have hus2 : RepL (Mut M S ρ) w (flat bs) us := cellsA_pure (hMut ▸ hus)
    refine rep_ownsRow hlt hown (by rw [List.length_append]) ?_
    rw [hflat]
    exact (hys.keep hk).append (hus2.keep hk)
  rcases hv1 with ⟨⟨b, hv1⟩, h0⟩ | ⟨g, off, ys, hv1, hys, hone, hcell, hM, hgl, hmx⟩
  · subst h0
    cases b with
    | some b =>
      rcases Nat.eq_zero_or_pos bs.length with hb | hb
      · have hb0 : bs = [] := List.eq_nil_of_length_eq_zero hb
        subst hb0
        refine main v1 w ?_ (Below.refl _ _) ?_
        · have hv : vy = .slice none 0 0 ∨ ∃ ad c, vy = .slice (some ad) 0 c := by
            rcases hnews with ⟨hyv, _, _⟩ | ⟨ad, c, hyv, _⟩
            · exact .inl hyv
            · exact .inr ⟨ad, c, hyv⟩
          rw [hv1]
          refine run_append_nothing w t t o3.type e i ht.h hi1 _ _ _ (Nat.le_refl _) _ ?_
          rcases hv with hv | ⟨ad, c, hv⟩ <;> rw [hv]
          · exact .ofNil w ht.h 0
          · exact .ofSlice w ht.h ad 0 c [] (by simp) (fun j u h => by simp at h) (fun u h => by simp at h)
        · rw [hv1]
          exact .nil
      · rcases hnews with ⟨hyv, hk0, hu0⟩ | ⟨ad, c, hyv, hul, hcell2⟩
        · omega
        · obtain ⟨v', w', hr, hown', hg⟩ := run_append_arg_grows (P := P) w t o3.type e i z sz by_ ht.h hi1 hz hisz hiby hzs hsz b 0 0 [] (by simp) (fun j u hu => by simp at hu) ad bs.length c us hul hcell2 (by omega) (by simpa using hlim.2) (by simpa using hlim.1)
          rw [← hv1, ← hyv] at hr
          exact main v' w' hr ⟨hg.os, hg.tape, hg.output, hg.size, fun k hk => hg.block k hk (by simp)⟩ (grown v' w' [] hg (by simpa using hown') ⟨rfl, fun i c v h => by simp [flat] at h, fun v h => by simp at h⟩)
    | none =>
    have hown : ∀ B, w.ownsRow B e sz (.slice none 0 0) 0 [] := fun B => ⟨by simp, .inl ⟨rfl, rfl⟩⟩
    rcases hnews with ⟨hyv, hk0, hu0⟩ | ⟨ad, c, hyv, hul, hcell2⟩
    · have hb0 : bs = [] := List.eq_nil_of_length_eq_zero hk0
      subst hb0
      refine main (.slice none 0 0) w ?_ (Below.refl _ _) .nil
      rw [hyv, hv1]
      exact run_append_owned_none (P := P) w 0 t o3.type e i sz ht.h hi1 (.slice none 0 0) 0 [] (hown 0)
    · obtain ⟨v', w', hr, hown', hg, _, _⟩ := run_append_own_at (P := P) w w.heap.size t o3.type e i z sz by_ ht.h hi1 hz hisz hiby hzs hsz (.slice none 0 0) 0 [] (hown _) ad bs.length c us hul hcell2 hus.one (by simpa using hlim.2) (by simpa using hlim.1) (Nat.le_refl _)
      rw [← hv1, ← hyv] at hr
      exact main v' w' hr ⟨hg.os, hg.tape, hg.output, hg.size, fun k hk => hg.block k hk (fun h => by cases h)⟩ (grown v' w' [] hg (by simpa using hown') ⟨rfl, fun i c v h => by simp [flat] at h, fun v h => by simp at h⟩)
  · have hyl : ys.length = es.length * sz := by rw [hys.len, flat_len hes]
    rcases Nat.eq_zero_or_pos bs.length with hb | hb
    · have hb0 : bs = [] := List.eq_nil_of_length_eq_zero hb
      subst hb0
      refine main v1 w ?_ (Below.refl _ _) ?_
      · have hv : vy = .slice none 0 0 ∨ ∃ ad c, vy = .slice (some ad) 0 c := by
          rcases hnews with ⟨hyv, _, _⟩ | ⟨ad, c, hyv, _⟩
          · exact .inl hyv
          · exact .inr ⟨ad, c, hyv⟩
        rw [hv1]
        refine run_append_nothing w t t o3.type e i ht.h hi1 _ _ _ (Nat.le_refl _) _ ?_
        rcases hv with hv | ⟨ad, c, hv⟩ <;> rw [hv]
        · exact .ofNil w ht.h 0
        · exact .ofSlice w ht.h ad 0 c [] (by simp) (fun j u h => by simp at h) (fun u h => by simp at h)
      · rw [hv1, List.append_nil]
        exact .sl es g off es.length es.length ys rfl hys.len hcell hys.each hone hM hgl (Nat.le_refl _) hmx
    · rcases hnews with ⟨hyv, hk0, hu0⟩ | ⟨ad, c, hyv, hul, hcell2⟩
      · omega
      · obtain ⟨v', w', hr, hown', hg⟩ := run_append_arg_grows (P := P) w t o3.type e i z sz by_ ht.h hi1 hz hisz hiby hzs hsz ⟨g, off, none⟩ es.length es.length ys hyl (fun j u hu => by rw [add_lit]; exact hcell j u hu) ad bs.length c us hul hcell2 (by omega) hlim.2 hlim.1
        rw [← hv1, ← hyv] at hr
        exact main v' w' hr ⟨hg.os, hg.tape, hg.output, hg.size, fun k hk => hg.block k hk (by simp)⟩ (grown v' w' ys hg hown' hys)
/-- A call of a closure that turns nothing, by its contract: a value. -/
theorem w_callClo {o : Oper} {d k : Nat} {x : Operand} {f : FuncId} {args : Array Operand} {ts : Array TypeId} {ys : List PV} {b : Blk} {r : PV} [hc : HasFn P f] (hf : FnE P f (ys.map AV.p ++ [.ptr 1000 0]) [b] (.ret (.p r)) [b])
    (ho : o.op = .call { callee := .value x, args := args, argTypes := ts }) (hx : S.get x = .clo f [k]) (hargs : args.toList.map S.get = ys.map AV.p) (hb : S.blk k = some b) (hren : b.ren (sig [k]) = b) (hok : b.okE 1 = true) (hd : o.dst = some d) (hn : d < n) :
    zX P n o S [k] (.p r) none := by
  intro S2 hg hbk M w0 ρ a w KK Q hs hK
  have hbk2 : S2.blk k = some b := by rw [hbk k (by simp), hb]
  have hx2 : S2.get x = .clo f [k] := by rw [hg x (by rw [ho]; simp [Op.operands, Call.operands]), hx]
  have ha2 : args.toList.map S2.get = ys.map AV.p := by
    rw [← hargs]
    exact List.map_congr_left fun y hy => hg y (by rw [ho]; simp [Op.operands, Call.operands]; exact .inr (by simpa using hy))
  have hh : Hands S2 [k] [b] := vR (by simp) (by simpa using hok) ⟨by rw [hbk2, hren], trivial⟩
  have st := zG.eRet (P := P) (n := n) (o := o) (S := S2) (K := fun _ _ => False) (N := fun S1 => S1 = (S2.after [k] [b]).put d (.p r)) [k] hf hd hn (enters_clo ho hx2) (by
    rw [ha2, List.map_append, List.map_map]
    rfl) hh rfl (by simpa using hok) (by
    rw [List.all_append]
    simp only [List.all_map, Bool.and_eq_true, List.all_cons, List.all_nil]
    exact ⟨List.all_eq_true.2 fun _ _ => rfl, rfl, trivial⟩) rfl rfl
  refine st M w0 ρ a w KK Q hs ?_ ?_
  · intro S1 ρ' a' w' hN hs'
    subst hN
    rw [hd] at hK
    refine hK ρ' a' w' ?_
    refine wQ.sat (S := (S2.after [k] [b]).put d (.p r)) (S' := S2.put d (.p r)) ⟨fun _ => rfl, fun j => ?_⟩ hs'
    show (look (vH [k] [b.ren (sig [k])] S2.s) j = none ∧ S2.blk j = none) ∨ ∃ b1 b2, look (vH [k] [b.ren (sig [k])] S2.s) j = some b1 ∧ S2.blk j = some b2 ∧ Alike b1 b2
    rw [hren]
    by_cases hj : k = j
    · subst hj
      exact .inr ⟨b, b, by simp [vH, q9], hbk2, .refl b⟩
    · have e : look (vH [k] [b] S2.s) j = S2.blk j := by simp [vH, q9, hj, AS.blk]
      rw [e]
      cases h : S2.blk j with
      | none => exact .inl ⟨rfl, rfl⟩
      | some c => exact .inr ⟨c, c, rfl, rfl, .refl c⟩
  · intro e S' _ _ _ h
    exact h.elim
/-- A call of a function value, by its contract: a value. -/
theorem w_callFV {o : Oper} {d : Nat} {x : Operand} {f : FuncId} {args : Array Operand} {ts : Array TypeId} {ys : List PV} {r : PV} [hc : HasFn P f] (hf : Fn P f ys (.p r))
    (ho : o.op = .call { callee := .value x, args := args, argTypes := ts }) (hx : S.get x = .p (.val (.func (.func f) #[] #[]))) (hargs : args.toList.map S.get = ys.map AV.p) (hd : o.dst = some d) (hn : d < n) :
    zX P n o S [] (.p r) none := by
  intro S2 hg _ M w0 ρ a w KK Q hs hK
  have hx2 : S2.get x = .p (.val (.func (.func f) #[] #[])) := by rw [hg x (by rw [ho]; simp [Op.operands, Call.operands]), hx]
  have ha2 : args.toList.map S2.get = ys.map AV.p := by
    rw [← hargs]
    exact List.map_congr_left fun y hy => hg y (by rw [ho]; simp [Op.operands, Call.operands]; exact .inr (by simpa using hy))
  have st := zG.eRet (P := P) (n := n) (o := o) (S := S2) (K := fun _ _ => False) (N := fun S1 => S1 = (S2.after [] []).put d (.p r)) [] (FnE.ofFn hf) hd hn (enters_val ho hx2) (by
    rw [ha2, List.map_map]
    rfl) (vR (by simp) (by simp) trivial) rfl (by simp) (by
    simp only [List.all_map]
    exact List.all_eq_true.2 fun _ _ => rfl) rfl rfl
  refine st M w0 ρ a w KK Q hs ?_ ?_
  · intro S1 ρ' a' w' hN hs'
    subst hN
    rw [hd] at hK
    exact hK ρ' a' w' hs'
  · intro e S' _ _ _ h
    exact h.elim
end
end Go.Proofs.YtmfbamiciieooaaGreatDoor
/- Worlds: streams and disks: contracts. -/
namespace Go.Proofs.YtmfbamiciieooaaGreatDoor
set_option maxRecDepth 100000
set_option maxHeartbeats 16000000
open Go Go.RowKit
set_option linter.unusedSimpArgs false
attribute [local irreducible] zY zZ Step zX Sub zD zG Fn
/-- a stream -/
def strV (d : List Int) (s : Int) : PV := .agg [.sl (byts d), .val (.int .i64 s)]
/-- streams, as a slice's elements; a disk -/
def strs (l : List (List Int × Int)) : List PV := l.map fun p => strV p.1 p.2
def vV (root : Int) (r0 r1 : List (List Int × Int)) : PV := .agg [.val (.int .u64 root), .sl (strs r0), .sl (strs r1)]
theorem strs_len (l : List (List Int × Int)) : (strs l).length = l.length := by simp [strs]
theorem strs_cells (l : List (List Int × Int)) : ∀ e ∈ strs l, e.cells.length = 2 := fun e he => by
  obtain ⟨x, _, rfl⟩ := List.mem_map.1 he
  rfl
theorem strs_at {l : List (List Int × Int)} {i : Nat} {d : List Int} {s : Int} (h : l[i]? = some (d, s)) : (strs l)[i]? = some (strV d s) := by simp [strs, h]
theorem strs_set (l : List (List Int × Int)) (i : Nat) (d : List Int) (s : Int) : (strs l).set i (strV d s) = strs (l.set i (d, s)) := by simp [strs, List.map_set]
theorem isDisk_fn (k : Int) : Fn Tryz.prog 33 [.val (.int .i64 k)] (.p (.val (.bool (decide (5 ≤ k) && decide (k ≤ 12))))) := by
  refine yP Tryz.func33 rfl Tryz.ntmps33 (Nat.le_of_ble_eq_true rfl) ?_
  repeat' (first | (refine zY.is ?_; first | refine zY.nil ?_ | (refine zY.at_ 6 rfl ?_; refine zY.rc (.gY zV (.gY v44_8 (.v xR (.v zB .e)))) ?_) | (refine zY.at_ 6 rfl ?_; refine zY.rc (.gT (.gT (.v wW (.v zB .e)))) ?_) | (fail_if_success refine zY.known rfl rfl rfl (by fail) ?_); refine zY.split rfl rfl rfl (fun h => ?_) (fun h => ?_)) | (refine zZ.is ?_; first | refine zZ.seq ?_ | (refine zZ.isR (id := 0) ?_; refine zZ.rc [0] [] (r := (.v zB .e)) (h := ?_)) | (refine zZ.isR (id := 1) ?_; refine zZ.rc [0, 2] [] (r := (.v zV (.v v46_8 (.v zV .e)))) (h := ?_)) | refine zZ.ret ?_))
  · rw [h, Bool.true_and]
    exact ⟨by first | exact .inl rfl | exact .inr rfl, _, Sub.refl _, .p rfl (.tmp rfl)⟩
  · rw [h, Bool.false_and]
    exact ⟨by first | exact .inl rfl | exact .inr rfl, _, Sub.refl _, .p rfl (.tmp rfl)⟩
theorem row_fn (root : Int) (r0 r1 : PV) (h0 : 0 ≤ root) : Fn Tryz.prog 66 [.agg [.val (.int .u64 root), r0, r1]] (.p (.val (.int .i64 (root % 2)))) := by
  refine yP Tryz.func66 rfl Tryz.ntmps66 (Nat.le_of_ble_eq_true rfl) ?_
  repeat' (first | (refine zY.nil ?_) | (refine zZ.is ?_; first | refine zZ.seq ?_ | (refine zZ.isR (id := 0) ?_; refine zZ.rc [0] [1] (r := (.m yT (.v zB .e))) (h := ?_)) | (refine zZ.isR (id := 1) ?_; refine zZ.rc [1, 2] [1] (r := (.v zM (.v zO (.v v34_3 (.v v6_6 (.v zB .e)))))) (h := ?_)) | refine zZ.ret ?_))
  have e : IntKind.i64.wrap (root.tmod 2) = root % 2 := by
    have h1 : root.tmod 2 = root % 2 := Int.tmod_eq_emod_of_nonneg h0
    have h2 := Int.emod_nonneg root (show (2 : Int) ≠ 0 by decide)
    have h3 := Int.emod_lt_of_pos root (show (0 : Int) < 2 by decide)
    rw [h1]
    rcases (show root % 2 = 0 ∨ root % 2 = 1 by omega) with h | h <;> rw [h] <;> rfl
  all_goals exact ⟨by first | exact .inl rfl | exact .inr rfl, _, Sub.refl _, .p rfl (.tmp (by rw [← e]; rfl))⟩
theorem strApp_fn (d b : List Int) (s : Int) (h : d.length + b.length ≤ 100000000) : Fn Tryz.prog 102 [strV d s, .sl (byts b)] (.p (strV (d ++ b) s)) := by
  refine yP Tryz.func102 rfl Tryz.ntmps102 (Nat.le_of_ble_eq_true rfl) ?_
  repeat' (first | (refine zY.nil ?_) | (refine zZ.is ?_; first | refine zZ.seq ?_ | (refine zZ.isR (id := 0) ?_; refine zZ.rc [0, 1] [2, 4] (r := (.m yT (.m zT .e))) (h := ?_)) | (refine zZ.isR (id := 1) ?_; refine zZ.rc [1, 2, 4] [2, 4] (r := (.v zM (.v zO (.v v57_0 (.v zB .e))))) (h := ?_)) | (refine zZ.isR (id := 2) ?_; refine zZ.rc [1, 2, 4, 5] [2, 4] (r := (.v zM (.v zO (.v zV (.v zV .e))))) (h := ?_))))
  refine zY.appTight (es := byts d) (bs := byts b) rfl rfl rfl rfl rfl rfl rfl rfl rfl rfl rfl rfl ?_ ?_ rfl (by decide) rfl (by decide) (by decide) (by decide) (byts_one d) (byts_one b) ?_ rfl (by decide) ?_
  · rw [byts_len]
  · rw [byts_len]
  · rw [byts_len, byts_len]
    simp only [maxLen]
    omega
  rw [show byts d ++ byts b = byts (d ++ b) by simp [byts]]
  repeat' (first | (refine zY.is ?_; first | refine zY.nil ?_ | (refine zY.at_ 16 rfl ?_; refine zY.rc (.v zM (.w zS .e)) ?_)) | (refine zZ.is ?_; first | refine zZ.seq ?_ | (refine zZ.isR (id := 3) ?_; refine zZ.rc [2, 4] [2, 4] (r := (.v xU (.w zS .e))) (h := ?_)) | refine zZ.ret ?_))
  all_goals exact ⟨by first | exact .inl rfl | exact .inr rfl, _, Sub.refl _, .p (r := .cell 4 68) rfl (.cellN rfl rfl (by rfl) (by rfl))⟩
theorem strSync_fn (d : List Int) (s : Int) : Fn Tryz.prog 103 [strV d s] (.p (strV d d.length)) := by
  refine yP Tryz.func103 rfl Tryz.ntmps103 (Nat.le_of_ble_eq_true rfl) ?_
  repeat' (first | (refine zY.nil ?_) | (refine zZ.is ?_; first | refine zZ.seq ?_ | (refine zZ.isR (id := 0) ?_; refine zZ.rc [0] [1, 2] (r := (.m yT (.m zT .e))) (h := ?_)) | (refine zZ.isR (id := 1) ?_; refine zZ.rc [1, 2] [1, 2] (r := (.v zM (.v zO (.v v57_0 (.v zM (.w zS .e)))))) (h := ?_)) | (refine zZ.isR (id := 2) ?_; refine zZ.rc [1, 2] [1, 2] (r := (.v xU (.w zS .e))) (h := ?_)) | refine zZ.ret ?_))
  all_goals exact ⟨by first | exact .inl rfl | exact .inr rfl, _, Sub.refl _, .p (r := .cell 2 68) rfl (.cellN rfl rfl (by rfl) (by rfl))⟩
theorem cloneS_fn (l : List (List Int × Int)) (h0 : 1 ≤ l.length) (h1 : l.length ≤ 1000000) : Fn Tryz.prog 124 [.sl (strs l)] (.row 68 2 (strs l).length (flat (strs l))) := by
  have g1 := strs_cells l
  have g2 : strs l ≠ [] := fun e => by have := congrArg List.length e; rw [strs_len, List.length_nil] at this; omega
  have g3 := grow_lim (strs l).length 32 (by rw [strs_len]; exact h1) (by decide)
  refine yP Tryz.func124 rfl Tryz.ntmps124 (Nat.le_of_ble_eq_true rfl) ?_
  repeat' (first | (refine zY.nil ?_) | (refine zZ.is ?_; first | refine zZ.seq ?_ | (refine zZ.isR (id := 0) ?_; refine zZ.rc [0] [2, 5] (r := (.v zB .e)) (h := ?_)) | (refine zZ.isR (id := 1) ?_; refine zZ.rc [0, 2] [2, 5] (r := (.v zV (.v v41_41 .e))) (h := ?_)) | (refine zZ.isR (id := 3) ?_; refine zZ.rc [0, 2] [2, 5] (r := (.m m20_0 (.v zV (.w w55_2 (.v v1_1 .e))))) (h := ?_)) | refine zZ.yG rfl bA ?_ | refine zZ.skip ?_ | refine zZ.ret ?_))
  all_goals exact ⟨by first | exact .inl rfl | exact .inr rfl, givesRowV rfl rfl rfl⟩
end Go.Proofs.YtmfbamiciieooaaGreatDoor
/- Disks: a stream turned: contracts. -/
namespace Go.Proofs.YtmfbamiciieooaaGreatDoor
set_option maxRecDepth 100000
set_option maxHeartbeats 16000000
open Go Go.RowKit
set_option linter.unusedSimpArgs false
attribute [local irreducible] zY zZ Step zX Sub zD zG Fn
theorem appendC_fn (d bs : List Int) (s : Int) (h : d.length + bs.length ≤ 100000000) : FnE Tryz.prog 101 ([strV d s].map AV.p ++ [.ptr 1000 0]) [.box 22 [.p (.sl (byts bs))]] (.ret (.p (strV (d ++ bs) s))) [.box 22 [.p (.sl (byts bs))]] := by
  have c := strApp_fn d bs s h
  refine fn_ofE Tryz.func101 rfl Tryz.ntmps101 (Nat.le_of_ble_eq_true rfl) (by decide) ?_
  repeat' (first | (refine zY.is ?_; first | refine zY.nil ?_ | refine zY.rc (.w zS .e) ?_ | (refine zY.in_ [6] rfl ?_; refine zY.v rfl rfl (zP (c) rfl rfl rfl (by decide)) ?_)) | (refine zZ.is ?_; first | refine zZ.seq ?_ | (refine zZ.isR (id := 0) ?_; refine zZ.rc [0, 1] [2, 3, 1000] (r := (.m yT (.m zT .e))) (h := ?_)) | (refine zZ.isR (id := 1) ?_; refine zZ.rc [1, 2, 3] [2, 3, 1000] (r := (.v xU (.v zO .e))) (h := ?_)) | refine zZ.ret ?_))
  all_goals exact ⟨(by exact .inl rfl), _, Sub.refl _, .p (r := .cell 3 68) rfl (.cellN rfl rfl (by rfl) (by rfl)), wU (by repeat' first | exact trivial | rfl | constructor)⟩
theorem is0_fn (root : Int) (r0 r1 : List (List Int × Int)) (i : Nat) (hi : i < r0.length) : Fn Tryz.prog 104 [vV root r0 r1, .val (.int .i64 0), .val (.int .i64 i)] (.p (.val (.bool true))) := by
  have g1 : decide ((0 : Int) ≤ i) = true := decide_eq_true (by omega)
  have g2 : decide ((i : Int) < (strs r0).length) = true := decide_eq_true (by rw [strs_len]; omega)
  refine yP Tryz.func104 rfl Tryz.ntmps104 (Nat.le_of_ble_eq_true rfl) ?_
  repeat' (first | (refine zY.nil ?_) | (refine zZ.is ?_; first | refine zZ.seq ?_ | (refine zZ.isR (id := 0) ?_; refine zZ.rc [0, 1, 2] [3] (r := (.m yT (.v zB .e))) (h := ?_)) | (refine zZ.isR (id := 1) ?_; refine zZ.rc [1, 2, 3, 6] [3] (r := (.v zV (.v v46_4 (.v zV (.gY zV (.gY v43_4 (.v xR (.v zV (.gY zV (.gY v46_0 (.v xR (.v zV (.gY zV (.gY zV (.gY zM (.gY v7_48 (.gY zO (.gY v57_1 (.gY xI (.v xR (.v zB .e))))))))))))))))))))) (h := ?_)) | refine zZ.ret ?_))
  all_goals exact ⟨by first | exact .inl rfl | exact .inr rfl, _, Sub.refl _, .p rfl (.tmp rfl)⟩
theorem turnA0_fn (root : Int) (r0 r1 : List (List Int × Int)) (i : Nat) (d : List Int) (s : Int) (bs : List Int) (hi : r0[i]? = some (d, s)) (h1 : r0.length ≤ 1000000) (h2 : d.length + bs.length ≤ 100000000) :
    FnE Tryz.prog 100 [.p (vV root r0 r1), .p (.val (.int .i64 0)), .p (.val (.int .i64 i)), .clo 101 [1000]] [.box 22 [.p (.sl (byts bs))]] (.ret (.tup [.p (vV root (r0.set i (d ++ bs, s)) r1), .p (.val (.int .i64 0))])) [.box 22 [.p (.sl (byts bs))]] := by
  have hlt : i < r0.length := (List.getElem?_eq_some_iff.1 hi).1
  have g1 := strs_cells r0
  have g3 := strs_at hi
  have g6 : (0 : Int) ≤ (i : Int) ∧ (i : Int) < (strs r0).length := by rw [strs_len]; omega
  have g7 : (i : Int).toNat < (strs r0).length := by rw [strs_len]; omega
  have c0 := is0_fn root r0 r1 i hlt
  have c1 := cloneS_fn r0 (by omega) h1
  have e : vV root (r0.set i (d ++ bs, s)) r1 = .agg [.val (.int .u64 root), .sl ((strs r0).set (i : Int).toNat (strV (d ++ bs) s)), .sl (strs r1)] := by simp [vV, strs_set]
  have c2 := appendC_fn d bs s h2
  refine fn_ofE Tryz.func100 rfl Tryz.ntmps100 (Nat.le_of_ble_eq_true rfl) (by decide) ?_
  repeat' (first | (refine zY.is ?_; first | refine zY.nil ?_ | (refine zY.at_ 14 rfl ?_; refine zY.rc (.v kQ .e) ?_) | (refine zY.at_ 22 rfl ?_; refine zY.rc (.v zM (.v v7_48 (.w w24_0 .e))) ?_) | (refine zY.in_ [13] rfl ?_; refine zY.v rfl rfl (zP (c0) rfl rfl rfl (by decide)) ?_) | (refine zY.in_ [21] rfl ?_; refine zY.m rfl rfl (w_callRowV c1 rfl rfl rfl (by decide)) ?_)) | (refine zZ.is ?_; first | refine zZ.seq ?_ | (refine zZ.isR (id := 0) ?_; refine zZ.rc [0, 1, 2, 3] [4, 8, 13, 21, 37, 1000] (r := (.m yT (.m zT (.v zB .e)))) (h := ?_)) | (refine zZ.isR (id := 1) ?_; refine zZ.rc [1, 2, 3, 4, 8, 9] [4, 8, 13, 21, 37, 1000] (r := (.v xU (.v zV (.v zV .e)))) (h := ?_)) | (refine zZ.isR (id := 3) ?_; refine zZ.rc [1, 2, 3, 4, 8, 9] [4, 8, 13, 21, 37, 1000] (r := (.v zV (.v zV (.v zM (.v v7_48 (.v zO .e)))))) (h := ?_)) | (refine zZ.isR (id := 4) ?_; refine zZ.rk [1, 2, 3, 4, 8, 9] [4, 8, 13, 21, 37, 1000] ?_; refine zZ.draws ?_) | (refine zZ.isR (id := 5) ?_; (refine zZ.sub (sub_frz (id := 21) rfl) ?_); refine zZ.rc [4, 8, 9] [4, 8, 13, 21, 37, 1000] (r := (.v xU (.w zS (.v zB .e)))) (h := ?_)) | refine zZ.yG rfl bA ?_ | refine zZ.skip ?_ | refine zZ.ret ?_) | (refine Draws.is ?_; first | refine Draws.rc (.v zV (.v zM (.v v7_48 (.v v2_8 (.v zV (.v xJ (.v zV (.v zM (.v v7_48 (.v v2_8 (.v zV (.v kV (.v v2_14 .e))))))))))))) ?_ | refine Draws.rc (.v kV .e) ?_ | (refine Draws.in_ [37] rfl ?_; refine Draws.v rfl rfl (w_callClo (c2) rfl rfl rfl rfl rfl rfl rfl (by decide)) ?_) | refine Draws.done (by kernel_rfl) (by kernel_rfl) (by kernel_rfl) ?_) | (refine zD.is ?_; first | refine zD.nil ?_ | refine zD.rc (.w w24_1 .e) ?_))
  rw [e]
  all_goals exact ⟨(by exact .inl rfl), _, Sub.refl _, .tup (rs := [.cell 8 31, .tmp 9]) (l := [.agg [.val (.int .u64 root), .sl ((strs r0).set (i : Int).toNat (strV (d ++ bs) s)), .sl (strs r1)], .val (.int .i64 0)]) rfl (by decide) (.cons (.cellN rfl rfl (by rfl) (by rfl)) (.cons (.tmp rfl) .nil)), wU (by repeat' first | exact trivial | rfl | constructor)⟩
theorem turnS0_fn (root : Int) (r0 r1 : List (List Int × Int)) (i : Nat) (d : List Int) (s : Int) (hi : r0[i]? = some (d, s)) (h1 : r0.length ≤ 1000000) :
    Fn Tryz.prog 100 [vV root r0 r1, .val (.int .i64 0), .val (.int .i64 i), .val (funV 103)] (.tup [vV root (r0.set i (d, d.length)) r1, .val (.int .i64 0)]) := by
  have hlt : i < r0.length := (List.getElem?_eq_some_iff.1 hi).1
  have g1 := strs_cells r0
  have g3 := strs_at hi
  have g6 : (0 : Int) ≤ (i : Int) ∧ (i : Int) < (strs r0).length := by rw [strs_len]; omega
  have g7 : (i : Int).toNat < (strs r0).length := by rw [strs_len]; omega
  have c0 := is0_fn root r0 r1 i hlt
  have c1 := cloneS_fn r0 (by omega) h1
  have e : vV root (r0.set i (d, d.length)) r1 = .agg [.val (.int .u64 root), .sl ((strs r0).set (i : Int).toNat (strV d d.length)), .sl (strs r1)] := by simp [vV, strs_set]
  have c2 := strSync_fn d s
  refine yP Tryz.func100 rfl Tryz.ntmps100 (Nat.le_of_ble_eq_true rfl) ?_
  repeat' (first | (refine zY.is ?_; first | refine zY.nil ?_ | (refine zY.at_ 14 rfl ?_; refine zY.rc (.v kQ .e) ?_) | (refine zY.at_ 22 rfl ?_; refine zY.rc (.v zM (.v v7_48 (.w w24_0 .e))) ?_) | (refine zY.in_ [13] rfl ?_; refine zY.v rfl rfl (zP (c0) rfl rfl rfl (by decide)) ?_) | (refine zY.in_ [21] rfl ?_; refine zY.m rfl rfl (w_callRowV c1 rfl rfl rfl (by decide)) ?_)) | (refine zZ.is ?_; first | refine zZ.seq ?_ | (refine zZ.isR (id := 0) ?_; refine zZ.rc [0, 1, 2, 3] [4, 8, 13, 21, 37] (r := (.m yT (.m zT (.v zB .e)))) (h := ?_)) | (refine zZ.isR (id := 1) ?_; refine zZ.rc [1, 2, 3, 4, 8, 9] [4, 8, 13, 21, 37] (r := (.v xU (.v zV (.v zV .e)))) (h := ?_)) | (refine zZ.isR (id := 3) ?_; refine zZ.rc [1, 2, 3, 4, 8, 9] [4, 8, 13, 21, 37] (r := (.v zV (.v zV (.v zM (.v v7_48 (.v zO .e)))))) (h := ?_)) | (refine zZ.isR (id := 4) ?_; refine zZ.rk [1, 2, 3, 4, 8, 9] [4, 8, 13, 21, 37] ?_; refine zZ.draws ?_) | (refine zZ.isR (id := 5) ?_; (refine zZ.sub (sub_frz (id := 21) rfl) ?_); refine zZ.rc [4, 8, 9] [4, 8, 13, 21, 37] (r := (.v xU (.w zS (.v zB .e)))) (h := ?_)) | refine zZ.yG rfl bA ?_ | refine zZ.skip ?_ | refine zZ.ret ?_) | (refine Draws.is ?_; first | refine Draws.rc (.v zV (.v zM (.v v7_48 (.v v2_8 (.v zV (.v zV (.v zV (.v zM (.v v7_48 (.v v2_8 (.v zV (.v kV (.v v2_14 .e))))))))))))) ?_ | refine Draws.rc (.v kV .e) ?_ | (refine Draws.in_ [37] rfl ?_; refine Draws.v rfl rfl (w_callFV (c2) rfl rfl rfl rfl (by decide)) ?_) | refine Draws.done (by kernel_rfl) (by kernel_rfl) (by kernel_rfl) ?_) | (refine zD.is ?_; first | refine zD.nil ?_ | refine zD.rc (.w w24_1 .e) ?_))
  rw [e]
  all_goals exact ⟨(by exact .inl rfl), _, Sub.refl _, .tup (rs := [.cell 8 31, .tmp 9]) (l := [.agg [.val (.int .u64 root), .sl ((strs r0).set (i : Int).toNat (strV d d.length)), .sl (strs r1)], .val (.int .i64 0)]) rfl (by decide) (.cons (.cellN rfl rfl (by rfl) (by rfl)) (.cons (.tmp rfl) .nil))⟩
theorem diskApp0_fn (root : Int) (r0 r1 : List (List Int × Int)) (i : Nat) (d : List Int) (s : Int) (bs : List Int) (hi : r0[i]? = some (d, s)) (h1 : r0.length ≤ 1000000) (h2 : d.length + bs.length ≤ 100000000) :
    Fn Tryz.prog 67 [vV root r0 r1, .val (.int .i64 0), .val (.int .i64 i), .sl (byts bs)] (.tup [vV root (r0.set i (d ++ bs, s)) r1, .val (.int .i64 0)]) := by
  refine yP Tryz.func67 rfl Tryz.ntmps67 (Nat.le_of_ble_eq_true rfl) ?_
  repeat' (first | (refine zY.is ?_; first | refine zY.nil ?_ | (refine zY.at_ 15 rfl ?_; refine zY.rc (.v yJ (.v yJ (.w zS (.v zB .e)))) ?_) | (refine zY.in_ [14] rfl ?_; refine zY.ofT rfl (zG.eR [7] (turnA0_fn root r0 r1 i d s bs hi h1 h2) ?_))) | (refine zZ.is ?_; first | refine zZ.seq ?_ | (refine zZ.isR (id := 0) ?_; refine zZ.rc [0, 1, 2, 3] [4, 7, 8] (r := (.m yT (.m m18_2 (.m zT (.v zB .e))))) (h := ?_)) | (refine zZ.isR (id := 1) ?_; refine zZ.rc [1, 2, 4, 7, 8, 9] [4, 7, 8] (r := (.v xU (.v zV (.v zV (.v v14_0 .e))))) (h := ?_)) | refine zZ.ret ?_))
  all_goals exact ⟨(by exact .inl rfl), _, Sub.refl _, .tup (rs := [.cell 8 31, .tmp 9]) (l := [vV root (r0.set i (d ++ bs, s)) r1, .val (.int .i64 0)]) rfl (by decide) (.cons (.cellN rfl rfl (by rfl) (by rfl)) (.cons (.tmp rfl) .nil))⟩
theorem diskSync0_fn (root : Int) (r0 r1 : List (List Int × Int)) (i : Nat) (d : List Int) (s : Int) (hi : r0[i]? = some (d, s)) (h1 : r0.length ≤ 1000000) :
    Fn Tryz.prog 68 [vV root r0 r1, .val (.int .i64 0), .val (.int .i64 i)] (.tup [vV root (r0.set i (d, d.length)) r1, .val (.int .i64 0)]) := by
  refine yP Tryz.func68 rfl Tryz.ntmps68 (Nat.le_of_ble_eq_true rfl) ?_
  repeat' (first | (refine zY.is ?_; first | refine zY.nil ?_ | (refine zY.at_ 12 rfl ?_; refine zY.rc (.v yJ (.v yJ (.w zS (.v zB .e)))) ?_) | (refine zY.in_ [11] rfl ?_; refine zY.v rfl rfl (xY (turnS0_fn root r0 r1 i d s hi h1) rfl rfl rfl (by decide)) ?_)) | (refine zZ.is ?_; first | refine zZ.seq ?_ | (refine zZ.isR (id := 0) ?_; refine zZ.rc [0, 1, 2] [3, 6] (r := (.m yT (.m zT (.v zB .e)))) (h := ?_)) | (refine zZ.isR (id := 1) ?_; refine zZ.rc [1, 2, 3, 6, 7] [3, 6] (r := (.v xU (.v zV (.v zV .e)))) (h := ?_)) | refine zZ.ret ?_))
  all_goals exact ⟨(by exact .inl rfl), _, Sub.refl _, .tup (rs := [.cell 6 31, .tmp 7]) (l := [vV root (r0.set i (d, d.length)) r1, .val (.int .i64 0)]) rfl (by decide) (.cons (.cellN rfl rfl (by rfl) (by rfl)) (.cons (.tmp rfl) .nil))⟩
end Go.Proofs.YtmfbamiciieooaaGreatDoor
