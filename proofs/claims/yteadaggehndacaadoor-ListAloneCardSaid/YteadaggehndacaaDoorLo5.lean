/- ALONE: records of keys that are told are searched for, linked where the search says, marked, and searched for again: the list is the keys that are in, rising (Part 5 of 8.) -/
import Derived.Test.YteadaggehndacaaDoorLo4
/- Worlds: streams and disks: contracts. -/
namespace Go.Proofs.YteadaggehndacaaDoor
set_option maxRecDepth 100000
set_option maxHeartbeats 16000000
open Go Go.RowKit
set_option linter.unusedSimpArgs false
attribute [local irreducible] zY zZ Step zQ Sub zO zR Fn
/-- a stream -/
def strV (d : List Int) (s : Int) : PV := .agg [.sl (byts d), .val (.int .i64 s)]
/-- streams, as a slice's elements; a disk -/
def strs (l : List (List Int × Int)) : List PV := l.map fun p => strV p.1 p.2
def vR (root : Int) (r0 r1 : List (List Int × Int)) : PV := .agg [.val (.int .u64 root), .sl (strs r0), .sl (strs r1)]
theorem strs_len (l : List (List Int × Int)) : (strs l).length = l.length := by simp [strs]
theorem strs_cells (l : List (List Int × Int)) : ∀ e ∈ strs l, e.cells.length = 2 := fun e he => by
  obtain ⟨x, _, rfl⟩ := List.mem_map.1 he
  rfl
theorem strs_at {l : List (List Int × Int)} {i : Nat} {d : List Int} {s : Int} (h : l[i]? = some (d, s)) : (strs l)[i]? = some (strV d s) := by simp [strs, h]
theorem strs_set (l : List (List Int × Int)) (i : Nat) (d : List Int) (s : Int) : (strs l).set i (strV d s) = strs (l.set i (d, s)) := by simp [strs, List.map_set]
theorem vU (k : Int) : Fn Tryd.prog 48 [.val (.int .i64 k)] (.p (.val (.bool (decide (5 ≤ k) && decide (k ≤ 12))))) := by
  refine xV Tryd.func48 rfl Tryd.ntmps48 (Nat.le_of_ble_eq_true rfl) ?_
  repeat' ((refine zZ.is ?_; first | refine zZ.seq ?_ | (refine zZ.isR (id := 0) ?_; refine zZ.yZ [0] [] (by repeat' first | exact zX.nil | apply zX.p rfl) (by repeat' exact zW.nil) ?_; (refine zY.v rfl rfl (zV rfl rfl rfl (by decide)) ?_); refine zY.nil ?_) | (refine zZ.isR (id := 1) ?_; refine zZ.yZ [0, 2] [] (by repeat' first | exact zX.nil | apply zX.p rfl) (by repeat' exact zW.nil) ?_; all_goals (refine zY.v rfl rfl (zJ rfl rfl rfl (by decide)) ?_); all_goals (refine zY.v rfl rfl (r_geq rfl rfl rfl (by rfl) rfl (by decide)) ?_); all_goals (refine zY.v rfl rfl (zJ rfl rfl rfl (by decide)) ?_); all_goals (((fail_if_success refine zY.known rfl rfl rfl (by fail) ?_); refine zY.split rfl rfl rfl (fun h => ?_) (fun h => ?_) <;> first | refine zY.gY rfl rfl (by decide) rfl (by assumption) rfl (by decide) (zJ rfl rfl rfl (by decide)) ?_ | refine zY.gnT rfl rfl (by decide) rfl (by assumption) rfl (by decide) ?_)); all_goals (first | refine zY.gY rfl rfl (by decide) rfl (by assumption) rfl (by decide) (r_leq rfl rfl rfl (by rfl) rfl (by decide)) ?_ | refine zY.gnT rfl rfl (by decide) rfl (by assumption) rfl (by decide) ?_); all_goals (refine zY.v rfl rfl (by first | exact wC rfl rfl (by assumption) rfl rfl (by decide) | exact wP rfl rfl (by assumption) rfl rfl (by decide)) ?_); all_goals (refine zY.v rfl rfl (zV rfl rfl rfl (by decide)) ?_); all_goals (refine zY.nil ?_)) | refine zZ.ret ?_))
  · rw [h, Bool.true_and]
    exact ⟨by first | exact .inl rfl | exact .inr rfl, _, Sub.refl _, .p rfl (.tmp rfl)⟩
  · rw [h, Bool.false_and]
    exact ⟨by first | exact .inl rfl | exact .inr rfl, _, Sub.refl _, .p rfl (.tmp rfl)⟩
theorem row_fn (root : Int) (r0 r1 : PV) (h0 : 0 ≤ root) : Fn Tryd.prog 61 [.agg [.val (.int .u64 root), r0, r1]] (.p (.val (.int .i64 (root % 2)))) := by
  refine xV Tryd.func61 rfl Tryd.ntmps61 (Nat.le_of_ble_eq_true rfl) ?_
  repeat' ((refine zZ.is ?_; first | refine zZ.seq ?_ | (refine zZ.iq 0 ?_; refine zZ.rqb _ K_b K_5 ?_; (refine zY.m rfl rfl (yP rfl rfl rfl (by decide)) ?_); (refine zY.v rfl rfl (zV rfl rfl rfl (by decide)) ?_); refine zY.nil ?_) | (refine zZ.iq 1 ?_; refine zZ.rqa _ K_7 K_5 ?_; (refine zY.v rfl rfl (zK rfl rfl rfl (by decide)) ?_); (refine zY.v rfl rfl (zA rfl rfl rfl rfl rfl (by decide)) ?_); (refine zY.v rfl rfl (a_rem rfl rfl rfl (by decide) rfl rfl (by decide)) ?_); (refine zY.v rfl rfl (w_conv rfl rfl (by rfl) rfl (by decide)) ?_); (refine zY.v rfl rfl (zV rfl rfl rfl (by decide)) ?_); refine zY.nil ?_) | refine zZ.ret ?_))
  have e : IntKind.i64.wrap (root.tmod 2) = root % 2 := by
    have h1 : root.tmod 2 = root % 2 := Int.tmod_eq_emod_of_nonneg h0
    have h2 := Int.emod_nonneg root (show (2 : Int) ≠ 0 by decide)
    have h3 := Int.emod_lt_of_pos root (show (0 : Int) < 2 by decide)
    rw [h1]
    rcases (show root % 2 = 0 ∨ root % 2 = 1 by omega) with h | h <;> rw [h] <;> rfl
  all_goals exact ⟨by first | exact .inl rfl | exact .inr rfl, _, Sub.refl _, .p rfl (.tmp (by rw [← e]; rfl))⟩
theorem strApp_fn (d b : List Int) (s : Int) (h : d.length + b.length ≤ 100000000) : Fn Tryd.prog 75 [strV d s, .sl (byts b)] (.p (strV (d ++ b) s)) := by
  refine xV Tryd.func75 rfl Tryd.ntmps75 (Nat.le_of_ble_eq_true rfl) ?_
  repeat' (first | (refine zY.v rfl rfl (by first | exact zK rfl rfl rfl (by decide) | exact zA rfl rfl rfl rfl rfl (by decide) | exact zJ rfl rfl rfl (by decide)) ?_) | (refine zZ.is ?_; first | refine zZ.seq ?_ | (refine zZ.iq 0 ?_; refine zZ.rqb _ K_a K_w ?_; (refine zY.m rfl rfl (yP rfl rfl rfl (by decide)) ?_); (refine zY.m rfl rfl (zG rfl (by decide) rfl (by decide)) ?_); refine zY.nil ?_) | (refine zZ.iq 1 ?_; refine zZ.rqa _ K_15 K_w ?_; (refine zY.v rfl rfl (zK rfl rfl rfl (by decide)) ?_); (refine zY.v rfl rfl (zA rfl rfl rfl rfl rfl (by decide)) ?_); (refine zY.v rfl rfl (w_lenP rfl rfl rfl (by decide)) ?_); (refine zY.v rfl rfl (zV rfl rfl rfl (by decide)) ?_); refine zY.nil ?_) | (refine zZ.iq 2 ?_; refine zZ.rqa _ K_23 K_w ?_)))
  refine zY.appTight (es := byts d) (bs := byts b) rfl rfl rfl rfl rfl rfl rfl rfl rfl rfl rfl rfl ?_ ?_ rfl (by decide) rfl (by decide) (by decide) (by decide) (byts_one d) (byts_one b) ?_ rfl (by decide) ?_
  · rw [byts_len]
  · rw [byts_len]
  · rw [byts_len, byts_len]
    simp only [maxLen]
    omega
  rw [show byts d ++ byts b = byts (d ++ b) by simp [byts]]
  repeat' (first | (refine zY.is ?_; first | refine zY.nil ?_ | refine zY.v rfl rfl (zK rfl rfl rfl (by decide)) ?_ | refine zY.w rfl (by exact zH rfl rfl rfl rfl rfl (by rfl) (by exact Nat.le_of_ble_eq_true rfl) rfl rfl) ?_) | (refine zZ.is ?_; first | refine zZ.seq ?_ | (refine zZ.iq 3 ?_; refine zZ.rqg _ K_w K_w ?_; (refine zY.v rfl rfl (zT rfl rfl rfl (by rfl) (by rfl) rfl (by decide)) ?_); (refine zY.w rfl (by exact zH rfl rfl rfl rfl rfl (by rfl) (by exact Nat.le_of_ble_eq_true rfl) rfl rfl) ?_); refine zY.nil ?_) | refine zZ.ret ?_))
  all_goals exact ⟨by first | exact .inl rfl | exact .inr rfl, _, Sub.refl _, .p (r := .cell 4 130) rfl (.cellN rfl rfl (by rfl) (by rfl))⟩
theorem strSync_fn (d : List Int) (s : Int) : Fn Tryd.prog 76 [strV d s] (.p (strV d d.length)) := by
  refine xV Tryd.func76 rfl Tryd.ntmps76 (Nat.le_of_ble_eq_true rfl) ?_
  repeat' ((refine zZ.is ?_; first | refine zZ.seq ?_ | (refine zZ.iq 0 ?_; refine zZ.rqb _ K_b K_7 ?_; (refine zY.m rfl rfl (yP rfl rfl rfl (by decide)) ?_); (refine zY.m rfl rfl (zG rfl (by decide) rfl (by decide)) ?_); refine zY.nil ?_) | (refine zZ.iq 1 ?_; refine zZ.rqg _ K_7 K_7 ?_; (refine zY.v rfl rfl (zK rfl rfl rfl (by decide)) ?_); (refine zY.v rfl rfl (zA rfl rfl rfl rfl rfl (by decide)) ?_); (refine zY.v rfl rfl (w_lenP rfl rfl rfl (by decide)) ?_); (refine zY.v rfl rfl (zK rfl rfl rfl (by decide)) ?_); (refine zY.w rfl (by exact zH rfl rfl rfl rfl rfl (by rfl) (by exact Nat.le_of_ble_eq_true rfl) rfl rfl) ?_); refine zY.nil ?_) | (refine zZ.iq 2 ?_; refine zZ.rqg _ K_7 K_7 ?_; (refine zY.v rfl rfl (zT rfl rfl rfl (by rfl) (by rfl) rfl (by decide)) ?_); (refine zY.w rfl (by exact zH rfl rfl rfl rfl rfl (by rfl) (by exact Nat.le_of_ble_eq_true rfl) rfl rfl) ?_); refine zY.nil ?_) | refine zZ.ret ?_))
  all_goals exact ⟨by first | exact .inl rfl | exact .inr rfl, _, Sub.refl _, .p (r := .cell 2 130) rfl (.cellN rfl rfl (by rfl) (by rfl))⟩
theorem cloneS_fn (l : List (List Int × Int)) (h0 : 1 ≤ l.length) (h1 : l.length ≤ 1000000) : Fn Tryd.prog 86 [.sl (strs l)] (.row 130 2 (strs l).length (flat (strs l))) := by
  have g1 := strs_cells l
  have g2 : strs l ≠ [] := fun e => by have := congrArg List.length e; rw [strs_len, List.length_nil] at this; omega
  have g3 := grow_lim (strs l).length 32 (by rw [strs_len]; exact h1) (by decide)
  refine xV Tryd.func86 rfl Tryd.ntmps86 (Nat.le_of_ble_eq_true rfl) ?_
  repeat' ((refine zZ.is ?_; first | refine zZ.seq ?_ | (refine zZ.iq 0 ?_; refine zZ.rqb _ K_b K_q ?_; (refine zY.v rfl rfl (zV rfl rfl rfl (by decide)) ?_); refine zY.nil ?_) | (refine zZ.iq 1 ?_; refine zZ.rqb _ K_11 K_q ?_; (refine zY.v rfl rfl (zJ rfl rfl rfl (by decide)) ?_); (refine zY.v rfl rfl (by exact r_eqlNil rfl rfl rfl (by exact g2) (by exact bF (by decide)) rfl (by decide)) ?_); refine zY.nil ?_) | (refine zZ.iq 3 ?_; refine zZ.rqb _ K_11 K_q ?_; (refine zY.m rfl rfl (w_build0V rfl rfl (by decide)) ?_); (refine zY.v rfl rfl (zJ rfl rfl rfl (by decide)) ?_); (refine zY.w rfl (by exact w_appV rfl rfl rfl rfl (by exact g1) (by exact g3) rfl (by decide) rfl (by decide)) ?_); (refine zY.v rfl rfl (vY rfl rfl rfl (by decide)) ?_); refine zY.nil ?_) | refine zZ.yU rfl (by with_reducible rfl) ?_ | refine zZ.skip ?_ | refine zZ.ret ?_))
  all_goals exact ⟨by first | exact .inl rfl | exact .inr rfl, givesRowV rfl rfl rfl⟩
end Go.Proofs.YteadaggehndacaaDoor
/- Disks: a stream turned: contracts. -/
namespace Go.Proofs.YteadaggehndacaaDoor
set_option maxRecDepth 100000
set_option maxHeartbeats 16000000
open Go Go.RowKit
set_option linter.unusedSimpArgs false
attribute [local irreducible] zY zZ Step zQ Sub zO zR Fn
theorem appendC_fn (d bs : List Int) (s : Int) (h : d.length + bs.length ≤ 100000000) : FnE Tryd.prog 74 ([strV d s].map AV.p ++ [.ptr 1000 0]) [.box 22 [.p (.sl (byts bs))]] (.ret (.p (strV (d ++ bs) s))) [.box 22 [.p (.sl (byts bs))]] := by
  have c := strApp_fn d bs s h
  refine fn_ofE Tryd.func74 rfl Tryd.ntmps74 (Nat.le_of_ble_eq_true rfl) (by decide) ?_
  repeat' ((refine zZ.is ?_; first | refine zZ.seq ?_ | (refine zZ.iq 0 ?_; refine zZ.rqc _ K_a K_1e ?_; (refine zY.m rfl rfl (yP rfl rfl rfl (by decide)) ?_); (refine zY.m rfl rfl (zG rfl (by decide) rfl (by decide)) ?_); refine zY.nil ?_) | (refine zZ.iq 1 ?_; refine zZ.rqg _ K_z K_1e ?_; (refine zY.v rfl rfl (zT rfl rfl rfl (by rfl) (by rfl) rfl (by decide)) ?_); (refine zY.v rfl rfl (zA rfl rfl rfl rfl rfl (by decide)) ?_); (refine zY.v rfl rfl (by exact yK (c) rfl rfl rfl (by decide)) ?_); (refine zY.w rfl (by exact zH rfl rfl rfl rfl rfl (by rfl) (by exact Nat.le_of_ble_eq_true rfl) rfl rfl) ?_); refine zY.nil ?_) | refine zZ.ret ?_))
  all_goals exact ⟨(by exact .inl rfl), _, Sub.refl _, .p (r := .cell 3 130) rfl (.cellN rfl rfl (by rfl) (by rfl)), qV (by repeat' first | exact trivial | rfl | constructor)⟩
theorem is0_fn (root : Int) (r0 r1 : List (List Int × Int)) (i : Nat) (hi : i < r0.length) : Fn Tryd.prog 77 [vR root r0 r1, .val (.int .i64 0), .val (.int .i64 i)] (.p (.val (.bool true))) := by
  have g1 : decide ((0 : Int) ≤ i) = true := decide_eq_true (by omega)
  have g2 : decide ((i : Int) < (strs r0).length) = true := decide_eq_true (by rw [strs_len]; omega)
  refine xV Tryd.func77 rfl Tryd.ntmps77 (Nat.le_of_ble_eq_true rfl) ?_
  repeat' ((refine zZ.is ?_; first | refine zZ.seq ?_ | (refine zZ.iq 0 ?_; refine zZ.rqb _ K_m K_k ?_; (refine zY.m rfl rfl (yP rfl rfl rfl (by decide)) ?_); (refine zY.v rfl rfl (zV rfl rfl rfl (by decide)) ?_); refine zY.nil ?_) | (refine zZ.iq 1 ?_; refine zZ.rqa _ K_24 K_k ?_; all_goals (refine zY.v rfl rfl (zJ rfl rfl rfl (by decide)) ?_); all_goals (refine zY.v rfl rfl (by exact r_geq rfl rfl rfl (by exact g1) rfl (by decide)) ?_); all_goals (refine zY.v rfl rfl (zJ rfl rfl rfl (by decide)) ?_); all_goals (refine zY.gY rfl rfl (by decide) rfl (by assumption) rfl (by decide) (zJ rfl rfl rfl (by decide)) ?_); all_goals (refine zY.gY rfl rfl (by decide) rfl (by assumption) rfl (by decide) (by exact xP rfl rfl rfl (by exact g1) rfl (by decide)) ?_); all_goals (refine zY.v rfl rfl (by exact wC rfl rfl (by assumption) rfl rfl (by decide)) ?_); all_goals (refine zY.v rfl rfl (zJ rfl rfl rfl (by decide)) ?_); all_goals (refine zY.gY rfl rfl (by decide) rfl (by assumption) rfl (by decide) (zJ rfl rfl rfl (by decide)) ?_); all_goals (refine zY.gY rfl rfl (by decide) rfl (by assumption) rfl (by decide) (by exact r_geq rfl rfl rfl (by exact g1) rfl (by decide)) ?_); all_goals (refine zY.v rfl rfl (by exact wC rfl rfl (by assumption) rfl rfl (by decide)) ?_); all_goals (refine zY.v rfl rfl (zJ rfl rfl rfl (by decide)) ?_); all_goals (refine zY.gY rfl rfl (by decide) rfl (by assumption) rfl (by decide) (zJ rfl rfl rfl (by decide)) ?_); all_goals (refine zY.gY rfl rfl (by decide) rfl (by assumption) rfl (by decide) (zJ rfl rfl rfl (by decide)) ?_); all_goals (refine zY.gY rfl rfl (by decide) rfl (by assumption) rfl (by decide) (zK rfl rfl rfl (by decide)) ?_); all_goals (refine zY.gY rfl rfl (by decide) rfl (by assumption) rfl (by decide) (by exact qE rfl rfl rfl (by omega) rfl (by decide)) ?_); all_goals (refine zY.gY rfl rfl (by decide) rfl (by assumption) rfl (by decide) (zA rfl rfl rfl (by rfl) rfl (by decide)) ?_); all_goals (refine zY.gY rfl rfl (by decide) rfl (by assumption) rfl (by decide) (w_lenS rfl rfl rfl (by decide)) ?_); all_goals (refine zY.gY rfl rfl (by decide) rfl (by assumption) rfl (by decide) (by exact xP rfl rfl rfl (by exact g2) rfl (by decide)) ?_); all_goals (refine zY.v rfl rfl (by exact wC rfl rfl (by assumption) rfl rfl (by decide)) ?_); all_goals (refine zY.v rfl rfl (zV rfl rfl rfl (by decide)) ?_); all_goals (refine zY.nil ?_)) | refine zZ.ret ?_))
  all_goals exact ⟨by first | exact .inl rfl | exact .inr rfl, _, Sub.refl _, .p rfl (.tmp rfl)⟩
theorem turnA0_fn (root : Int) (r0 r1 : List (List Int × Int)) (i : Nat) (d : List Int) (s : Int) (bs : List Int) (hi : r0[i]? = some (d, s)) (h1 : r0.length ≤ 1000000) (h2 : d.length + bs.length ≤ 100000000) :
    FnE Tryd.prog 73 [.p (vR root r0 r1), .p (.val (.int .i64 0)), .p (.val (.int .i64 i)), .clo 74 [1000]] [.box 22 [.p (.sl (byts bs))]] (.ret (.tup [.p (vR root (r0.set i (d ++ bs, s)) r1), .p (.val (.int .i64 0))])) [.box 22 [.p (.sl (byts bs))]] := by
  have hlt : i < r0.length := (List.getElem?_eq_some_iff.1 hi).1
  have g1 := strs_cells r0
  have g3 := strs_at hi
  have g6 : (0 : Int) ≤ (i : Int) ∧ (i : Int) < (strs r0).length := by rw [strs_len]; omega
  have g7 : (i : Int).toNat < (strs r0).length := by rw [strs_len]; omega
  have c0 := is0_fn root r0 r1 i hlt
  have c1 := cloneS_fn r0 (by omega) h1
  have e : vR root (r0.set i (d ++ bs, s)) r1 = .agg [.val (.int .u64 root), .sl ((strs r0).set (i : Int).toNat (strV (d ++ bs) s)), .sl (strs r1)] := by simp [vR, strs_set]
  have c2 := appendC_fn d bs s h2
  refine fn_ofE Tryd.func73 rfl Tryd.ntmps73 (Nat.le_of_ble_eq_true rfl) (by decide) ?_
  repeat' ((refine zZ.is ?_; first | refine zZ.seq ?_ | (refine zZ.isR (id := 0) ?_; refine zZ.yZ [0, 1, 2, 3] [4, 8, 13, 21, 37, 1000] (by repeat' first | exact zX.nil | apply zX.p rfl | apply zX.clo rfl) (by repeat' first | exact zW.nil | apply zW.boxP rfl rfl | apply zW.skip) ?_; (refine zY.m rfl rfl (yP rfl rfl rfl (by decide)) ?_); (refine zY.m rfl rfl (zG rfl (by decide) rfl (by decide)) ?_); (refine zY.v rfl rfl (zV rfl rfl rfl (by decide)) ?_); refine zY.nil ?_) | (refine zZ.isR (id := 1) ?_; refine zZ.yZ [1, 2, 3, 4, 8, 9] [4, 8, 13, 21, 37, 1000] (by repeat' first | exact zX.nil | apply zX.p rfl | apply zX.ptr rfl | apply zX.clo rfl) (by repeat' first | exact zW.nil | apply zW.boxP rfl rfl | apply zW.skip) ?_; (refine zY.v rfl rfl (zT rfl rfl rfl (by rfl) (by rfl) rfl (by decide)) ?_); (refine zY.v rfl rfl (zJ rfl rfl rfl (by decide)) ?_); (refine zY.v rfl rfl (zJ rfl rfl rfl (by decide)) ?_); (refine zY.v rfl rfl (by exact yK (c0) rfl rfl rfl (by decide)) ?_); (refine zY.v rfl rfl (by exact r_notB rfl rfl (by exact bF (by decide)) rfl (by decide)) ?_); refine zY.nil ?_) | (refine zZ.isR (id := 3) ?_; refine zZ.yZ [1, 2, 3, 4, 8, 9] [4, 8, 13, 21, 37, 1000] (by repeat' first | exact zX.nil | apply zX.p rfl | apply zX.ptr rfl | apply zX.clo rfl) (by repeat' first | exact zW.nil | apply zW.boxP rfl rfl | apply zW.skip) ?_; (refine zY.v rfl rfl (zJ rfl rfl rfl (by decide)) ?_); (refine zY.v rfl rfl (zJ rfl rfl rfl (by decide)) ?_); (refine zY.v rfl rfl (zK rfl rfl rfl (by decide)) ?_); (refine zY.v rfl rfl (by exact qE rfl rfl rfl (by omega) rfl (by decide)) ?_); (refine zY.v rfl rfl (zA rfl rfl rfl (by rfl) rfl (by decide)) ?_); (refine zY.m rfl rfl (by exact vJ c1 rfl rfl rfl (by decide)) ?_); (refine zY.v rfl rfl (zK rfl rfl rfl (by decide)) ?_); (refine zY.v rfl rfl (by exact qE rfl rfl rfl (by omega) rfl (by decide)) ?_); (refine zY.w rfl (by exact vP rfl rfl rfl rfl rfl rfl (by exact Nat.le_of_ble_eq_true rfl) rfl rfl) ?_); refine zY.nil ?_) | (refine zZ.isR (id := 4) ?_; refine zZ.qX [1, 2, 3, 4, 8, 9] [4, 8, 13, 21, 37, 1000] (by repeat' first | exact zX.nil | apply zX.p rfl | apply zX.ptr rfl | apply zX.clo rfl) (by repeat' first | exact zW.nil | apply zW.boxP rfl rfl | apply zW.some rfl | apply zW.skip) (zZ.draws ?_); all_goals (refine Draws.v rfl rfl (zJ rfl rfl rfl (by decide)) ?_); all_goals (refine Draws.v rfl rfl (zK rfl rfl rfl (by decide)) ?_); all_goals (refine Draws.v rfl rfl (by exact qE rfl rfl rfl (by omega) rfl (by decide)) ?_); all_goals (refine Draws.v rfl rfl (vF rfl rfl rfl rfl rfl (by decide)) ?_); all_goals (refine Draws.v rfl rfl (zJ rfl rfl rfl (by decide)) ?_); all_goals (refine Draws.v rfl rfl (a_moveC rfl rfl rfl (by decide)) ?_); all_goals (refine Draws.v rfl rfl (zJ rfl rfl rfl (by decide)) ?_); all_goals (refine Draws.v rfl rfl (zK rfl rfl rfl (by decide)) ?_); all_goals (refine Draws.v rfl rfl (by exact qE rfl rfl rfl (by omega) rfl (by decide)) ?_); all_goals (refine Draws.v rfl rfl (vF rfl rfl rfl rfl rfl (by decide)) ?_); all_goals (refine Draws.v rfl rfl (zJ rfl rfl rfl (by decide)) ?_); all_goals (refine Draws.v rfl rfl (by exact xH rfl rfl rfl rfl (by exact g6) rfl (by decide)) ?_); all_goals (refine Draws.v rfl rfl (by exact w_loadVN rfl rfl rfl (by exact g1) rfl (by exact g3) rfl (by decide)) ?_); all_goals (refine Draws.v rfl rfl (by exact w_callClo (c2) rfl rfl rfl rfl rfl rfl rfl (by decide)) ?_); all_goals (refine Draws.v rfl rfl (by exact xH rfl rfl rfl rfl (by exact g6) rfl (by decide)) ?_); all_goals ((refine Draws.done (by kernel_rfl) (by kernel_rfl) (by kernel_rfl) ?_; refine zO.w rfl (by exact qC rfl rfl rfl rfl rfl (by exact g1) (by rfl) rfl (by exact g7) rfl) ?_)); all_goals (refine zO.nil ?_)) | (refine zZ.isR (id := 5) ?_; refine zZ.sub (sub_frz (id := 21) rfl) ?_; refine zZ.rqc _ K_1f K_25 ?_; (refine zY.v rfl rfl (zT rfl rfl rfl (by rfl) (by rfl) rfl (by decide)) ?_); (refine zY.w rfl (by exact zH rfl rfl rfl rfl rfl (by rfl) (by exact Nat.le_of_ble_eq_true rfl) rfl rfl) ?_); (refine zY.v rfl rfl (zV rfl rfl rfl (by decide)) ?_); refine zY.nil ?_) | refine zZ.yU rfl (by with_reducible rfl) ?_ | refine zZ.skip ?_ | refine zZ.ret ?_))
  rw [e]
  all_goals exact ⟨(by exact .inl rfl), _, Sub.refl _, .tup (rs := [.cell 8 31, .tmp 9]) (l := [.agg [.val (.int .u64 root), .sl ((strs r0).set (i : Int).toNat (strV (d ++ bs) s)), .sl (strs r1)], .val (.int .i64 0)]) rfl (by decide) (.cons (.cellN rfl rfl (by rfl) (by rfl)) (.cons (.tmp rfl) .nil)), qV (by repeat' first | exact trivial | rfl | constructor)⟩
theorem turnS0_fn (root : Int) (r0 r1 : List (List Int × Int)) (i : Nat) (d : List Int) (s : Int) (hi : r0[i]? = some (d, s)) (h1 : r0.length ≤ 1000000) :
    Fn Tryd.prog 73 [vR root r0 r1, .val (.int .i64 0), .val (.int .i64 i), .val (funV 76)] (.tup [vR root (r0.set i (d, d.length)) r1, .val (.int .i64 0)]) := by
  have hlt : i < r0.length := (List.getElem?_eq_some_iff.1 hi).1
  have g1 := strs_cells r0
  have g3 := strs_at hi
  have g6 : (0 : Int) ≤ (i : Int) ∧ (i : Int) < (strs r0).length := by rw [strs_len]; omega
  have g7 : (i : Int).toNat < (strs r0).length := by rw [strs_len]; omega
  have c0 := is0_fn root r0 r1 i hlt
  have c1 := cloneS_fn r0 (by omega) h1
  have e : vR root (r0.set i (d, d.length)) r1 = .agg [.val (.int .u64 root), .sl ((strs r0).set (i : Int).toNat (strV d d.length)), .sl (strs r1)] := by simp [vR, strs_set]
  have c2 := strSync_fn d s
  refine xV Tryd.func73 rfl Tryd.ntmps73 (Nat.le_of_ble_eq_true rfl) ?_
  repeat' ((refine zZ.is ?_; first | refine zZ.seq ?_ | (refine zZ.iq 0 ?_; refine zZ.rqb _ K_i K_12 ?_; (refine zY.m rfl rfl (yP rfl rfl rfl (by decide)) ?_); (refine zY.m rfl rfl (zG rfl (by decide) rfl (by decide)) ?_); (refine zY.v rfl rfl (zV rfl rfl rfl (by decide)) ?_); refine zY.nil ?_) | (refine zZ.iq 1 ?_; refine zZ.rqc _ K_1g K_12 ?_; (refine zY.v rfl rfl (zT rfl rfl rfl (by rfl) (by rfl) rfl (by decide)) ?_); (refine zY.v rfl rfl (zJ rfl rfl rfl (by decide)) ?_); (refine zY.v rfl rfl (zJ rfl rfl rfl (by decide)) ?_); (refine zY.v rfl rfl (by exact yK (c0) rfl rfl rfl (by decide)) ?_); (refine zY.v rfl rfl (by exact r_notB rfl rfl (by exact bF (by decide)) rfl (by decide)) ?_); refine zY.nil ?_) | (refine zZ.iq 3 ?_; refine zZ.rqc _ K_1g K_12 ?_; (refine zY.v rfl rfl (zJ rfl rfl rfl (by decide)) ?_); (refine zY.v rfl rfl (zJ rfl rfl rfl (by decide)) ?_); (refine zY.v rfl rfl (zK rfl rfl rfl (by decide)) ?_); (refine zY.v rfl rfl (by exact qE rfl rfl rfl (by omega) rfl (by decide)) ?_); (refine zY.v rfl rfl (zA rfl rfl rfl (by rfl) rfl (by decide)) ?_); (refine zY.m rfl rfl (by exact vJ c1 rfl rfl rfl (by decide)) ?_); (refine zY.v rfl rfl (zK rfl rfl rfl (by decide)) ?_); (refine zY.v rfl rfl (by exact qE rfl rfl rfl (by omega) rfl (by decide)) ?_); (refine zY.w rfl (by exact vP rfl rfl rfl rfl rfl rfl (by exact Nat.le_of_ble_eq_true rfl) rfl rfl) ?_); refine zY.nil ?_) | (refine zZ.isR (id := 4) ?_; refine zZ.qX [1, 2, 3, 4, 8, 9] [4, 8, 13, 21, 37] (by repeat' first | exact zX.nil | apply zX.p rfl | apply zX.ptr rfl) (by repeat' first | exact zW.nil | apply zW.boxP rfl rfl | apply zW.some rfl | apply zW.skip) (zZ.draws ?_); all_goals (refine Draws.v rfl rfl (zJ rfl rfl rfl (by decide)) ?_); all_goals (refine Draws.v rfl rfl (zK rfl rfl rfl (by decide)) ?_); all_goals (refine Draws.v rfl rfl (by exact qE rfl rfl rfl (by omega) rfl (by decide)) ?_); all_goals (refine Draws.v rfl rfl (vF rfl rfl rfl rfl rfl (by decide)) ?_); all_goals (refine Draws.v rfl rfl (zJ rfl rfl rfl (by decide)) ?_); all_goals (refine Draws.v rfl rfl (zJ rfl rfl rfl (by decide)) ?_); all_goals (refine Draws.v rfl rfl (zJ rfl rfl rfl (by decide)) ?_); all_goals (refine Draws.v rfl rfl (zK rfl rfl rfl (by decide)) ?_); all_goals (refine Draws.v rfl rfl (by exact qE rfl rfl rfl (by omega) rfl (by decide)) ?_); all_goals (refine Draws.v rfl rfl (vF rfl rfl rfl rfl rfl (by decide)) ?_); all_goals (refine Draws.v rfl rfl (zJ rfl rfl rfl (by decide)) ?_); all_goals (refine Draws.v rfl rfl (by exact xH rfl rfl rfl rfl (by exact g6) rfl (by decide)) ?_); all_goals (refine Draws.v rfl rfl (by exact w_loadVN rfl rfl rfl (by exact g1) rfl (by exact g3) rfl (by decide)) ?_); all_goals (refine Draws.v rfl rfl (by exact w_callFV (c2) rfl rfl rfl rfl (by decide)) ?_); all_goals (refine Draws.v rfl rfl (by exact xH rfl rfl rfl rfl (by exact g6) rfl (by decide)) ?_); all_goals ((refine Draws.done (by kernel_rfl) (by kernel_rfl) (by kernel_rfl) ?_; refine zO.w rfl (by exact qC rfl rfl rfl rfl rfl (by exact g1) (by rfl) rfl (by exact g7) rfl) ?_)); all_goals (refine zO.nil ?_)) | (refine zZ.isR (id := 5) ?_; refine zZ.sub (sub_frz (id := 21) rfl) ?_; refine zZ.rqc _ K_1f K_12 ?_; (refine zY.v rfl rfl (zT rfl rfl rfl (by rfl) (by rfl) rfl (by decide)) ?_); (refine zY.w rfl (by exact zH rfl rfl rfl rfl rfl (by rfl) (by exact Nat.le_of_ble_eq_true rfl) rfl rfl) ?_); (refine zY.v rfl rfl (zV rfl rfl rfl (by decide)) ?_); refine zY.nil ?_) | refine zZ.yU rfl (by with_reducible rfl) ?_ | refine zZ.skip ?_ | refine zZ.ret ?_))
  rw [e]
  all_goals exact ⟨(by exact .inl rfl), _, Sub.refl _, .tup (rs := [.cell 8 31, .tmp 9]) (l := [.agg [.val (.int .u64 root), .sl ((strs r0).set (i : Int).toNat (strV d d.length)), .sl (strs r1)], .val (.int .i64 0)]) rfl (by decide) (.cons (.cellN rfl rfl (by rfl) (by rfl)) (.cons (.tmp rfl) .nil))⟩
theorem diskApp0_fn (root : Int) (r0 r1 : List (List Int × Int)) (i : Nat) (d : List Int) (s : Int) (bs : List Int) (hi : r0[i]? = some (d, s)) (h1 : r0.length ≤ 1000000) (h2 : d.length + bs.length ≤ 100000000) :
    Fn Tryd.prog 62 [vR root r0 r1, .val (.int .i64 0), .val (.int .i64 i), .sl (byts bs)] (.tup [vR root (r0.set i (d ++ bs, s)) r1, .val (.int .i64 0)]) := by
  refine xV Tryd.func62 rfl Tryd.ntmps62 (Nat.le_of_ble_eq_true rfl) ?_
  repeat' ((refine zZ.is ?_; first | refine zZ.seq ?_ | (refine zZ.iq 0 ?_; refine zZ.rqb _ K_i K_1h ?_; (refine zY.m rfl rfl (yP rfl rfl rfl (by decide)) ?_); (refine zY.m rfl rfl (w_boxS rfl rfl rfl (by decide)) ?_); (refine zY.m rfl rfl (zG rfl (by decide) rfl (by decide)) ?_); (refine zY.v rfl rfl (zV rfl rfl rfl (by decide)) ?_); refine zY.nil ?_) | (refine zZ.iq 1 ?_; refine zZ.rqa _ K_26 K_1h ?_; (refine zY.v rfl rfl (zT rfl rfl rfl (by rfl) (by rfl) rfl (by decide)) ?_); (refine zY.v rfl rfl (zJ rfl rfl rfl (by decide)) ?_); (refine zY.v rfl rfl (zJ rfl rfl rfl (by decide)) ?_); (refine zY.v rfl rfl (w_mkFunc rfl (by rfl) rfl (by decide)) ?_); (refine zY.ofT rfl (zR.eRet [7] (turnA0_fn root r0 r1 i d s bs hi h1 h2) rfl (by decide) (wW rfl) (by rfl) (wX (by decide) rfl (by repeat' first | exact trivial | rfl | constructor)) rfl rfl rfl rfl ?_)); (refine zY.v rfl rfl (yY rfl rfl rfl rfl (by decide)) ?_); (refine zY.v rfl rfl (yY rfl rfl rfl rfl (by decide)) ?_); (refine zY.w rfl (by exact zH rfl rfl rfl rfl rfl (by rfl) (by exact Nat.le_of_ble_eq_true rfl) rfl rfl) ?_); (refine zY.v rfl rfl (zV rfl rfl rfl (by decide)) ?_); refine zY.nil ?_) | refine zZ.ret ?_))
  all_goals exact ⟨(by exact .inl rfl), _, Sub.refl _, .tup (rs := [.cell 8 31, .tmp 9]) (l := [vR root (r0.set i (d ++ bs, s)) r1, .val (.int .i64 0)]) rfl (by decide) (.cons (.cellN rfl rfl (by rfl) (by rfl)) (.cons (.tmp rfl) .nil))⟩
theorem diskSync0_fn (root : Int) (r0 r1 : List (List Int × Int)) (i : Nat) (d : List Int) (s : Int) (hi : r0[i]? = some (d, s)) (h1 : r0.length ≤ 1000000) :
    Fn Tryd.prog 63 [vR root r0 r1, .val (.int .i64 0), .val (.int .i64 i)] (.tup [vR root (r0.set i (d, d.length)) r1, .val (.int .i64 0)]) := by
  refine xV Tryd.func63 rfl Tryd.ntmps63 (Nat.le_of_ble_eq_true rfl) ?_
  repeat' ((refine zZ.is ?_; first | refine zZ.seq ?_ | (refine zZ.iq 0 ?_; refine zZ.rqb _ K_m K_1i ?_; (refine zY.m rfl rfl (yP rfl rfl rfl (by decide)) ?_); (refine zY.m rfl rfl (zG rfl (by decide) rfl (by decide)) ?_); (refine zY.v rfl rfl (zV rfl rfl rfl (by decide)) ?_); refine zY.nil ?_) | (refine zZ.iq 1 ?_; refine zZ.rqa _ K_27 K_1i ?_; (refine zY.v rfl rfl (zT rfl rfl rfl (by rfl) (by rfl) rfl (by decide)) ?_); (refine zY.v rfl rfl (zJ rfl rfl rfl (by decide)) ?_); (refine zY.v rfl rfl (zJ rfl rfl rfl (by decide)) ?_); (refine zY.v rfl rfl (by exact xI (turnS0_fn root r0 r1 i d s hi h1) rfl rfl rfl (by decide)) ?_); (refine zY.v rfl rfl (yY rfl rfl rfl rfl (by decide)) ?_); (refine zY.v rfl rfl (yY rfl rfl rfl rfl (by decide)) ?_); (refine zY.w rfl (by exact zH rfl rfl rfl rfl rfl (by rfl) (by exact Nat.le_of_ble_eq_true rfl) rfl rfl) ?_); (refine zY.v rfl rfl (zV rfl rfl rfl (by decide)) ?_); refine zY.nil ?_) | refine zZ.ret ?_))
  all_goals exact ⟨(by exact .inl rfl), _, Sub.refl _, .tup (rs := [.cell 6 31, .tmp 7]) (l := [vR root (r0.set i (d, d.length)) r1, .val (.int .i64 0)]) rfl (by decide) (.cons (.cellN rfl rfl (by rfl) (by rfl)) (.cons (.tmp rfl) .nil))⟩
end Go.Proofs.YteadaggehndacaaDoor
/- Worlds: an access made: contracts. -/
namespace Go.Proofs.YteadaggehndacaaDoor
set_option maxRecDepth 100000
set_option maxHeartbeats 16000000
open Go Go.RowKit
set_option linter.unusedSimpArgs false
attribute [local irreducible] zY zZ Step zQ Sub zO zR Fn
/-- a world; a result that tells that the disk failed -/
def vB (t c : Int) (ws : List Int) (root : Int) (r0 r1 : List (List Int × Int)) : PV := .agg [.val (.int .i64 t), .val (.int .i64 c), .sl (wds ws), .val (.int .u64 root), .sl (strs r0), .sl (strs r1)]
def resF : PV := .agg [.val (.int .u64 0), .val (.slice none 0 0), .val (.bool true)]
theorem streams50_fn (root : Int) (r0 r1 : List (List Int × Int)) (i : Nat) (d : List Int) (s p q r : Int) (bs : List Int) (h0 : 0 ≤ root) (hr : root % 2 = 0) (hi : r0[i]? = some (d, s)) (h1 : r0.length ≤ 1000000) (h2 : d.length + bs.length ≤ 100000000) :
    Fn Tryd.prog 49 [vR root r0 r1, .val (.int .i64 i), accV 5 p q r (.sl (byts bs))] (.tup [vR root (r0.set i (d ++ bs, s)) r1, resN 0]) := by
  have c0 : Fn Tryd.prog 61 [vR root r0 r1] (.p (.val (.int .i64 0))) := hr ▸ row_fn root (.sl (strs r0)) (.sl (strs r1)) h0
  have c1 := diskApp0_fn root r0 r1 i d s bs hi h1 h2
  refine xV Tryd.func49 rfl Tryd.ntmps49 (Nat.le_of_ble_eq_true rfl) ?_
  repeat' ((refine zZ.is ?_; first | refine zZ.seq ?_ | (refine zZ.iq 0 ?_; refine zZ.rqb _ K_m K_6 ?_; (refine zY.m rfl rfl (yP rfl rfl rfl (by decide)) ?_); (refine zY.m rfl rfl (yP rfl rfl rfl (by decide)) ?_); (refine zY.m rfl rfl (zG rfl (by decide) rfl (by decide)) ?_); (refine zY.m rfl rfl (zG rfl (by decide) rfl (by decide)) ?_); refine zY.nil ?_) | (refine zZ.iq 1 ?_; refine zZ.rqc _ K_1j K_6 ?_; (refine zY.v rfl rfl (zT rfl rfl rfl (by rfl) (by rfl) rfl (by decide)) ?_); (refine zY.v rfl rfl (by exact yK (c0) rfl rfl rfl (by decide)) ?_); (refine zY.v rfl rfl (zV rfl rfl rfl (by decide)) ?_); refine zY.nil ?_) | (refine zZ.iq 2 ?_; refine zZ.rqc _ K_1k K_6 ?_; (refine zY.m rfl rfl (zG rfl (by decide) rfl (by decide)) ?_); refine zY.nil ?_) | (refine zZ.iq 3 ?_; refine zZ.rqa _ K_1l K_6 ?_; (refine zY.v rfl rfl (zK rfl rfl rfl (by decide)) ?_); (refine zY.v rfl rfl (zA rfl rfl rfl rfl rfl (by decide)) ?_); refine zY.nil ?_) | (refine zZ.iq 4 ?_; refine zZ.rqa _ K_x K_6 ?_; (refine zY.v rfl rfl (by exact r_eql rfl rfl rfl (by exact bT (by decide)) rfl (by decide)) ?_); (refine zY.v rfl rfl (zV rfl rfl rfl (by decide)) ?_); refine zY.nil ?_) | (refine zZ.iq 5 ?_; refine zZ.rqa _ K_x K_6 ?_; (refine zY.v rfl rfl (zT rfl rfl rfl (by rfl) (by rfl) rfl (by decide)) ?_); (refine zY.v rfl rfl (zJ rfl rfl rfl (by decide)) ?_); (refine zY.v rfl rfl (zJ rfl rfl rfl (by decide)) ?_); (refine zY.v rfl rfl (zK rfl rfl rfl (by decide)) ?_); (refine zY.v rfl rfl (zA rfl rfl rfl rfl rfl (by decide)) ?_); (refine zY.v rfl rfl (by exact xI (c1) rfl rfl rfl (by decide)) ?_); (refine zY.v rfl rfl (xW rfl rfl rfl (by decide)) ?_); (refine zY.v rfl rfl (yY rfl rfl rfl rfl (by decide)) ?_); (refine zY.v rfl rfl (yY rfl rfl rfl rfl (by decide)) ?_); (refine zY.w rfl (by exact zH rfl rfl rfl rfl rfl (by rfl) (by exact Nat.le_of_ble_eq_true rfl) rfl rfl) ?_); refine zY.nil ?_) | (refine zZ.iq 20 ?_; refine zZ.rqi _ K_1m K_6 (zZ.qM (by kernel_rfl) ?_); repeat' (first | refine vD.many (by rfl) ?_ | refine zP.cons ?_ ?_ | exact zP.nil | refine vN.v rfl rfl rfl (zT rfl rfl rfl (by rfl) (by rfl) rfl (by decide)) ?_ | refine vN.w rfl rfl (by exact zH rfl rfl rfl rfl rfl (by rfl) (by exact Nat.le_of_ble_eq_true rfl) rfl rfl) ?_ | refine vD.fin (by rfl) ?_)) | refine zZ.yT rfl (by with_reducible rfl) ?_ | refine zZ.block ?_ | refine zZ.ret ?_))
  all_goals exact ⟨by first | exact .inl rfl | exact .inr rfl, _, Sub.refl _, .tup (rs := [.cell 6 31, .cell 7 77]) (l := [vR root (r0.set i (d ++ bs, s)) r1, resN 0]) rfl (by decide) (.cons (.cellN rfl rfl (by rfl) (by rfl)) (.cons (.cellN rfl rfl (by rfl) (by rfl)) .nil))⟩
theorem doFail5_fn (t c p q r me root : Int) (ws : List Int) (d : PV) (r0 r1 : List (List Int × Int)) :
    Fn Tryd.prog 26 [vB t c ws root r0 r1, .val (.int .i64 me), accV 5 p q r d, .val (.bool true)] (.tup [vB t c ws root r0 r1, resF]) := by
  have c0 : Fn Tryd.prog 48 [.val (.int .i64 5)] (.p (.val (.bool true))) := vU 5
  refine xV Tryd.func26 rfl Tryd.ntmps26 (Nat.le_of_ble_eq_true rfl) ?_
  repeat' ((refine zZ.is ?_; first | refine zZ.seq ?_ | (refine zZ.iq 0 ?_; refine zZ.rqb _ K_i K_3 ?_; (refine zY.m rfl rfl (yP rfl rfl rfl (by decide)) ?_); (refine zY.m rfl rfl (yP rfl rfl rfl (by decide)) ?_); (refine zY.m rfl rfl (zG rfl (by decide) rfl (by decide)) ?_); (refine zY.m rfl rfl (zG rfl (by decide) rfl (by decide)) ?_); refine zY.nil ?_) | (refine zZ.iq 1 ?_; refine zZ.rqc _ K_f K_3 ?_; (refine zY.m rfl rfl (zG rfl (by decide) rfl (by decide)) ?_); refine zY.nil ?_) | (refine zZ.iq 3 ?_; refine zZ.rqa _ K_d K_3 ?_; all_goals (refine zY.v rfl rfl (zK rfl rfl rfl (by decide)) ?_); all_goals (refine zY.v rfl rfl (zA rfl rfl rfl rfl rfl (by decide)) ?_); all_goals (refine zY.v rfl rfl (by exact yK (c0) rfl rfl rfl (by decide)) ?_); all_goals (refine zY.v rfl rfl (zJ rfl rfl rfl (by decide)) ?_); all_goals (refine zY.gY rfl rfl (by decide) rfl (by with_reducible rfl) rfl (by decide) (zJ rfl rfl rfl (by decide)) ?_); all_goals (refine zY.v rfl rfl (by exact wC rfl rfl (by with_reducible rfl) rfl rfl (by decide)) ?_); all_goals (refine zY.v rfl rfl (zV rfl rfl rfl (by decide)) ?_); all_goals (refine zY.nil ?_)) | (refine zZ.iq 4 ?_; refine zZ.rqa _ K_8 K_3 ?_; (refine zY.v rfl rfl (zK rfl rfl rfl (by decide)) ?_); (refine zY.w rfl (by exact zH rfl rfl rfl rfl rfl (by rfl) (by exact Nat.le_of_ble_eq_true rfl) rfl rfl) ?_); refine zY.nil ?_) | (refine zZ.iq 10 ?_; refine zZ.rqi _ K_r K_3 (zZ.qM (by kernel_rfl) ?_); repeat' (first | refine vD.many (by rfl) ?_ | refine zP.cons ?_ ?_ | exact zP.nil | refine vN.v rfl rfl rfl (zT rfl rfl rfl (by rfl) (by rfl) rfl (by decide)) ?_ | refine vN.w rfl rfl (by exact zH rfl rfl rfl rfl rfl (by rfl) (by exact Nat.le_of_ble_eq_true rfl) rfl rfl) ?_ | refine vD.fin (by rfl) ?_)) | refine zZ.yT rfl (by with_reducible rfl) ?_ | refine zZ.block ?_ | refine zZ.ret ?_))
  all_goals exact ⟨by first | exact .inl rfl | exact .inr rfl, _, Sub.refl _, .tup (rs := [.cell 8 33, .cell 9 77]) (l := [vB t c ws root r0 r1, resF]) rfl (by decide) (.cons (.cellN rfl rfl (by rfl) (by rfl)) (.cons (.cellN rfl rfl (by rfl) (by rfl)) .nil))⟩
theorem doDisk50_fn (t c p q r root : Int) (ws : List Int) (r0 r1 : List (List Int × Int)) (i : Nat) (d : List Int) (s : Int) (bs : List Int) (h0 : 0 ≤ root) (hr : root % 2 = 0) (hi : r0[i]? = some (d, s)) (h1 : r0.length ≤ 1000000) (h2 : d.length + bs.length ≤ 100000000) :
    Fn Tryd.prog 26 [vB t c ws root r0 r1, .val (.int .i64 i), accV 5 p q r (.sl (byts bs)), .val (.bool false)] (.tup [vB t c ws root (r0.set i (d ++ bs, s)) r1, resN 0]) := by
  have c0 : Fn Tryd.prog 48 [.val (.int .i64 5)] (.p (.val (.bool true))) := vU 5
  have c1 := streams50_fn root r0 r1 i d s p q r bs h0 hr hi h1 h2
  refine xV Tryd.func26 rfl Tryd.ntmps26 (Nat.le_of_ble_eq_true rfl) ?_
  repeat' ((refine zZ.is ?_; first | refine zZ.seq ?_ | (refine zZ.iq 0 ?_; refine zZ.rqb _ K_i K_3 ?_; (refine zY.m rfl rfl (yP rfl rfl rfl (by decide)) ?_); (refine zY.m rfl rfl (yP rfl rfl rfl (by decide)) ?_); (refine zY.m rfl rfl (zG rfl (by decide) rfl (by decide)) ?_); (refine zY.m rfl rfl (zG rfl (by decide) rfl (by decide)) ?_); refine zY.nil ?_) | (refine zZ.iq 1 ?_; refine zZ.rqc _ K_f K_3 ?_; (refine zY.m rfl rfl (zG rfl (by decide) rfl (by decide)) ?_); refine zY.nil ?_) | (refine zZ.iq 3 ?_; refine zZ.rqa _ K_d K_3 ?_; all_goals (refine zY.v rfl rfl (zK rfl rfl rfl (by decide)) ?_); all_goals (refine zY.v rfl rfl (zA rfl rfl rfl rfl rfl (by decide)) ?_); all_goals (refine zY.v rfl rfl (by exact yK (c0) rfl rfl rfl (by decide)) ?_); all_goals (refine zY.v rfl rfl (zJ rfl rfl rfl (by decide)) ?_); all_goals (refine zY.gY rfl rfl (by decide) rfl (by with_reducible rfl) rfl (by decide) (zJ rfl rfl rfl (by decide)) ?_); all_goals (refine zY.v rfl rfl (by exact wC rfl rfl (by with_reducible rfl) rfl rfl (by decide)) ?_); all_goals (refine zY.v rfl rfl (zV rfl rfl rfl (by decide)) ?_); all_goals (refine zY.nil ?_)) | (refine zZ.iq 5 ?_; refine zZ.rqa _ K_8 K_3 ?_; (refine zY.v rfl rfl (zK rfl rfl rfl (by decide)) ?_); (refine zY.v rfl rfl (zA rfl rfl rfl rfl rfl (by decide)) ?_); (refine zY.v rfl rfl (by exact yK (c0) rfl rfl rfl (by decide)) ?_); (refine zY.v rfl rfl (zV rfl rfl rfl (by decide)) ?_); refine zY.nil ?_) | (refine zZ.iq 6 ?_; refine zZ.rqa _ K_8 K_3 ?_; (refine zY.v rfl rfl (zK rfl rfl rfl (by decide)) ?_); (refine zY.v rfl rfl (zT rfl rfl rfl (by rfl) (by rfl) rfl (by decide)) ?_); (refine zY.v rfl rfl (zJ rfl rfl rfl (by decide)) ?_); (refine zY.v rfl rfl (zT rfl rfl rfl (by rfl) (by rfl) rfl (by decide)) ?_); (refine zY.v rfl rfl (by exact xI (c1) rfl rfl rfl (by decide)) ?_); (refine zY.v rfl rfl (xW rfl rfl rfl (by decide)) ?_); (refine zY.v rfl rfl (yY rfl rfl rfl rfl (by decide)) ?_); (refine zY.v rfl rfl (yY rfl rfl rfl rfl (by decide)) ?_); (refine zY.v rfl rfl (zK rfl rfl rfl (by decide)) ?_); (refine zY.w rfl (by exact zH rfl rfl rfl rfl rfl (by rfl) (by exact Nat.le_of_ble_eq_true rfl) rfl rfl) ?_); (refine zY.w rfl (by exact zH rfl rfl rfl rfl rfl (by rfl) (by exact Nat.le_of_ble_eq_true rfl) rfl rfl) ?_); refine zY.nil ?_) | (refine zZ.iq 10 ?_; refine zZ.rqi _ K_r K_3 (zZ.qM (by kernel_rfl) ?_); repeat' (first | refine vD.many (by rfl) ?_ | refine zP.cons ?_ ?_ | exact zP.nil | refine vN.v rfl rfl rfl (zT rfl rfl rfl (by rfl) (by rfl) rfl (by decide)) ?_ | refine vN.w rfl rfl (by exact zH rfl rfl rfl rfl rfl (by rfl) (by exact Nat.le_of_ble_eq_true rfl) rfl rfl) ?_ | refine vD.fin (by rfl) ?_)) | refine zZ.yT rfl (by with_reducible rfl) ?_ | refine zZ.yU rfl (by with_reducible rfl) ?_ | refine zZ.block ?_ | refine zZ.ret ?_))
  all_goals exact ⟨by first | exact .inl rfl | exact .inr rfl, _, Sub.refl _, .tup (rs := [.cell 8 33, .cell 9 77]) (l := [vB t c ws root (r0.set i (d ++ bs, s)) r1, resN 0]) rfl (by decide) (.cons (.cellN rfl rfl (by rfl) (by rfl)) (.cons (.cellN rfl rfl (by rfl) (by rfl)) .nil))⟩
theorem streams60_fn (root : Int) (r0 r1 : List (List Int × Int)) (i : Nat) (d : List Int) (s p q r : Int) (x : PV) (h0 : 0 ≤ root) (hr : root % 2 = 0) (hi : r0[i]? = some (d, s)) (h1 : r0.length ≤ 1000000) :
    Fn Tryd.prog 49 [vR root r0 r1, .val (.int .i64 i), accV 6 p q r (x)] (.tup [vR root (r0.set i (d, d.length)) r1, resN 0]) := by
  have c0 : Fn Tryd.prog 61 [vR root r0 r1] (.p (.val (.int .i64 0))) := hr ▸ row_fn root (.sl (strs r0)) (.sl (strs r1)) h0
  have c1 := diskSync0_fn root r0 r1 i d s hi h1
  refine xV Tryd.func49 rfl Tryd.ntmps49 (Nat.le_of_ble_eq_true rfl) ?_
  repeat' ((refine zZ.is ?_; first | refine zZ.seq ?_ | (refine zZ.iq 0 ?_; refine zZ.rqb _ K_m K_6 ?_; (refine zY.m rfl rfl (yP rfl rfl rfl (by decide)) ?_); (refine zY.m rfl rfl (yP rfl rfl rfl (by decide)) ?_); (refine zY.m rfl rfl (zG rfl (by decide) rfl (by decide)) ?_); (refine zY.m rfl rfl (zG rfl (by decide) rfl (by decide)) ?_); refine zY.nil ?_) | (refine zZ.iq 1 ?_; refine zZ.rqc _ K_1j K_6 ?_; (refine zY.v rfl rfl (zT rfl rfl rfl (by rfl) (by rfl) rfl (by decide)) ?_); (refine zY.v rfl rfl (by exact yK (c0) rfl rfl rfl (by decide)) ?_); (refine zY.v rfl rfl (zV rfl rfl rfl (by decide)) ?_); refine zY.nil ?_) | (refine zZ.iq 2 ?_; refine zZ.rqc _ K_1k K_6 ?_; (refine zY.m rfl rfl (zG rfl (by decide) rfl (by decide)) ?_); refine zY.nil ?_) | (refine zZ.iq 3 ?_; refine zZ.rqa _ K_1l K_6 ?_; (refine zY.v rfl rfl (zK rfl rfl rfl (by decide)) ?_); (refine zY.v rfl rfl (zA rfl rfl rfl rfl rfl (by decide)) ?_); refine zY.nil ?_) | (refine zZ.iq 4 ?_; refine zZ.rqa _ K_x K_6 ?_; (refine zY.v rfl rfl (by exact r_eql rfl rfl rfl (by exact bF (by decide)) rfl (by decide)) ?_); (refine zY.v rfl rfl (zV rfl rfl rfl (by decide)) ?_); refine zY.nil ?_) | (refine zZ.iq 6 ?_; refine zZ.rqa _ K_x K_6 ?_; (refine zY.v rfl rfl (by exact r_eql rfl rfl rfl (by exact bT (by decide)) rfl (by decide)) ?_); (refine zY.v rfl rfl (zV rfl rfl rfl (by decide)) ?_); refine zY.nil ?_) | (refine zZ.iq 7 ?_; refine zZ.rqa _ K_x K_6 ?_; (refine zY.v rfl rfl (zT rfl rfl rfl (by rfl) (by rfl) rfl (by decide)) ?_); (refine zY.v rfl rfl (zJ rfl rfl rfl (by decide)) ?_); (refine zY.v rfl rfl (zJ rfl rfl rfl (by decide)) ?_); (refine zY.v rfl rfl (by exact xI (c1) rfl rfl rfl (by decide)) ?_); (refine zY.v rfl rfl (xW rfl rfl rfl (by decide)) ?_); (refine zY.v rfl rfl (yY rfl rfl rfl rfl (by decide)) ?_); (refine zY.v rfl rfl (yY rfl rfl rfl rfl (by decide)) ?_); (refine zY.w rfl (by exact zH rfl rfl rfl rfl rfl (by rfl) (by exact Nat.le_of_ble_eq_true rfl) rfl rfl) ?_); refine zY.nil ?_) | (refine zZ.iq 20 ?_; refine zZ.rqi _ K_1m K_6 (zZ.qM (by kernel_rfl) ?_); repeat' (first | refine vD.many (by rfl) ?_ | refine zP.cons ?_ ?_ | exact zP.nil | refine vN.v rfl rfl rfl (zT rfl rfl rfl (by rfl) (by rfl) rfl (by decide)) ?_ | refine vN.w rfl rfl (by exact zH rfl rfl rfl rfl rfl (by rfl) (by exact Nat.le_of_ble_eq_true rfl) rfl rfl) ?_ | refine vD.fin (by rfl) ?_)) | refine zZ.yT rfl (by with_reducible rfl) ?_ | refine zZ.yU rfl (by with_reducible rfl) ?_ | refine zZ.block ?_ | refine zZ.ret ?_))
  all_goals exact ⟨by first | exact .inl rfl | exact .inr rfl, _, Sub.refl _, .tup (rs := [.cell 6 31, .cell 7 77]) (l := [vR root (r0.set i (d, d.length)) r1, resN 0]) rfl (by decide) (.cons (.cellN rfl rfl (by rfl) (by rfl)) (.cons (.cellN rfl rfl (by rfl) (by rfl)) .nil))⟩
theorem doFail6_fn (t c p q r me root : Int) (ws : List Int) (d : PV) (r0 r1 : List (List Int × Int)) :
    Fn Tryd.prog 26 [vB t c ws root r0 r1, .val (.int .i64 me), accV 6 p q r d, .val (.bool true)] (.tup [vB t c ws root r0 r1, resF]) := by
  have c0 : Fn Tryd.prog 48 [.val (.int .i64 6)] (.p (.val (.bool true))) := vU 6
  refine xV Tryd.func26 rfl Tryd.ntmps26 (Nat.le_of_ble_eq_true rfl) ?_
  repeat' ((refine zZ.is ?_; first | refine zZ.seq ?_ | (refine zZ.iq 0 ?_; refine zZ.rqb _ K_i K_3 ?_; (refine zY.m rfl rfl (yP rfl rfl rfl (by decide)) ?_); (refine zY.m rfl rfl (yP rfl rfl rfl (by decide)) ?_); (refine zY.m rfl rfl (zG rfl (by decide) rfl (by decide)) ?_); (refine zY.m rfl rfl (zG rfl (by decide) rfl (by decide)) ?_); refine zY.nil ?_) | (refine zZ.iq 1 ?_; refine zZ.rqc _ K_f K_3 ?_; (refine zY.m rfl rfl (zG rfl (by decide) rfl (by decide)) ?_); refine zY.nil ?_) | (refine zZ.iq 3 ?_; refine zZ.rqa _ K_d K_3 ?_; all_goals (refine zY.v rfl rfl (zK rfl rfl rfl (by decide)) ?_); all_goals (refine zY.v rfl rfl (zA rfl rfl rfl rfl rfl (by decide)) ?_); all_goals (refine zY.v rfl rfl (by exact yK (c0) rfl rfl rfl (by decide)) ?_); all_goals (refine zY.v rfl rfl (zJ rfl rfl rfl (by decide)) ?_); all_goals (refine zY.gY rfl rfl (by decide) rfl (by with_reducible rfl) rfl (by decide) (zJ rfl rfl rfl (by decide)) ?_); all_goals (refine zY.v rfl rfl (by exact wC rfl rfl (by with_reducible rfl) rfl rfl (by decide)) ?_); all_goals (refine zY.v rfl rfl (zV rfl rfl rfl (by decide)) ?_); all_goals (refine zY.nil ?_)) | (refine zZ.iq 4 ?_; refine zZ.rqa _ K_8 K_3 ?_; (refine zY.v rfl rfl (zK rfl rfl rfl (by decide)) ?_); (refine zY.w rfl (by exact zH rfl rfl rfl rfl rfl (by rfl) (by exact Nat.le_of_ble_eq_true rfl) rfl rfl) ?_); refine zY.nil ?_) | (refine zZ.iq 10 ?_; refine zZ.rqi _ K_r K_3 (zZ.qM (by kernel_rfl) ?_); repeat' (first | refine vD.many (by rfl) ?_ | refine zP.cons ?_ ?_ | exact zP.nil | refine vN.v rfl rfl rfl (zT rfl rfl rfl (by rfl) (by rfl) rfl (by decide)) ?_ | refine vN.w rfl rfl (by exact zH rfl rfl rfl rfl rfl (by rfl) (by exact Nat.le_of_ble_eq_true rfl) rfl rfl) ?_ | refine vD.fin (by rfl) ?_)) | refine zZ.yT rfl (by with_reducible rfl) ?_ | refine zZ.block ?_ | refine zZ.ret ?_))
  all_goals exact ⟨by first | exact .inl rfl | exact .inr rfl, _, Sub.refl _, .tup (rs := [.cell 8 33, .cell 9 77]) (l := [vB t c ws root r0 r1, resF]) rfl (by decide) (.cons (.cellN rfl rfl (by rfl) (by rfl)) (.cons (.cellN rfl rfl (by rfl) (by rfl)) .nil))⟩
theorem doDisk60_fn (t c p q r root : Int) (ws : List Int) (r0 r1 : List (List Int × Int)) (i : Nat) (d : List Int) (s : Int) (x : PV) (h0 : 0 ≤ root) (hr : root % 2 = 0) (hi : r0[i]? = some (d, s)) (h1 : r0.length ≤ 1000000) :
    Fn Tryd.prog 26 [vB t c ws root r0 r1, .val (.int .i64 i), accV 6 p q r (x), .val (.bool false)] (.tup [vB t c ws root (r0.set i (d, d.length)) r1, resN 0]) := by
  have c0 : Fn Tryd.prog 48 [.val (.int .i64 6)] (.p (.val (.bool true))) := vU 6
  have c1 := streams60_fn root r0 r1 i d s p q r x h0 hr hi h1
  refine xV Tryd.func26 rfl Tryd.ntmps26 (Nat.le_of_ble_eq_true rfl) ?_
  repeat' ((refine zZ.is ?_; first | refine zZ.seq ?_ | (refine zZ.iq 0 ?_; refine zZ.rqb _ K_i K_3 ?_; (refine zY.m rfl rfl (yP rfl rfl rfl (by decide)) ?_); (refine zY.m rfl rfl (yP rfl rfl rfl (by decide)) ?_); (refine zY.m rfl rfl (zG rfl (by decide) rfl (by decide)) ?_); (refine zY.m rfl rfl (zG rfl (by decide) rfl (by decide)) ?_); refine zY.nil ?_) | (refine zZ.iq 1 ?_; refine zZ.rqc _ K_f K_3 ?_; (refine zY.m rfl rfl (zG rfl (by decide) rfl (by decide)) ?_); refine zY.nil ?_) | (refine zZ.iq 3 ?_; refine zZ.rqa _ K_d K_3 ?_; all_goals (refine zY.v rfl rfl (zK rfl rfl rfl (by decide)) ?_); all_goals (refine zY.v rfl rfl (zA rfl rfl rfl rfl rfl (by decide)) ?_); all_goals (refine zY.v rfl rfl (by exact yK (c0) rfl rfl rfl (by decide)) ?_); all_goals (refine zY.v rfl rfl (zJ rfl rfl rfl (by decide)) ?_); all_goals (refine zY.gY rfl rfl (by decide) rfl (by with_reducible rfl) rfl (by decide) (zJ rfl rfl rfl (by decide)) ?_); all_goals (refine zY.v rfl rfl (by exact wC rfl rfl (by with_reducible rfl) rfl rfl (by decide)) ?_); all_goals (refine zY.v rfl rfl (zV rfl rfl rfl (by decide)) ?_); all_goals (refine zY.nil ?_)) | (refine zZ.iq 5 ?_; refine zZ.rqa _ K_8 K_3 ?_; (refine zY.v rfl rfl (zK rfl rfl rfl (by decide)) ?_); (refine zY.v rfl rfl (zA rfl rfl rfl rfl rfl (by decide)) ?_); (refine zY.v rfl rfl (by exact yK (c0) rfl rfl rfl (by decide)) ?_); (refine zY.v rfl rfl (zV rfl rfl rfl (by decide)) ?_); refine zY.nil ?_) | (refine zZ.iq 6 ?_; refine zZ.rqa _ K_8 K_3 ?_; (refine zY.v rfl rfl (zK rfl rfl rfl (by decide)) ?_); (refine zY.v rfl rfl (zT rfl rfl rfl (by rfl) (by rfl) rfl (by decide)) ?_); (refine zY.v rfl rfl (zJ rfl rfl rfl (by decide)) ?_); (refine zY.v rfl rfl (zT rfl rfl rfl (by rfl) (by rfl) rfl (by decide)) ?_); (refine zY.v rfl rfl (by exact xI (c1) rfl rfl rfl (by decide)) ?_); (refine zY.v rfl rfl (xW rfl rfl rfl (by decide)) ?_); (refine zY.v rfl rfl (yY rfl rfl rfl rfl (by decide)) ?_); (refine zY.v rfl rfl (yY rfl rfl rfl rfl (by decide)) ?_); (refine zY.v rfl rfl (zK rfl rfl rfl (by decide)) ?_); (refine zY.w rfl (by exact zH rfl rfl rfl rfl rfl (by rfl) (by exact Nat.le_of_ble_eq_true rfl) rfl rfl) ?_); (refine zY.w rfl (by exact zH rfl rfl rfl rfl rfl (by rfl) (by exact Nat.le_of_ble_eq_true rfl) rfl rfl) ?_); refine zY.nil ?_) | (refine zZ.iq 10 ?_; refine zZ.rqi _ K_r K_3 (zZ.qM (by kernel_rfl) ?_); repeat' (first | refine vD.many (by rfl) ?_ | refine zP.cons ?_ ?_ | exact zP.nil | refine vN.v rfl rfl rfl (zT rfl rfl rfl (by rfl) (by rfl) rfl (by decide)) ?_ | refine vN.w rfl rfl (by exact zH rfl rfl rfl rfl rfl (by rfl) (by exact Nat.le_of_ble_eq_true rfl) rfl rfl) ?_ | refine vD.fin (by rfl) ?_)) | refine zZ.yT rfl (by with_reducible rfl) ?_ | refine zZ.yU rfl (by with_reducible rfl) ?_ | refine zZ.block ?_ | refine zZ.ret ?_))
  all_goals exact ⟨by first | exact .inl rfl | exact .inr rfl, _, Sub.refl _, .tup (rs := [.cell 8 33, .cell 9 77]) (l := [vB t c ws root (r0.set i (d, d.length)) r1, resN 0]) rfl (by decide) (.cons (.cellN rfl rfl (by rfl) (by rfl)) (.cons (.cellN rfl rfl (by rfl) (by rfl)) .nil))⟩
theorem doWord_fn (t c kd a b old me root : Int) (hkd : 0 ≤ kd ∧ kd ≤ 4) (i : Nat) (ws : List Int) (d : PV) (r0 r1 : List (List Int × Int)) (fails : Bool) (hi : ws[i]? = some old) (h1 : ws.length ≤ 1000000) :
    Fn Tryd.prog 26 [vB t c ws root r0 r1, .val (.int .i64 me), accV kd i a b d, .val (.bool fails)] (.tup [vB t c (ws.set i (xD kd old a b).2) root r0 r1, resN (xD kd old a b).1]) := by
  have c0 : Fn Tryd.prog 48 [.val (.int .i64 kd)] (.p (.val (.bool false))) := by
    have e : (decide (5 ≤ kd) && decide (kd ≤ 12)) = false := by rw [decide_eq_false (show ¬5 ≤ kd by omega)]; rfl
    exact e ▸ vU kd
  have c1 := words_fn t c kd a b old hkd i ws d hi h1
  have g1 : decide (kd = 13) = false := decide_eq_false (by omega)
  refine xV Tryd.func26 rfl Tryd.ntmps26 (Nat.le_of_ble_eq_true rfl) ?_
  repeat' ((refine zZ.is ?_; first | refine zZ.seq ?_ | (refine zZ.iq 0 ?_; refine zZ.rqb _ K_i K_3 ?_; (refine zY.m rfl rfl (yP rfl rfl rfl (by decide)) ?_); (refine zY.m rfl rfl (yP rfl rfl rfl (by decide)) ?_); (refine zY.m rfl rfl (zG rfl (by decide) rfl (by decide)) ?_); (refine zY.m rfl rfl (zG rfl (by decide) rfl (by decide)) ?_); refine zY.nil ?_) | (refine zZ.iq 1 ?_; refine zZ.rqc _ K_f K_3 ?_; (refine zY.m rfl rfl (zG rfl (by decide) rfl (by decide)) ?_); refine zY.nil ?_) | (refine zZ.iq 3 ?_; refine zZ.rqa _ K_d K_3 ?_; all_goals (refine zY.v rfl rfl (zK rfl rfl rfl (by decide)) ?_); all_goals (refine zY.v rfl rfl (zA rfl rfl rfl (by rfl) rfl (by decide)) ?_); all_goals (refine zY.v rfl rfl (by exact yK (c0) rfl rfl rfl (by decide)) ?_); all_goals (refine zY.v rfl rfl (zJ rfl rfl rfl (by decide)) ?_); all_goals (refine zY.gnT rfl rfl (by decide) rfl (by with_reducible rfl) rfl (by decide) ?_); all_goals (refine zY.v rfl rfl (by exact wP rfl rfl (by with_reducible rfl) rfl rfl (by decide)) ?_); all_goals (refine zY.v rfl rfl (zV rfl rfl rfl (by decide)) ?_); all_goals (refine zY.nil ?_)) | (refine zZ.iq 5 ?_; refine zZ.rqa _ K_8 K_3 ?_; (refine zY.v rfl rfl (zK rfl rfl rfl (by decide)) ?_); (refine zY.v rfl rfl (zA rfl rfl rfl (by rfl) rfl (by decide)) ?_); (refine zY.v rfl rfl (by exact yK (c0) rfl rfl rfl (by decide)) ?_); (refine zY.v rfl rfl (zV rfl rfl rfl (by decide)) ?_); refine zY.nil ?_) | (refine zZ.iq 7 ?_; refine zZ.rqg _ K_3 K_3 ?_; (refine zY.v rfl rfl (zK rfl rfl rfl (by decide)) ?_); (refine zY.v rfl rfl (zA rfl rfl rfl (by rfl) rfl (by decide)) ?_); (refine zY.v rfl rfl (by exact r_eql rfl rfl rfl (by exact g1) rfl (by decide)) ?_); (refine zY.v rfl rfl (zV rfl rfl rfl (by decide)) ?_); refine zY.nil ?_) | (refine zZ.iq 2 ?_; refine zZ.rqg _ K_3 K_3 ?_; (refine zY.v rfl rfl (zK rfl rfl rfl (by decide)) ?_); (refine zY.v rfl rfl (zT rfl rfl rfl (by rfl) (by rfl) rfl (by decide)) ?_); (refine zY.v rfl rfl (zT rfl rfl rfl (by rfl) (by rfl) rfl (by decide)) ?_); (refine zY.v rfl rfl (by exact xI (c1) rfl rfl rfl (by decide)) ?_); (refine zY.v rfl rfl (xW rfl rfl rfl (by decide)) ?_); (refine zY.v rfl rfl (yY rfl rfl rfl rfl (by decide)) ?_); (refine zY.v rfl rfl (yY rfl rfl rfl rfl (by decide)) ?_); (refine zY.v rfl rfl (zK rfl rfl rfl (by decide)) ?_); (refine zY.w rfl (by exact zH rfl rfl rfl rfl rfl (by rfl) (by exact Nat.le_of_ble_eq_true rfl) rfl rfl) ?_); (refine zY.w rfl (by exact zH rfl rfl rfl rfl rfl (by rfl) (by exact Nat.le_of_ble_eq_true rfl) rfl rfl) ?_); refine zY.nil ?_) | (refine zZ.iq 10 ?_; refine zZ.rqi _ K_r K_3 (zZ.qM (by kernel_rfl) ?_); repeat' (first | refine vD.many (by rfl) ?_ | refine zP.cons ?_ ?_ | exact zP.nil | refine vN.v rfl rfl rfl (zT rfl rfl rfl (by rfl) (by rfl) rfl (by decide)) ?_ | refine vN.w rfl rfl (by exact zH rfl rfl rfl rfl rfl (by rfl) (by exact Nat.le_of_ble_eq_true rfl) rfl rfl) ?_ | refine vD.fin (by rfl) ?_)) | refine zZ.yU rfl (by first | assumption | with_reducible rfl) ?_ | refine zZ.block ?_ | refine zZ.ret ?_))
  all_goals exact ⟨by first | exact .inl rfl | exact .inr rfl, _, Sub.refl _, .tup (rs := [.cell 8 33, .cell 9 77]) (l := [vB t c (ws.set i (xD kd old a b).2) root r0 r1, resN (xD kd old a b).1]) rfl (by decide) (.cons (.cellN rfl rfl (by rfl) (by rfl)) (.cons (.cellN rfl rfl (by rfl) (by rfl)) .nil))⟩
theorem doOut_fn (t c kd cell a b me root : Int) (hkd : 0 ≤ kd ∧ kd ≤ 4) (ws : List Int) (d : PV) (r0 r1 : List (List Int × Int)) (fails : Bool) (hi : cell < 0 ∨ (ws.length : Int) ≤ cell) :
    Fn Tryd.prog 26 [vB t c ws root r0 r1, .val (.int .i64 me), accV kd cell a b d, .val (.bool fails)] (.tup [vB t c ws root r0 r1, resN 0]) := by
  have c0 : Fn Tryd.prog 48 [.val (.int .i64 kd)] (.p (.val (.bool false))) := by
    have e : (decide (5 ≤ kd) && decide (kd ≤ 12)) = false := by rw [decide_eq_false (show ¬5 ≤ kd by omega)]; rfl
    exact e ▸ vU kd
  have c1 := wordsOut_fn t c kd cell a b ws d hi
  have g1 : decide (kd = 13) = false := decide_eq_false (by omega)
  refine xV Tryd.func26 rfl Tryd.ntmps26 (Nat.le_of_ble_eq_true rfl) ?_
  repeat' ((refine zZ.is ?_; first | refine zZ.seq ?_ | (refine zZ.iq 0 ?_; refine zZ.rqb _ K_i K_3 ?_; (refine zY.m rfl rfl (yP rfl rfl rfl (by decide)) ?_); (refine zY.m rfl rfl (yP rfl rfl rfl (by decide)) ?_); (refine zY.m rfl rfl (zG rfl (by decide) rfl (by decide)) ?_); (refine zY.m rfl rfl (zG rfl (by decide) rfl (by decide)) ?_); refine zY.nil ?_) | (refine zZ.iq 1 ?_; refine zZ.rqc _ K_f K_3 ?_; (refine zY.m rfl rfl (zG rfl (by decide) rfl (by decide)) ?_); refine zY.nil ?_) | (refine zZ.iq 3 ?_; refine zZ.rqa _ K_d K_3 ?_; all_goals (refine zY.v rfl rfl (zK rfl rfl rfl (by decide)) ?_); all_goals (refine zY.v rfl rfl (zA rfl rfl rfl (by rfl) rfl (by decide)) ?_); all_goals (refine zY.v rfl rfl (by exact yK (c0) rfl rfl rfl (by decide)) ?_); all_goals (refine zY.v rfl rfl (zJ rfl rfl rfl (by decide)) ?_); all_goals (refine zY.gnT rfl rfl (by decide) rfl (by with_reducible rfl) rfl (by decide) ?_); all_goals (refine zY.v rfl rfl (by exact wP rfl rfl (by with_reducible rfl) rfl rfl (by decide)) ?_); all_goals (refine zY.v rfl rfl (zV rfl rfl rfl (by decide)) ?_); all_goals (refine zY.nil ?_)) | (refine zZ.iq 5 ?_; refine zZ.rqa _ K_8 K_3 ?_; (refine zY.v rfl rfl (zK rfl rfl rfl (by decide)) ?_); (refine zY.v rfl rfl (zA rfl rfl rfl (by rfl) rfl (by decide)) ?_); (refine zY.v rfl rfl (by exact yK (c0) rfl rfl rfl (by decide)) ?_); (refine zY.v rfl rfl (zV rfl rfl rfl (by decide)) ?_); refine zY.nil ?_) | (refine zZ.iq 7 ?_; refine zZ.rqg _ K_3 K_3 ?_; (refine zY.v rfl rfl (zK rfl rfl rfl (by decide)) ?_); (refine zY.v rfl rfl (zA rfl rfl rfl (by rfl) rfl (by decide)) ?_); (refine zY.v rfl rfl (by exact r_eql rfl rfl rfl (by exact g1) rfl (by decide)) ?_); (refine zY.v rfl rfl (zV rfl rfl rfl (by decide)) ?_); refine zY.nil ?_) | (refine zZ.iq 2 ?_; refine zZ.rqg _ K_3 K_3 ?_; (refine zY.v rfl rfl (zK rfl rfl rfl (by decide)) ?_); (refine zY.v rfl rfl (zT rfl rfl rfl (by rfl) (by rfl) rfl (by decide)) ?_); (refine zY.v rfl rfl (zT rfl rfl rfl (by rfl) (by rfl) rfl (by decide)) ?_); (refine zY.v rfl rfl (by exact xI (c1) rfl rfl rfl (by decide)) ?_); (refine zY.v rfl rfl (xW rfl rfl rfl (by decide)) ?_); (refine zY.v rfl rfl (yY rfl rfl rfl rfl (by decide)) ?_); (refine zY.v rfl rfl (yY rfl rfl rfl rfl (by decide)) ?_); (refine zY.v rfl rfl (zK rfl rfl rfl (by decide)) ?_); (refine zY.w rfl (by exact zH rfl rfl rfl rfl rfl (by rfl) (by exact Nat.le_of_ble_eq_true rfl) rfl rfl) ?_); (refine zY.w rfl (by exact zH rfl rfl rfl rfl rfl (by rfl) (by exact Nat.le_of_ble_eq_true rfl) rfl rfl) ?_); refine zY.nil ?_) | (refine zZ.iq 10 ?_; refine zZ.rqi _ K_r K_3 (zZ.qM (by kernel_rfl) ?_); repeat' (first | refine vD.many (by rfl) ?_ | refine zP.cons ?_ ?_ | exact zP.nil | refine vN.v rfl rfl rfl (zT rfl rfl rfl (by rfl) (by rfl) rfl (by decide)) ?_ | refine vN.w rfl rfl (by exact zH rfl rfl rfl rfl rfl (by rfl) (by exact Nat.le_of_ble_eq_true rfl) rfl rfl) ?_ | refine vD.fin (by rfl) ?_)) | refine zZ.yU rfl (by first | assumption | with_reducible rfl) ?_ | refine zZ.block ?_ | refine zZ.ret ?_))
  all_goals exact ⟨by first | exact .inl rfl | exact .inr rfl, _, Sub.refl _, .tup (rs := [.cell 8 33, .cell 9 77]) (l := [vB t c ws root r0 r1, resN 0]) rfl (by decide) (.cons (.cellN rfl rfl (by rfl) (by rfl)) (.cons (.cellN rfl rfl (by rfl) (by rfl)) .nil))⟩
end Go.Proofs.YteadaggehndacaaDoor
/- Contracts made weaker: nil is an empty slice. Generic over the program. -/
namespace Go.Proofs.YteadaggehndacaaDoor
set_option maxRecDepth 100000
set_option maxHeartbeats 16000000
open Go Go.RowKit
/-- y says no more than x -/
inductive PLe0 : PV → PV → Prop
  | refl (x : PV) : PLe0 x x
  | nil : PLe0 (.val (.slice none 0 0)) (.sl [])
inductive PL0s : List PV → List PV → Prop
  | nil : PL0s [] []
  | cons {x y : PV} {xs ys : List PV} (h : PLe0 x y) (hs : PL0s xs ys) : PL0s (x :: xs) (y :: ys)
inductive PLe1 : PV → PV → Prop
  | refl (x : PV) : PLe1 x x
  | nil : PLe1 (.val (.slice none 0 0)) (.sl [])
  | sl {xs ys : List PV} (hl : xs.length = ys.length) (h : PL0s (flat xs) (flat ys)) : PLe1 (.sl xs) (.sl ys)
inductive PLes : List PV → List PV → Prop
  | nil : PLes [] []
  | cons {x y : PV} {xs ys : List PV} (h : PLe1 x y) (hs : PLes xs ys) : PLes (x :: xs) (y :: ys)
inductive PLe : PV → PV → Prop
  | one {x y : PV} (h : PLe1 x y) : PLe x y
  | agg {xs ys : List PV} (h : PLes xs ys) : PLe (.agg xs) (.agg ys)
inductive PLet : List PV → List PV → Prop
  | nil : PLet [] []
  | cons {x y : PV} {xs ys : List PV} (h : PLe x y) (hs : PLet xs ys) : PLet (x :: xs) (y :: ys)
theorem PLe0.rep {x y : PV} (h : PLe0 x y) {M : Nat → Nat → Prop} {w : World} {v : Value} (hr : Rep M w x v) : Rep M w y v := by
  cases h with
  | refl => exact hr
  | nil => cases hr; exact .nil
theorem PL0s.at_ {xs ys : List PV} (h : PL0s xs ys) : xs.length = ys.length ∧ ∀ (i : Nat) y, ys[i]? = some y → ∃ x, xs[i]? = some x ∧ PLe0 x y := by
  induction h with
  | nil => exact ⟨rfl, fun i y h => by simp at h⟩
  | cons h hs ih =>
    refine ⟨by simp [ih.1], fun i y hy => ?_⟩
    cases i with
    | zero => simp at hy; subst hy; exact ⟨_, rfl, h⟩
    | succ i => exact ih.2 i y hy
theorem PL0s.append {xs ys xs' ys' : List PV} (h : PL0s xs ys) (h' : PL0s xs' ys') : PL0s (xs ++ xs') (ys ++ ys') := by
  induction h with
  | nil => exact h'
  | cons h _ ih => exact .cons h ih
theorem PLe1.rep {x y : PV} (h : PLe1 x y) {M : Nat → Nat → Prop} {w : World} {v : Value} (hr : Rep M w x v) : Rep M w y v := by
  cases h with
  | refl => exact hr
  | nil => cases hr; exact .nil
  | sl hl h =>
    obtain ⟨hfl, hat⟩ := h.at_
    rcases rep_sl hr with ⟨⟨b, rfl⟩, h0⟩ | ⟨g, off, cap, us, rfl, hl2, hcell, hM, hg, hcap, hm⟩
    · subst h0
      have : _ = [] := List.eq_nil_of_length_eq_zero hl.symm
      subst this
      exact .nil
    · rw [hl] at hcap ⊢
      exact .sl _ g off _ cap us rfl (hl2.len.trans hfl) hcell (fun j c y hc hy => by
        obtain ⟨x, hx, hle⟩ := hat j c hc
        exact hle.rep (hl2.each j x y hx hy)) hl2.one hM hg hcap hm
theorem PLes.refl : ∀ xs : List PV, PLes xs xs
  | [] => .nil
  | x :: xs => .cons (.refl x) (PLes.refl xs)
theorem PLes.at_ {xs ys : List PV} (h : PLes xs ys) : xs.length = ys.length ∧ ∀ (i : Nat) y, ys[i]? = some y → ∃ x, xs[i]? = some x ∧ PLe1 x y := by
  induction h with
  | nil => exact ⟨rfl, fun i y h => by simp at h⟩
  | cons h hs ih =>
    refine ⟨by simp [ih.1], fun i y hy => ?_⟩
    cases i with
    | zero => simp at hy; subst hy; exact ⟨_, rfl, h⟩
    | succ i => exact ih.2 i y hy
theorem PLe.rep {x y : PV} (h : PLe x y) {M : Nat → Nat → Prop} {w : World} {v : Value} (hr : Rep M w x v) : Rep M w y v := by
  cases h with
  | one h => exact h.rep hr
  | agg h =>
    obtain ⟨hl, hat⟩ := h.at_
    cases hr with
    | agg cs vs hl2 h2 h1 => exact .agg _ vs (hl2.trans hl) (fun i c u hc hu => by
        obtain ⟨x, hx, hxy⟩ := hat i c hc
        exact hxy.rep (h2 i x u hx hu)) h1
theorem PLet.at_ {xs ys : List PV} (h : PLet xs ys) : xs.length = ys.length ∧ ∀ (i : Nat) y, ys[i]? = some y → ∃ x, xs[i]? = some x ∧ PLe x y := by
  induction h with
  | nil => exact ⟨rfl, fun i y h => by simp at h⟩
  | cons h hs ih =>
    refine ⟨by simp [ih.1], fun i y hy => ?_⟩
    cases i with
    | zero => simp at hy; subst hy; exact ⟨_, rfl, h⟩
    | succ i => exact ih.2 i y hy
theorem PLe.refl (x : PV) : PLe x x := .one (.refl x)
section
variable {P : Program} {f : FuncId}
theorem Fn.weakT {args l l' : List PV} (h : Fn P f args (.tup l)) (hl : PLet l l') : Fn P f args (.tup l') :=
  fun M w vs a b c d => (h M w vs a b c d).mono fun e w' ⟨v, e1, ⟨us, e2, e3, e4⟩, e5⟩ => ⟨v, e1, ⟨us, e2, e3.trans hl.at_.1, fun i x u hx hu => by
    obtain ⟨y, hy, hle⟩ := hl.at_.2 i x hx
    exact hle.rep (e4 i y u hy hu)⟩, e5⟩
end
end Go.Proofs.YteadaggehndacaaDoor
/- Worlds: an access made, as a function of all accesses that programs ask; its contract. -/
namespace Go.Proofs.YteadaggehndacaaDoor
set_option maxRecDepth 100000
set_option maxHeartbeats 16000000
open Go Go.RowKit
set_option linter.unusedSimpArgs false
set_option linter.unusedVariables false
attribute [local irreducible] zY zZ Step zQ Sub zO zR Fn
structure Wd where
  t : Int
  c : Int
  ws : List Int
  root : Int
  r0 : List (List Int × Int)
  r1 : List (List Int × Int)
def Wd.pv (w : Wd) : PV := vB w.t w.c w.ws w.root w.r0 w.r1
def bytOf : PV → List Int
  | .val (.int _ n) => [n]
  | _ => []
def w9 : PV → List Int
  | .sl es => es.flatMap bytOf
  | _ => []
theorem bytsOf_byts (bs : List Int) : w9 (.sl (byts bs)) = bs := by
  show (byts bs).flatMap bytOf = bs
  induction bs with
  | nil => rfl
  | cons b r ih => show bytOf _ ++ (byts r).flatMap bytOf = _; rw [ih]; rfl
/-- a stream, behind an access of it -/
def strX (kind : Int) (bs : List Int) (p : List Int × Int) : List Int × Int := bif decide (kind = 5) then (p.1 ++ bs, p.2) else (p.1, (p.1.length : Int))
/-- an access made -/
def doX (W : Wd) (me : Nat) (q : Ned) (fails : Bool) : Wd × xO :=
  bif decide (q.kind = 5) || decide (q.kind = 6) then
    bif fails then (W, ⟨0, xJ, true⟩) else ({ W with r0 := match W.r0[me]? with
      | some p => W.r0.set me (strX q.kind (w9 q.d) p)
      | none => W.r0 }, ⟨0, xJ, false⟩)
  else match (bif decide (q.cell < 0) then none else W.ws[q.cell.toNat]?) with
    | some old => ({ W with ws := W.ws.set q.cell.toNat (xD q.kind old q.a q.b).2 }, ⟨(xD q.kind old q.a q.b).1, xJ, false⟩)
    | none => (W, ⟨0, xJ, false⟩)
/-- a world that is right, its streams no longer than so -/
structure WdOK (b : Nat) (W : Wd) : Prop where
  ws : ∀ x ∈ W.ws, U x
  len : W.ws.length ≤ 1000000
  root : W.root = 0
  rows : W.r0.length ≤ 1000000
  str : ∀ p ∈ W.r0, p.1.length ≤ b
theorem WdOK.le {b c : Nat} {W : Wd} (h : WdOK b W) (hc : b ≤ c) : WdOK c W := ⟨h.ws, h.len, h.root, h.rows, fun p hp => Nat.le_trans (h.str p hp) hc⟩
theorem turnR_U {kind old a b : Int} (h : U old) (ha : U a) (hb : U b) : U (xD kind old a b).1 ∧ U (xD kind old a b).2 := by
  have z : U 0 := U.zero
  have z1 : U 1 := by unfold U; decide
  unfold xD
  split
  · exact ⟨h, h⟩
  · split
    · exact ⟨z, ha⟩
    · split
      · split
        · exact ⟨z1, hb⟩
        · exact ⟨z, h⟩
      · split
        · exact ⟨h, by rw [wrapU]; unfold U; omega⟩
        · exact ⟨h, ha⟩
theorem qP.len {q : Ned} (h : qP q) : (w9 q.d).length ≤ 1000 := by
  rcases h.d with h | ⟨_, bs, _, h1, e⟩
  · rw [h.2]; exact Nat.zero_le _
  · rw [e, bytsOf_byts]; exact h1
theorem doX_ok {b : Nat} {W : Wd} {q : Ned} (h : WdOK b W) (hq : qP q) (me : Nat) (f : Bool) : WdOK (b + 1000) (doX W me q f).1 ∧ U (doX W me q f).2.n := by
  have h0 := h.le (Nat.le_add_right b 1000)
  have z : U 0 := U.zero
  have hl := hq.len
  unfold doX
  cases decide (q.kind = 5) || decide (q.kind = 6)
  · rw [cond_false]
    cases e : (bif decide (q.cell < 0) then none else W.ws[q.cell.toNat]?) with
    | none => exact ⟨h0, z⟩
    | some old =>
      have ho : U old := by
        cases hd : decide (q.cell < 0) <;> rw [hd] at e
        · exact h.ws _ (List.mem_of_getElem? e)
        · cases e
      obtain ⟨h1, h2⟩ := turnR_U (kind := q.kind) ho hq.a hq.b
      refine ⟨⟨fun x hx => ?_, by simpa using h.len, h.root, h.rows, h0.str⟩, h1⟩
      rcases List.mem_or_eq_of_mem_set hx with hx | rfl
      · exact h.ws x hx
      · exact h2
  · rw [cond_true]
    cases f
    · rw [cond_false]
      cases e : W.r0[me]? with
      | none => exact ⟨h0, z⟩
      | some p =>
        refine ⟨⟨h.ws, h.len, h.root, by simpa using h.rows, fun x hx => ?_⟩, z⟩
        rcases List.mem_or_eq_of_mem_set hx with hx | rfl
        · exact h0.str x hx
        · have hp := h.str p (List.mem_of_getElem? e)
          unfold strX
          cases decide (q.kind = 5)
          · exact Nat.le_trans hp (Nat.le_add_right _ _)
          · show (p.1 ++ w9 q.d).length ≤ _
            rw [List.length_append]
            omega
    · exact ⟨h0, z⟩
theorem doX_keeps (W : Wd) (me : Nat) (q : Ned) (f : Bool) : (doX W me q f).1.t = W.t ∧ (doX W me q f).1.c = W.c ∧ (doX W me q f).1.r0.length = W.r0.length ∧ (doX W me q f).1.ws.length = W.ws.length ∧ (doX W me q f).1.r1 = W.r1 := by
  unfold doX
  cases decide (q.kind = 5) || decide (q.kind = 6)
  · rw [cond_false]
    cases (bif decide (q.cell < 0) then none else W.ws[q.cell.toNat]?) with
    | none => exact ⟨rfl, rfl, rfl, rfl, rfl⟩
    | some old => exact ⟨rfl, rfl, rfl, by simp, rfl⟩
  · rw [cond_true]
    cases f
    · rw [cond_false]
      cases W.r0[me]? with
      | none => exact ⟨rfl, rfl, rfl, rfl, rfl⟩
      | some p => exact ⟨rfl, rfl, by simp, rfl, rfl⟩
    · exact ⟨rfl, rfl, rfl, rfl, rfl⟩
theorem kX (n : Int) (fl : Bool) : PLe (.agg [.val (.int .u64 n), .val (.slice none 0 0), .val (.bool fl)]) (resV ⟨n, xJ, fl⟩) := .refl _
theorem doX_fn {b : Nat} {W : Wd} {q : Ned} (h : WdOK b W) (hb : b ≤ 90000000) (hq : qP q) {me : Nat} (hme : me < W.r0.length) (f : Bool) :
    Fn Tryd.prog 26 [W.pv, .val (.int .i64 me), accV q.kind q.cell q.a q.b (.sl (byts (w9 q.d))), .val (.bool f)] (.tup [(doX W me q f).1.pv, resV (doX W me q f).2]) := by
  obtain ⟨t, c, ws, root, r0, r1⟩ := W
  obtain ⟨kind, cell, a, b', d, w⟩ := q
  obtain rfl : root = 0 := h.root
  have hd : (0 ≤ kind ∧ kind ≤ 4) ∨ kind = 5 ∨ kind = 6 := by
    rcases hq.d with ⟨h, _⟩ | ⟨h, _⟩
    · rcases h with h | h
      · exact .inl h
      · exact .inr (.inr h)
    · exact .inr (.inl h)
  have hl : (w9 d).length ≤ 1000 := hq.len
  rcases hd with hk | hk
  · have e : (decide (kind = 5) || decide (kind = 6)) = false := by rw [decide_eq_false (show ¬kind = 5 by omega), decide_eq_false (show ¬kind = 6 by omega)]; rfl
    unfold doX
    dsimp only
    rw [e, cond_false]
    by_cases hc : cell < 0
    · rw [decide_eq_true hc, cond_true]
      exact (doOut_fn t c kind cell a b' me 0 hk ws (.sl (byts (w9 d))) r0 r1 f (.inl hc)).weakT (.cons (.refl _) (.cons (kX _ false) .nil))
    · rw [decide_eq_false hc, cond_false]
      cases ho : ws[cell.toNat]? with
      | none =>
        refine (doOut_fn t c kind cell a b' me 0 hk ws (.sl (byts (w9 d))) r0 r1 f (.inr ?_)).weakT (.cons (.refl _) (.cons (kX _ false) .nil))
        have := List.getElem?_eq_none_iff.1 ho
        omega
      | some old =>
        obtain ⟨i, rfl⟩ : ∃ i : Nat, cell = (i : Int) := ⟨cell.toNat, by omega⟩
        rw [Int.toNat_natCast] at ho ⊢
        exact (doWord_fn t c kind a b' old me 0 hk i ws (.sl (byts (w9 d))) r0 r1 f ho h.len).weakT (.cons (.refl _) (.cons (kX _ false) .nil))
  · have hme' : me < r0.length := hme
    have hr : r0[me]? = some r0[me] := List.getElem?_eq_getElem hme'
    have hs := h.str r0[me] (List.getElem_mem hme')
    generalize r0[me] = p at hr hs
    obtain ⟨x, s⟩ := p
    have hs : x.length ≤ b := hs
    unfold doX
    dsimp only
    rcases hk with rfl | rfl
    · cases f
      · simp only [hr, decide_true, Bool.true_or, cond_true, cond_false]
        exact (doDisk50_fn t c cell a b' 0 ws r0 r1 me x s (w9 d) (by decide) rfl hr h.rows (by omega)).weakT (.cons (.refl _) (.cons (kX 0 false) .nil))
      · exact (doFail5_fn t c cell a b' me 0 ws (.sl (byts (w9 d))) r0 r1).weakT (.cons (.refl _) (.cons (kX 0 true) .nil))
    · cases f
      · simp only [hr, decide_true, Bool.or_true, cond_true, cond_false]
        exact (doDisk60_fn t c cell a b' 0 ws r0 r1 me x s (.sl (byts (w9 d))) (by decide) rfl hr h.rows).weakT (.cons (.refl _) (.cons (kX 0 false) .nil))
      · exact (doFail6_fn t c cell a b' me 0 ws (.sl (byts (w9 d))) r0 r1).weakT (.cons (.refl _) (.cons (kX 0 true) .nil))
/-! ### A world's answers -/
def wSt (me : Nat) (fail : Nat → Bool) (s : Wd × Nat) (q : Ned) : Ans (Wd × Nat) := .ret (doX s.1 me q (fail s.2)).2 ((doX s.1 me q (fail s.2)).1, s.2 + 1)
theorem wSt_le {α : Type} {me : Nat} {fail : Nat → Bool} : ∀ {p : Pr α} {s : Wd × Nat} {x : α} {s' : Wd × Nat}, p.run (wSt me fail) s = .done x s' → s.2 ≤ s'.2
  | .ret _, _, _, _, h => by cases h; exact Nat.le_refl _
  | .stuck, _, _, _, h => by cases h
  | .ask q k, s, _, s', h => by
    rw [vG] at h
    have h2 := wSt_le (p := k _) h
    exact Nat.le_trans (Nat.le_succ _) h2
/-- what is left of a program behind a log -/
def Pr.after {α : Type} : Pr α → List xO → Option (Pr α)
  | p, [] => some p
  | .ask _ k, r :: L => (k r).after L
  | _, _ :: _ => none
theorem after_snoc {α : Type} {q : Ned} {k : xO → Pr α} (r : xO) : ∀ {L : List xO} {p : Pr α}, p.after L = some (.ask q k) → p.after (L ++ [r]) = some (k r)
  | [], p, h => by
    have : p = .ask q k := by cases p <;> exact Option.some.inj h
    subst this
    show (k r).after [] = some (k r)
    cases k r <;> rfl
  | x :: L, .ask q' k', h => after_snoc r (L := L) (p := k' x) h
  | x :: L, .ret _, h => by cases h
  | x :: L, .stuck, h => by cases h
theorem after_run {α : Type} {p' : Pr α} : ∀ {L L0 : List xO} {p : Pr α}, p.after L = some p' → p.run (xU (L0 ++ L)) L0.length = p'.run (xU (L0 ++ L)) (L0.length + L.length)
  | [], L0, p, h => by
    have : p = p' := by cases p <;> exact Option.some.inj h
    subst this
    simp
  | x :: L, L0, .ask q k, h => by
    have e : xU (L0 ++ x :: L) L0.length q = .ret x (L0.length + 1) := by unfold xU; simp
    rw [vG, e]
    have := after_run (L := L) (L0 := L0 ++ [x]) (p := k x) h
    simp only [List.append_assoc, List.singleton_append, List.length_append, List.length_cons, List.length_nil, Nat.zero_add] at this ⊢
    rw [this]
    congr 1
    omega
  | x :: L, _, .ret _, h => by cases h
  | x :: L, _, .stuck, h => by cases h
theorem after_need {α : Type} {p : Pr α} {L : List xO} {q : Ned} {k : xO → Pr α} (h : p.after L = some (.ask q k)) : p.run (xU L) 0 = .need q L.length := by
  have := after_run (L0 := []) h
  simp only [List.nil_append, List.length_nil, Nat.zero_add] at this
  rw [this, vG]
  have e : xU L L.length q = .need q L.length := by unfold xU; simp
  rw [e]
theorem after_done {α : Type} {p : Pr α} {L : List xO} {x : α} (h : p.after L = some (.ret x)) : p.run (xU L) 0 = .done x L.length := by
  have := after_run (L0 := []) h
  simp only [List.nil_append, List.length_nil, Nat.zero_add] at this
  rw [this, zN]
end Go.Proofs.YteadaggehndacaaDoor
/- Programs that step alone, on words as a function: what they answer, and what the words are behind them. Generic over the program. -/
namespace Go.Proofs.YteadaggehndacaaDoor
set_option maxRecDepth 100000
set_option maxHeartbeats 16000000
open Go Go.RowKit
set_option linter.unusedSimpArgs false
set_option linter.unusedVariables false
def okF (_ : Nat) : Bool := false
/-- a world of one thread, its words as a function -/
structure MemW (C : Nat) (W : Wd) (m : Int → Int) : Prop where
  t : W.t = 1
  len : W.ws.length = 9 + 8 * C
  at_ : ∀ c : Nat, c < 9 + 8 * C → W.ws[c]? = some (m c)
  st : 0 < W.r0.length
def vC (m : Int → Int) (c v : Int) : Int → Int := fun x => if x = c then v else m x
theorem kW (m : Int → Int) (c v : Int) : vC m c v c = v := by simp [vC]
theorem yQ (m : Int → Int) {c x : Int} (v : Int) (h : x ≠ c) : vC m c v x = m x := by simp [vC, h]
/-- a word that there is -/
structure InW (C : Nat) (c : Int) : Prop where
  lo : 0 ≤ c
  hi : c < 9 + 8 * C
theorem MemW.set {C : Nat} {W : Wd} {m : Int → Int} (h : MemW C W m) {c : Int} (hc : InW C c) (v : Int) : MemW C { W with ws := W.ws.set c.toNat v } (vC m c v) := by
  obtain ⟨n, rfl⟩ := Int.eq_ofNat_of_zero_le hc.lo
  have hn := hc.hi
  refine ⟨h.t, by show (W.ws.set _ v).length = _; rw [List.length_set]; exact h.len, fun k hk => ?_, h.st⟩
  show (W.ws.set n v)[k]? = _
  rw [List.getElem?_set]
  by_cases e : n = k
  · subst e
    rw [if_pos rfl, if_pos (by rw [h.len]; omega), kW]
  · rw [if_neg e, yQ _ _ (by omega)]
    exact h.at_ k hk
/-- alone, a program ends, within so many steps, so, and the words are those then -/
def Rns {α : Type} (C : Nat) (p : Pr α) (m : Int → Int) (x : α) (m' : Int → Int) (n : Nat) : Prop := ∀ W i, MemW C W m → ∃ W' j, p.run (wSt 0 okF) (W, i) = .done x (W', j) ∧ MemW C W' m' ∧ j ≤ i + n
/-- the same, the world staying as it is -/
def Rds {α : Type} (C : Nat) (p : Pr α) (m : Int → Int) (x : α) (n : Nat) : Prop := ∀ W i, MemW C W m → ∃ j, p.run (wSt 0 okF) (W, i) = .done x (W, j) ∧ j ≤ i + n
section
variable {α β : Type} {C : Nat} {m m1 m2 : Int → Int}
theorem Rns.ret (x : α) : Rns C (.ret x) m x m 0 := fun W i h => ⟨W, i, rfl, h, Nat.le_refl _⟩
theorem Rds.ret (x : α) : Rds C (.ret x) m x 0 := fun W i h => ⟨i, rfl, Nat.le_refl _⟩
theorem Rns.le {p : Pr α} {x : α} {a b : Nat} (h : Rns C p m x m1 a) (hab : a ≤ b) : Rns C p m x m1 b := fun W i hm => by
  obtain ⟨W', j, h1, h2, h3⟩ := h W i hm
  exact ⟨W', j, h1, h2, by omega⟩
theorem Rds.le {p : Pr α} {x : α} {a b : Nat} (h : Rds C p m x a) (hab : a ≤ b) : Rds C p m x b := fun W i hm => by
  obtain ⟨j, h1, h3⟩ := h W i hm
  exact ⟨j, h1, by omega⟩
theorem Rns.bind {p : Pr α} {f : α → Pr β} {x : α} {y : β} {a b : Nat} (h : Rns C p m x m1 a) (h2 : Rns C (f x) m1 y m2 b) : Rns C (p.bind f) m y m2 (a + b) := fun W i hm => by
  obtain ⟨W', j, e1, hm1, l1⟩ := h W i hm
  obtain ⟨W'', j', e2, hm2, l2⟩ := h2 W' j hm1
  exact ⟨W'', j', by rw [run_bind, e1, Held.zB, e2], hm2, by omega⟩
theorem Rds.bind {p : Pr α} {f : α → Pr β} {x : α} {y : β} {a b : Nat} (h : Rds C p m x a) (h2 : Rds C (f x) m y b) : Rds C (p.bind f) m y (a + b) := fun W i hm => by
  obtain ⟨j, e1, l1⟩ := h W i hm
  obtain ⟨j', e2, l2⟩ := h2 W j hm
  exact ⟨j', by rw [run_bind, e1, Held.zB, e2], by omega⟩
theorem Rds.goes {p : Pr α} {x : α} {a : Nat} (h : Rds C p m x a) : Rns C p m x m a := fun W i hm => by
  obtain ⟨j, e1, l1⟩ := h W i hm
  exact ⟨W, j, e1, hm, l1⟩
/-- an access of a word -/
theorem doX_word {W : Wd} (hm : MemW C W m) {k c a b : Int} (hk : 0 ≤ k ∧ k ≤ 4) (hc : InW C c) : doX W 0 (kJ k c a b xJ) false = ({ W with ws := W.ws.set c.toNat (xD k (m c) a b).2 }, ⟨(xD k (m c) a b).1, xJ, false⟩) := by
  obtain ⟨n, rfl⟩ := Int.eq_ofNat_of_zero_le hc.lo
  have hn := hc.hi
  have h5 : (decide (k = 5) || decide (k = 6)) = false := by
    rw [Bool.or_eq_false_iff, decide_eq_false_iff_not, decide_eq_false_iff_not]
    omega
  have h0 : decide ((n : Int) < 0) = false := decide_eq_false (by omega)
  have e := hm.at_ n (by omega)
  show (bif (decide (k = 5) || decide (k = 6)) then _ else _) = _
  rw [h5, cond_false]
  show (match (bif decide ((n : Int) < 0) then none else W.ws[((n : Nat) : Int).toNat]?) with | some old => _ | none => _) = _
  rw [h0, cond_false, Int.toNat_natCast, e]
  rfl
theorem Rns.askW {k c a b : Int} (hk : 0 ≤ k ∧ k ≤ 4) (hc : InW C c) {f : xO → Pr α} {x : α} {n : Nat} (h : Rns C (f ⟨(xD k (m c) a b).1, xJ, false⟩) (vC m c (xD k (m c) a b).2) x m1 n) : Rns C (.ask (kJ k c a b xJ) f) m x m1 (n + 1) := fun W i hm => by
  obtain ⟨W', j, e1, h1, l1⟩ := h _ (i + 1) (hm.set hc _)
  refine ⟨W', j, ?_, h1, by omega⟩
  rw [vG]
  show (f (doX W 0 (kJ k c a b xJ) false).2).run (wSt 0 okF) ((doX W 0 (kJ k c a b xJ) false).1, i + 1) = _
  rw [doX_word hm hk hc]
  exact e1
theorem Rds.load {c : Int} (hc : InW C c) : Rds C (wH c) m (m c) 1 := fun W i hm => by
  refine ⟨i + 1, ?_, Nat.le_refl _⟩
  show (Pr.ask (kJ 0 c 0 0 xJ) fun r => .ret r.n).run (wSt 0 okF) (W, i) = _
  rw [vG]
  show (Pr.ret (doX W 0 (kJ 0 c 0 0 xJ) false).2.n).run (wSt 0 okF) ((doX W 0 (kJ 0 c 0 0 xJ) false).1, i + 1) = _
  rw [doX_word hm (by decide) hc, zN]
  obtain ⟨n, rfl⟩ := Int.eq_ofNat_of_zero_le hc.lo
  have hn := hc.hi
  have e := hm.at_ n (by omega)
  have e2 : W.ws.set ((n : Nat) : Int).toNat (xD 0 (m n) 0 0).2 = W.ws := by
    rw [Int.toNat_natCast]
    show W.ws.set n (m n) = W.ws
    obtain ⟨hl, e3⟩ := List.getElem?_eq_some_iff.1 e
    rw [← e3]
    exact List.set_getElem_self hl
  rw [e2]
  rfl
theorem Rns.load {c : Int} (hc : InW C c) : Rns C (wH c) m (m c) m 1 := (Rds.load hc).goes
theorem Rns.store {c v : Int} (hc : InW C c) : Rns C (storeP c v) m () (vC m c v) 1 := .askW (by decide) hc (Rns.ret _)
theorem Rns.cas {c a b : Int} (hc : InW C c) (h : m c = a) : Rns C (casP c a b) m true (vC m c b) 1 := .askW (by decide) hc (by
  have e : xD 2 (m c) a b = (1, b) := by unfold xD; rw [h]; simp
  rw [e]
  exact Rns.ret _)
/-- accesses of the disk -/
theorem Rns.ask5 {bs : PV} {f : xO → Pr α} {x : α} {n : Nat} {k : Int} (hk : k = 5 ∨ k = 6) (h : Rns C (f ⟨0, xJ, false⟩) m x m1 n) : Rns C (.ask (kJ k 0 0 0 bs) f) m x m1 (n + 1) := fun W i hm => by
  have hd : ∃ r0, doX W 0 (kJ k 0 0 0 bs) false = ({ W with r0 := r0 }, ⟨0, xJ, false⟩) ∧ r0.length = W.r0.length := by
    have h5 : (decide (k = 5) || decide (k = 6)) = true := by rcases hk with rfl | rfl <;> rfl
    cases e : W.r0[0]? with
    | none =>
      refine ⟨W.r0, ?_, rfl⟩
      show (bif (decide (k = 5) || decide (k = 6)) then (bif false then _ else ({ W with r0 := match W.r0[0]? with | some p => _ | none => W.r0 }, _)) else _) = _
      rw [h5, e]
      rfl
    | some p =>
      refine ⟨W.r0.set 0 (strX k (w9 bs) p), ?_, List.length_set⟩
      show (bif (decide (k = 5) || decide (k = 6)) then (bif false then _ else ({ W with r0 := match W.r0[0]? with | some p => W.r0.set 0 (strX k (w9 bs) p) | none => W.r0 }, _)) else _) = _
      rw [h5, e]
      rfl
  obtain ⟨r0, e, hl⟩ := hd
  have hm2 : MemW C { W with r0 := r0 } m := ⟨hm.t, hm.len, hm.at_, by rw [show ({ W with r0 := r0 } : Wd).r0 = r0 from rfl, hl]; exact hm.st⟩
  obtain ⟨W', j, e1, h1, l1⟩ := h _ (i + 1) hm2
  refine ⟨W', j, ?_, h1, by omega⟩
  rw [vG]
  show (f (doX W 0 (kJ k 0 0 0 bs) false).2).run (wSt 0 okF) ((doX W 0 (kJ k 0 0 0 bs) false).1, i + 1) = _
  rw [e]
  exact e1
theorem Rns.loop {ι : Type} {body : ι → Pr (ι ⊕ α)} {f : Nat} {s : ι} {r : ι ⊕ α} {x : α} {a b : Nat} (h : Rns C (body s) m r m1 a) (h2 : Rns C (Sum.elim (Pr.loop body f) .ret r) m1 x m2 b) : Rns C (Pr.loop body (f + 1) s) m x m2 (a + b) := by
  rw [kG]
  exact h.bind h2
theorem Rds.loop {ι : Type} {body : ι → Pr (ι ⊕ α)} {f : Nat} {s : ι} {r : ι ⊕ α} {x : α} {a b : Nat} (h : Rds C (body s) m r a) (h2 : Rds C (Sum.elim (Pr.loop body f) .ret r) m x b) : Rds C (Pr.loop body (f + 1) s) m x (a + b) := by
  rw [kG]
  exact h.bind h2
/-- a bit is set -/
theorem Rns.setP {over : Int → Bool} {c b : Int} (hc : InW C c) (h : over (m c) = false) : Rns C (setP over c b) m () (vC m c (m c + b)) 2 := by
  have h1 : Rns C (vQ over c b ()) m (.inr ()) (vC m c (m c + b)) (1 + 1) := by
    unfold vQ
    refine (Rns.load hc).bind ?_
    rw [h, cond_false]
    exact (Rns.cas hc rfl).bind (b := 0) (Rns.ret _)
  exact Rns.loop (b := 0) h1 (Rns.ret _)
/-- a death is made durable -/
theorem Rns.saveD {x : Int} (hc : InW C (zF 1 x 2)) (h : qL (m (zF 1 x 2)) 2 = false) : Rns C (saveP 1 x 2) m true (vC m (zF 1 x 2) (m (zF 1 x 2) + 2)) 5 := by
  unfold saveP
  refine ((Rns.load hc).bind (b := 4) ?_).le (by decide)
  unfold restP
  rw [h, cond_false, show decide ((2 : Int) = 1) = false from rfl, cond_false]
  unfold wrP
  refine Rns.bind (a := 2) (b := 2) (x := true) (m1 := m) ?_ ?_
  · exact .ask5 (.inl rfl) (.ask5 (.inr rfl) (Rns.ret _))
  · rw [cond_true]
    refine Rns.bind (b := 0) (Rns.setP hc ?_) (Rns.ret _)
    unfold over2
    simp [h]
theorem Rns.saveD2 {x : Int} (hc : InW C (zF 1 x 2)) (h : qL (m (zF 1 x 2)) 2 = true) : Rns C (saveP 1 x 2) m true m 1 := by
  unfold saveP
  refine ((Rns.load hc).bind (b := 0) ?_).le (by decide)
  unfold restP
  rw [h, cond_true]
  exact Rns.ret _
/-- a record is given back -/
theorem Rns.retire {x : Int} (hc : InW C (zF 1 x 7)) (h7 : 6 < zF 1 x 7) (h0 : 0 ≤ m 3) : Rns C (retireP 1 x) m () (vC (vC m (zF 1 x 7) (m (wZ (m 3)))) (wZ (m 3)) x) 4 := by
  unfold retireP
  have hl : InW C (wZ (m 3)) := ⟨by unfold wZ; omega, by unfold wZ; omega⟩
  have hne : wZ (m 3) ≠ zF 1 x 7 := by unfold wZ; omega
  refine ((Rns.load ⟨by decide, by omega⟩).bind (b := 3) ?_).le (by decide)
  unfold retLoop
  refine Rns.loop (a := 3) (b := 0) (r := .inr ()) ?_ (Rns.ret _)
  unfold retRound
  refine ((Rns.load hl).bind (b := 2) ?_).le (by decide)
  refine (Rns.store hc).bind (b := 1) ?_
  exact (Rns.cas hl (yQ _ _ hne)).bind (b := 0) (Rns.ret _)
end
end Go.Proofs.YteadaggehndacaaDoor
/- The list in a memory: what searches do, alone. Generic over the program. -/
namespace Go.Proofs.YteadaggehndacaaDoor
set_option maxRecDepth 100000
set_option maxHeartbeats 16000000
open Go Go.RowKit
set_option linter.unusedSimpArgs false
set_option linter.unusedVariables false
def hd : List (Int × Bool) → Int
  | [] => 0
  | (x, _) :: _ => x
def bI (b : Bool) : Int := bif b then 1 else 0
def nms (l : List (Int × Bool)) : List Int := l.map Prod.fst
/-- a list's records, and whether they are marked, from a record on -/
def Lnk (C : Nat) (m : Int → Int) : Int → Bool → List (Int × Bool) → Prop
  | p, k, [] => m (yC 1 p) = bI k
  | p, k, (x, b) :: l => m (yC 1 p) = 2 * x + bI k ∧ (1 ≤ x ∧ x ≤ C) ∧ Lnk C m x b l
/-- what turned: next words of S, flags of T -/
structure Aft (m m' : Int → Int) (S T : List Int) : Prop where
  f : ∀ r f : Int, 1 ≤ r → 1 ≤ f → f ≤ 6 → f ≠ 2 → m' (zF 1 r f) = m (zF 1 r f)
  g : ∀ r : Int, 1 ≤ r → m' (zF 1 r 2) = m (zF 1 r 2) + (if r ∈ T then 2 else 0)
  e : m' 3 = m 3
  n : ∀ r : Int, 0 ≤ r → r ∉ S → m' (yC 1 r) = m (yC 1 r)
theorem Aft.refl (m : Int → Int) (S : List Int) : Aft m m S [] := ⟨fun _ _ _ _ _ _ => rfl, fun _ _ => by simp, rfl, fun _ _ _ => rfl⟩
theorem Aft.trans {m m1 m2 : Int → Int} {S1 S2 S T1 T2 : List Int} (h1 : Aft m m1 S1 T1) (h2 : Aft m1 m2 S2 T2) (hS1 : ∀ r ∈ S1, r ∈ S) (hS2 : ∀ r ∈ S2, r ∈ S) (hT : ∀ r ∈ T1, r ∉ T2) : Aft m m2 S (T1 ++ T2) := by
  refine ⟨fun r f a b c d => (h2.f r f a b c d).trans (h1.f r f a b c d), fun r hr => ?_, h2.e.trans h1.e, fun r hr hs => (h2.n r hr fun h => hs (hS2 r h)).trans (h1.n r hr fun h => hs (hS1 r h))⟩
  rw [h2.g r hr, h1.g r hr]
  by_cases a : r ∈ T1
  · rw [if_pos a, if_neg (hT r a), if_pos (List.mem_append.2 (.inl a))]; omega
  · by_cases b : r ∈ T2
    · rw [if_neg a, if_pos b, if_pos (List.mem_append.2 (.inr b))]; omega
    · rw [if_neg a, if_neg b, if_neg (fun h => (List.mem_append.1 h).elim a b)]; omega
theorem Lnk.keep {C : Nat} {m m' : Int → Int} : ∀ {l : List (Int × Bool)} {p : Int} {k : Bool}, Lnk C m p k l → (∀ r, r = p ∨ r ∈ nms l → m' (yC 1 r) = m (yC 1 r)) → Lnk C m' p k l
  | [], p, k, h, hn => (hn p (.inl rfl)).trans h
  | (x, b) :: l, p, k, h, hn => ⟨(hn p (.inl rfl)).trans h.1, h.2.1, Lnk.keep h.2.2 fun r hr => hn r (.inr (by
      rcases hr with rfl | hr
      · exact List.mem_cons_self ..
      · exact List.mem_cons_of_mem _ hr))⟩
theorem Lnk.word {C : Nat} {m : Int → Int} {l : List (Int × Bool)} {p : Int} {k : Bool} (h : Lnk C m p k l) : m (yC 1 p) = 2 * hd l + bI k := by
  cases l with
  | nil => have h : m (yC 1 p) = bI k := h; rw [h]; simp [hd]
  | cons a l => exact h.1
theorem Lnk.hd_le {C : Nat} {m : Int → Int} {l : List (Int × Bool)} {p : Int} {k : Bool} (h : Lnk C m p k l) : 0 ≤ hd l ∧ hd l ≤ C := by
  cases l with
  | nil => simp [hd]
  | cons a l => have := h.2.1; exact ⟨by show (0 : Int) ≤ a.1; omega, this.2⟩
theorem Lnk.pos {C : Nat} {m : Int → Int} : ∀ {l : List (Int × Bool)} {p : Int} {k : Bool}, Lnk C m p k l → ∀ y ∈ nms l, 1 ≤ y
  | [], _, _, _, y, hy => absurd hy (by simp [nms])
  | (x, b) :: l, p, k, h, y, hy => by
    rcases List.mem_cons.1 hy with rfl | hy
    · exact h.2.1.1
    · exact Lnk.pos h.2.2 y hy
theorem bI_lt (b : Bool) : 0 ≤ bI b ∧ bI b ≤ 1 := by cases b <;> decide
theorem refW_of {x : Int} {b : Bool} (h : 0 ≤ x) (h2 : x ≤ 100000) : xL (2 * x + bI b) = x := by
  have := bI_lt b
  unfold xL
  omega
theorem odd_of (x : Int) (b : Bool) : decide ((2 * x + bI b) % 2 = 1) = b := by
  cases b
  · exact decide_eq_false (by show ¬ (2 * x + 0) % 2 = 1; omega)
  · exact decide_eq_true (by show (2 * x + 1) % 2 = 1; omega)
theorem inF {C : Nat} {x f : Int} (h : 1 ≤ x ∧ x ≤ C) (hf : 0 ≤ f ∧ f ≤ 7) : InW C (zF 1 x f) := ⟨by unfold zF; omega, by unfold zF; omega⟩
theorem nx_pos {x : Int} (h : 1 ≤ x) : yC 1 x = zF 1 x 0 := nextF_pos 1 (decide_eq_false (by omega))
theorem wF (r : Int) : yC 1 r = if r = 0 then 0 else 8 * r + 1 := by
  unfold yC zF
  by_cases h : r = 0
  · subst h; rfl
  · rw [decide_eq_false h, if_neg h, cond_false]; omega
theorem inN {C : Nat} {x : Int} (h : 0 ≤ x ∧ x ≤ C) : InW C (yC 1 x) := by
  rw [wF]
  split
  · exact ⟨by omega, by omega⟩
  · exact ⟨by omega, by omega⟩
theorem nx_inj {r s : Int} (hr : 0 ≤ r) (hs : 0 ≤ s) (h : yC 1 r = yC 1 s) : r = s := by
  rw [wF, wF] at h
  split at h <;> split at h <;> omega
theorem y9 (r f : Int) : zF 1 r f = 8 * r + 1 + f := by unfold zF; omega
def takeA (m : Int → Int) (p x y : Int) : Int → Int := vC (vC m (zF 1 x 2) (m (zF 1 x 2) + 2)) (yC 1 p) (2 * y)
def takeM (m : Int → Int) (p x y : Int) : Int → Int := vC (vC (takeA m p x y) (zF 1 x 7) (takeA m p x y (wZ (takeA m p x y 3)))) (wZ (takeA m p x y 3)) x
theorem takeA_3 (m : Int → Int) (p x y : Int) (hp : 0 ≤ p) (hx : 1 ≤ x) : takeA m p x y 3 = m 3 := by
  unfold takeA
  rw [yQ _ _ (by rw [wF]; split <;> omega), yQ _ _ (by rw [y9]; omega)]
/-- what is marked is taken out -/
theorem Rns.take {C : Nat} (hC : C ≤ 100000) {m : Int → Int} {p x w : Int} {l : List (Int × Bool)} (hp : 0 ≤ p ∧ p ≤ C) (hx : 1 ≤ x ∧ x ≤ C) (hpx : p ≠ x) (h1 : m (yC 1 p) = 2 * x) (hw : w = 2 * hd l + 1) (hl : 0 ≤ hd l ∧ hd l ≤ C) (hf : qL (m (zF 1 x 2)) 2 = false) (h3 : 0 ≤ m 3) :
    ∃ m', Rns C (qR 1 p x w) m (endW p (hd l)) m' 10 ∧ Aft m m' [p] [x] ∧ m' (yC 1 p) = 2 * hd l := by
  have hr : xL w = hd l := by rw [hw]; exact refW_of (b := true) hl.1 (by omega)
  have a1 := takeA_3 m p x (hd l) hp.1 hx.1
  refine ⟨takeM m p x (hd l), ?_, ⟨fun r f a b c d => ?_, fun r a => ?_, ?_, fun r a b => ?_⟩, ?_⟩
  · unfold qR takeP
    refine Rns.bind (a := 10) (b := 0) (x := .done) (m1 := takeM m p x (hd l)) (Rns.bind (a := 5) (b := 5) (m2 := takeM m p x (hd l)) (Rns.saveD (inF hx (by decide)) hf) ?_) ?_
    · rw [cond_true, hr]
      refine Rns.bind (a := 1) (b := 4) (Rns.cas (inN hp) (by rw [yQ _ _ (by rw [wF, y9]; split <;> omega)]; exact h1)) ?_
      rw [cond_true]
      exact (Rns.retire (m := takeA m p x (hd l)) (inF hx (by decide)) (by rw [y9]; omega) (by rw [a1]; exact h3)).bind (b := 0) (Rns.ret _)
    · unfold tookR
      rw [hr]
      exact Rns.ret _
  · unfold takeM
    rw [a1, yQ _ _ (by rw [y9]; unfold wZ; omega), yQ _ _ (by rw [y9, y9]; omega)]
    unfold takeA
    rw [yQ _ _ (by rw [y9, wF]; split <;> omega), yQ _ _ (by rw [y9, y9]; omega)]
  · unfold takeM
    rw [a1, yQ _ _ (by rw [y9]; unfold wZ; omega), yQ _ _ (by rw [y9, y9]; omega)]
    unfold takeA
    rw [yQ _ _ (by rw [y9, wF]; split <;> omega)]
    by_cases e : r = x
    · subst e
      rw [kW, if_pos (by simp)]
    · rw [yQ _ _ (by rw [y9, y9]; omega), if_neg (by simpa using e)]
      omega
  · unfold takeM
    rw [yQ _ _ (by unfold wZ; omega), yQ _ _ (by rw [y9]; omega)]
    exact a1
  · have b : r ≠ p := by simpa using b
    have e1 : yC 1 r ≠ yC 1 p := fun h => b (nx_inj a hp.1 h)
    unfold takeM
    rw [a1, yQ _ _ (by rw [wF]; unfold wZ; split <;> omega), yQ _ _ (by rw [wF, y9]; split <;> omega)]
    unfold takeA
    rw [yQ _ _ e1, yQ _ _ (by rw [wF, y9]; split <;> omega)]
  · unfold takeM
    rw [a1, yQ _ _ (by rw [wF]; unfold wZ; split <;> omega), yQ _ _ (by rw [wF, y9]; split <;> omega)]
    unfold takeA
    rw [kW]
/-! ### What a search answers, what it leaves, and what it takes out -/
def srch (key : Int → Int) (k : Int) : Int → List (Int × Bool) → wL
  | p, [] => ⟨p, 0, false, true⟩
  | p, (x, b) :: l => bif b then srch key k p l else bif decide (k ≤ key x) then ⟨p, x, decide (key x = k), true⟩ else srch key k x l
def qU (key : Int → Int) (k : Int) : List (Int × Bool) → List (Int × Bool)
  | [] => []
  | (x, b) :: l => bif b then qU key k l else bif decide (k ≤ key x) then (x, b) :: l else (x, b) :: qU key k l
def srchT (key : Int → Int) (k : Int) : List (Int × Bool) → List Int
  | [] => []
  | (x, b) :: l => bif b then x :: srchT key k l else bif decide (k ≤ key x) then [] else srchT key k l
theorem srch_ok (key : Int → Int) (k : Int) : ∀ (l : List (Int × Bool)) (p : Int), (srch key k p l).ok = true
  | [], _ => rfl
  | (x, true) :: l, p => srch_ok key k l p
  | (x, false) :: l, p => by
    show (bif decide (k ≤ key x) then (⟨p, x, decide (key x = k), true⟩ : wL) else srch key k x l).ok = true
    cases decide (k ≤ key x)
    · exact srch_ok key k l x
    · rfl
theorem kI (key : Int → Int) (k : Int) : ∀ (l : List (Int × Bool)), ∀ x ∈ srchT key k l, x ∈ nms l
  | [], x, h => h
  | (y, true) :: l, x, h => by
    rcases List.mem_cons.1 (show x ∈ y :: srchT key k l from h) with rfl | h
    · exact List.mem_cons_self ..
    · exact List.mem_cons_of_mem _ (kI key k l x h)
  | (y, false) :: l, x, h => by
    have h : x ∈ (bif decide (k ≤ key y) then [] else srchT key k l) := h
    cases e : decide (k ≤ key y) with
    | true => rw [e] at h; exact absurd h (by simp)
    | false => rw [e] at h; exact List.mem_cons_of_mem _ (kI key k l x h)
theorem search_from {C : Nat} (hC : C ≤ 100000) {key : Int → Int} (k : Int) : ∀ {l : List (Int × Bool)} {p : Int} {m : Int → Int} {n : Nat}, Lnk C m p false l → 0 ≤ p ∧ p ≤ C → (p :: nms l).Nodup → (∀ x ∈ nms l, qL (m (zF 1 x 2)) 2 = false) → 0 ≤ m 3 → (∀ r, 1 ≤ r → m (zF 1 r 1) = key r) → l.length < n →
    ∃ m', Rns C (contL 1 (xC 1 k) n p (hd l)) m (srch key k p l) m' (11 * l.length) ∧ Aft m m' (p :: nms l) (srchT key k l) ∧ Lnk C m' p false (qU key k l)
  | [], p, m, n, h, hp, hnd, hf, h3, hk, hn => ⟨m, Rns.ret _, Aft.refl _ _, h⟩
  | (x, b) :: l, p, m, n + 1, h, hp, hnd, hf, h3, hk, hn => by
    obtain ⟨h1, hx, h2⟩ := h
    have hn' : l.length < n := by simp at hn; omega
    have hlw := h2.word
    have hle := h2.hd_le
    have hx0 : decide (x = 0) = false := decide_eq_false (by omega)
    have hnd' : (p :: x :: nms l).Nodup := hnd
    obtain ⟨q1, q2⟩ := List.nodup_cons.1 hnd'
    obtain ⟨hndx, hndl⟩ := List.nodup_cons.1 q2
    have hnd1 : p ≠ x := fun e => q1 (e ▸ List.mem_cons_self ..)
    have hndp : p ∉ nms l := fun e => q1 (List.mem_cons_of_mem _ e)
    have hsl : ∀ y ∈ nms l, 1 ≤ y := fun y hy => Lnk.pos h2 y hy
    have e0 : contL 1 (xC 1 k) (n + 1) p (hd ((x, b) :: l)) = Pr.loop (yB 1 (xC 1 k)) (n + 1) (some (p, x)) := by
      show (bif decide (x = 0) then _ else _) = _
      rw [hx0]; rfl
    have ew : m (zF 1 x 0) = 2 * hd l + bI b := by rw [← nx_pos hx.1]; exact hlw
    rw [e0]
    cases b with
    | true =>
      obtain ⟨m1, t1, t2, t3⟩ := Rns.take hC hp hx hnd1 (by rw [h1]; show 2 * x + 0 = _; omega) (w := 2 * hd l + 1) rfl hle (hf x (List.mem_cons_self ..)) h3
      have hl1 : Lnk C m1 p false l := by
        cases l with
        | nil => exact t3
        | cons a l =>
          obtain ⟨y, b2⟩ := a
          refine ⟨by rw [t3]; show 2 * y = 2 * y + 0; omega, h2.2.1, Lnk.keep h2.2.2 fun r hr => t2.n r (by
            rcases hr with rfl | hr
            · have := h2.2.1; omega
            · have := hsl r (List.mem_cons_of_mem _ hr); omega) (fun h => ?_)⟩
          have h := List.mem_singleton.1 h
          subst h
          rcases hr with rfl | hr
          · exact hndp (List.mem_cons_self ..)
          · exact hndp (List.mem_cons_of_mem _ hr)
      obtain ⟨m2, u1, u2, u3⟩ := search_from hC k (n := n) hl1 hp (List.nodup_cons.2 ⟨hndp, hndl⟩) (fun y hy => by
        rw [t2.g y (hsl y hy), if_neg (fun h => by have h := List.mem_singleton.1 h; subst h; exact hndx hy), Int.add_zero]
        exact hf y (List.mem_cons_of_mem _ hy)) (by rw [t2.e]; exact h3) (fun r hr => (t2.f r 1 hr (by decide) (by decide) (by decide)).trans (hk r hr)) hn'
      refine ⟨m2, ?_, Aft.trans t2 u2 (fun r hr => by have hr := List.mem_singleton.1 hr; subst hr; exact List.mem_cons_self ..) (fun r hr => by
        rcases List.mem_cons.1 hr with rfl | hr
        · exact List.mem_cons_self ..
        · exact List.mem_cons_of_mem _ (List.mem_cons_of_mem _ hr)) (fun r hr hr2 => by
        have hr := List.mem_singleton.1 hr
        subst hr
        exact hndx (kI key k l r hr2)), u3⟩
      refine (Rns.loop (a := 11) (b := 11 * l.length) (m1 := m1) (r := endW p (hd l)) ?_ ?_).le (by simp; omega)
      · show Rns C ((wH (zF 1 x 0)).bind fun w => bif decide (w % 2 = 1) then qR 1 p x w else xC 1 k p x w) m _ m1 11
        refine (Rns.load (inF hx (by decide))).bind (b := 10) ?_
        rw [ew, odd_of, cond_true]
        exact t1
      · rw [vI]; exact u1
    | false =>
      have hr : xL (2 * hd l + bI false) = hd l := refW_of hle.1 (by omega)
      have rd : Rns C (yB 1 (xC 1 k) (some (p, x))) m (bif decide (k ≤ key x) then .inr ⟨p, x, decide (key x = k), true⟩ else endW x (hd l)) m 2 := by
        show Rns C ((wH (zF 1 x 0)).bind fun w => bif decide (w % 2 = 1) then qR 1 p x w else xC 1 k p x w) m _ m 2
        refine (Rns.load (inF hx (by decide))).bind (b := 1) ?_
        rw [ew, odd_of, cond_false]
        unfold xC
        refine (Rns.load (inF hx (by decide))).bind (b := 0) ?_
        rw [hk x hx.1, hr]
        cases decide (k ≤ key x)
        · exact Rns.ret _
        · exact Rns.ret _
      cases e : decide (k ≤ key x) with
      | true =>
        have e1 : srch key k p ((x, false) :: l) = ⟨p, x, decide (key x = k), true⟩ := by
          show (bif decide (k ≤ key x) then _ else _) = _
          rw [e]; rfl
        have e2 : qU key k ((x, false) :: l) = (x, false) :: l := by
          show (bif decide (k ≤ key x) then _ else _) = _
          rw [e]; rfl
        have e3 : srchT key k ((x, false) :: l) = [] := by
          show (bif decide (k ≤ key x) then _ else _) = _
          rw [e]; rfl
        rw [e1, e2, e3]
        rw [e, cond_true] at rd
        exact ⟨m, (Rns.loop (b := 0) rd (Rns.ret _)).le (by simp; omega), Aft.refl _ _, h1, hx, h2⟩
      | false =>
        have e1 : srch key k p ((x, false) :: l) = srch key k x l := by
          show (bif decide (k ≤ key x) then _ else _) = _
          rw [e]; rfl
        have e2 : qU key k ((x, false) :: l) = (x, false) :: qU key k l := by
          show (bif decide (k ≤ key x) then _ else _) = _
          rw [e]; rfl
        have e3 : srchT key k ((x, false) :: l) = srchT key k l := by
          show (bif decide (k ≤ key x) then _ else _) = _
          rw [e]; rfl
        rw [e1, e2, e3]
        rw [e, cond_false] at rd
        obtain ⟨m2, u1, u2, u3⟩ := search_from hC k (n := n) h2 ⟨by omega, hx.2⟩ (List.nodup_cons.2 ⟨hndx, hndl⟩) (fun y hy => hf y (List.mem_cons_of_mem _ hy)) h3 hk hn'
        refine ⟨m2, (Rns.loop (a := 2) (b := 11 * l.length) rd (by rw [vI]; exact u1)).le (by simp; omega), ⟨u2.f, u2.g, u2.e, fun r a b => u2.n r a fun h => b (List.mem_cons_of_mem _ h)⟩, ?_, hx, u3⟩
        rw [u2.n p hp.1 (fun h => (List.mem_cons.1 h).elim hnd1 hndp)]
        exact h1
theorem search_run {C : Nat} (hC : C ≤ 100000) {key : Int → Int} (k : Int) {l : List (Int × Bool)} {m : Int → Int} (h : Lnk C m 0 false l) (hnd : (0 :: nms l).Nodup) (hf : ∀ x ∈ nms l, qL (m (zF 1 x 2)) 2 = false) (h3 : 0 ≤ m 3) (hk : ∀ r, 1 ≤ r → m (zF 1 r 1) = key r) (hl : l.length < 1000000) :
    ∃ m', Rns C (kU 1 k) m (srch key k 0 l) m' (1 + 11 * l.length) ∧ Aft m m' (0 :: nms l) (srchT key k l) ∧ Lnk C m' 0 false (qU key k l) := by
  obtain ⟨m', u1, u2, u3⟩ := search_from hC k (n := 1000000) h ⟨by omega, by omega⟩ hnd hf h3 hk hl
  refine ⟨m', ?_, u2, u3⟩
  unfold kU
  refine Rns.bind (a := 1 + 11 * l.length) (b := 0) (x := srch key k 0 l) (m1 := m') ?_ ?_
  · show Rns C (Pr.loop (yB 1 (xC 1 k)) (1000000 + 1) none) m _ m' _
    refine Rns.loop (r := endW 0 (hd l)) (m1 := m) ?_ (by rw [vI]; exact u1)
    refine (Rns.load ⟨by decide, by omega⟩).bind (b := 0) ?_
    have hw : m 0 = 2 * hd l + bI false := h.word
    rw [hw, refW_of h.hd_le.1 (by have := h.hd_le; omega)]
    exact Rns.ret _
  · rw [srch_ok, cond_true]
    exact Rns.ret _
end Go.Proofs.YteadaggehndacaaDoor
/- The list in a memory: what seeks and sweeps do, alone. Generic over the program. -/
namespace Go.Proofs.YteadaggehndacaaDoor
set_option maxRecDepth 100000
set_option maxHeartbeats 16000000
open Go Go.RowKit
set_option linter.unusedSimpArgs false
set_option linter.unusedVariables false
/-! ### A seek from the beginning -/
def sekN (key : Int → Int) (k : Int) : List (Int × Bool) → Int × Bool
  | [] => (0, false)
  | (x, _) :: l => bif decide (k ≤ key x) then (x, decide (key x = k)) else sekN key k l
theorem seek_from {C : Nat} (hC : C ≤ 100000) {key : Int → Int} {m : Int → Int} (hk : ∀ r, 1 ≤ r → m (zF 1 r 1) = key r) (k : Int) : ∀ {l : List (Int × Bool)} {p : Int} {b : Bool} {n : Nat}, Lnk C m p b l → l.length < n → Rds C (contS 1 k n (hd l)) m (sekN key k l) (2 * l.length)
  | [], p, b, n, h, hn => Rds.ret _
  | (x, b) :: l, p, b0, n + 1, h, hn => by
    obtain ⟨h1, hx, h2⟩ := h
    have hn' : l.length < n := by simp at hn; omega
    have hx0 : decide (x = 0) = false := decide_eq_false (by omega)
    have ew : m (zF 1 x 0) = 2 * hd l + bI b := by rw [← nx_pos hx.1]; exact h2.word
    have e0 : contS 1 k (n + 1) (hd ((x, b) :: l)) = Pr.loop (vX 1 k) (n + 1) x := by
      show (bif decide (x = 0) then _ else _) = _
      rw [hx0]; rfl
    have e1 : sekN key k ((x, b) :: l) = bif decide (k ≤ key x) then (x, decide (key x = k)) else sekN key k l := rfl
    rw [e0, e1]
    cases e : decide (k ≤ key x) with
    | true =>
      refine (Rds.loop (a := 1) (b := 0) (r := .inr (x, decide (key x = k))) ?_ (Rds.ret _)).le (by simp; omega)
      unfold vX
      refine (Rds.load (inF hx (by decide))).bind (b := 0) ?_
      rw [hk x hx.1, e, cond_true]
      exact Rds.ret _
    | false =>
      refine (Rds.loop (a := 2) (b := 2 * l.length) (r := endS (hd l)) ?_ ?_).le (by simp; omega)
      · unfold vX
        refine (Rds.load (inF hx (by decide))).bind (b := 1) ?_
        rw [hk x hx.1, e, cond_false]
        refine (Rds.load (inF hx (by decide))).bind (b := 0) ?_
        rw [ew, refW_of h2.hd_le.1 (by have := h2.hd_le; omega)]
        exact Rds.ret _
      · rw [contS_eq, cond_false]
        exact seek_from hC hk k h2 hn'
theorem seek_run {C : Nat} (hC : C ≤ 100000) {key : Int → Int} {m : Int → Int} (hk : ∀ r, 1 ≤ r → m (zF 1 r 1) = key r) (k : Int) {l : List (Int × Bool)} (h : Lnk C m 0 false l) (hl : l.length < 1000000) : Rds C (seekP 1 0 k) m (sekN key k l) (1 + 2 * l.length) := by
  have hw : m 0 = 2 * hd l + bI false := h.word
  unfold seekP
  refine (Rds.load (c := yC 1 0) ⟨by decide, by show (0 : Int) < _; omega⟩).bind ?_
  have hw2 : xL (m (yC 1 0)) = hd l := by
    show xL (m 0) = hd l
    rw [hw]
    exact refW_of h.hd_le.1 (by have := h.hd_le; omega)
  rw [hw2]
  have e := seek_from hC hk k (n := 1000001) h (by omega)
  unfold contS at e
  exact e
/-! ### A sweep: what stays, and what is taken out -/
/-- is a record, that isn't marked, to go? -/
def gone (m : Int → Int) (s x : Int) : Bool := !decide (m (zF 1 x 1) % 2147483648 = 0) && (decide (m (zF 1 x 4) = s) || decide (m (zF 1 x 5) = s))
def swpL (g : Int → Bool) : List (Int × Bool) → List (Int × Bool)
  | [] => []
  | (x, b) :: l => bif b || g x then swpL g l else (x, b) :: swpL g l
def swpT (g : Int → Bool) : List (Int × Bool) → List Int
  | [] => []
  | (x, b) :: l => bif b || g x then x :: swpT g l else swpT g l
theorem swpT_sub (g : Int → Bool) : ∀ (l : List (Int × Bool)), ∀ x ∈ swpT g l, x ∈ nms l
  | [], x, h => h
  | (y, b) :: l, x, h => by
    have h : x ∈ (bif b || g y then y :: swpT g l else swpT g l) := h
    cases e : b || g y with
    | true =>
      rw [e] at h
      rcases List.mem_cons.1 h with rfl | h
      · exact List.mem_cons_self ..
      · exact List.mem_cons_of_mem _ (swpT_sub g l x h)
    | false => rw [e] at h; exact List.mem_cons_of_mem _ (swpT_sub g l x h)
/-- a record is taken out, whose death is durable -/
theorem Rns.cut {C : Nat} (hC : C ≤ 100000) {m : Int → Int} {p x y : Int} (hp : 0 ≤ p ∧ p ≤ C) (hx : 1 ≤ x ∧ x ≤ C) (h1 : m (yC 1 p) = 2 * x) (hf : qL (m (zF 1 x 2)) 2 = true) (h3 : 0 ≤ m 3) {w : Int} (hw : xL w = y) :
    ∃ m', Rns C (qR 1 p x w) m (endW p y) m' 6 ∧ Aft m m' [p] [] ∧ m' (yC 1 p) = 2 * y := by
  have a1 : vC m (yC 1 p) (2 * y) 3 = m 3 := yQ _ _ (by rw [wF]; split <;> omega)
  generalize hm2 : vC m (yC 1 p) (2 * y) = m2 at a1
  refine ⟨vC (vC m2 (zF 1 x 7) (m2 (wZ (m2 3)))) (wZ (m2 3)) x, ?_, ⟨fun r f a b c d => ?_, fun r a => ?_, ?_, fun r a b => ?_⟩, ?_⟩
  · unfold qR takeP
    refine Rns.bind (a := 6) (b := 0) (x := .done) (m1 := vC (vC m2 (zF 1 x 7) (m2 (wZ (m2 3)))) (wZ (m2 3)) x) (Rns.bind (a := 1) (b := 5) (m2 := vC (vC m2 (zF 1 x 7) (m2 (wZ (m2 3)))) (wZ (m2 3)) x) (Rns.saveD2 (inF hx (by decide)) hf) ?_) ?_
    · rw [cond_true, hw]
      refine Rns.bind (a := 1) (b := 4) (m1 := m2) (by rw [← hm2]; exact Rns.cas (inN hp) h1) ?_
      rw [cond_true]
      exact (Rns.retire (m := m2) (inF hx (by decide)) (by rw [y9]; omega) (by rw [a1]; exact h3)).bind (b := 0) (Rns.ret _)
    · unfold tookR
      rw [hw]
      exact Rns.ret _
  · rw [a1, yQ _ _ (by rw [y9]; unfold wZ; omega), yQ _ _ (by rw [y9, y9]; omega), ← hm2, yQ _ _ (by rw [y9, wF]; split <;> omega)]
  · rw [a1, yQ _ _ (by rw [y9]; unfold wZ; omega), yQ _ _ (by rw [y9, y9]; omega), ← hm2, yQ _ _ (by rw [y9, wF]; split <;> omega), if_neg (by simp)]
    omega
  · rw [yQ _ _ (by unfold wZ; omega), yQ _ _ (by rw [y9]; omega)]
    exact a1
  · have b : r ≠ p := by simpa using b
    have e1 : yC 1 r ≠ yC 1 p := fun h => b (nx_inj a hp.1 h)
    rw [a1, yQ _ _ (by rw [wF]; unfold wZ; split <;> omega), yQ _ _ (by rw [wF, y9]; split <;> omega), ← hm2, yQ _ _ e1]
  · rw [a1, yQ _ _ (by rw [wF]; unfold wZ; split <;> omega), yQ _ _ (by rw [wF, y9]; split <;> omega), ← hm2, kW]
/-- the list behind a record that was taken out -/
theorem Lnk.cut {C : Nat} {m m1 : Int → Int} {p x : Int} {b : Bool} {l : List (Int × Bool)} {T : List Int} {S : List Int} (h2 : Lnk C m x b l) (hn : ∀ r ∈ nms l, r ∉ S) (h : Aft m m1 S T) (hp : m1 (yC 1 p) = 2 * hd l) : Lnk C m1 p false l := by
  cases l with
  | nil => exact hp
  | cons a l =>
    obtain ⟨y, b2⟩ := a
    refine ⟨by rw [hp]; show 2 * y = 2 * y + 0; omega, h2.2.1, Lnk.keep h2.2.2 fun r hr => h.n r ?_ (hn r ?_)⟩
    · rcases hr with rfl | hr
      · have := h2.2.1; omega
      · have := Lnk.pos h2 r (List.mem_cons_of_mem _ hr); omega
    · rcases hr with rfl | hr
      · exact List.mem_cons_self ..
      · exact List.mem_cons_of_mem _ hr
theorem has_2 {f : Int} (h : qL f 2 = false) : qL (f + 2) 2 = true := by
  unfold qL at h ⊢
  simp at h ⊢
  omega
/-- what a sweep does at a record that isn't marked -/
theorem sweepIn_stay {C : Nat} {m : Int → Int} {s x w : Int} (hx : 1 ≤ x ∧ x ≤ C) (h : gone m s x = false) : Rns C (sweepIn 1 s x w) m false m 3 := by
  unfold gone at h
  unfold sweepIn
  refine ((Rns.load (inF hx (by decide))).bind (b := 2) ?_).le (by decide)
  cases e : decide (m (zF 1 x 1) % 2147483648 = 0) with
  | true => exact (Rns.ret _).le (by decide)
  | false =>
    rw [e, Bool.not_false, Bool.true_and, Bool.or_eq_false_iff] at h
    rw [cond_false]
    refine ((Rns.load (inF hx (by decide))).bind (b := 1) ?_).le (by decide)
    refine ((Rns.load (inF hx (by decide))).bind (b := 0) ?_).le (by decide)
    rw [h.1, h.2]
    exact Rns.ret _
theorem sweepIn_go {C : Nat} {m : Int → Int} {s x w : Int} (hx : 1 ≤ x ∧ x ≤ C) (h : gone m s x = true) (hw : m (yC 1 x) = w) (hf : qL (m (zF 1 x 2)) 2 = false) : Rns C (sweepIn 1 s x w) m true (vC (vC m (yC 1 x) (w + 1)) (zF 1 x 2) (m (zF 1 x 2) + 2)) 6 := by
  unfold gone at h
  unfold sweepIn
  rw [Bool.and_eq_true, Bool.not_eq_true'] at h
  refine ((Rns.load (inF hx (by decide))).bind (b := 5) ?_).le (by decide)
  rw [h.1, cond_false]
  refine ((Rns.load (inF hx (by decide))).bind (b := 4) ?_).le (by decide)
  refine ((Rns.load (inF hx (by decide))).bind (b := 3) ?_).le (by decide)
  have e : (!decide (m (zF 1 x 4) = s) && !decide (m (zF 1 x 5) = s)) = false := by rw [← Bool.not_or, h.2]; rfl
  rw [e, cond_false]
  have e2 : vC m (yC 1 x) (w + 1) (zF 1 x 2) = m (zF 1 x 2) := yQ _ _ (by rw [wF, y9]; split <;> omega)
  refine Rns.bind (a := 1) (b := 2) (Rns.cas (inN ⟨by omega, hx.2⟩) hw) ?_
  rw [cond_true, ← e2]
  exact (Rns.setP (inF hx (by decide)) (by rw [e2]; exact hf)).bind (b := 0) (Rns.ret _)
theorem sweep_from {C : Nat} (hC : C ≤ 100000) (s : Int) {g : Int → Bool} : ∀ {l : List (Int × Bool)} {p : Int} {m : Int → Int} {n : Nat}, Lnk C m p false l → 0 ≤ p ∧ p ≤ C → (p :: nms l).Nodup → (∀ x ∈ nms l, qL (m (zF 1 x 2)) 2 = false) → 0 ≤ m 3 → (∀ x ∈ nms l, gone m s x = g x) → 2 * l.length < n →
    ∃ m' r, Rns C (contL 1 (xA 1 s) n p (hd l)) m r m' (14 * l.length) ∧ r.ok = true ∧ Aft m m' (p :: nms l) (swpT g l) ∧ Lnk C m' p false (swpL g l)
  | [], p, m, n, h, hp, hnd, hf, h3, hk, hn => ⟨m, _, Rns.ret _, rfl, Aft.refl _ _, h⟩
  | (x, b) :: l, p, m, n + 1, h, hp, hnd, hf, h3, hk, hn => by
    obtain ⟨h1, hx, h2⟩ := h
    have hn' : 2 * l.length + 1 < n := by simp at hn; omega
    have hlw := h2.word
    have hle := h2.hd_le
    have hx0 : decide (x = 0) = false := decide_eq_false (by omega)
    have hnd' : (p :: x :: nms l).Nodup := hnd
    obtain ⟨q1, q2⟩ := List.nodup_cons.1 hnd'
    obtain ⟨hndx, hndl⟩ := List.nodup_cons.1 q2
    have hnd1 : p ≠ x := fun e => q1 (e ▸ List.mem_cons_self ..)
    have hndp : p ∉ nms l := fun e => q1 (List.mem_cons_of_mem _ e)
    have hsl : ∀ y ∈ nms l, 1 ≤ y := fun y hy => Lnk.pos h2 y hy
    have e0 : contL 1 (xA 1 s) (n + 1) p (hd ((x, b) :: l)) = Pr.loop (yB 1 (xA 1 s)) (n + 1) (some (p, x)) := by
      show (bif decide (x = 0) then _ else _) = _
      rw [hx0]; rfl
    have ew : m (zF 1 x 0) = 2 * hd l + bI b := by rw [← nx_pos hx.1]; exact hlw
    have hp1 : m (yC 1 p) = 2 * x := by rw [h1]; show 2 * x + 0 = _; omega
    have fx := hf x (List.mem_cons_self ..)
    rw [e0]
    -- what is taken out, and what follows
    have goes : ∀ (n2 : Nat) (m1 : Int → Int), 2 * l.length < n2 → Aft m m1 [p, x] [x] → m1 (yC 1 p) = 2 * hd l → ∃ m' r, Rns C (contL 1 (xA 1 s) n2 p (hd l)) m1 r m' (14 * l.length) ∧ r.ok = true ∧ Aft m m' (p :: x :: nms l) (x :: swpT g l) ∧ Lnk C m' p false (swpL g l) := fun n2 m1 hn2 t2 t3 => by
      have hne : ∀ r ∈ nms l, r ∉ [p, x] := fun r hr h => by
        rcases List.mem_cons.1 h with rfl | h
        · exact hndp hr
        · have h := List.mem_singleton.1 h
          subst h
          exact hndx hr
      have hl1 : Lnk C m1 p false l := Lnk.cut h2 hne t2 t3
      have a1 : ∀ y ∈ nms l, qL (m1 (zF 1 y 2)) 2 = false := fun y hy => by
        rw [t2.g y (hsl y hy), if_neg (fun h => by have h := List.mem_singleton.1 h; subst h; exact hndx hy), Int.add_zero]
        exact hf y (List.mem_cons_of_mem _ hy)
      have a2 : 0 ≤ m1 3 := by rw [t2.e]; exact h3
      have a3 : ∀ y ∈ nms l, gone m1 s y = g y := fun y hy => by
        have := hk y (List.mem_cons_of_mem _ hy)
        rw [← this]
        unfold gone
        rw [t2.f y 1 (hsl y hy) (by decide) (by decide) (by decide), t2.f y 4 (hsl y hy) (by decide) (by decide) (by decide), t2.f y 5 (hsl y hy) (by decide) (by decide) (by decide)]
      have a0 : (p :: nms l).Nodup := List.nodup_cons.2 ⟨hndp, hndl⟩
      obtain ⟨m2, r, u0, u1, u2, u3⟩ := sweep_from hC s hl1 hp a0 a1 a2 a3 hn2
      exact ⟨m2, r, u0, u1, Aft.trans t2 u2 (fun r hr => by
          rcases List.mem_cons.1 hr with rfl | hr
          · exact List.mem_cons_self ..
          · have hr := List.mem_singleton.1 hr
            subst hr
            exact List.mem_cons_of_mem _ (List.mem_cons_self ..)) (fun r hr => by
          rcases List.mem_cons.1 hr with rfl | hr
          · exact List.mem_cons_self ..
          · exact List.mem_cons_of_mem _ (List.mem_cons_of_mem _ hr)) (fun r hr hr2 => by
          have hr := List.mem_singleton.1 hr
          subst hr
          exact hndx (swpT_sub g l r hr2)), u3⟩
    cases b with
    | true =>
      have e2 : swpL g ((x, true) :: l) = swpL g l := rfl
      have e3 : swpT g ((x, true) :: l) = x :: swpT g l := rfl
      rw [e2, e3]
      obtain ⟨m1, t1, t2, t3⟩ := Rns.take hC hp hx hnd1 hp1 (w := 2 * hd l + 1) rfl hle fx h3
      obtain ⟨m2, r, u0, u1, u2, u3⟩ := goes n m1 (by omega) ⟨t2.f, t2.g, t2.e, fun r a b => t2.n r a fun h => b (by
        have h := List.mem_singleton.1 h
        subst h
        exact List.mem_cons_self ..)⟩ t3
      refine ⟨m2, r, (Rns.loop (a := 11) (b := 14 * l.length) (m1 := m1) (r := endW p (hd l)) ?_ ?_).le (by simp; omega), u1, u2, u3⟩
      · show Rns C ((wH (zF 1 x 0)).bind fun w => bif decide (w % 2 = 1) then qR 1 p x w else xA 1 s p x w) m _ m1 11
        refine (Rns.load (inF hx (by decide))).bind (b := 10) ?_
        rw [ew, odd_of, cond_true]
        exact t1
      · rw [vI]; exact u0
    | false =>
      have hr : xL (2 * hd l + bI false) = hd l := refW_of hle.1 (by omega)
      have gx : gone m s x = g x := hk x (List.mem_cons_self ..)
      cases e : g x with
      | false =>
        have e2 : swpL g ((x, false) :: l) = (x, false) :: swpL g l := by
          show (bif false || g x then _ else _) = _
          rw [e]; rfl
        have e3 : swpT g ((x, false) :: l) = swpT g l := by
          show (bif false || g x then _ else _) = _
          rw [e]; rfl
        rw [e2, e3]
        rw [e] at gx
        obtain ⟨m2, r, u0, u1, u2, u3⟩ := sweep_from hC s (g := g) (n := n) h2 ⟨by omega, hx.2⟩ q2 (fun y hy => hf y (List.mem_cons_of_mem _ hy)) h3 (fun y hy => hk y (List.mem_cons_of_mem _ hy)) (by omega)
        refine ⟨m2, r, (Rns.loop (a := 4) (b := 14 * l.length) (m1 := m) (r := endW x (hd l)) ?_ (by rw [vI]; exact u0)).le (by simp; omega), u1, ⟨u2.f, u2.g, u2.e, fun r a b => u2.n r a fun h => b (List.mem_cons_of_mem _ h)⟩, ?_, hx, u3⟩
        · show Rns C ((wH (zF 1 x 0)).bind fun w => bif decide (w % 2 = 1) then qR 1 p x w else xA 1 s p x w) m _ m 4
          refine (Rns.load (inF hx (by decide))).bind (b := 3) ?_
          rw [ew, odd_of, cond_false]
          unfold xA
          refine (sweepIn_stay hx gx).bind (b := 0) ?_
          rw [cond_false, hr]
          exact Rns.ret _
        · rw [u2.n p hp.1 q1]
          exact h1
      | true =>
        have e2 : swpL g ((x, false) :: l) = swpL g l := by
          show (bif false || g x then _ else _) = _
          rw [e]; rfl
        have e3 : swpT g ((x, false) :: l) = x :: swpT g l := by
          show (bif false || g x then _ else _) = _
          rw [e]; rfl
        rw [e2, e3]
        rw [e] at gx
        have t0 := sweepIn_go (w := 2 * hd l + bI false) hx gx hlw fx
        generalize hm0 : vC (vC m (yC 1 x) (2 * hd l + bI false + 1)) (zF 1 x 2) (m (zF 1 x 2) + 2) = m0 at t0
        have nxp : yC 1 p ≠ yC 1 x := fun h => hnd1 (nx_inj hp.1 (by omega) h)
        have b1 : m0 (yC 1 p) = 2 * x := by
          rw [← hm0, yQ _ _ (by rw [wF, y9]; split <;> omega), yQ _ _ nxp]
          exact hp1
        have b2 : m0 (zF 1 x 2) = m (zF 1 x 2) + 2 := by rw [← hm0, kW]
        have b3 : m0 3 = m 3 := by rw [← hm0, yQ _ _ (by rw [y9]; omega), yQ _ _ (by rw [wF]; split <;> omega)]
        have b4 : m0 (zF 1 x 0) = 2 * hd l + 1 := by
          rw [← hm0, yQ _ _ (by rw [y9, y9]; omega), ← nx_pos hx.1, kW]
          show 2 * hd l + 0 + 1 = _
          omega
        have t2 : Aft m m0 [x] [x] := by
          refine ⟨fun r f a b c d => ?_, fun r a => ?_, b3, fun r a b => ?_⟩
          · rw [← hm0, yQ _ _ (by rw [y9, y9]; omega), yQ _ _ (by rw [y9, wF]; split <;> omega)]
          · by_cases er : r = x
            · subst er
              rw [b2, if_pos (by simp)]
            · rw [← hm0, yQ _ _ (by rw [y9, y9]; omega), yQ _ _ (by rw [y9, wF]; split <;> omega), if_neg (by simpa using er)]
              omega
          · have b : r ≠ x := by simpa using b
            rw [← hm0, yQ _ _ (by rw [wF, y9]; split <;> omega), yQ _ _ (fun h => b (nx_inj a (by omega) h))]
        obtain ⟨m1, v1, v2, v3⟩ := Rns.cut hC hp hx b1 (by rw [b2]; exact has_2 fx) (by rw [b3]; exact h3) (w := 2 * hd l + 1) (y := hd l) (refW_of (b := true) hle.1 (by omega))
        have v4 : Aft m m1 [p, x] [x] := Aft.trans t2 v2 (fun r hr => List.mem_cons_of_mem _ hr) (fun r hr => by
          have hr := List.mem_singleton.1 hr
          subst hr
          exact List.mem_cons_self ..) (fun r _ => by simp)
        cases n with
        | zero => omega
        | succ n =>
          obtain ⟨m2, r, u0, u1, u2, u3⟩ := goes n m1 (by omega) v4 v3
          refine ⟨m2, r, (Rns.loop (a := 7) (b := 7 + 14 * l.length) (m1 := m0) (r := .inl (some (p, x))) ?_ ?_).le (by simp; omega), u1, u2, u3⟩
          · show Rns C ((wH (zF 1 x 0)).bind fun w => bif decide (w % 2 = 1) then qR 1 p x w else xA 1 s p x w) m _ m0 7
            refine (Rns.load (inF hx (by decide))).bind (b := 6) ?_
            rw [ew, odd_of, cond_false]
            unfold xA
            refine t0.bind (b := 0) ?_
            rw [cond_true]
            exact Rns.ret _
          · show Rns C (Pr.loop (yB 1 (xA 1 s)) (n + 1) (some (p, x))) m0 r m2 _
            refine Rns.loop (a := 7) (b := 14 * l.length) (m1 := m1) (r := endW p (hd l)) ?_ (by rw [vI]; exact u0)
            show Rns C ((wH (zF 1 x 0)).bind fun w => bif decide (w % 2 = 1) then qR 1 p x w else xA 1 s p x w) m0 _ m1 7
            refine (Rns.load (inF hx (by decide))).bind (b := 6) ?_
            rw [b4, show decide ((2 * hd l + 1) % 2 = 1) = true from odd_of (hd l) true, cond_true]
            exact v1
theorem sweep_run {C : Nat} (hC : C ≤ 100000) (s : Int) {g : Int → Bool} {l : List (Int × Bool)} {m : Int → Int} (h : Lnk C m 0 false l) (hnd : (0 :: nms l).Nodup) (hf : ∀ x ∈ nms l, qL (m (zF 1 x 2)) 2 = false) (h3 : 0 ≤ m 3) (hk : ∀ x ∈ nms l, gone m s x = g x) (hl : 2 * l.length < 1000000) :
    ∃ m', Rns C (sweepP 1 s) m true m' (1 + 14 * l.length) ∧ Aft m m' (0 :: nms l) (swpT g l) ∧ Lnk C m' 0 false (swpL g l) := by
  obtain ⟨m', r, u0, u1, u2, u3⟩ := sweep_from hC s (n := 1000000) h ⟨by omega, by omega⟩ hnd hf h3 hk hl
  refine ⟨m', ?_, u2, u3⟩
  unfold sweepP
  refine Rns.bind (a := 1 + 14 * l.length) (b := 0) (x := r) (m1 := m') ?_ (by rw [u1]; exact Rns.ret _)
  show Rns C (Pr.loop (yB 1 (xA 1 s)) (1000000 + 1) none) m _ m' _
  refine Rns.loop (r := endW 0 (hd l)) (m1 := m) ?_ (by rw [vI]; exact u0)
  refine (Rns.load ⟨by decide, by omega⟩).bind (b := 0) ?_
  have hw : m 0 = 2 * hd l + bI false := h.word
  rw [hw, refW_of h.hd_le.1 (by have := h.hd_le; omega)]
  exact Rns.ret _
end Go.Proofs.YteadaggehndacaaDoor
/- The law ListSeeks, in plain terms: the records that are laid, and what seeks and searches of them answer. Generic over the program. -/
namespace Go.Proofs.YteadaggehndacaaDoor
set_option maxRecDepth 100000
set_option maxHeartbeats 16000000
open Go Go.RowKit
set_option linter.unusedSimpArgs false
set_option linter.unusedVariables false
/-! ### Words as a list, of words as a function -/
def ofM (n : Nat) (m : Int → Int) : List Int := (List.range n).map fun (c : Nat) => m (c : Int)
def memOf (ws : List Int) (c : Int) : Int := (ws[c.toNat]?).getD 0
theorem ofM_len (n : Nat) (m : Int → Int) : (ofM n m).length = n := by simp [ofM]
theorem ofM_at (n : Nat) (m : Int → Int) {c : Nat} (h : c < n) : (ofM n m)[c]? = some (m c) := by simp [ofM, h]
theorem ofM_set (n : Nat) (m : Int → Int) {c : Int} (h0 : 0 ≤ c) (h : c < n) (v : Int) : (ofM n m).set c.toNat v = ofM n (vC m c v) := by
  obtain ⟨c, rfl⟩ := Int.eq_ofNat_of_zero_le h0
  apply List.ext_getElem?
  intro i
  rw [Int.toNat_natCast, List.getElem?_set]
  by_cases hi : i < n
  · rw [ofM_at n (vC m c v) hi, ofM_at n m hi]
    by_cases e : c = i
    · subst e
      rw [if_pos rfl, if_pos (by rw [ofM_len]; omega), kW]
    · rw [if_neg e, yQ _ _ (by omega)]
  · have e : c ≠ i := by omega
    rw [if_neg e, List.getElem?_eq_none (by rw [ofM_len]; omega), List.getElem?_eq_none (by rw [ofM_len]; omega)]
/-! ### A record more -/
def wG : Int → List (Int × Bool) → Int
  | p, [] => p
  | _, (x, _) :: l => wG x l
theorem lastN_in : ∀ (l : List (Int × Bool)) (p : Int), wG p l = p ∨ wG p l ∈ nms l
  | [], p => .inl rfl
  | (x, b) :: l, p => by
    rcases lastN_in l x with h | h
    · exact .inr (by show wG x l ∈ x :: nms l; rw [h]; exact List.mem_cons_self ..)
    · exact .inr (List.mem_cons_of_mem _ h)
theorem Lnk.snoc {C : Nat} {m m' : Int → Int} {x : Int} {b : Bool} (hx : 1 ≤ x ∧ x ≤ C) : ∀ {l : List (Int × Bool)} {p : Int} {k : Bool}, Lnk C m p k l → (p :: nms l).Nodup → (∀ r, r = p ∨ r ∈ nms l → r ≠ wG p l → m' (yC 1 r) = m (yC 1 r)) → m' (yC 1 (wG p l)) = m (yC 1 (wG p l)) + 2 * x → m' (yC 1 x) = bI b → Lnk C m' p k (l ++ [(x, b)])
  | [], p, k, h, hnd, hn, h1, h2 => by
    have h : m (yC 1 p) = bI k := h
    have h1 : m' (yC 1 p) = m (yC 1 p) + 2 * x := h1
    exact ⟨by rw [h1, h]; omega, hx, h2⟩
  | (y, c) :: l, p, k, h, hnd, hn, h1, h2 => by
    obtain ⟨g1, g2, g3⟩ := h
    have hnd : (p :: y :: nms l).Nodup := hnd
    have q := List.nodup_cons.1 hnd
    have hne : p ≠ wG y l := fun e => q.1 (by
      rw [e]
      rcases lastN_in l y with h | h
      · rw [h]; exact List.mem_cons_self ..
      · exact List.mem_cons_of_mem _ h)
    exact ⟨(hn p (.inl rfl) hne).trans g1, g2, Lnk.snoc hx g3 q.2 (fun r hr hl => hn r (.inr (by
      rcases hr with rfl | hr
      · exact List.mem_cons_self ..
      · exact List.mem_cons_of_mem _ hr)) hl) h1 h2⟩
/-! ### The records that are laid -/
structure SkS where
  m : Int → Int
  key : Int
  want : Int
  any : Bool
def skM (i : Nat) (key : Int) (m : Int → Int) : Int → Int := vC (vC m (zF 1 ((i : Int) + 1) 1) key) (zF 1 ((i : Int) + 1) 2) (4 * ((i : Int) + 1))
def skN (i : Nat) (m : Int → Int) : Int → Int := vC m (yC 1 i) (m (yC 1 i) + 2 * ((i : Int) + 1))
def skStep (k : Int) (i : Nat) (g : Int) (b : Bool) (s : SkS) : SkS :=
  ⟨bif b then vC (skN i (skM i (s.key + 1 + g) s.m)) (yC 1 ((i : Int) + 1)) 1 else skN i (skM i (s.key + 1 + g) s.m), s.key + 1 + g, bif decide (s.want = 0) && decide (k ≤ s.key + 1 + g) then (i : Int) + 1 else s.want, b || s.any⟩
def skL : Nat → List Bool → List (Int × Bool)
  | _, [] => []
  | i, b :: bs => ((i : Int) + 1, b) :: skL (i + 1) bs
theorem skL_nms : ∀ (bs : List Bool) (i : Nat) (x : Int), x ∈ nms (skL i bs) ↔ (i : Int) < x ∧ x ≤ i + bs.length
  | [], i, x => by
    simp only [skL, nms, List.map_nil, List.not_mem_nil, List.length_nil, false_iff]
    omega
  | c :: bs, i, x => by
    show x ∈ ((i : Int) + 1) :: nms (skL (i + 1) bs) ↔ _
    rw [List.mem_cons, skL_nms bs (i + 1) x]
    simp only [List.length_cons]
    omega
/-- what holds behind so many rounds -/
structure SkOK (k : Int) (bs : List Bool) (s : SkS) : Prop where
  len : bs.length ≤ 10
  l : Lnk 10 s.m 0 false (skL 0 bs)
  n : ∀ r : Int, (bs.length : Int) < r → s.m (yC 1 r) = 0
  f : ∀ r : Int, 1 ≤ r → r ≤ bs.length → s.m (zF 1 r 2) = 4 * r
  e : s.m 3 = 0
  k0 : 0 ≤ s.key
  k1 : s.key ≤ 256 * bs.length
  w : s.want = (sekN (fun r => s.m (zF 1 r 1)) k (skL 0 bs)).1
  a : s.any = bs.any id
  u : ∀ c : Int, 0 ≤ c → U (s.m c)
/-- the words, a record more -/
def skW (i : Nat) (key : Int) (b : Bool) (m : Int → Int) : Int → Int := bif b then vC (skN i (skM i key m)) (yC 1 ((i : Int) + 1)) 1 else skN i (skM i key m)
structure SkF (i : Nat) (key : Int) (b : Bool) (m m' : Int → Int) : Prop where
  n : ∀ r : Int, 0 ≤ r → r ≠ i → r ≠ (i : Int) + 1 → m' (yC 1 r) = m (yC 1 r)
  n0 : m' (yC 1 i) = m (yC 1 i) + 2 * ((i : Int) + 1)
  n1 : m (yC 1 ((i : Int) + 1)) = 0 → m' (yC 1 ((i : Int) + 1)) = bI b
  k : ∀ r : Int, 1 ≤ r → r ≠ (i : Int) + 1 → m' (zF 1 r 1) = m (zF 1 r 1)
  k1 : m' (zF 1 ((i : Int) + 1) 1) = key
  f : ∀ r : Int, 1 ≤ r → r ≠ (i : Int) + 1 → m' (zF 1 r 2) = m (zF 1 r 2)
  f1 : m' (zF 1 ((i : Int) + 1) 2) = 4 * ((i : Int) + 1)
  e : m' 3 = m 3
theorem nf_ne (r q f : Int) (hr : 0 ≤ r) (hq : 1 ≤ q) (hf : 1 ≤ f ∧ f ≤ 7) : yC 1 r ≠ zF 1 q f := by rw [wF, y9]; split <;> omega
theorem ff_ne (r q f g : Int) (h : r ≠ q ∨ f ≠ g) (hf : 0 ≤ f ∧ f ≤ 7) (hg : 0 ≤ g ∧ g ≤ 7) : zF 1 r f ≠ zF 1 q g := by rw [y9, y9]; omega
end Go.Proofs.YteadaggehndacaaDoor
/- The list in a memory: what links, and marks, do behind a search, alone. Generic over the program. -/
namespace Go.Proofs.YteadaggehndacaaDoor
set_option maxRecDepth 100000
set_option maxHeartbeats 16000000
open Go Go.RowKit
set_option linter.unusedSimpArgs false
set_option linter.unusedVariables false
theorem wN (l k : List (Int × Bool)) : nms (l ++ k) = nms l ++ nms k := List.map_append
theorem hasF_quad {q : Int} : qL (4 * q) 2 = false := by
  unfold qL
  rw [decide_eq_false (show ¬ 4 * q / 2 % 2 = 1 by omega)]
  simp
/-- what a search leaves is cut where it stopped -/
structure Cut (l : List (Int × Bool)) (p x : Int) (l1 l2 : List (Int × Bool)) : Prop where
  e : l = l1 ++ l2
  u : ∀ y ∈ l1, y.2 = false
  x : x = hd l2
theorem Lnk.bnd {C : Nat} {m : Int → Int} : ∀ {l : List (Int × Bool)} {p : Int} {k : Bool}, Lnk C m p k l → ∀ y ∈ nms l, 1 ≤ y ∧ y ≤ C
  | [], _, _, _, y, hy => absurd hy (by simp [nms])
  | (x, b) :: l, p, k, h, y, hy => by
    rcases List.mem_cons.1 hy with rfl | hy
    · exact h.2.1
    · exact Lnk.bnd h.2.2 y hy
/-! ### A record that is linked -/
theorem Lnk.cutw {C : Nat} {m : Int → Int} : ∀ {l1 l2 : List (Int × Bool)} {p : Int}, Lnk C m p false (l1 ++ l2) → (∀ y ∈ l1, y.2 = false) → m (yC 1 (wG p l1)) = 2 * hd l2
  | [], l2, p, h, _ => by
    have := Lnk.word h
    show m (yC 1 p) = _
    rw [this]
    show 2 * hd ([] ++ l2) + 0 = _
    simp
  | (y, b) :: l1, l2, p, h, hu => by
    have hb : b = false := hu (y, b) (List.mem_cons_self ..)
    subst hb
    exact Lnk.cutw (l1 := l1) h.2.2 fun z hz => hu z (List.mem_cons_of_mem _ hz)
def lnkM (m : Int → Int) (p x r : Int) : Int → Int := vC (vC m (yC 1 r) (2 * x)) (yC 1 p) (2 * r)
theorem lnkM_out {m : Int → Int} {p x r q : Int} (hp : 0 ≤ p) (hr : 0 ≤ r) (hq : 0 ≤ q) (h1 : q ≠ p) (h2 : q ≠ r) : lnkM m p x r (yC 1 q) = m (yC 1 q) := by
  unfold lnkM
  rw [yQ _ _ (fun h => h1 (nx_inj hq hp h)), yQ _ _ (fun h => h2 (nx_inj hq hr h))]
theorem Lnk.ins {C : Nat} {m : Int → Int} {r : Int} (hr : 1 ≤ r ∧ r ≤ C) : ∀ {l1 l2 : List (Int × Bool)} {p : Int}, 0 ≤ p → Lnk C m p false (l1 ++ l2) → (∀ y ∈ l1, y.2 = false) → (p :: nms (l1 ++ l2)).Nodup → r ∉ p :: nms (l1 ++ l2) → Lnk C (lnkM m (wG p l1) (hd l2) r) p false (l1 ++ (r, false) :: l2)
  | [], l2, p, hp, h, _, hnd, hno => by
    have h : Lnk C m p false l2 := h
    have hnd : (p :: nms l2).Nodup := hnd
    have hno : r ∉ p :: nms l2 := hno
    have hpr : p ≠ r := fun e => hno (e ▸ List.mem_cons_self ..)
    have hpo := h.pos
    have a1 : lnkM m p (hd l2) r (yC 1 p) = 2 * r := kW _ _ _
    have a2 : lnkM m p (hd l2) r (yC 1 r) = 2 * hd l2 := by
      unfold lnkM
      rw [yQ _ _ (fun h => hpr (nx_inj (by omega) hp h).symm), kW]
    have hq : ∀ q ∈ nms l2, lnkM m p (hd l2) r (yC 1 q) = m (yC 1 q) := fun q hq => lnkM_out hp (by omega) (by have := hpo q hq; omega) (fun e => (List.nodup_cons.1 hnd).1 (e ▸ hq)) (fun e => hno (List.mem_cons_of_mem _ (e ▸ hq)))
    show Lnk C (lnkM m p (hd l2) r) p false ((r, false) :: l2)
    refine ⟨by rw [a1]; show _ = 2 * r + 0; omega, hr, ?_⟩
    cases l2 with
    | nil => exact a2.trans rfl
    | cons y t =>
      obtain ⟨y, b⟩ := y
      refine ⟨a2.trans (by show 2 * y = 2 * y + 0; omega), h.2.1, h.2.2.keep fun q hq2 => hq q ?_⟩
      rcases hq2 with rfl | hq2
      · exact List.mem_cons_self ..
      · exact List.mem_cons_of_mem _ hq2
  | (y, b) :: l1, l2, p, hp, h, hu, hnd, hno => by
    have hb : b = false := hu (y, b) (List.mem_cons_self ..)
    subst hb
    obtain ⟨h1, h2, h3⟩ := h
    have h3 : Lnk C m y false (l1 ++ l2) := h3
    have hnd : (p :: y :: nms (l1 ++ l2)).Nodup := hnd
    have hno : r ∉ p :: y :: nms (l1 ++ l2) := hno
    have hu' : ∀ z ∈ l1, z.2 = false := fun z hz => hu z (List.mem_cons_of_mem _ hz)
    have ih := Lnk.ins hr (l1 := l1) (l2 := l2) (p := y) (by omega) h3 hu' (List.nodup_cons.1 hnd).2 (fun e => hno (List.mem_cons_of_mem _ e))
    have hlast : wG y l1 ≠ p := fun e => (List.nodup_cons.1 hnd).1 (by
      rcases lastN_in l1 y with h | h
      · rw [← e, h]; exact List.mem_cons_self ..
      · rw [← e, wN]; exact List.mem_cons_of_mem _ (List.mem_append_left _ h))
    have hl0 : 0 ≤ wG y l1 := by
      rcases lastN_in l1 y with h | h
      · rw [h]; omega
      · have := h3.pos (wG y l1) (by rw [wN]; exact List.mem_append_left _ h); omega
    show Lnk C (lnkM m (wG y l1) (hd l2) r) p false ((y, false) :: (l1 ++ (r, false) :: l2))
    refine ⟨?_, h2, ih⟩
    rw [lnkM_out hl0 (by omega) hp (fun e => hlast e.symm) (fun e => hno (e ▸ List.mem_cons_self ..))]
    exact h1
theorem link_run {C : Nat} {m : Int → Int} {p x r : Int} (hp : 0 ≤ p ∧ p ≤ C) (hr : 1 ≤ r ∧ r ≤ C) (hpr : p ≠ r) (hw : m (yC 1 p) = 2 * x) : Rns C (linkP 1 p x r) m true (lnkM m p x r) 2 := by
  unfold linkP
  refine Rns.bind (a := 1) (b := 1) (Rns.store (c := yC 1 r) (v := 2 * x) ⟨by rw [wF]; split <;> omega, by rw [wF]; split <;> omega⟩) ?_
  refine Rns.cas ⟨by rw [wF]; split <;> omega, by rw [wF]; split <;> omega⟩ ?_
  rw [yQ _ _ (fun h => hpr (nx_inj hp.1 (by omega) h)), hw]
/-! ### A record that is marked -/
def mrkM (m : Int → Int) (x : Int) : Int → Int := vC m (yC 1 x) (m (yC 1 x) + 1)
theorem Lnk.mrk {C : Nat} {m : Int → Int} {x : Int} {t : List (Int × Bool)} : ∀ {l1 : List (Int × Bool)} {p : Int} {k : Bool}, 0 ≤ p → Lnk C m p k (l1 ++ (x, false) :: t) → (p :: nms (l1 ++ (x, false) :: t)).Nodup → Lnk C (mrkM m x) p k (l1 ++ (x, true) :: t)
  | [], p, k, hp, h, hnd => by
    obtain ⟨h1, h2, h3⟩ := h
    have hnd : (p :: x :: nms t).Nodup := hnd
    have hpx : p ≠ x := fun e => (List.nodup_cons.1 hnd).1 (e ▸ List.mem_cons_self ..)
    have hq : ∀ q, 0 ≤ q → q ≠ x → mrkM m x (yC 1 q) = m (yC 1 q) := fun q hq hne => yQ _ _ fun h => hne (nx_inj hq (by omega) h)
    have h3' := h3.pos
    refine ⟨(hq p hp hpx).trans h1, h2, ?_⟩
    have hw : mrkM m x (yC 1 x) = m (yC 1 x) + 1 := kW _ _ _
    have hn := (List.nodup_cons.1 (List.nodup_cons.1 hnd).2).1
    cases t with
    | nil =>
      have h3 : m (yC 1 x) = 0 := h3
      show mrkM m x (yC 1 x) = 1
      rw [hw, h3]; rfl
    | cons y t =>
      obtain ⟨y, b⟩ := y
      obtain ⟨g1, g2, g3⟩ := h3
      refine ⟨by rw [hw, g1]; show 2 * y + 0 + 1 = 2 * y + 1; omega, g2, g3.keep fun q hq2 => hq q ?_ fun e => hn ?_⟩
      · rcases hq2 with rfl | hq2
        · omega
        · have := h3' q (List.mem_cons_of_mem _ hq2); omega
      · rcases hq2 with rfl | hq2
        · exact e ▸ List.mem_cons_self ..
        · exact e ▸ List.mem_cons_of_mem _ hq2
  | (y, b) :: l1, p, k, hp, h, hnd => by
    obtain ⟨h1, h2, h3⟩ := h
    have h3 : Lnk C m y b (l1 ++ (x, false) :: t) := h3
    have hnd : (p :: y :: nms (l1 ++ (x, false) :: t)).Nodup := hnd
    have hxi : x ∈ y :: nms (l1 ++ (x, false) :: t) := List.mem_cons_of_mem _ (by rw [wN]; exact List.mem_append_right _ (List.mem_cons_self ..))
    have hpx : p ≠ x := fun e => (List.nodup_cons.1 hnd).1 (e ▸ hxi)
    have hx0 : 1 ≤ x := h3.pos x (by rw [wN]; exact List.mem_append_right _ (List.mem_cons_self ..))
    exact ⟨(yQ _ _ fun h => hpx (nx_inj hp (by omega) h)).trans h1, h2, Lnk.mrk (l1 := l1) (by omega) h3 (List.nodup_cons.1 hnd).2⟩
theorem mark_run {C : Nat} {m : Int → Int} {x : Int} (hx : 1 ≤ x ∧ x ≤ C) (he : decide (m (yC 1 x) % 2 = 1) = false) : Rns C (markP 1 x) m true (mrkM m x) 2 := by
  have hi : InW C (yC 1 x) := ⟨by rw [wF]; split <;> omega, by rw [wF]; split <;> omega⟩
  unfold markP
  refine Rns.bind (a := 1) (b := 1) (Rns.load hi) ?_
  rw [he, cond_false]
  exact Rns.cas hi rfl
theorem Lnk.even {C : Nat} {m : Int → Int} {x : Int} {t : List (Int × Bool)} : ∀ {l1 : List (Int × Bool)} {p : Int} {k : Bool}, Lnk C m p k (l1 ++ (x, false) :: t) → decide (m (yC 1 x) % 2 = 1) = false ∧ (1 ≤ x ∧ x ≤ C)
  | [], p, k, h => ⟨by rw [Lnk.word h.2.2]; exact odd_of _ _, h.2.1⟩
  | (y, b) :: l1, p, k, h => Lnk.even (l1 := l1) h.2.2
end Go.Proofs.YteadaggehndacaaDoor
/- A list in a memory, kept by searches, seeks, links, marks and sweeps, alone. Generic over the program. -/
namespace Go.Proofs.YteadaggehndacaaDoor
set_option maxRecDepth 100000
set_option maxHeartbeats 16000000
open Go Go.RowKit
set_option linter.unusedSimpArgs false
set_option linter.unusedVariables false
theorem srchL_sub (key : Int → Int) (k : Int) : ∀ (l : List (Int × Bool)), (nms (qU key k l)).Sublist (nms l)
  | [] => List.Sublist.refl _
  | (y, true) :: l => (srchL_sub key k l).cons _
  | (y, false) :: l => by
    show (nms (bif decide (k ≤ key y) then (y, false) :: l else (y, false) :: qU key k l)).Sublist (y :: nms l)
    cases decide (k ≤ key y)
    · exact (srchL_sub key k l).cons_cons _
    · exact List.Sublist.refl _
theorem srchT_off (key : Int → Int) (k : Int) : ∀ {l : List (Int × Bool)}, (nms l).Nodup → ∀ x ∈ srchT key k l, x ∉ nms (qU key k l)
  | [], _, x, h => by cases h
  | (y, true) :: l, hnd, x, h => by
    have hnd : (y :: nms l).Nodup := hnd
    have h : x ∈ y :: srchT key k l := h
    show x ∉ nms (qU key k l)
    rcases List.mem_cons.1 h with rfl | h
    · exact fun h => (List.nodup_cons.1 hnd).1 ((srchL_sub key k l).subset h)
    · exact srchT_off key k (List.nodup_cons.1 hnd).2 x h
  | (y, false) :: l, hnd, x, h => by
    have hnd : (y :: nms l).Nodup := hnd
    have h : x ∈ (bif decide (k ≤ key y) then [] else srchT key k l) := h
    show x ∉ nms (bif decide (k ≤ key y) then (y, false) :: l else (y, false) :: qU key k l)
    cases c : decide (k ≤ key y) with
    | true => rw [c] at h; cases h
    | false =>
      rw [c] at h
      have ht : x ∈ srchT key k l := h
      intro h2
      rcases List.mem_cons.1 (show x ∈ y :: nms (qU key k l) from h2) with e | h2
      · exact (List.nodup_cons.1 hnd).1 (e ▸ kI key k l x ht)
      · exact srchT_off key k (List.nodup_cons.1 hnd).2 x ht h2
theorem swpL_subl (g : Int → Bool) : ∀ (l : List (Int × Bool)), (nms (swpL g l)).Sublist (nms l)
  | [] => List.Sublist.refl _
  | (y, b) :: l => by
    show (nms (bif b || g y then swpL g l else (y, b) :: swpL g l)).Sublist (y :: nms l)
    cases b || g y
    · exact (swpL_subl g l).cons_cons _
    · exact (swpL_subl g l).cons _
theorem swpT_off (g : Int → Bool) : ∀ {l : List (Int × Bool)}, (nms l).Nodup → ∀ x ∈ swpT g l, x ∉ nms (swpL g l)
  | [], _, x, h => by cases h
  | (y, b) :: l, hnd, x, h => by
    have hnd : (y :: nms l).Nodup := hnd
    have h : x ∈ (bif b || g y then y :: swpT g l else swpT g l) := h
    show x ∉ nms (bif b || g y then swpL g l else (y, b) :: swpL g l)
    cases c : b || g y with
    | true =>
      rw [c] at h
      rcases List.mem_cons.1 (show x ∈ y :: swpT g l from h) with rfl | h
      · exact fun h => (List.nodup_cons.1 hnd).1 ((swpL_subl g l).subset h)
      · exact swpT_off g (List.nodup_cons.1 hnd).2 x h
    | false =>
      rw [c] at h
      have ht : x ∈ swpT g l := h
      intro h2
      rcases List.mem_cons.1 (show x ∈ y :: nms (swpL g l) from h2) with e | h2
      · exact (List.nodup_cons.1 hnd).1 (e ▸ swpT_sub g l x ht)
      · exact swpT_off g (List.nodup_cons.1 hnd).2 x ht h2
/-- a list in a memory; the records of S were never in it -/
structure LsI (C : Nat) (m : Int → Int) (l : List (Int × Bool)) (S : Int → Prop) : Prop where
  lk : Lnk C m 0 false l
  nd : (0 :: nms l).Nodup
  fl : ∀ x ∈ nms l, qL (m (zF 1 x 2)) 2 = false
  e : 0 ≤ m 3
  off : ∀ r : Int, 1 ≤ r → S r → r ∉ nms l ∧ qL (m (zF 1 r 2)) 2 = false
section
variable {C : Nat} {m m' : Int → Int} {l l' : List (Int × Bool)} {S : Int → Prop}
theorem LsI.aft (h : LsI C m l S) {T : List Int} (ha : Aft m m' (0 :: nms l) T) (hl : Lnk C m' 0 false l') (hs : (nms l').Sublist (nms l)) (hT : ∀ x ∈ T, x ∈ nms l) (hn : ∀ x ∈ T, x ∉ nms l') : LsI C m' l' S := by
  have g : ∀ r : Int, 1 ≤ r → r ∉ T → m' (zF 1 r 2) = m (zF 1 r 2) := fun r h1 h2 => by rw [ha.g r h1, if_neg h2]; omega
  refine ⟨hl, h.nd.sublist (hs.cons_cons _), fun x hx => ?_, by rw [ha.e]; exact h.e, fun r h1 h2 => ?_⟩
  · have hx' := hs.subset hx
    rw [g x (h.lk.pos x hx') fun ht => hn x ht hx]
    exact h.fl x hx'
  · obtain ⟨a, b⟩ := h.off r h1 h2
    exact ⟨fun hx => a (hs.subset hx), by rw [g r h1 fun ht => a (hT r ht)]; exact b⟩
theorem LsI.search (h : LsI C m l S) (hC : C ≤ 100000) (k : Int) (hl : l.length < 1000000) : ∃ m', Rns C (kU 1 k) m (srch (fun r => m (zF 1 r 1)) k 0 l) m' (1 + 11 * l.length) ∧ LsI C m' (qU (fun r => m (zF 1 r 1)) k l) S := by
  obtain ⟨m', h1, h2, h3⟩ := search_run hC (key := fun r => m (zF 1 r 1)) k h.lk h.nd h.fl h.e (fun _ _ => rfl) hl
  exact ⟨m', h1, h.aft h2 h3 (srchL_sub _ _ _) (kI _ _ _) (srchT_off _ _ (List.nodup_cons.1 h.nd).2)⟩
theorem LsI.sweep (h : LsI C m l S) (hC : C ≤ 100000) (s : Int) (hl : 2 * l.length < 1000000) : ∃ m', Rns C (sweepP 1 s) m true m' (1 + 14 * l.length) ∧ LsI C m' (swpL (gone m s) l) S := by
  obtain ⟨m', h1, h2, h3⟩ := sweep_run hC s (g := gone m s) h.lk h.nd h.fl h.e (fun _ _ => rfl) hl
  exact ⟨m', h1, h.aft h2 h3 (swpL_subl _ _) (swpT_sub _ _) (swpT_off _ (List.nodup_cons.1 h.nd).2)⟩
theorem LsI.seek (h : LsI C m l S) (hC : C ≤ 100000) (k : Int) (hl : l.length < 1000000) : Rds C (seekP 1 0 k) m (sekN (fun r => m (zF 1 r 1)) k l) (1 + 2 * l.length) := seek_run hC (fun _ _ => rfl) k h.lk hl
theorem nd_ins {r : Int} : ∀ {l1 l2 : List (Int × Bool)}, (nms (l1 ++ l2)).Nodup → r ∉ nms (l1 ++ l2) → (nms (l1 ++ (r, false) :: l2)).Nodup
  | [], l2, h, hr => List.nodup_cons.2 ⟨hr, h⟩
  | (y, b) :: l1, l2, h, hr => by
    have h : (y :: nms (l1 ++ l2)).Nodup := h
    have hr : r ∉ y :: nms (l1 ++ l2) := hr
    obtain ⟨h1, h2⟩ := List.nodup_cons.1 h
    show (y :: nms (l1 ++ (r, false) :: l2)).Nodup
    refine List.nodup_cons.2 ⟨fun hy => ?_, nd_ins h2 fun e => hr (List.mem_cons_of_mem _ e)⟩
    rw [wN] at hy h1
    rcases List.mem_append.1 hy with hy | hy
    · exact h1 (List.mem_append_left _ hy)
    · rcases List.mem_cons.1 (show y ∈ r :: nms l2 from hy) with e | hy
      · exact hr (e ▸ List.mem_cons_self ..)
      · exact h1 (List.mem_append_right _ hy)
theorem mem_ins {r x : Int} {b : Bool} {l1 l2 : List (Int × Bool)} : x ∈ nms (l1 ++ (r, b) :: l2) ↔ x = r ∨ x ∈ nms (l1 ++ l2) := by
  rw [wN, wN]
  show x ∈ nms l1 ++ r :: nms l2 ↔ _
  simp only [List.mem_append, List.mem_cons]
  constructor
  · rintro (h | h | h)
    · exact .inr (.inl h)
    · exact .inl h
    · exact .inr (.inr h)
  · rintro (h | h | h)
    · exact .inr (.inl h)
    · exact .inl h
    · exact .inr (.inr h)
theorem LsI.link (h : LsI C m l S) {p x r : Int} {l1 l2 : List (Int × Bool)} (hc : Cut l 0 x l1 l2) (hp : p = wG 0 l1) (hr : 1 ≤ r ∧ r ≤ C) (hS : S r) : Rns C (linkP 1 p x r) m true (lnkM m p x r) 2 ∧ LsI C (lnkM m p x r) (l1 ++ (r, false) :: l2) (fun q => S q ∧ q ≠ r) := by
  obtain ⟨he, hu, hx⟩ := hc
  subst he
  obtain ⟨ho1, ho2⟩ := h.off r hr.1 hS
  have hr0 : r ∉ (0 : Int) :: nms (l1 ++ l2) := fun e => by
    rcases List.mem_cons.1 e with e | e
    · omega
    · exact ho1 e
  have hpl : p = 0 ∨ p ∈ nms l1 := by rw [hp]; exact lastN_in l1 0
  have hpm : p ∈ (0 : Int) :: nms (l1 ++ l2) := by
    rcases hpl with e | e
    · exact e ▸ List.mem_cons_self ..
    · exact List.mem_cons_of_mem _ (by rw [wN]; exact List.mem_append_left _ e)
  have hpr : p ≠ r := fun e => hr0 (e ▸ hpm)
  have hpb : 0 ≤ p ∧ p ≤ C := by
    rcases hpl with e | e
    · omega
    · have h2 := h.lk.bnd p (by rw [wN]; exact List.mem_append_left _ e); omega
  have hw : m (yC 1 p) = 2 * x := by rw [hp, hx]; exact h.lk.cutw hu
  refine ⟨link_run hpb hr hpr hw, ?_⟩
  have f2 : ∀ q : Int, 1 ≤ q → lnkM m p x r (zF 1 q 2) = m (zF 1 q 2) := fun q hq => by
    unfold lnkM
    rw [yQ _ _ (Ne.symm (nf_ne p q 2 hpb.1 hq (by decide))), yQ _ _ (Ne.symm (nf_ne r q 2 (by omega) hq (by decide)))]
  have e3 : lnkM m p x r 3 = m 3 := by
    unfold lnkM
    rw [yQ _ _ (by rw [wF]; split <;> omega), yQ _ _ (by rw [wF]; split <;> omega)]
  have hnd := List.nodup_cons.1 h.nd
  refine ⟨by rw [hp, hx]; exact Lnk.ins hr (Int.le_refl _) h.lk hu h.nd hr0, List.nodup_cons.2 ⟨fun e => ?_, nd_ins hnd.2 ho1⟩, fun y hy => ?_, by rw [e3]; exact h.e, fun q h1 h2 => ?_⟩
  · rcases mem_ins.1 e with e | e
    · omega
    · exact hnd.1 e
  · rcases mem_ins.1 hy with rfl | hy
    · rw [f2 y hr.1]; exact ho2
    · rw [f2 y (h.lk.pos y hy)]; exact h.fl y hy
  · obtain ⟨a, b⟩ := h.off q h1 h2.1
    refine ⟨fun e => ?_, by rw [f2 q h1]; exact b⟩
    rcases mem_ins.1 e with e | e
    · exact h2.2 e
    · exact a e
theorem LsI.mark (h : LsI C m l S) {x : Int} {l1 t : List (Int × Bool)} (he : l = l1 ++ (x, false) :: t) : Rns C (markP 1 x) m true (mrkM m x) 2 ∧ LsI C (mrkM m x) (l1 ++ (x, true) :: t) S := by
  subst he
  obtain ⟨h1, h2⟩ := h.lk.even
  have f2 : ∀ q : Int, 1 ≤ q → mrkM m x (zF 1 q 2) = m (zF 1 q 2) := fun q hq => yQ _ _ (Ne.symm (nf_ne x q 2 (by omega) hq (by decide)))
  have e3 : mrkM m x 3 = m 3 := yQ _ _ (by rw [wF]; split <;> omega)
  have hm : ∀ y, y ∈ nms (l1 ++ (x, true) :: t) ↔ y ∈ nms (l1 ++ (x, false) :: t) := fun y => by rw [mem_ins, mem_ins]
  have hnn : nms (l1 ++ (x, true) :: t) = nms (l1 ++ (x, false) :: t) := by rw [wN, wN]; rfl
  refine ⟨mark_run h2 h1, h.lk.mrk (Int.le_refl _) h.nd, by rw [hnn]; exact h.nd, fun y hy => ?_, by rw [e3]; exact h.e, fun q q1 q2 => ?_⟩
  · rw [hnn] at hy
    rw [f2 y (h.lk.pos y hy)]; exact h.fl y hy
  · rw [hnn, f2 q q1]; exact h.off q q1 q2
end
end Go.Proofs.YteadaggehndacaaDoor
/- The law ListAlone, in plain terms: the list is the keys that are in. Generic over the program. -/
namespace Go.Proofs.YteadaggehndacaaDoor
set_option maxRecDepth 100000
set_option maxHeartbeats 16000000
open Go Go.RowKit
set_option linter.unusedSimpArgs false
set_option linter.unusedVariables false
/-- the records that are in, by their keys, from a key on -/
def inA : Int → List Int → List (Int × Bool)
  | _, [] => []
  | k, v :: r => bif decide (v = 0) then inA (k + 1) r else (v, false) :: inA (k + 1) r
theorem inA_app : ∀ (a b : List Int) (k : Int), inA k (a ++ b) = inA k a ++ inA (k + a.length) b
  | [], b, k => by simp [inA]
  | v :: a, b, k => by
    have ih := inA_app a b (k + 1)
    have e : k + 1 + (a.length : Int) = k + ((v :: a).length : Nat) := by simp; omega
    show (bif decide (v = 0) then inA (k + 1) (a ++ b) else (v, false) :: inA (k + 1) (a ++ b)) = (bif decide (v = 0) then inA (k + 1) a else (v, false) :: inA (k + 1) a) ++ _
    rw [ih, e]
    cases decide (v = 0) <;> rfl
/-- the keys are told -/
def KeyA (key : Int → Int) (k : Int) (l : List Int) : Prop := ∀ (j : Nat) v, l[j]? = some v → v ≠ 0 → key v = k + j
theorem KeyA.tail {key : Int → Int} {k v : Int} {l : List Int} (h : KeyA key k (v :: l)) : KeyA key (k + 1) l := fun j x hx h0 => by
  have := h (j + 1) x (by simpa using hx) h0
  omega
theorem KeyA.app {key : Int → Int} {k : Int} {a b : List Int} (h : KeyA key k (a ++ b)) : KeyA key k a ∧ KeyA key (k + a.length) b := by
  refine ⟨fun j v hv h0 => h j v ?_ h0, fun j v hv h0 => ?_⟩
  · rw [List.getElem?_append_left (List.getElem?_eq_some_iff.1 hv).1]; exact hv
  · have := h (a.length + j) v (by rw [List.getElem?_append_right (by omega), Nat.add_sub_cancel_left]; exact hv) h0
    omega
theorem inA_mem {key : Int → Int} : ∀ {l : List Int} {k : Int}, KeyA key k l → ∀ y ∈ inA k l, y.2 = false ∧ k ≤ key y.1 ∧ key y.1 < k + l.length ∧ y.1 ∈ l ∧ y.1 ≠ 0
  | [], k, h, y, hy => by cases hy
  | v :: l, k, h, y, hy => by
    have ih := inA_mem (key := key) (l := l) (k := k + 1) h.tail
    have hy : y ∈ (bif decide (v = 0) then inA (k + 1) l else (v, false) :: inA (k + 1) l) := hy
    have up : y ∈ inA (k + 1) l → y.2 = false ∧ k ≤ key y.1 ∧ key y.1 < k + ((v :: l).length : Nat) ∧ y.1 ∈ v :: l ∧ y.1 ≠ 0 := fun hm => by
      obtain ⟨a, b, c, d, e⟩ := ih y hm
      exact ⟨a, by omega, by simp; omega, List.mem_cons_of_mem _ d, e⟩
    cases hv : decide (v = 0) with
    | true => rw [hv] at hy; exact up hy
    | false =>
      rw [hv] at hy
      rcases List.mem_cons.1 hy with rfl | hy
      · have hk := h 0 v rfl (of_decide_eq_false hv)
        exact ⟨rfl, by show k ≤ key v; omega, by show key v < _; simp; omega, List.mem_cons_self .., of_decide_eq_false hv⟩
      · exact up hy
/-- ahead of what is sought -/
theorem srch_low (key : Int → Int) (q : Int) : ∀ {l1 : List (Int × Bool)} {p : Int} (l2 : List (Int × Bool)), (∀ y ∈ l1, y.2 = false ∧ key y.1 < q) → srch key q p (l1 ++ l2) = srch key q (wG p l1) l2 ∧ qU key q (l1 ++ l2) = l1 ++ qU key q l2
  | [], p, l2, _ => ⟨rfl, rfl⟩
  | (y, b) :: l1, p, l2, h => by
    obtain ⟨hb, hk⟩ := h (y, b) (List.mem_cons_self ..)
    have hb : b = false := hb
    subst hb
    have hd : decide (q ≤ key y) = false := decide_eq_false (by show ¬ q ≤ key y; have : key y < q := hk; omega)
    obtain ⟨a, c⟩ := srch_low key q (l1 := l1) (p := y) l2 fun z hz => h z (List.mem_cons_of_mem _ hz)
    refine ⟨?_, ?_⟩
    · show (bif decide (q ≤ key y) then _ else srch key q y (l1 ++ l2)) = _
      rw [hd]; exact a
    · show (bif decide (q ≤ key y) then _ else (y, false) :: qU key q (l1 ++ l2)) = _
      rw [hd, cond_false, c]; rfl
/-- from it on -/
theorem srch_high (key : Int → Int) (q p : Int) : ∀ {l2 : List (Int × Bool)}, (∀ y ∈ l2, y.2 = false ∧ q ≤ key y.1) → srch key q p l2 = ⟨p, hd l2, bif decide (hd l2 = 0) then false else decide (key (hd l2) = q), true⟩ ∨ (∃ t, l2 = (0, false) :: t) := fun {l2} h => by
  cases l2 with
  | nil => exact .inl rfl
  | cons y t =>
    obtain ⟨y, b⟩ := y
    obtain ⟨hb, hk⟩ := h (y, b) (List.mem_cons_self ..)
    have hb : b = false := hb
    subst hb
    by_cases hy : y = 0
    · subst hy; exact .inr ⟨t, rfl⟩
    · left
      have hd : decide (q ≤ key y) = true := decide_eq_true hk
      show (bif decide (q ≤ key y) then (⟨p, y, decide (key y = q), true⟩ : wL) else _) = ⟨p, y, bif decide (y = 0) then false else decide (key y = q), true⟩
      rw [hd, decide_eq_false hy]; rfl
theorem srchL_high (key : Int → Int) (q : Int) : ∀ {l2 : List (Int × Bool)}, (∀ y ∈ l2, y.2 = false ∧ q ≤ key y.1) → qU key q l2 = l2
  | [], _ => rfl
  | (y, b) :: t, h => by
    obtain ⟨hb, hk⟩ := h (y, b) (List.mem_cons_self ..)
    have hb : b = false := hb
    subst hb
    show (bif decide (q ≤ key y) then _ else _) = _
    rw [decide_eq_true (show q ≤ key y from hk)]; rfl
section
variable {key : Int → Int} {a b : List Int} {v : Int}
/-- a search for a key that isn't in -/
theorem srch_none (h : KeyA key 0 (a ++ 0 :: b)) : srch key a.length 0 (inA 0 (a ++ 0 :: b)) = ⟨wG 0 (inA 0 a), hd (inA (a.length + 1) b), false, true⟩ ∧ qU key a.length (inA 0 (a ++ 0 :: b)) = inA 0 a ++ inA (a.length + 1) b ∧ inA 0 (a ++ 0 :: b) = inA 0 a ++ inA (a.length + 1) b := by
  obtain ⟨h1, h2⟩ := h.app
  rw [Int.zero_add] at h2
  have e : inA 0 (a ++ 0 :: b) = inA 0 a ++ inA (a.length + 1) b := by
    rw [inA_app, Int.zero_add]; rfl
  have m1 : ∀ y ∈ inA 0 a, y.2 = false ∧ key y.1 < a.length := fun y hy => by have := inA_mem h1 y hy; exact ⟨this.1, by omega⟩
  have m2 : ∀ y ∈ inA (a.length + 1) b, y.2 = false ∧ (a.length : Int) < key y.1 ∧ y.1 ≠ 0 := fun y hy => by have := inA_mem h2.tail y hy; exact ⟨this.1, by omega, this.2.2.2.2⟩
  obtain ⟨s1, s2⟩ := srch_low key a.length (p := 0) (inA (a.length + 1) b) m1
  have m3 : ∀ y ∈ inA (a.length + 1) b, y.2 = false ∧ (a.length : Int) ≤ key y.1 := fun y hy => ⟨(m2 y hy).1, by have := (m2 y hy).2.1; omega⟩
  rw [e, s1, s2, srchL_high key _ m3]
  refine ⟨?_, rfl, rfl⟩
  rcases srch_high key a.length (wG 0 (inA 0 a)) m3 with hh | ⟨t, ht⟩
  · rw [hh]
    cases hl : inA (a.length + 1) b with
    | nil => rfl
    | cons y t =>
      have hy := m2 y (by rw [hl]; exact List.mem_cons_self ..)
      show (⟨_, y.1, bif decide (y.1 = 0) then false else decide (key y.1 = a.length), true⟩ : wL) = ⟨_, y.1, false, true⟩
      rw [decide_eq_false hy.2.2, cond_false, decide_eq_false (show ¬ key y.1 = a.length by have := hy.2.1; omega)]
  · exact absurd rfl (m2 (0, false) (by rw [ht]; exact List.mem_cons_self ..)).2.2
/-- for one that is -/
theorem srch_some (hv : v ≠ 0) (h : KeyA key 0 (a ++ v :: b)) : srch key a.length 0 (inA 0 (a ++ v :: b)) = ⟨wG 0 (inA 0 a), v, true, true⟩ ∧ qU key a.length (inA 0 (a ++ v :: b)) = inA 0 (a ++ v :: b) ∧ inA 0 (a ++ v :: b) = inA 0 a ++ (v, false) :: inA (a.length + 1) b := by
  obtain ⟨h1, h2⟩ := h.app
  rw [Int.zero_add] at h2
  have hk := h2 0 v rfl hv
  have e : inA 0 (a ++ v :: b) = inA 0 a ++ (v, false) :: inA (a.length + 1) b := by
    rw [inA_app, Int.zero_add]
    show _ ++ (bif decide (v = 0) then _ else _) = _
    rw [decide_eq_false hv]; rfl
  have m1 : ∀ y ∈ inA 0 a, y.2 = false ∧ key y.1 < a.length := fun y hy => by have := inA_mem h1 y hy; exact ⟨this.1, by omega⟩
  obtain ⟨s1, s2⟩ := srch_low key a.length (p := 0) ((v, false) :: inA (a.length + 1) b) m1
  have c1 : decide ((a.length : Int) ≤ key v) = true := decide_eq_true (by omega)
  rw [e, s1, s2]
  refine ⟨?_, ?_, rfl⟩
  · show (bif decide ((a.length : Int) ≤ key v) then (⟨_, v, decide (key v = a.length), true⟩ : wL) else _) = _
    rw [c1, decide_eq_true (show key v = a.length by omega)]; rfl
  · show _ ++ (bif decide ((a.length : Int) ≤ key v) then _ else _) = _
    rw [c1]; rfl
/-- for one that was marked -/
theorem srch_dead (h : KeyA key 0 (a ++ 0 :: b)) : (srch key a.length 0 (inA 0 a ++ (v, true) :: inA (a.length + 1) b)).is = false ∧ qU key a.length (inA 0 a ++ (v, true) :: inA (a.length + 1) b) = inA 0 (a ++ 0 :: b) := by
  obtain ⟨g1, g2, g3⟩ := srch_none h
  obtain ⟨h1, h2⟩ := h.app
  have m1 : ∀ y ∈ inA 0 a, y.2 = false ∧ key y.1 < a.length := fun y hy => by have := inA_mem h1 y hy; exact ⟨this.1, by omega⟩
  obtain ⟨s1, s2⟩ := srch_low key a.length (p := 0) ((v, true) :: inA (a.length + 1) b) m1
  obtain ⟨t1, t2⟩ := srch_low key a.length (p := 0) (inA (a.length + 1) b) m1
  rw [s1, s2]
  refine ⟨?_, ?_⟩
  · show (srch key a.length (wG 0 (inA 0 a)) (inA (a.length + 1) b)).is = false
    rw [← t1, ← g3, g1]
  · show _ ++ qU key a.length (inA (a.length + 1) b) = _
    rw [← t2, ← g3, g2, g3]
theorem inA_set {x : Int} (hx : x ≠ 0) : inA 0 (a ++ x :: b) = inA 0 a ++ (x, false) :: inA (a.length + 1) b := by
  rw [inA_app, Int.zero_add]
  show _ ++ (bif decide (x = 0) then _ else _) = _
  rw [decide_eq_false hx]; rfl
theorem inA_len : ∀ (l : List Int) (k : Int), (inA k l).length ≤ l.length
  | [], _ => Nat.le_refl _
  | v :: l, k => by
    have := inA_len l (k + 1)
    show (bif decide (v = 0) then inA (k + 1) l else (v, false) :: inA (k + 1) l).length ≤ l.length + 1
    cases decide (v = 0)
    · show (inA (k + 1) l).length + 1 ≤ _; omega
    · show (inA (k + 1) l).length ≤ _; omega
end
end Go.Proofs.YteadaggehndacaaDoor
/- Flags, and what is alive: the program's, whatever makes its accesses: contracts. -/
namespace Go.Proofs.YteadaggehndacaaDoor
set_option maxRecDepth 100000
set_option maxHeartbeats 16000000
open Go Go.RowKit
set_option linter.unusedSimpArgs false
set_option linter.unusedVariables false
attribute [local irreducible] zY zZ Step zQ Sub zO zR Fn
theorem fieldR {t r : Int} (h : Rc t r) (f : Int) (hf : 0 ≤ f ∧ f ≤ 7) : Fn Tryd.prog 55 [.val (.int .i64 t), .val (.int .i64 r), .val (.int .i64 f)] (.p (.val (.int .i64 (zF t r f)))) := field_fn t r f h.1 ⟨by have := h.2.1; omega, h.2.2⟩ (by unfold Small; omega)
def qG (b : Int) : Blk := .box 3 [.p (.val (.int .i64 b))]
def entB (k s y u v x : Int) : Blk := .box 143 [.p (.val (.int .i64 k)), .p (.val (.int .u64 s)), .p (.val (.int .u64 y)), .p (.val (.int .u64 u)), .p (.val (.int .u64 v)), .p (.val (.int .u64 x))]
theorem flag_h (H : Hnd) (s0 : H.σ) {t r : Int} (h : Rc t r) : FnH H 72 [H.doA, .p (.val (.int .i64 t)), .p (.val (.int .i64 r))] [] (fun x => .p (.val (.int .u64 x))) (fun _ => []) U s0 (flagP t r) := by
  unfold Hnd.doA
  refine wJ Tryd.func72 rfl Tryd.ntmps72 (Nat.le_of_ble_eq_true rfl) (by decide) (xZ _) fun hok hns => ?_
  repeat' (first | (refine zY.is ?_; first | refine zY.nil ?_ | (refine zY.at_ 6 rfl ?_; refine zY.rc (.v yV .e) ?_) | (refine zY.in_ [10] rfl ?_; refine zY.v rfl rfl (yK (fieldR h 2 (by decide)) rfl rfl rfl (by decide)) ?_) | (refine zY.in_ [11] rfl ?_; refine zY.ofT rfl (zR.hd (i := []) (f := load_h H _ _) (r := fun x s e g hk => ?_) (p := fun q s e => ?_) (t := ?_)))) | (refine zZ.is ?_; first | refine zZ.seq ?_ | (refine zZ.isR (id := 0) ?_; refine zZ.rc [0, 1, 2] [1000, 1001, 1002] (r := (.v yV .e)) (h := ?_)) | (refine zZ.isR (id := 1) ?_; refine zZ.rc [0, 1, 2, 6] [1000, 1001, 1002] (r := (.v vM (.v zC (.v zC .e)))) (h := ?_)) | refine zZ.ret ?_) | refine zS.p ?_)
  all_goals (first | exact fun e => hns (by clear hns; simp only [flagP, run_bind, zN, zM, Held.zB, Held.zI, Held.zD, cond_true, cond_false, *]) | exact .pan (q := q) rfl (by repeat' first | exact trivial | rfl | constructor) (by repeat' exact trivial) (by simp only [flagP, run_bind, zN, zM, Held.zB, Held.zI, Held.zD, cond_true, cond_false, *]) | exact .ret (by exact .inl rfl) (by exact .one rfl rfl) (by repeat' first | exact trivial | rfl | constructor) (by simp only [flagP, run_bind, zN, zM, Held.zB, Held.zI, Held.zD, cond_true, cond_false, *] <;> rfl))
theorem flagL_h (H : Hnd) (s0 : H.σ) {t r : Int} (h : Rc t r) : FnH H 72 [H.doA, .p (.val (.int .i64 t)), .p (.val (.int .i64 r))] [] (fun x => .p (.val (.int .u64 x))) (fun _ => []) U s0 (wH (zF t r 2)) := flag_h H s0 h
theorem over1_fn (f b : Int) (h0 : 0 ≤ f) (h1 : f < 18446744073709551616) : FnE Tryd.prog 57 [.p (.val (.int .u64 f)), .ptr 1000 0] [qG b] (.ret (.p (.val (.bool (ov1 b f))))) [qG b] := by
  have c1 := has_fn f b h0 h1
  refine fn_ofE Tryd.func57 rfl Tryd.ntmps57 (Nat.le_of_ble_eq_true rfl) (by decide) ?_
  repeat' (first | (refine zY.is ?_; first | refine zY.nil ?_ | (refine zY.at_ 3 rfl ?_; refine zY.rc (.v yV .e) ?_) | (refine zY.in_ [6] rfl ?_; refine zY.v rfl rfl (yK (c1) rfl rfl rfl (by decide)) ?_)) | (refine zZ.is ?_; first | refine zZ.seq ?_ | (refine zZ.isR (id := 0) ?_; refine zZ.rc [0, 1] [1000] (r := (.v yV .e)) (h := ?_)) | (refine zZ.isR (id := 1) ?_; refine zZ.rc [0, 1, 3] [1000] (r := (.v zC (.v yN .e))) (h := ?_)) | refine zZ.ret ?_))
  all_goals exact ⟨(by exact .inl rfl), _, Sub.refl _, .one rfl rfl, qV (by repeat' first | exact trivial | rfl | constructor)⟩
theorem over2_fn (g k s y u v x b : Int) (h0 : 0 ≤ g) (h1 : g < 18446744073709551616) : FnE Tryd.prog 91 [.p (.val (.int .u64 g)), .ptr 1000 0, .ptr 1001 0] [entB k s y u v x, qG b] (.ret (.p (.val (.bool (over2 s b g))))) [entB k s y u v x, qG b] := by
  have c1 := has_fn g b h0 h1
  have c2 := wstamp_fn g
  refine fn_ofE Tryd.func91 rfl Tryd.ntmps91 (Nat.le_of_ble_eq_true rfl) (by decide) ?_
  unfold over2
  cases hb : decide (g / 4 = s)
  case false =>
    have hb2 : (!decide (g / 4 = s)) = true := by rw [hb]; rfl
    repeat' (first | (refine zY.nil ?_) | (refine zZ.is ?_; first | refine zZ.seq ?_ | (refine zZ.isR (id := 0) ?_; refine zZ.rc [0, 1, 2] [1000, 1001] (r := (.v yV .e)) (h := ?_)) | (refine zZ.isR (id := 1) ?_; refine zZ.rk [0, 1, 2, 4] [1000, 1001] ?_; refine zZ.draws ?_) | refine zZ.ret ?_) | (refine Draws.is ?_; first | refine Draws.rc (.v zC .e) ?_ | refine Draws.rc (.v yR (.v yN (.v v42_0 (.v zC (.gF (.gF (.gF (.v qI (.v yV .e))))))))) ?_ | (refine Draws.in_ [6] rfl ?_; refine Draws.v rfl rfl (yK (c2) rfl rfl rfl (by decide)) ?_) | refine Draws.done (by kernel_rfl) (by kernel_rfl) (by kernel_rfl) ?_) | (refine zO.nil ?_))
    all_goals exact ⟨(by exact .inl rfl), _, Sub.refl _, .one rfl rfl, qV (by repeat' first | exact trivial | rfl | constructor)⟩
  case true =>
    have hb2 : (!decide (g / 4 = s)) = false := by rw [hb]; rfl
    repeat' (first | (refine zY.nil ?_) | (refine zZ.is ?_; first | refine zZ.seq ?_ | (refine zZ.isR (id := 0) ?_; refine zZ.rc [0, 1, 2] [1000, 1001] (r := (.v yV .e)) (h := ?_)) | (refine zZ.isR (id := 1) ?_; refine zZ.rk [0, 1, 2, 4] [1000, 1001] ?_; refine zZ.draws ?_) | refine zZ.ret ?_) | (refine Draws.is ?_; first | refine Draws.rc (.v zC .e) ?_ | refine Draws.rc (.v yR (.v yN (.v v42_0 (.v zC (.gY zC (.gY yN .e)))))) ?_ | refine Draws.rc (.v qY (.v yV .e)) ?_ | (refine Draws.in_ [6] rfl ?_; refine Draws.v rfl rfl (yK (c2) rfl rfl rfl (by decide)) ?_) | (refine Draws.in_ [13] rfl ?_; refine Draws.gY rfl rfl (by decide) rfl bA rfl (yK (c1) rfl rfl rfl (by decide)) ?_) | refine Draws.done (by kernel_rfl) (by kernel_rfl) (by kernel_rfl) ?_) | (refine zO.nil ?_))
    all_goals exact ⟨(by exact .inl rfl), _, Sub.refl _, .one rfl rfl, qV (by repeat' first | exact trivial | rfl | constructor)⟩
end Go.Proofs.YteadaggehndacaaDoor
/- A bit of a flag is set, unless that is done: the program's loop with its two closures, whatever makes its accesses: contracts. -/
namespace Go.Proofs.YteadaggehndacaaDoor
set_option maxRecDepth 100000
set_option maxHeartbeats 16000000
open Go Go.RowKit
set_option linter.unusedSimpArgs false
set_option linter.unusedVariables false
attribute [local irreducible] zY zZ Step zQ Sub zO zR Fn
def setS1 (H : Hnd) (t r b : Int) (s : H.σ) : AS :=
  { t := [(0, H.doA), (1, .p (.val (.int .i64 t))), (2, .p (.val (.int .i64 r))), (3, .p (.val (.int .i64 b))), (4, .clo 57 [1003])], s := [(1000, H.b0 s), (1001, H.b1 s), (1002, H.b2 s), (1003, qG b)] }
theorem set1_h (H : Hnd) (s0 : H.σ) {t r b : Int} (h : Rc t r) (hb : b = 1 ∨ b = 2) : FnH H 56 [H.doA, .p (.val (.int .i64 t)), .p (.val (.int .i64 r)), .p (.val (.int .i64 b)), .clo 57 [1003]] [qG b] (fun _ => .any) (fun _ => [qG b]) yes s0 (setP (ov1 b) (zF t r 2) b) := by
  unfold Hnd.doA
  have hwb : IntKind.u64.wrap b = b := wrap_u64 _ (by omega)
  have cf := fieldR h 2 (by decide)
  have F1 := fun f (h0 : U f) (h1 : ov1 b f = false) => (orBit f b h0.lo h0.hi hb h1).1
  refine wJ Tryd.func56 rfl Tryd.ntmps56 (Nat.le_of_ble_eq_true rfl) (by decide) (fine_set hb fun _ h => h) fun hok hns => ?_
  repeat' ((refine zZ.is ?_; refine zZ.block ?_))
  refine zZ.loop (fun p : Nat × H.σ => setS1 H t r b p.2) (fun p => H.ok p.2 ∧ (Pr.loop (vQ (ov1 b) (zF t r 2) b) p.1 ()).run H.st p.2 = (setP (ov1 b) (zF t r 2) b).run H.st s0) (fun p => p.1) (many, s0) ?h0 ⟨hok, rfl⟩ ?rd
  case h0 =>
    exact yS K_s K_1n
  case rd =>
    rintro ⟨n, s1⟩ ⟨hok1, ho⟩
    cases n with
    | zero => exact absurd ho.symm hns
    | succ n =>
      dsimp only at hok1 ho ⊢
      rw [Pr.loop_succ] at ho
      rw [← ho] at hns ⊢
      repeat' (first | (refine zY.is ?_; first | refine zY.nil ?_ | (refine zY.at_ 10 rfl ?_; refine zY.rc (.v yV .e) ?_) | (refine zY.at_ 18 rfl ?_; refine zY.rc (.v zC .e) ?_) | (refine zY.at_ 19 rfl ?_; refine zY.rc (.gY vM (.gY zC (.gY zC .e))) ?_) | (refine zY.at_ 19 rfl ?_; refine zY.rc (.gF (.gF (.gF (.gF (.gF (.gF (.gF (.gF (.gF (.gF (.v qI .e))))))))))) ?_) | (refine zY.at_ 23 rfl ?_; refine zY.rc (.gY zC (.gY zC (.gY zC (.gY v6_0 (.gY v36_1 .e))))) ?_) | (refine zY.at_ 29 rfl ?_; refine zY.rc (.v qY .e) ?_) | (refine zY.in_ [17] rfl ?_; refine zY.ofT rfl (zR.eR [1003] (over1_fn _ b (U.lo (by assumption)) (U.hi (by assumption))) ?_)) | (refine zY.in_ [14] rfl ?_; refine zY.ofT rfl (zR.hd (i := []) (f := flagL_h H _ h) (r := fun x s e g hk => ?_) (p := fun q s e => ?_) (t := ?_))) | (refine zY.in_ [22] rfl ?_; refine zY.gY rfl rfl (by decide) rfl bA rfl (by decide) (yK (cf) rfl rfl rfl (by decide)) ?_) | (refine zY.in_ [28] rfl ?_; refine zY.ofTg rfl rfl (by decide) rfl bA (zR.hd (i := []) (f := cas_h H _ _ _ _ (by assumption) (orU (by assumption) hb (by assumption))) (r := fun x s e g hk => ?_) (p := fun q s e => ?_) (t := ?_))) | (fail_if_success refine zY.known rfl rfl rfl (by fail) ?_); refine zY.split rfl rfl rfl (fun h => ?_) (fun h => ?_)) | (refine zZ.is ?_; first | refine zZ.seq ?_ | (refine zZ.isR (id := 0) ?_; refine zZ.rc [0, 1, 2, 3, 4, 10, 29] [1000, 1001, 1002, 1003] (r := (.v vM (.v zC (.v zC .e)))) (h := ?_)) | (refine zZ.isR (id := 1) ?_; refine zZ.rc [0, 1, 2, 3, 4, 10, 29] [1000, 1001, 1002, 1003] (r := (.v vM (.v zC .e))) (h := ?_)) | refine zZ.yT rfl bA ?_ | refine zZ.cond rfl (fun h => ?_) (fun h => ?_) | refine zZ.skip ?_ | refine zZ.block ?_ | refine zZ.ret ?_) | refine zS.n ?_ | refine zS.r ?_ | refine yA.n ?_ | refine yA.r ?_)
      all_goals (first | exact fun e => hns (by clear hns; simp only [vQ, run_bind, zN, zM, Held.zB, Held.zI, Held.zD, cond_true, cond_false, *]) | exact .pan (q := q) rfl (by repeat' first | exact trivial | rfl | constructor) (by repeat' first | exact trivial | exact ⟨_, rfl, rfl⟩ | constructor) (by simp only [vQ, run_bind, zN, zM, Held.zB, Held.zI, Held.zD, cond_true, cond_false, *]) | exact .ret (x := ()) (by exact .inl rfl) (by exact .none rfl) (by repeat' first | exact trivial | rfl | constructor) (by simp only [vQ, run_bind, zN, zM, Held.zB, Held.zI, Held.zD, cond_true, cond_false, *]) | skip)
      refine ⟨(n, s), ?_, ⟨by assumption, ?_⟩, Nat.lt_succ_self n⟩
      · exact yS K_s K_1n
      · simp only [vQ, run_bind, zN, zM, Held.zB, cond_true, cond_false, *]
def setS2 (H : Hnd) (t r b ek es ey eu ev ex : Int) (s : H.σ) : AS :=
  { t := [(0, H.doA), (1, .p (.val (.int .i64 t))), (2, .p (.val (.int .i64 r))), (3, .p (.val (.int .i64 b))), (4, .clo 91 [1003, 1004])], s := [(1000, H.b0 s), (1001, H.b1 s), (1002, H.b2 s), (1003, entB ek es ey eu ev ex), (1004, qG b)] }
theorem set2_h (H : Hnd) (s0 : H.σ) {t r b : Int} (h : Rc t r) (hb : b = 1 ∨ b = 2) (ek es ey eu ev ex : Int) : FnH H 56 [H.doA, .p (.val (.int .i64 t)), .p (.val (.int .i64 r)), .p (.val (.int .i64 b)), .clo 91 [1003, 1004]] [entB ek es ey eu ev ex, qG b] (fun _ => .any) (fun _ => [entB ek es ey eu ev ex, qG b]) yes s0 (setP (over2 es b) (zF t r 2) b) := by
  unfold Hnd.doA
  have hwb : IntKind.u64.wrap b = b := wrap_u64 _ (by omega)
  have cf := fieldR h 2 (by decide)
  have F1 := fun f (h0 : U f) (h1 : over2 es b f = false) => (orBit f b h0.lo h0.hi hb (over2_has h1)).1
  refine wJ Tryd.func56 rfl Tryd.ntmps56 (Nat.le_of_ble_eq_true rfl) (by decide) (fine_set hb fun _ h => over2_has h) fun hok hns => ?_
  repeat' ((refine zZ.is ?_; refine zZ.block ?_))
  refine zZ.loop (fun p : Nat × H.σ => setS2 H t r b ek es ey eu ev ex p.2) (fun p => H.ok p.2 ∧ (Pr.loop (vQ (over2 es b) (zF t r 2) b) p.1 ()).run H.st p.2 = (setP (over2 es b) (zF t r 2) b).run H.st s0) (fun p => p.1) (many, s0) ?h0 ⟨hok, rfl⟩ ?rd
  case h0 =>
    exact yS K_s K_1o
  case rd =>
    rintro ⟨n, s1⟩ ⟨hok1, ho⟩
    cases n with
    | zero => exact absurd ho.symm hns
    | succ n =>
      dsimp only at hok1 ho ⊢
      rw [Pr.loop_succ] at ho
      rw [← ho] at hns ⊢
      repeat' (first | (refine zY.is ?_; first | refine zY.nil ?_ | (refine zY.at_ 10 rfl ?_; refine zY.rc (.v yV .e) ?_) | (refine zY.at_ 18 rfl ?_; refine zY.rc (.v zC .e) ?_) | (refine zY.at_ 19 rfl ?_; refine zY.rc (.gY vM (.gY zC (.gY zC .e))) ?_) | (refine zY.at_ 19 rfl ?_; refine zY.rc (.gF (.gF (.gF (.gF (.gF (.gF (.gF (.gF (.gF (.gF (.v qI .e))))))))))) ?_) | (refine zY.at_ 23 rfl ?_; refine zY.rc (.gY zC (.gY zC (.gY zC (.gY v6_0 (.gY v36_1 .e))))) ?_) | (refine zY.at_ 29 rfl ?_; refine zY.rc (.v qY .e) ?_) | (refine zY.in_ [17] rfl ?_; refine zY.ofT rfl (zR.eR [1003, 1004] (over2_fn _ ek es ey eu ev ex b (U.lo (by assumption)) (U.hi (by assumption))) ?_)) | (refine zY.in_ [14] rfl ?_; refine zY.ofT rfl (zR.hd (i := []) (f := flagL_h H _ h) (r := fun x s e g hk => ?_) (p := fun q s e => ?_) (t := ?_))) | (refine zY.in_ [22] rfl ?_; refine zY.gY rfl rfl (by decide) rfl bA rfl (by decide) (yK (cf) rfl rfl rfl (by decide)) ?_) | (refine zY.in_ [28] rfl ?_; refine zY.ofTg rfl rfl (by decide) rfl bA (zR.hd (i := []) (f := cas_h H _ _ _ _ (by assumption) (orU (by assumption) hb (over2_has (by assumption)))) (r := fun x s e g hk => ?_) (p := fun q s e => ?_) (t := ?_))) | (fail_if_success refine zY.known rfl rfl rfl (by fail) ?_); refine zY.split rfl rfl rfl (fun h => ?_) (fun h => ?_)) | (refine zZ.is ?_; first | refine zZ.seq ?_ | (refine zZ.isR (id := 0) ?_; refine zZ.rc [0, 1, 2, 3, 4, 10, 29] [1000, 1001, 1002, 1003, 1004] (r := (.v vM (.v zC (.v zC .e)))) (h := ?_)) | (refine zZ.isR (id := 1) ?_; refine zZ.rc [0, 1, 2, 3, 4, 10, 29] [1000, 1001, 1002, 1003, 1004] (r := (.v vM (.v zC .e))) (h := ?_)) | refine zZ.yT rfl bA ?_ | refine zZ.cond rfl (fun h => ?_) (fun h => ?_) | refine zZ.skip ?_ | refine zZ.block ?_ | refine zZ.ret ?_) | refine zS.n ?_ | refine zS.r ?_ | refine yA.n ?_ | refine yA.r ?_)
      all_goals (first | exact fun e => hns (by clear hns; simp only [vQ, run_bind, zN, zM, Held.zB, Held.zI, Held.zD, cond_true, cond_false, *]) | exact .pan (q := q) rfl (by repeat' first | exact trivial | rfl | constructor) (by repeat' first | exact trivial | exact ⟨_, rfl, rfl⟩ | constructor) (by simp only [vQ, run_bind, zN, zM, Held.zB, Held.zI, Held.zD, cond_true, cond_false, *]) | exact .ret (x := ()) (by exact .inl rfl) (by exact .none rfl) (by repeat' first | exact trivial | rfl | constructor) (by simp only [vQ, run_bind, zN, zM, Held.zB, Held.zI, Held.zD, cond_true, cond_false, *]) | skip)
      refine ⟨(n, s), ?_, ⟨by assumption, ?_⟩, Nat.lt_succ_self n⟩
      · exact yS K_s K_1o
      · simp only [vQ, run_bind, zN, zM, Held.zB, cond_true, cond_false, *]
end Go.Proofs.YteadaggehndacaaDoor
/- Set; accesses of a disk; what a flag hasn't is made durable: the program's, whatever makes its accesses: contracts. -/
namespace Go.Proofs.YteadaggehndacaaDoor
set_option maxRecDepth 100000
set_option maxHeartbeats 16000000
open Go Go.RowKit
set_option linter.unusedSimpArgs false
set_option linter.unusedVariables false
attribute [local irreducible] zY zZ Step zQ Sub zO zR Fn
theorem setOp_h (H : Hnd) (s0 : H.σ) {t r b : Int} (hR : Rc t r) (hb : b = 1 ∨ b = 2) : FnH H 43 [H.doA, .p (.val (.int .i64 t)), .p (.val (.int .i64 r)), .p (.val (.int .i64 b))] [] (fun _ => .any) (fun _ => []) yes s0 (setP (ov1 b) (zF t r 2) b) := by
  unfold Hnd.doA
  refine wJ Tryd.func43 rfl Tryd.ntmps43 (Nat.le_of_ble_eq_true rfl) (by decide) (fine_set hb fun _ h => h) fun hok hns => ?_
  repeat' (first | (refine zY.is ?_; first | refine zY.nil ?_ | (refine zY.in_ [13] rfl ?_; refine zY.ofT rfl (zR.hd (i := [7]) (f := set1_h H _ hR hb) (r := fun x s e g hk => ?_) (p := fun q s e => ?_) (t := ?_)))) | (refine zZ.is ?_; first | refine zZ.seq ?_ | (refine zZ.isR (id := 0) ?_; refine zZ.rc [0, 1, 2, 3] [7, 1000, 1001, 1002] (r := (.m m18_1 .e)) (h := ?_)) | (refine zZ.isR (id := 1) ?_; refine zZ.rc [0, 1, 2, 7] [7, 1000, 1001, 1002] (r := (.v vM (.v zC (.v zC (.v yN (.v v14_0 .e)))))) (h := ?_))))
  all_goals (first | exact fun e => hns (by clear hns; simp only [run_bind, zN, zM, Held.zB, Held.zI, Held.zD, cond_true, cond_false, *]) | exact .pan (q := q) rfl (by repeat' first | exact trivial | rfl | constructor) (by repeat' exact trivial) (by simp only [run_bind, zN, zM, Held.zB, Held.zI, Held.zD, cond_true, cond_false, *]) | exact .ret (x := ()) (by exact .inr rfl) (by exact .none rfl) (by repeat' first | exact trivial | rfl | constructor) (by simp only [run_bind, zN, zM, Held.zB, Held.zI, Held.zD, cond_true, cond_false, *]))
def doB (H : Hnd) : Blk := .box 55 [H.doA]
theorem ld_h (H : Hnd) (s0 : H.σ) {t r f : Int} (hR : Rc t r) (hf : 0 ≤ f ∧ f ≤ 7) :
    FnH H 88 [.p (.val (.int .i64 f)), .ptr 1003 0, .ptr 1004 0, .ptr 1005 0] [doB H, qG t, qG r] (fun x => .p (.val (.int .u64 x))) (fun _ => [doB H, qG t, qG r]) U s0 (wH (zF t r f)) := by
  unfold doB Hnd.doA
  refine wJ Tryd.func88 rfl Tryd.ntmps88 (Nat.le_of_ble_eq_true rfl) (by decide) (xZ _) fun hok hns => ?_
  repeat' (first | (refine zY.nil ?_) | (refine zZ.is ?_; first | refine zZ.seq ?_ | (refine zZ.isR (id := 0) ?_; refine zZ.rc [0, 1, 2, 3] [1000, 1001, 1002, 1003, 1004, 1005] (r := (.v yV .e)) (h := ?_)) | (refine zZ.isR (id := 1) ?_; refine zZ.rk [0, 1, 2, 3, 5] [1000, 1001, 1002, 1003, 1004, 1005] ?_; refine zZ.draws ?_) | refine zZ.ret ?_) | (refine Draws.is ?_; first | refine Draws.rc (.v v2_13 (.v yN (.v yN (.v zC .e)))) ?_ | (refine Draws.in_ [10] rfl ?_; refine Draws.v rfl rfl (yK (fieldR hR f hf) rfl rfl rfl (by decide)) ?_) | refine Draws.done (by kernel_rfl) (by kernel_rfl) (by kernel_rfl) ?_) | (refine zO.is ?_; first | refine zO.nil ?_ | (refine zO.at_ 5 rfl ?_; refine zO.rc (.v yV .e) ?_) | (refine zO.in_ [11] rfl ?_; refine zO.ofT rfl (zR.hd (i := []) (f := load_h H _ _) (r := fun x s e g hk => ?_) (p := fun q s e => ?_) (t := ?_)))))
  all_goals (first | exact fun e => hns (by clear hns; simp only [run_bind, zN, zM, Held.zB, Held.zI, Held.zD, cond_true, cond_false, *]) | exact .pan (q := q) rfl (by repeat' first | exact trivial | rfl | constructor) (by repeat' first | exact trivial | exact ⟨_, rfl, rfl⟩ | constructor) (by simp only [run_bind, zN, zM, Held.zB, Held.zI, Held.zD, cond_true, cond_false, *]) | exact .ret (by exact .inl rfl) (by exact .one rfl rfl) (by repeat' first | exact trivial | rfl | constructor) (by simp only [run_bind, zN, zM, Held.zB, Held.zI, Held.zD, cond_true, cond_false, *]))
theorem accQ_cells (qs : List Ned) : ∀ e ∈ qs.map accQ, e.cells.length = 6 := fun e he => by
  obtain ⟨r, _, rfl⟩ := List.mem_map.1 he
  rfl
def diskS (H : Hnd) (qs : List Ned) (p : Nat × H.σ) : AS :=
  { t := [(0, H.doA), (4, .p (.val (.bool false))), (7, .p (.sl (qs.map accQ))), (8, .p (.val (.int .i64 (qs.map accQ).length))), (9, .p (.val (.int .i64 p.1)))], s := [(1000, H.b0 p.2), (1001, H.b1 p.2), (1002, H.b2 p.2)] }
theorem disk_h (H : Hnd) (s0 : H.σ) (qs : List Ned) (hq : qs.length ≤ 1000) (ha : ∀ q ∈ qs, qP q) :
    FnH H 89 [H.doA, .p (.sl (qs.map accQ))] [] (fun b => .p (.val (.bool b))) (fun _ => []) yes s0 (diskP qs) := by
  have g4 := accQ_cells qs
  unfold Hnd.doA
  refine wJ Tryd.func89 rfl Tryd.ntmps89 (Nat.le_of_ble_eq_true rfl) (by decide) (fine_disk ha) fun hok hns => ?_
  repeat' (first | (refine zY.nil ?_) | (refine zZ.is ?_; first | refine zZ.seq ?_ | (refine zZ.isR (id := 0) ?_; refine zZ.rc [0, 1] [6, 1000, 1001, 1002] (r := (.v yV .e)) (h := ?_)) | (refine zZ.isR (id := 1) ?_; refine zZ.rc [0, 1, 4] [6, 1000, 1001, 1002] (r := (.v zC (.v v57_1 (.v zC .e)))) (h := ?_)) | refine zZ.block ?_))
  refine zZ.loop (fun p : Nat × H.σ => diskS H qs p) (fun p => p.1 ≤ qs.length ∧ H.ok p.2 ∧ (diskP (qs.drop p.1)).run H.st p.2 = (diskP qs).run H.st s0) (fun p => qs.length - p.1) (0, s0) ?h0 ⟨Nat.zero_le _, hok, rfl⟩ ?rd
  case h0 =>
    exact yS K_1p K_1q
  case rd =>
    rintro ⟨k, s1⟩ ⟨hk, hok1, ho⟩
    dsimp only at hk hok1 ho ⊢
    unfold diskS Hnd.doA
    dsimp only
    by_cases hlt : k < qs.length
    · have hdec : decide ((k : Int) < ((qs.map accQ).length : Int)) = true := decide_eq_true (by simp; omega)
      have g5 : (qs.map accQ)[k]? = some (accQ qs[k]) := by rw [List.getElem?_map, List.getElem?_eq_getElem hlt]; rfl
      have hqa : qP qs[k] := ha _ (List.getElem_mem hlt)
      rw [List.drop_eq_getElem_cons hlt, diskP] at ho
      generalize qs[k] = q at *
      have g6 : IntKind.i64.wrap ((k : Int) + 1) = ((k + 1 : Nat) : Int) := by rw [wrap_i64 _ (by omega)]; omega
      rw [← ho] at hns ⊢
      rw [show (Pr.ask q fun r => bif r.fail then Pr.ret false else diskP (qs.drop (k + 1))) = (Pr.ask q .ret).bind fun r => bif r.fail then .ret false else diskP (qs.drop (k + 1)) from rfl] at ho hns ⊢
      repeat' (first | (refine zY.is ?_; first | refine zY.nil ?_ | (refine zY.at_ 16 rfl ?_; refine zY.rc (.v v11_0 .e) ?_) | (refine zY.in_ [15] rfl ?_; refine zY.ofT rfl (zR.hd (i := []) (f := do_h H _ q hqa) (r := fun x s e g hk => ?_) (p := fun q s e => ?_) (t := ?_)))) | (refine zZ.is ?_; first | refine zZ.seq ?_ | (refine zZ.isR (id := 2) ?_; refine zZ.rc [0, 4, 6, 7, 8, 9, 10, 16] [6, 1000, 1001, 1002] (r := (.v v43_0 .e)) (h := ?_)) | (refine zZ.isR (id := 3) ?_; refine zZ.rc [0, 4, 6, 7, 8, 9, 10, 16] [6, 1000, 1001, 1002] (r := (.v v7_18 (.v v2_7 (.m xY (.w yI .e))))) (h := ?_)) | (refine zZ.isR (id := 4) ?_; refine zZ.rc [0, 4, 6, 7, 8, 9, 10, 16] [6, 1000, 1001, 1002] (r := (.v vM (.v v2_6 .e))) (h := ?_)) | (refine zZ.isR (id := 5) ?_; refine zZ.rc [0, 4, 6, 7, 8, 9, 10, 16] [6, 1000, 1001, 1002] (r := (.v yV .e)) (h := ?_)) | (refine zZ.isR (id := 6) ?_; refine zZ.rc [0, 4, 6, 7, 8, 9, 10, 16] [6, 1000, 1001, 1002] (r := (.v v30_0 (.v zC .e))) (h := ?_)) | refine zZ.yT rfl bA ?_ | refine zZ.cond rfl (fun h => ?_) (fun h => ?_) | refine zZ.skip ?_ | refine zZ.block ?_ | refine zZ.ret ?_) | refine zS.n ?_ | refine zS.r ?_ | refine yA.r ?_)
      all_goals (first | exact fun e => hns (by clear ho; clear hns; simp only [run_bind, zN, zM, Held.zB, Held.zI, Held.zD, cond_true, cond_false, *]) | exact .pan (q := q) rfl (by repeat' first | exact trivial | rfl | constructor) (by repeat' exact trivial) (by clear ho; simp only [run_bind, zN, zM, Held.zB, Held.zI, Held.zD, cond_true, cond_false, *]) | exact .ret (by exact .inl rfl) (by exact .one rfl rfl) (by repeat' first | exact trivial | rfl | constructor) (by clear ho; simp only [run_bind, zN, zM, Held.zB, Held.zI, Held.zD, cond_true, cond_false, *]) | skip)
      refine ⟨(k + 1, _), ?_, ⟨by omega, by assumption, ?_⟩, by dsimp only; omega⟩
      · exact yS K_1p K_1q
      · clear ho
        simp only [run_bind, zN, zM, Held.zB, cond_true, cond_false, *]
    · have hdec : decide ((k : Int) < ((qs.map accQ).length : Int)) = false := decide_eq_false (by simp; omega)
      obtain rfl : k = qs.length := by omega
      rw [List.drop_length, diskP] at ho
      rw [← ho] at hns ⊢
      repeat' (first | (refine zY.nil ?_) | (refine zZ.is ?_; first | refine zZ.seq ?_ | (refine zZ.isR (id := 2) ?_; refine zZ.rc [0, 4, 6, 7, 8, 9, 10, 16] [6, 1000, 1001, 1002] (r := (.v v43_0 .e)) (h := ?_)) | (refine zZ.isR (id := 7) ?_; refine zZ.rc [4] [6, 1000, 1001, 1002] (r := (.v yV .e)) (h := ?_)) | refine zZ.yU rfl bA ?_ | refine zZ.exit ?_ | refine zZ.ret ?_))
      all_goals (exact .ret (by exact .inl rfl) (by exact .one rfl rfl) (by repeat' first | exact trivial | rfl | constructor) (by clear ho; simp only [run_bind, zN, zM, Held.zB, Held.zI, Held.zD, cond_true, cond_false, *]))
theorem disk2_h (H : Hnd) (s0 : H.σ) (k s y u v x : Int) :
    FnH H 89 [H.doA, .p (.sl [accV 5 0 0 0 (.sl (byts (bytesE k s y u v x))), accV 6 0 0 0 xJ])] [] (fun b => .p (.val (.bool b))) (fun _ => []) yes s0 (diskP (wrAcc k s y u v x)) :=
  disk_h H s0 (wrAcc k s y u v x) (by unfold wrAcc; simp) (asked_wr k s y u v x)
end Go.Proofs.YteadaggehndacaaDoor
/- What a flag hasn't is made durable; save, dead: the program's, whatever makes its accesses: contracts. -/
namespace Go.Proofs.YteadaggehndacaaDoor
set_option maxRecDepth 100000
set_option maxHeartbeats 16000000
open Go Go.RowKit
set_option linter.unusedSimpArgs false
set_option linter.unusedVariables false
attribute [local irreducible] zY zZ Step zQ Sub zO zR Fn
theorem rest_h (H : Hnd) (s0 : H.σ) {t r b f : Int} (hR : Rc t r) (hb : b = 1 ∨ b = 2) (hf : U f) :
    FnH H 84 [H.doA, .p (.val (.int .i64 t)), .p (.val (.int .i64 r)), .p (.val (.int .i64 b)), .p (.val (.int .u64 f))] [] (fun x => .p (.val (.bool x))) (fun _ => []) yes s0 (restP t r b f) := by
  have ch := has_fn f b hf.1 hf.2
  have cs0 := wstamp_fn f
  have hs : U (f / 4) := hf.quo
  have z : U 0 := U.zero
  unfold Hnd.doA
  refine wJ Tryd.func84 rfl Tryd.ntmps84 (Nat.le_of_ble_eq_true rfl) (by decide) (fine_rest t r b f hb) fun hok hns => ?_
  cases hh : qL f b <;> rw [hh] at ch
  case true =>
    repeat' (first | (refine zY.is ?_; first | refine zY.nil ?_ | (refine zY.in_ [15] rfl ?_; refine zY.v rfl rfl (yK (ch) rfl rfl rfl (by decide)) ?_)) | (refine zZ.is ?_; first | refine zZ.seq ?_ | (refine zZ.isR (id := 0) ?_; refine zZ.rc [0, 1, 2, 3, 4] [5, 6, 7, 8, 11, 40, 1000, 1001, 1002] (r := (.m m18_3 (.m m18_1 (.m m18_1 (.m m18_1 (.v yV .e)))))) (h := ?_)) | (refine zZ.isR (id := 1) ?_; refine zZ.rc [4, 5, 6, 7, 8, 10] [5, 6, 7, 8, 11, 40, 1000, 1001, 1002] (r := (.v zC (.v yN .e))) (h := ?_)) | (refine zZ.isR (id := 2) ?_; refine zZ.rc [4, 5, 6, 7, 8, 10] [5, 6, 7, 8, 11, 40, 1000, 1001, 1002] (r := (.v yV .e)) (h := ?_)) | refine zZ.yT rfl bA ?_ | refine zZ.ret ?_) | refine zS.r ?_)
    all_goals (exact .ret (by exact .inl rfl) (by exact .one rfl rfl) (by repeat' first | exact trivial | rfl | constructor) (by simp only [restP, run_bind, zN, zM, Held.zB, Held.zI, Held.zD, cond_true, cond_false, *]))
  case false =>
    have ps_ := trivial
    repeat' (first | (refine zY.is ?_; first | refine zY.nil ?_ | (refine zY.at_ 18 rfl ?_; refine zY.rc (.v kF (.m xY (.w yI .e))) ?_) | (refine zY.at_ 25 rfl ?_; refine zY.rc (.v yR (.w yI .e)) ?_) | (refine zY.at_ 28 rfl ?_; refine zY.rc (.v yR (.w yI .e)) ?_) | (refine zY.at_ 31 rfl ?_; refine zY.rc (.v yR (.w yI .e)) ?_) | (refine zY.at_ 34 rfl ?_; refine zY.rc (.v yR (.w yI .e)) ?_) | (refine zY.in_ [15] rfl ?_; refine zY.v rfl rfl (yK (ch) rfl rfl rfl (by decide)) ?_) | (refine zY.in_ [17] rfl ?_; refine zY.v rfl rfl (yK (cs0) rfl rfl rfl (by decide)) ?_) | (refine zY.in_ [24, 27, 30, 33] rfl ?_; refine zY.ofT rfl (zR.hd (i := [5, 6, 7]) (f := ld_h H _ hR (by decide)) (r := fun x s e g hk => ?_) (p := fun q s e => ?_) (t := ?_))) | (refine zY.in_ [48] rfl ?_; refine zY.ofT rfl (zR.hd (i := [11, 8]) (f := set2_h H _ hR hb _ _ _ _ _ _) (r := fun x s e g hk => ?_) (p := fun q s e => ?_) (t := ?_)))) | (refine zZ.is ?_; first | refine zZ.seq ?_ | (refine zZ.isR (id := 0) ?_; refine zZ.rc [0, 1, 2, 3, 4] [5, 6, 7, 8, 11, 40, 1000, 1001, 1002] (r := (.m m18_3 (.m m18_1 (.m m18_1 (.m m18_1 (.v yV .e)))))) (h := ?_)) | (refine zZ.isR (id := 1) ?_; refine zZ.rc [4, 5, 6, 7, 8, 10] [5, 6, 7, 8, 11, 40, 1000, 1001, 1002] (r := (.v zC (.v yN .e))) (h := ?_)) | (refine zZ.isR (id := 3) ?_; refine zZ.rc [4, 5, 6, 7, 8, 10] [5, 6, 7, 8, 11, 40, 1000, 1001, 1002] (r := (.v zC .e)) (h := ?_)) | (refine zZ.isR (id := 4) ?_; refine zZ.rc [5, 6, 7, 8, 10, 11] [5, 6, 7, 8, 11, 40, 1000, 1001, 1002] (r := (.v yN (.v v41_8 .e))) (h := ?_)) | (refine zZ.isR (id := 5) ?_; refine zZ.rc [5, 6, 7, 8, 10, 11] [5, 6, 7, 8, 11, 40, 1000, 1001, 1002] (r := (.v v14_0 (.v v1_5 .e))) (h := ?_)) | (refine zZ.isR (id := 6) ?_; refine zZ.rc [5, 6, 7, 8, 10, 11, 12] [5, 6, 7, 8, 11, 40, 1000, 1001, 1002] (r := (.v yR (.w yI .e))) (h := ?_)) | (refine zZ.isR (id := 7) ?_; refine zZ.rc [5, 6, 7, 8, 10, 11, 12] [5, 6, 7, 8, 11, 40, 1000, 1001, 1002] (r := (.v vM .e)) (h := ?_)) | (refine zZ.isR (id := 8) ?_; refine zZ.rc [5, 6, 7, 8, 10, 11, 12] [5, 6, 7, 8, 11, 40, 1000, 1001, 1002] (r := (.v vM .e)) (h := ?_)) | (refine zZ.isR (id := 9) ?_; refine zZ.rc [5, 6, 7, 8, 10, 11, 12] [5, 6, 7, 8, 11, 40, 1000, 1001, 1002] (r := (.v vM .e)) (h := ?_)) | (refine zZ.isR (id := 10) ?_; refine zZ.rc [5, 6, 7, 8, 10, 11, 12] [5, 6, 7, 8, 11, 40, 1000, 1001, 1002] (r := (.v vM .e)) (h := ?_)) | (refine zZ.isR (id := 11) ?_; refine zZ.rk [5, 6, 7, 8, 10, 11] [5, 6, 7, 8, 11, 40, 1000, 1001, 1002] ?_; refine zZ.draws ?_) | (refine zZ.isR (id := 12) ?_; refine zZ.rc [5, 6, 7, 8, 10, 11] [5, 6, 7, 8, 11, 40, 1000, 1001, 1002] (r := (.v yV .e)) (h := ?_)) | (refine zZ.isR (id := 13) ?_; refine zZ.rc [5, 6, 7, 8, 10, 11] [5, 6, 7, 8, 11, 40, 1000, 1001, 1002] (r := (.v v2_13 (.v yN (.v yN (.v yN (.v v14_0 .e)))))) (h := ?_)) | (refine zZ.isR (id := 14) ?_; refine zZ.rc [10] [5, 6, 7, 8, 11, 40, 1000, 1001, 1002] (r := (.v yV .e)) (h := ?_)) | refine zZ.yU rfl bA ?_ | refine zZ.cond rfl (fun h => ?_) (fun h => ?_) | refine zZ.skip ?_ | refine zZ.ret ?_) | refine zS.r ?_ | (refine Draws.is ?_; first | refine Draws.rc (.v v2_13 (.v v2_6 .e)) ?_ | refine Draws.rc (.v kF (.v kF (.v v20_0 .e))) ?_ | (refine Draws.in_ [37] rfl ?_; refine Draws.v rfl rfl (yK (bytes_fn _ _ _ _ _ _ (by assumption) (by assumption) (by assumption) (by assumption) (by assumption)) rfl rfl rfl (by decide)) ?_) | refine Draws.done (by kernel_rfl) (by kernel_rfl) (by kernel_rfl) ?_) | (refine zO.is ?_; first | refine zO.nil ?_ | (refine zO.at_ 42 rfl ?_; refine zO.rc (.v v52_8 .e) ?_) | (refine zO.in_ [41] rfl ?_; refine zO.ofT rfl (zR.hd (i := []) (f := disk2_h H _ _ _ _ _ _ _) (r := fun x s e g hk => ?_) (p := fun q s e => ?_) (t := ?_)))))
    all_goals try simp only [Bool.not_eq_true', Bool.not_eq_false'] at *
    all_goals (first | exact fun e => hns (by clear hns; simp only [restP, wrP, run_bind, zN, zM, Held.zB, Held.zI, Held.zD, cond_true, cond_false, *]) | exact .pan (q := q) rfl (by repeat' first | exact trivial | rfl | constructor) (by repeat' exact trivial) (by simp only [restP, wrP, run_bind, zN, zM, Held.zB, Held.zI, Held.zD, cond_true, cond_false, *]) | exact .ret (by exact .inl rfl) (by exact .one rfl rfl) (by repeat' first | exact trivial | rfl | constructor) (by simp only [restP, wrP, run_bind, zN, zM, Held.zB, Held.zI, Held.zD, cond_true, cond_false, *]))
theorem save_h (H : Hnd) (s0 : H.σ) {t r b : Int} (hR : Rc t r) (hb : b = 1 ∨ b = 2) :
    FnH H 69 [H.doA, .p (.val (.int .i64 t)), .p (.val (.int .i64 r)), .p (.val (.int .i64 b))] [] (fun x => .p (.val (.bool x))) (fun _ => []) yes s0 (saveP t r b) := by
  unfold Hnd.doA
  refine wJ Tryd.func69 rfl Tryd.ntmps69 (Nat.le_of_ble_eq_true rfl) (by decide) (fine_save t r b hb) fun hok hns => ?_
  repeat' (first | (refine zY.is ?_; first | refine zY.nil ?_ | (refine zY.at_ 8 rfl ?_; refine zY.rc (.v yV .e) ?_) | (refine zY.in_ [16] rfl ?_; refine zY.ofT rfl (zR.hd (i := []) (f := flag_h H _ hR) (r := fun x s e g hk => ?_) (p := fun q s e => ?_) (t := ?_))) | (refine zY.in_ [17] rfl ?_; refine zY.ofT rfl (zR.hd (i := []) (f := rest_h H _ hR hb (by assumption)) (r := fun x s e g hk => ?_) (p := fun q s e => ?_) (t := ?_)))) | (refine zZ.is ?_; first | refine zZ.seq ?_ | (refine zZ.isR (id := 0) ?_; refine zZ.rc [0, 1, 2, 3] [1000, 1001, 1002] (r := (.v yV .e)) (h := ?_)) | (refine zZ.isR (id := 1) ?_; refine zZ.rc [0, 1, 2, 3, 8] [1000, 1001, 1002] (r := (.v vM (.v zC (.v zC (.v zC (.v vM (.v zC (.v zC .e)))))))) (h := ?_)) | refine zZ.ret ?_))
  all_goals (first | exact fun e => hns (by clear hns; simp only [saveP, run_bind, zN, zM, Held.zB, Held.zI, Held.zD, cond_true, cond_false, *]) | exact .pan (q := q) rfl (by repeat' first | exact trivial | rfl | constructor) (by repeat' exact trivial) (by simp only [saveP, run_bind, zN, zM, Held.zB, Held.zI, Held.zD, cond_true, cond_false, *]) | exact .ret (by exact .inl rfl) (by exact .one rfl rfl) (by repeat' first | exact trivial | rfl | constructor) (by simp only [saveP, run_bind, zN, zM, Held.zB, Held.zI, Held.zD, cond_true, cond_false, *]))
end Go.Proofs.YteadaggehndacaaDoor
/- A struct's literal that holds closures, in a new variable. Generic over the program. -/
namespace Go.Proofs.YteadaggehndacaaDoor
set_option maxRecDepth 100000
set_option maxHeartbeats 16000000
open Go Go.RowKit
set_option linter.unusedSimpArgs false
set_option linter.unusedVariables false
section
variable {P : Program} {n : Nat} {ops : Array Oper} {S : AS} {K : Exit → AS → Prop}
/-- a struct's literal of which parts are closures, or pointers, in a new variable -/
theorem zY.buildBx {o1 o2 : Oper} {rest : List Oper} {d1 d2 t : Nat} {ps : Array (Nat × Operand)} {pl : List (Nat × Nat)} {z : Value} {zs : List AV} [hb : BuildA P t pl] [hz : ZeroA P t z]
    (h1 : o1.op = .build t ps) (g1 : o1.guard = none) (e1 : o1.dst = some d1)
    (h2 : o2.op = .box t (.tmp d1)) (g2 : o2.guard = none) (e2 : o2.dst = some d2)
    (hn1 : d1 < n) (hn2 : d2 < n) (hz1 : z.cells.toList.all (fun u => u.oneCell') = true)
    (hk : ps.toList.all (fun p => (S.get p.2).q8) = true)
    (hf : fillA (fun i => pl[i]?) (z.cells.toList.map fun u => .p (.val u)) (ps.toList.map fun p => (p.1, S.get p.2)) = some zs) (hl : zs.length = z.cells.toList.length)
    (hr : zY P n ops rest (((S.put d1 .any).create d2 (.box t zs)).put d2 (.ptr d2 0)) K) : zY P n ops (o1 :: o2 :: rest) S K := by
  intro M w0 ρ a w Q hs hK
  have parts : ∀ p ∈ ps.toList, yH (Mut M S ρ) ρ w (S.get p.2).wK (a.eval p.2).cells.toList := fun p hp => repA_cells (hs.rep p.2) (List.all_eq_true.1 hk p hp)
  obtain ⟨us, hu1, hu2⟩ := fill_rep (fun i => pl[i]?) S.get a.eval ps.toList _ zs z.cells.toList parts hf (zerosA fun u hu => List.all_eq_true.1 hz1 u hu)
  have hr1 : (execOp a.eval o1).run P w = .ok (.value (.agg us.toArray)) w := by
    unfold execOp
    rw [h1]
    have e : (ps.map fun (i, x) => (i, a.eval x)) = (ps.toList.map fun p => (p.1, a.eval p.2)).toArray := by apply Array.ext'; simp
    simp only [e, Sem.run_bind, run_build (P := P) (t := t) (pl := pl) (z := z) _ w _ hu1]
    rfl
  unfold wpList
  rw [if_pos (by simp [Region.wanted, g1])]
  refine .inl ?_
  unfold Oper.wp
  rw [hr1]
  show wpList P ops Q (o2 :: rest) (a.put o1.dst (.agg us.toArray)) w
  rw [e1]
  have hs1 : Sat M n w0 (S.put d1 .any) ρ (a.put (some d1) (.agg us.toArray)) w := hs.put hn1 (.any _)
  generalize hsS1 : S.put d1 .any = S1 at hs1 hr
  have t1 : (a.put (some d1) (.agg us.toArray)).eval (.tmp d1) = .agg us.toArray := by
    have : d1 < a.tmps.size := by rw [hs.size]; exact hn1
    simp [Act.eval, Act.put, Array.getD_eq_getD_getElem?, Array.getElem?_setIfInBounds, this]
  generalize ha1 : a.put (some d1) (.agg us.toArray) = a1 at hs1 t1
  have hMut : Mut M S1 ρ = Mut M S ρ := by subst hsS1; rfl
  have hr2 : (execOp a1.eval o2).run P w = .ok (.value (.pointer (some ⟨w.heap.size, 0, none⟩))) (w.alloc (.cells us.toArray t)) := by
    unfold execOp
    rw [h2]
    simp [Instr.box, newVar, newRow, t1, Value.cells]
  unfold wpList
  rw [if_pos (by simp [Region.wanted, g2])]
  refine .inl ?_
  unfold Oper.wp
  rw [hr2]
  show wpList P ops Q rest (a1.put o2.dst (.pointer (some ⟨w.heap.size, 0, none⟩))) (w.alloc (.cells us.toArray t))
  rw [e2]
  generalize hw1 : w.alloc (.cells us.toArray t) = w1
  have hh1 : w1.heap[w.heap.size]? = some (.cells us.toArray t (0, 0)) := by rw [← hw1]; exact heap_alloc_new w _
  have hg1 : w.grownBy w1 none := by rw [← hw1]; exact World.grownBy_alloc w _ none
  have hs2 := hs1.change d2 (.box t zs) (.pointer (some ⟨w.heap.size, 0, none⟩)) none (hs1.free d2 hn2) hg1 (fun k hk => by cases hk) (fun k hk => .inl (by simp only [yJ, Option.some.injEq] at hk; omega)) (by
    rw [hMut]
    refine ⟨w.heap.size, us, rfl, Nat.zero_le _, hh1, (hu2.mono fun k c hk h => ?_).keep ⟨hg1.size, fun k c hk _ => World.cell?_of_block (w := w) (hg1.block k hk (fun h => by cases h))⟩⟩
    rcases h with h | ⟨h, _⟩
    · exact h
    · simp only [yJ, Option.some.injEq] at h
      omega)
  have hs3 := hs2.put (d := d2) (x := .ptr d2 0) (v := .pointer (some ⟨w.heap.size, 0, none⟩)) hn2 (.ptr d2 0 w.heap.size (by simp [upd, yJ]))
  exact hr M w0 _ _ w1 Q hs3 hK
end
end Go.Proofs.YteadaggehndacaaDoor
