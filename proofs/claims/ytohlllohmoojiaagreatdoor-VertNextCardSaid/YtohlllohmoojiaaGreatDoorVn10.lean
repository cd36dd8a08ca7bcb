/- What an operation on vertices asks next, or answers, is as the document says, whatever it was told. (Part 10 of 10.) -/
import Derived.Test.YtohlllohmoojiaaGreatDoorVn9
import Derived.ProofKit
import Derived.OpenShut
import Derived.Below
import Derived.LaidMore
import Derived.Deep.Fields
import Derived.Deep.Slices
import Derived.Test.YtohlllohmoojiaaGreatDoorRows
import Derived.LaidLaws
import Derived.ChangeSame
import Derived.ChangeVars
import Derived.JoinedOf
import Derived.Stop.Joined
import Derived.RowKitTokens
import Derived.Test.YtohlllohmoojiaaGreatDoorCards
import Derived.Test.YtohlllohmoojiaaGreatDoorTie
import Derived.SevenTiedAt
namespace Go.Proofs.YtohlllohmoojiaaGreatDoor
open Go Go.RowKit
set_option maxRecDepth 100000
set_option maxHeartbeats 16000000
section
attribute [local irreducible] zY zZ Step zV Sub zF zA Fn zK zI
def outBR (o : OutB) : AV := .tup ([qZ o.e o.is 0 0, .val (.bool o.ok)].map .p)
theorem vhasRef_c (L : List yQ) (hL : xB L) {t k : Int} (ht : Small t) : FnC 52 [.p (.val (.int .i64 t)), .p (.val (.int .u64 k))] [] outBR (fun _ => []) yes L (vhasP t k) := by
  refine xS Tryz.func52 rfl Tryz.ntmps52 (Nat.le_of_ble_eq_true rfl) (by decide) fun σ0 hi0 => ?_
  repeat' (first | (refine zY.is ?_; first | refine zY.nil ?_ | (refine zY.at_ 10 rfl ?_; refine zY.rc (.v zW .e) ?_) | (refine zY.at_ 11 rfl ?_; refine zY.rc (.v zW .e) ?_) | (refine zY.at_ 12 rfl ?_; refine zY.rc (.v zW .e) ?_) | (refine zY.at_ 13 rfl ?_; refine zY.rc (.v wW (.v yZ (.v yZ (.v zW (.v zW .e))))) ?_) | (refine zY.in_ [26] rfl ?_; refine zY.v rfl rfl (zG (kP (Rf.rc (SFound.x (by assumption)) ht) 0 (by decide)) rfl rfl rfl (by decide)) ?_) | (refine zY.in_ [29] rfl ?_; refine zY.v rfl rfl (zG (markRef_fn _ (U.lo (by assumption))) rfl rfl rfl (by decide)) ?_) | (refine zY.in_ [17] rfl ?_; refine zY.ofT rfl (zA.cu (i := [1000]) (f := seekRef_c L hL ht rf_0) (r := fun x τ e g hj => ?_))) | (refine zY.in_ [27] rfl ?_; refine zY.ofT rfl (zA.cu (i := [1000]) (f := xP L hL _) (r := fun x τ e g hj => ?_))) | (refine zY.in_ [39] rfl ?_; refine zY.ofT rfl (zA.cu (i := [1000]) (f := saveRef_c L hL (Rf.rc (SFound.x (by assumption)) ht) (.inl rfl)) (r := fun x τ e g hj => ?_))) | (refine zY.in_ [33] rfl ?_; refine zY.ofT rfl (zA.cu (i := [1000]) (f := saveRef_c L hL (Rf.rc (SFound.x (by assumption)) ht) (.inr rfl)) (r := fun x τ e g hj => ?_)))) | (refine zZ.is ?_; first | refine zZ.seq ?_ | (refine zZ.iR 0 ?_; refine zZ.rc [0, 1, 2] [6, 1000] (r := (.m zT (.v zW .e))) (h := ?_)) | (refine zZ.iR 1 ?_; refine zZ.rc [0, 1, 2, 6, 7] [6, 1000] (r := (.v yY (.v zX (.v zX .e)))) (h := ?_)) | (refine zZ.iR 2 ?_; refine zZ.rc [0, 1, 6, 7, 8, 9] [6, 1000] (r := (.v zX (.v wU .e))) (h := ?_)) | (refine zZ.iR 3 ?_; refine zZ.rc [0, 1, 6, 7, 8] [6, 1000] (r := (.v yD (.w zO (.v zW .e)))) (h := ?_)) | (refine zZ.iR 4 ?_; refine zZ.rc [0, 1, 6, 7, 8] [6, 1000] (r := (.v yY (.v zX (.v zX .e)))) (h := ?_)) | (refine zZ.iR 5 ?_; refine zZ.rc [0, 1, 6, 7, 8, 10] [6, 1000] (r := (.v zX .e)) (h := ?_)) | (refine zZ.iR 6 ?_; refine zZ.rc [0, 1, 6, 7, 8] [6, 1000] (r := (.v yY (.v zX (.v zX .e)))) (h := ?_)) | (refine zZ.iR 7 ?_; refine zZ.rc [0, 1, 6, 7, 8, 11] [6, 1000] (r := (.v yD (.v zX (.w zO (.v zW .e))))) (h := ?_)) | (refine zZ.iR 8 ?_; refine zZ.rc [0, 1, 6, 7, 8] [6, 1000] (r := (.v yY (.v zX (.v zX .e)))) (h := ?_)) | (refine zZ.iR 9 ?_; refine zZ.rc [6, 7, 12] [6, 1000] (r := (.v yD (.v zX (.w zO (.v zW .e))))) (h := ?_)) | refine zZ.cond rfl (fun h => ?_) (fun h => ?_) | refine zZ.skip ?_ | refine zZ.ret ?_) | refine zK.n ?_ | refine zK.r ?_)
  all_goals try simp only [Bool.not_eq_true', Bool.not_eq_false'] at *
  all_goals first
    | exact .ret (x := ⟨0, false, true, false⟩) (by exact .inl rfl) (.tup rfl (by decide) (.cons (.cellN rfl rfl (by rfl) (by rfl)) (.cons (.tmp rfl) .nil))) aQ_ trivial (by assumption) (by unfold vhasP; repeat' (first | exact Rel.ret _ | refine Rel.bind (by assumption) ?_ | refine Rel.yes (by assumption) ?_ | refine Rel.no (by assumption) ?_))
    | exact .ret (x := ⟨0, false, _, false⟩) (by exact .inl rfl) (.tup rfl (by decide) (.cons (.cellN rfl rfl (by rfl) (by rfl)) (.cons (.tmp rfl) .nil))) aQ_ trivial (by assumption) (by unfold vhasP toldP; repeat' (first | exact Rel.ret _ | refine Rel.bind (by assumption) ?_ | refine Rel.yes (by assumption) ?_))
    | exact .ret (x := ⟨0, true, _, true⟩) (by exact .inl rfl) (.tup rfl (by decide) (.cons (.cellN rfl rfl (by rfl) (by rfl)) (.cons (.tmp rfl) .nil))) aQ_ trivial (by assumption) (by unfold vhasP toldP; repeat' (first | exact Rel.ret _ | refine Rel.bind (by assumption) ?_ | refine Rel.yes (by assumption) ?_ | refine Rel.no (by assumption) ?_))
def remCF (L : List yQ) (t k : Int) (σ : CSt) : AS := { t := [(0, .ptr 1000 0), (1, .p (.val (.int .i64 t))), (2, .p (.val (.int .u64 k))), (6, .ptr 6 0), (7, .p (.val (.bool false)))], s := [(1000, qL L σ), (6, wS 0 false 0 0)] }
theorem vremRef_c (L : List yQ) (hL : xB L) {t k : Int} (ht : Small t) : FnC 51 [.p (.val (.int .i64 t)), .p (.val (.int .u64 k))] [] outBR (fun _ => []) yes L (vremP t k) := by
  refine xS Tryz.func51 rfl Tryz.ntmps51 (Nat.le_of_ble_eq_true rfl) (by decide) fun σ0 hi0 => ?_
  repeat' (first | (refine zY.nil ?_) | (refine zZ.is ?_; first | refine zZ.seq ?_ | (refine zZ.iR 0 ?_; refine zZ.rc [0, 1, 2] [6, 1000] (r := (.m zT (.v zW .e))) (h := ?_)) | refine zZ.block ?_) | refine zK.n ?_)
  have hm0 := wD hL (σ := σ0)
  refine zZ.loop (fun q : Nat × CSt => remCF L t k q.2) (fun q => At L (vremP t k) σ0 (.loop (wB t k) q.1 ()) q.2 ∧ xL L q.2 ≤ q.1) (fun q => xL L q.2) (many, σ0) ?h0 ⟨.refl hi0, hm0⟩ ?rd
  case h0 =>
    exact zM K_e K_1e
  case rd =>
    rintro ⟨m, ω⟩ ⟨ha, hm⟩
    dsimp only at ha hm ⊢
    unfold remCF wS
    have hti := ha.i
    cases hs' : ω.stop
    case true =>
      have hst : (!ω.stop) = false := by rw [hs']; rfl
      repeat' (first | (refine zY.nil ?_) | (refine zZ.is ?_; first | refine zZ.seq ?_ | (refine zZ.iR 1 ?_; refine zZ.rc [0, 1, 2, 6, 7, 9, 10, 11, 12, 13, 14, 15, 20, 31, 34, 40, 52] [6, 1000] (r := (.v yY (.v xD (.v zH (.v zL (.v vK .e)))))) (h := ?_)) | (refine zZ.iR 15 ?_; refine zZ.rc [6, 7] [6, 1000] (r := (.v yD (.w zO (.v zW .e)))) (h := ?_)) | refine zZ.yA rfl bA ?_ | refine zZ.exit ?_ | refine zZ.ret ?_) | refine zK.n ?_ | refine zI.eY ?_ | refine zK.e ?_)
      all_goals exact .ret (x := ⟨0, false, true, false⟩) (by exact .inl rfl) (.tup rfl (by decide) (.cons (.cellN rfl rfl (by rfl) (by rfl)) (.cons (.tmp rfl) .nil))) aQ_ trivial ha.i (ha.halt hs' _)
    case false =>
      have hst : (!ω.stop) = true := by rw [hs']; rfl
      obtain ⟨m, rfl⟩ := vJ hm hs'
      repeat' (first | (refine zY.is ?_; first | refine zY.nil ?_ | (refine zY.at_ 12 rfl ?_; refine zY.rc (.v zW .e) ?_) | (refine zY.at_ 13 rfl ?_; refine zY.rc (.v zW .e) ?_) | (refine zY.at_ 14 rfl ?_; refine zY.rc (.v zW .e) ?_) | (refine zY.at_ 15 rfl ?_; refine zY.rc (.v zW .e) ?_) | (refine zY.at_ 21 rfl ?_; refine zY.rc (.v wW (.v yZ (.v yZ (.v yZ (.v yZ (.v zW (.v zW (.v zW (.v zW .e))))))))) ?_) | (refine zY.in_ [44] rfl ?_; refine zY.v rfl rfl (zG (kP (Rf.rc (FOK.x (by assumption)) ht) 2 (by decide)) rfl rfl rfl (by decide)) ?_) | (refine zY.in_ [46] rfl ?_; refine zY.v rfl rfl (zG (kN _ (U.lo (by assumption)) (U.hi (by assumption))) rfl rfl rfl (by decide)) ?_) | (refine zY.in_ [25] rfl ?_; refine zY.ofT rfl (zA.cu (i := [1000]) (f := searchRef_c L hL ht) (r := fun x τ e g hj => ?_))) | (refine zY.in_ [39] rfl ?_; refine zY.ofT rfl (zA.cu (i := [1000]) (f := markRef_c L hL ht (FOK.x (by assumption))) (r := fun x τ e g hj => ?_))) | (refine zY.in_ [45] rfl ?_; refine zY.ofT rfl (zA.cu (i := [1000]) (f := xP L hL _) (r := fun x τ e g hj => ?_))) | (refine zY.in_ [50] rfl ?_; refine zY.ofT rfl (zA.cu (i := [1000]) (f := saveRef_c L hL (Rf.rc (FOK.x (by assumption)) ht) (.inr rfl)) (r := fun x τ e g hj => ?_))) | (refine zY.in_ [57] rfl ?_; refine zY.ofT rfl (zA.cu (i := [1000]) (f := sweepRef_c L hL ht) (r := fun x τ e g hj => ?_)))) | (refine zZ.is ?_; first | refine zZ.seq ?_ | (refine zZ.iR 1 ?_; refine zZ.rc [0, 1, 2, 6, 7, 9, 10, 11, 12, 13, 14, 15, 20, 31, 34, 40, 52] [6, 1000] (r := (.v yY (.v xD (.v zH (.v zL (.v vK .e)))))) (h := ?_)) | (refine zZ.iR 2 ?_; refine zZ.rc [0, 1, 2, 6, 7, 9, 10, 11, 12, 13, 14, 15, 20, 31, 34, 40, 52] [6, 1000] (r := (.v yY (.v zX (.v zX .e)))) (h := ?_)) | (refine zZ.iR 3 ?_; refine zZ.rc [0, 1, 2, 6, 7, 9, 10, 11, 12, 13, 14, 15, 20, 31, 34, 40, 52] [6, 1000] (r := (.v zX (.v wU .e))) (h := ?_)) | (refine zZ.iR 4 ?_; refine zZ.rc [0, 1, 2, 6, 7, 9, 10, 11, 12, 13, 14, 15, 20, 31, 34, 40, 52] [6, 1000] (r := (.v yD (.w zO (.v zW .e)))) (h := ?_)) | (refine zZ.iR 5 ?_; refine zZ.rc [0, 1, 2, 6, 7, 9, 10, 11, 12, 13, 14, 15, 20, 31, 34, 40, 52] [6, 1000] (r := (.v zX (.v wU .e))) (h := ?_)) | (refine zZ.iR 6 ?_; refine zZ.rc [0, 1, 2, 6, 7, 9, 10, 11, 12, 13, 14, 15, 20, 31, 34, 40, 52] [6, 1000] (r := (.v yD (.w zO (.v zW .e)))) (h := ?_)) | (refine zZ.iR 7 ?_; refine zZ.rc [0, 1, 2, 6, 7, 9, 10, 11, 12, 13, 14, 15, 20, 31, 34, 40, 52] [6, 1000] (r := (.v yY (.v zX (.v zX .e)))) (h := ?_)) | (refine zZ.iR 8 ?_; refine zZ.rc [0, 1, 2, 6, 7, 9, 10, 11, 12, 13, 14, 15, 20, 31, 34, 40, 52] [6, 1000] (r := (.v zX .e)) (h := ?_)) | (refine zZ.iR 9 ?_; refine zZ.rc [0, 1, 2, 6, 7, 9, 10, 11, 12, 13, 14, 15, 20, 31, 34, 40, 52] [6, 1000] (r := (.v yY (.v zX (.v zX .e)))) (h := ?_)) | (refine zZ.iR 10 ?_; refine zZ.rc [0, 1, 2, 6, 7, 9, 10, 11, 12, 13, 14, 15, 20, 31, 34, 40, 52] [6, 1000] (r := (.v yY (.v zX (.v zX .e)))) (h := ?_)) | (refine zZ.iR 11 ?_; refine zZ.rc [0, 1, 2, 6, 7, 9, 10, 11, 12, 13, 14, 15, 20, 31, 34, 40, 52] [6, 1000] (r := (.v zX (.v wU .e))) (h := ?_)) | (refine zZ.iR 12 ?_; refine zZ.rc [0, 1, 2, 6, 7, 9, 10, 11, 12, 13, 14, 15, 20, 31, 34, 40, 52] [6, 1000] (r := (.v yD (.w zO (.v zW .e)))) (h := ?_)) | (refine zZ.iR 13 ?_; refine zZ.rc [0, 1, 2, 6, 7, 9, 10, 11, 12, 13, 14, 15, 20, 31, 34, 40, 52] [6, 1000] (r := (.v yY (.v zX (.v zX .e)))) (h := ?_)) | (refine zZ.iR 14 ?_; refine zZ.rc [0, 1, 2, 6, 7, 9, 10, 11, 12, 13, 14, 15, 20, 31, 34, 40, 52] [6, 1000] (r := (.v yD (.v zX (.w zO (.v zW .e))))) (h := ?_)) | refine zZ.yB rfl bA ?_ | refine zZ.cond rfl (fun h => ?_) (fun h => ?_) | refine zZ.skip ?_ | refine zZ.block ?_ | refine zZ.ret ?_) | refine zK.n ?_ | refine zK.r ?_ | refine zI.n ?_ | refine zI.r ?_)
      all_goals try simp only [Bool.not_eq_true', Bool.not_eq_false'] at *
      all_goals first
        | (refine .ret (x := ⟨0, false, false, false⟩) (by exact .inl rfl) (.tup rfl (by decide) (.cons (.cellN rfl rfl (by rfl) (by rfl)) (.cons (.tmp rfl) .nil))) aQ_ trivial hj ?_; refine (ha.round (r := .inr (⟨0, false, false, false⟩)) ?_ hj).ret; unfold wB; (repeat' (first | exact Rel.ret _ | refine Rel.bind (by assumption) ?_ | refine Rel.yes (by assumption) ?_ | refine Rel.no (by assumption) ?_)); done)
        | (refine .ret (x := ⟨0, false, true, false⟩) (by exact .inl rfl) (.tup rfl (by decide) (.cons (.cellN rfl rfl (by rfl) (by rfl)) (.cons (.tmp rfl) .nil))) aQ_ trivial hj ?_; refine (ha.round (r := .inr (⟨0, false, true, false⟩)) ?_ hj).ret; unfold wB; (repeat' (first | exact Rel.ret _ | refine Rel.bind (by assumption) ?_ | refine Rel.yes (by assumption) ?_ | refine Rel.no (by assumption) ?_)); done)
        | (refine .ret (x := ⟨0, false, false, true⟩) (by exact .inl rfl) (.tup rfl (by decide) (.cons (.cellN rfl rfl (by rfl) (by rfl)) (.cons (.tmp rfl) .nil))) aQ_ trivial hj ?_; refine (ha.round (r := .inr (⟨0, false, false, true⟩)) ?_ hj).ret; unfold wB; (repeat' (first | exact Rel.ret _ | refine Rel.bind (by assumption) ?_ | refine Rel.yes (by assumption) ?_ | refine Rel.no (by assumption) ?_)); done)
        | (refine .ret (x := ⟨0, true, _, true⟩) (by exact .inl rfl) (.tup rfl (by decide) (.cons (.cellN rfl rfl (by rfl) (by rfl)) (.cons (.tmp rfl) .nil))) aQ_ trivial hj ?_; refine (ha.round (r := .inr (⟨0, true, _, true⟩)) ?_ hj).ret; unfold wB; (repeat' (first | exact Rel.ret _ | refine Rel.bind (by assumption) ?_ | refine Rel.yes (by assumption) ?_)); done)
        | skip
      have hr : Rel L (wB t k ()) ω (.inl ()) τ := by
        unfold wB
        repeat' (first | exact Rel.ret _ | refine Rel.bind (by assumption) ?_ | refine Rel.yes (by assumption) ?_ | refine Rel.no (by assumption) ?_)
      have hl := hr.less hL (fine_remR t k ()) (search_ask t k _) hti hs'
      refine ⟨(m, τ), ?_, ⟨ha.round hr hj, by dsimp only at *; omega⟩, hl⟩
      exact zM K_e K_1e
def addCF (L : List yQ) (t me k r : Int) (σ : CSt) : AS := { t := [(0, .ptr 1000 0), (1, .p (.val (.int .i64 t))), (3, .p (.val (.int .u64 k))), (8, .ptr 8 0), (9, .p (.val (.bool false))), (15, .p (.val (.int .i64 r)))], s := [(1000, qL L σ), (8, wS 0 false 0 0)] }
theorem vaddRef_c (L : List yQ) (hL : xB L) {t me k : Int} (ht : Small t) (t0 : 0 ≤ t) (hme : Small me) : FnC 50 [.p (.val (.int .i64 t)), .p (.val (.int .i64 me)), .p (.val (.int .u64 k))] [] outBR (fun _ => []) yes L (vaddP t me k) := by
  refine xS Tryz.func50 rfl Tryz.ntmps50 (Nat.le_of_ble_eq_true rfl) (by decide) fun σ0 hi0 => ?_
  repeat' (first | (refine zY.is ?_; first | refine zY.nil ?_ | (refine zY.at_ 14 rfl ?_; refine zY.rc (.v zW .e) ?_) | (refine zY.at_ 15 rfl ?_; refine zY.rc (.v zW .e) ?_) | (refine zY.at_ 23 rfl ?_; refine zY.rc (.v wW (.v yZ (.v yZ (.v yZ (.v yZ (.v zW (.v zW (.v zW (.v zW .e))))))))) ?_) | (refine zY.in_ [27] rfl ?_; refine zY.ofT rfl (zA.cu (i := [1000]) (f := searchRef_c L hL ht) (r := fun x τ e g hj => ?_))) | (refine zY.in_ [39] rfl ?_; refine zY.ofT rfl (zA.cu (i := [1000]) (f := saveRef_c L hL (Rf.rc (FOK.x (by assumption)) ht) (.inl rfl)) (r := fun x τ e g hj => ?_))) | (refine zY.in_ [45] rfl ?_; refine zY.ofT rfl (zA.cu (i := [1000]) (f := allocRef_c L hL ht t0 hme) (r := fun x τ e g hj => ?_))) | (refine zY.in_ [54] rfl ?_; refine zY.ofT rfl (zA.cu (i := [1000]) (f := makeRef_c L hL (Rf.rc (by assumption) ht) _ _ _ _ _ _ _) (r := fun x τ e g hj => ?_)))) | (refine zZ.is ?_; first | refine zZ.seq ?_ | (refine zZ.iR 0 ?_; refine zZ.rc [0, 1, 2, 3] [8, 1000] (r := (.m zT (.v zW .e))) (h := ?_)) | (refine zZ.iR 1 ?_; refine zZ.rc [0, 1, 2, 3, 8, 9] [8, 1000] (r := (.v yY (.v zX (.v zX .e)))) (h := ?_)) | (refine zZ.iR 2 ?_; refine zZ.rc [0, 1, 2, 3, 8, 9, 11, 12, 13] [8, 1000] (r := (.v zX (.v wU .e))) (h := ?_)) | (refine zZ.iR 3 ?_; refine zZ.rc [0, 1, 2, 3, 8, 9, 11, 12] [8, 1000] (r := (.v yD (.w zO (.v zW .e)))) (h := ?_)) | (refine zZ.iR 4 ?_; refine zZ.rc [0, 1, 2, 3, 8, 9, 11, 12] [8, 1000] (r := (.v zX .e)) (h := ?_)) | (refine zZ.iR 5 ?_; refine zZ.rc [0, 1, 2, 3, 8, 9, 11] [8, 1000] (r := (.v yY (.v zX (.v zX .e)))) (h := ?_)) | (refine zZ.iR 6 ?_; refine zZ.rc [0, 1, 2, 3, 8, 9, 14] [8, 1000] (r := (.v yD (.v zX (.w zO (.v zW .e))))) (h := ?_)) | (refine zZ.iR 7 ?_; refine zZ.rc [0, 1, 2, 3, 8, 9] [8, 1000] (r := (.v yY (.v zX (.v zX .e)))) (h := ?_)) | (refine zZ.iR 8 ?_; refine zZ.rc [0, 1, 3, 8, 9, 15] [8, 1000] (r := (.v zX (.v wT .e))) (h := ?_)) | (refine zZ.iR 9 ?_; refine zZ.rc [0, 1, 3, 8, 9, 15] [8, 1000] (r := (.v yD (.w zO (.v zW .e)))) (h := ?_)) | (refine zZ.iR 10 ?_; refine zZ.rc [0, 1, 3, 8, 9, 15] [8, 1000] (r := (.v yY (.v zX (.v zX (.v zX (.v yD .e)))))) (h := ?_)) | refine zZ.cond rfl (fun h => ?_) (fun h => ?_) | refine zZ.skip ?_ | refine zZ.block ?_ | refine zZ.ret ?_) | refine zK.n ?_ | refine zK.r ?_)
  all_goals try simp only [Bool.not_eq_true', Bool.not_eq_false'] at *
  all_goals first
    | exact .ret (x := ⟨0, false, false, false⟩) (by exact .inl rfl) (.tup rfl (by decide) (.cons (.cellN rfl rfl (by rfl) (by rfl)) (.cons (.tmp rfl) .nil))) aQ_ trivial (by assumption) (by unfold vaddP; repeat' (first | exact Rel.ret _ | refine Rel.bind (by assumption) ?_ | refine Rel.yes (by assumption) ?_ | refine Rel.no (by assumption) ?_))
    | exact .ret (x := ⟨0, false, _, false⟩) (by exact .inl rfl) (.tup rfl (by decide) (.cons (.cellN rfl rfl (by rfl) (by rfl)) (.cons (.tmp rfl) .nil))) aQ_ trivial (by assumption) (by unfold vaddP toldP; repeat' (first | exact Rel.ret _ | refine Rel.bind (by assumption) ?_ | refine Rel.yes (by assumption) ?_))
    | exact .ret (x := ⟨3, false, true, false⟩) (by exact .inl rfl) (.tup rfl (by decide) (.cons (.cellN rfl rfl (by rfl) (by rfl)) (.cons (.tmp rfl) .nil))) aQ_ trivial (by assumption) (by unfold vaddP; repeat' (first | exact Rel.ret _ | refine Rel.bind (by assumption) ?_ | refine Rel.yes (by assumption) ?_ | refine Rel.no (by assumption) ?_))
    | skip
  rename_i f τ1 e1 g1 hj1 h1 r τ2 e2 g2 hj2 h2
  have h0 : At L (vaddP t me k) σ0 (.loop (wJ t k r) many ()) τ := ⟨hj, fun y υ hy => by unfold vaddP; exact Rel.bind e1 (Rel.yes (by assumption) (Rel.no (by assumption) (Rel.bind e2 (Rel.no (by assumption) (Rel.bind e hy)))))⟩
  have hm0 := wD hL (σ := τ)
  refine zZ.loop (fun q : Nat × CSt => addCF L t me k r q.2) (fun q => At L (vaddP t me k) σ0 (.loop (wJ t k r) q.1 ()) q.2 ∧ xL L q.2 ≤ q.1) (fun q => xL L q.2) (many, τ) ?h0 ⟨h0, hm0⟩ ?rd
  case h0 =>
    exact zM K_1f K_1g
  case rd =>
    clear h0 hm0 e e1 e2 hj hj1 hj2
    rintro ⟨m, ω⟩ ⟨ha, hm⟩
    dsimp only at ha hm ⊢
    unfold addCF wS
    have hti := ha.i
    cases hs' : ω.stop
    case true =>
      have hst : (!ω.stop) = false := by rw [hs']; rfl
      repeat' (first | (refine zY.nil ?_) | (refine zZ.is ?_; first | refine zZ.seq ?_ | (refine zZ.iR 11 ?_; refine zZ.rc [0, 1, 3, 8, 9, 15, 16, 17, 18, 19, 20, 21, 22, 59, 70, 76, 93] [8, 1000] (r := (.v yY (.v xD (.v zH (.v zL (.v vK .e)))))) (h := ?_)) | (refine zZ.iR 24 ?_; refine zZ.rc [8, 9] [8, 1000] (r := (.v yD (.w zO (.v zW .e)))) (h := ?_)) | refine zZ.yA rfl bA ?_ | refine zZ.exit ?_ | refine zZ.ret ?_) | refine zK.n ?_ | refine zI.eY ?_ | refine zK.e ?_)
      all_goals exact .ret (x := ⟨0, false, true, false⟩) (by exact .inl rfl) (.tup rfl (by decide) (.cons (.cellN rfl rfl (by rfl) (by rfl)) (.cons (.tmp rfl) .nil))) aQ_ trivial ha.i (ha.halt hs' _)
    case false =>
      have hst : (!ω.stop) = true := by rw [hs']; rfl
      obtain ⟨m, rfl⟩ := vJ hm hs'
      repeat' (first | (refine zY.is ?_; first | refine zY.nil ?_ | (refine zY.at_ 20 rfl ?_; refine zY.rc (.v zW .e) ?_) | (refine zY.at_ 21 rfl ?_; refine zY.rc (.v zW .e) ?_) | (refine zY.at_ 22 rfl ?_; refine zY.rc (.v zW .e) ?_) | (refine zY.at_ 60 rfl ?_; refine zY.rc (.v wW (.v yZ (.v yZ (.v yZ (.v yZ (.v zW (.v zW (.v zW (.v zW .e))))))))) ?_) | (refine zY.in_ [64] rfl ?_; refine zY.ofT rfl (zA.cu (i := [1000]) (f := searchRef_c L hL ht) (r := fun x τ e g hj => ?_))) | (refine zY.in_ [84] rfl ?_; refine zY.ofT rfl (zA.cu (i := [1000]) (f := saveRef_c L hL (Rf.rc (FOK.x (by assumption)) ht) (.inl rfl)) (r := fun x τ e g hj => ?_))) | (refine zY.in_ [97] rfl ?_; refine zY.ofT rfl (zA.cu (i := [1000]) (f := saveRef_c L hL (Rf.rc g2 ht) (.inl rfl)) (r := fun x τ e g hj => ?_))) | (refine zY.in_ [74, 80] rfl ?_; refine zY.ofT rfl (zA.cu (i := [1000]) (f := pushRef_c L hL ht g2) (r := fun x τ e g hj => ?_))) | (refine zY.in_ [92] rfl ?_; refine zY.ofT rfl (zA.cu (i := [1000]) (f := linkRef_c L hL ht (FOK.p (by assumption)) (FOK.x (by assumption)) g2) (r := fun x τ e g hj => ?_)))) | (refine zZ.is ?_; first | refine zZ.seq ?_ | (refine zZ.iR 11 ?_; refine zZ.rc [0, 1, 3, 8, 9, 15, 16, 17, 18, 19, 20, 21, 22, 59, 70, 76, 93] [8, 1000] (r := (.v yY (.v xD (.v zH (.v zL (.v vK .e)))))) (h := ?_)) | (refine zZ.iR 12 ?_; refine zZ.rc [0, 1, 3, 8, 9, 15, 16, 17, 18, 19, 20, 21, 22, 59, 70, 76, 93] [8, 1000] (r := (.v yY (.v zX (.v zX .e)))) (h := ?_)) | (refine zZ.iR 13 ?_; refine zZ.rc [0, 1, 3, 8, 9, 15, 16, 17, 18, 19, 20, 21, 22, 59, 70, 76, 93] [8, 1000] (r := (.v zX (.v wU .e))) (h := ?_)) | (refine zZ.iR 14 ?_; refine zZ.rc [0, 1, 3, 8, 9, 15, 16, 17, 18, 19, 20, 21, 22, 59, 70, 76, 93] [8, 1000] (r := (.v yY (.v zX (.v zX .e)))) (h := ?_)) | (refine zZ.iR 15 ?_; refine zZ.rc [0, 1, 3, 8, 9, 15, 16, 17, 18, 19, 20, 21, 22, 59, 70, 76, 93] [8, 1000] (r := (.v yD (.w zO (.v zW .e)))) (h := ?_)) | (refine zZ.iR 16 ?_; refine zZ.rc [0, 1, 3, 8, 9, 15, 16, 17, 18, 19, 20, 21, 22, 59, 70, 76, 93] [8, 1000] (r := (.v zX .e)) (h := ?_)) | (refine zZ.iR 17 ?_; refine zZ.rc [0, 1, 3, 8, 9, 15, 16, 17, 18, 19, 20, 21, 22, 59, 70, 76, 93] [8, 1000] (r := (.v yY (.v zX (.v zX .e)))) (h := ?_)) | (refine zZ.iR 18 ?_; refine zZ.rc [0, 1, 3, 8, 9, 15, 16, 17, 18, 19, 20, 21, 22, 59, 70, 76, 93] [8, 1000] (r := (.v yY (.v zX (.v zX .e)))) (h := ?_)) | (refine zZ.iR 19 ?_; refine zZ.rc [0, 1, 3, 8, 9, 15, 16, 17, 18, 19, 20, 21, 22, 59, 70, 76, 93] [8, 1000] (r := (.v yD (.v zX (.w zO (.v zW .e))))) (h := ?_)) | (refine zZ.iR 20 ?_; refine zZ.rc [0, 1, 3, 8, 9, 15, 16, 17, 18, 19, 20, 21, 22, 59, 70, 76, 93] [8, 1000] (r := (.v yY (.v zX (.v zX (.v zX (.v zX .e)))))) (h := ?_)) | (refine zZ.iR 21 ?_; refine zZ.rc [0, 1, 3, 8, 9, 15, 16, 17, 18, 19, 20, 21, 22, 59, 70, 76, 93] [8, 1000] (r := (.v zX .e)) (h := ?_)) | (refine zZ.iR 22 ?_; refine zZ.rc [0, 1, 3, 8, 9, 15, 16, 17, 18, 19, 20, 21, 22, 59, 70, 76, 93] [8, 1000] (r := (.v yY (.v zX (.v zX .e)))) (h := ?_)) | (refine zZ.iR 23 ?_; refine zZ.rc [0, 1, 3, 8, 9, 15, 16, 17, 18, 19, 20, 21, 22, 59, 70, 76, 93] [8, 1000] (r := (.v yD (.v zX (.w zO (.v zW .e))))) (h := ?_)) | refine zZ.yB rfl bA ?_ | refine zZ.cond rfl (fun h => ?_) (fun h => ?_) | refine zZ.skip ?_ | refine zZ.block ?_ | refine zZ.ret ?_) | refine zK.n ?_ | refine zK.r ?_ | refine zI.n ?_ | refine zI.r ?_)
      all_goals try simp only [Bool.not_eq_true', Bool.not_eq_false'] at *
      all_goals first
        | (refine .ret (x := ⟨0, false, false, false⟩) (by exact .inl rfl) (.tup rfl (by decide) (.cons (.cellN rfl rfl (by rfl) (by rfl)) (.cons (.tmp rfl) .nil))) aQ_ trivial hj ?_; refine (ha.round (r := .inr (⟨0, false, false, false⟩)) ?_ hj).ret; unfold wJ; (repeat' (first | exact Rel.ret _ | refine Rel.bind (by assumption) ?_ | refine Rel.no (by assumption) ?_)); done)
        | (refine .ret (x := ⟨0, false, _, false⟩) (by exact .inl rfl) (.tup rfl (by decide) (.cons (.cellN rfl rfl (by rfl) (by rfl)) (.cons (.tmp rfl) .nil))) aQ_ trivial hj ?_; refine (ha.round (r := .inr (⟨0, false, _, false⟩)) ?_ hj).ret; unfold wJ toldP; simp only [Pr.bind_assoc]; (repeat' (first | exact Rel.ret _ | refine Rel.bind (by assumption) ?_ | refine Rel.yes (by assumption) ?_)); done)
        | (refine .ret (x := ⟨0, true, _, true⟩) (by exact .inl rfl) (.tup rfl (by decide) (.cons (.cellN rfl rfl (by rfl) (by rfl)) (.cons (.tmp rfl) .nil))) aQ_ trivial hj ?_; refine (ha.round (r := .inr (⟨0, true, _, true⟩)) ?_ hj).ret; unfold wJ toldP; simp only [Pr.bind_assoc]; (repeat' (first | exact Rel.ret _ | refine Rel.bind (by assumption) ?_ | refine Rel.yes (by assumption) ?_ | refine Rel.no (by assumption) ?_)); done)
        | skip
      have hr : Rel L (wJ t k r ()) ω (.inl ()) τ := by
        unfold wJ
        repeat' (first | exact Rel.ret _ | refine Rel.bind (by assumption) ?_ | refine Rel.yes (by assumption) ?_ | refine Rel.no (by assumption) ?_)
      have hl := hr.less hL (fine_addR t k g2 ()) (search_ask t k _) hti hs'
      refine ⟨(m, τ), ?_, ⟨ha.round hr hj, by dsimp only at *; omega⟩, hl⟩
      exact zM K_1f K_1g
def enterP (me : Int) : Pr Bool := (xW 7).bind fun w => bif !decide (w = 0) then .ret false else (pinP me).bind fun _ => .ret true
theorem inP_eq (me : Int) (body : Pr OutB) : inP me body = (enterP me).bind fun b => bif b then body.bind (leaveP me) else .ret ⟨6, false, 0, 0⟩ := by
  unfold inP enterP
  rw [Pr.bind_assoc]
  congr 1
  funext w
  cases h : decide (w = 0)
  · rfl
  · show (pinP me).bind _ = ((pinP me).bind _).bind _
    rw [Pr.bind_assoc]
    rfl
theorem enterRef_c (L : List yQ) (hL : xB L) {me : Int} (hme : Small me) : FnC 48 [.p (.val (.int .i64 me))] [] (fun b => .p (.val (.bool b))) (fun _ => []) yes L (enterP me) := by
  refine xS Tryz.func48 rfl Tryz.ntmps48 (Nat.le_of_ble_eq_true rfl) (by decide) fun σ0 hi0 => ?_
  repeat' (first | (refine zY.is ?_; first | refine zY.nil ?_ | (refine zY.at_ 5 rfl ?_; refine zY.rc (.v zW .e) ?_) | (refine zY.in_ [7] rfl ?_; refine zY.ofT rfl (zA.cu (i := [1000]) (f := xP L hL _) (r := fun x τ e g hj => ?_))) | (refine zY.in_ [12] rfl ?_; refine zY.ofT rfl (zA.cu (i := [1000]) (f := pinRef_c L hL hme) (r := fun x τ e g hj => ?_)))) | (refine zZ.is ?_; first | refine zZ.seq ?_ | (refine zZ.iR 0 ?_; refine zZ.rc [0, 1] [1000] (r := (.v zW .e)) (h := ?_)) | (refine zZ.iR 1 ?_; refine zZ.rc [0, 1, 4] [1000] (r := (.v yY .e)) (h := ?_)) | (refine zZ.iR 2 ?_; refine zZ.rc [0, 1, 4, 5] [1000] (r := (.v zX (.v kE .e))) (h := ?_)) | (refine zZ.iR 3 ?_; refine zZ.rc [0, 1, 4] [1000] (r := (.v zW .e)) (h := ?_)) | (refine zZ.iR 4 ?_; refine zZ.rc [0, 1, 4] [1000] (r := (.v yY (.v zX .e))) (h := ?_)) | (refine zZ.iR 5 ?_; refine zZ.rc [4] [1000] (r := (.v zW .e)) (h := ?_)) | refine zZ.cond rfl (fun h => ?_) (fun h => ?_) | refine zZ.skip ?_ | refine zZ.ret ?_) | refine zK.n ?_ | refine zK.r ?_)
  all_goals first
    | exact .ret (x := false) (by exact .inl rfl) (.one rfl rfl) aQ_ trivial (by assumption) (by unfold enterP; repeat' (first | exact Rel.ret _ | refine Rel.bind (by assumption) ?_ | refine Rel.yes (by assumption) ?_ | refine Rel.no (by assumption) ?_))
    | exact .ret (x := true) (by exact .inl rfl) (.one rfl rfl) aQ_ trivial (by assumption) (by unfold enterP; repeat' (first | exact Rel.ret _ | refine Rel.bind (by assumption) ?_ | refine Rel.no (by assumption) ?_))
theorem leaveRef_c (L : List yQ) (hL : xB L) {me : Int} (hme : Small me) (o : OutB) : FnC 53 [.p (.val (.int .i64 me)), .p (qZ o.e o.is 0 0), .p (.val (.bool o.ok))] [] (fun x => .p (qZ x.e x.is x.n x.w)) (fun _ => []) yes L (leaveP me o) := by
  refine xS Tryz.func53 rfl Tryz.ntmps53 (Nat.le_of_ble_eq_true rfl) (by decide) fun σ0 hi0 => ?_
  repeat' (first | (refine zY.is ?_; first | refine zY.nil ?_ | (refine zY.in_ [12] rfl ?_; refine zY.ofT rfl (zA.cu (i := [1000]) (f := cstore_c L hL _ _) (r := fun x τ e g hj => ?_))) | (refine zY.in_ [16] rfl ?_; refine zY.ofT rfl (zA.cu (i := [1000]) (f := unpinRef_c L hL hme) (r := fun x τ e g hj => ?_)))) | (refine zZ.is ?_; first | refine zZ.seq ?_ | (refine zZ.iR 0 ?_; refine zZ.rc [0, 1, 2, 3] [6, 8, 1000] (r := (.m yI (.m zT .e))) (h := ?_)) | (refine zZ.iR 1 ?_; refine zZ.rc [0, 1, 3, 6, 8] [6, 8, 1000] (r := (.v zX (.v wU .e))) (h := ?_)) | (refine zZ.iR 2 ?_; refine zZ.rc [0, 1, 6, 8] [6, 8, 1000] (r := (.v yY .e)) (h := ?_)) | (refine zZ.iR 3 ?_; refine zZ.rc [0, 1, 6, 8] [6, 8, 1000] (r := (.v yD (.w zO .e))) (h := ?_)) | (refine zZ.iR 4 ?_; refine zZ.rc [0, 1, 6, 8] [6, 8, 1000] (r := (.v yY (.v zX .e))) (h := ?_)) | (refine zZ.iR 5 ?_; refine zZ.rc [6, 8] [6, 8, 1000] (r := (.v xC (.w zO .e))) (h := ?_)) | refine zZ.cond rfl (fun h => ?_) (fun h => ?_) | refine zZ.skip ?_ | refine zZ.ret ?_) | refine zK.n ?_)
  all_goals try simp only [Bool.not_eq_true', Bool.not_eq_false'] at *
  all_goals first
    | exact .ret (x := ⟨7, false, 0, 0⟩) (.inl rfl) (.p rfl (.cellN rfl rfl (by rfl) (by rfl))) aQ_ trivial (by assumption) (by unfold leaveP; repeat' (first | exact Rel.ret _ | refine Rel.bind (by assumption) ?_ | refine Rel.no (by assumption) ?_))
    | exact .ret (x := ⟨o.e, o.is, 0, 0⟩) (.inl rfl) (.p rfl (.cellN rfl rfl (by rfl) (by rfl))) aQ_ trivial (by assumption) (by unfold leaveP; repeat' (first | exact Rel.ret _ | refine Rel.bind (by assumption) ?_ | refine Rel.yes (by assumption) ?_))
theorem sealedRef_fn : FnE Tryz.prog 49 [] [] (.ret (.p (qZ 6 false 0 0))) [] := by
  refine fn_ofE Tryz.func49 rfl Tryz.ntmps49 (Nat.le_of_ble_eq_true rfl) (by decide) ?_
  repeat' (first | (refine zY.nil ?_) | (refine zZ.is ?_; first | refine zZ.seq ?_ | (refine zZ.iR 0 ?_; refine zZ.rc [] [0] (r := (.m zT .e)) (h := ?_)) | (refine zZ.iR 1 ?_; refine zZ.rc [0] [0] (r := (.v yD (.w zO .e))) (h := ?_)) | refine zZ.ret ?_) | refine zK.n ?_)
  all_goals exact ⟨(by exact .inl rfl), _, Sub.refl _, .p (r := .cell 0 38) rfl (.cellN rfl rfl (by rfl) (by rfl)), x9 (by repeat' exact trivial)⟩
theorem rel_stop {L : List yQ} {me : Int} {body : Pr OutB} {o : OutB} {σ τ υ : CSt} {e : Int} {is : Bool} {n w : Int} {b : Bool} (h1 : Rel L (enterP me) σ b τ) (hb : b = true) (h2 : Rel L body τ o υ) (h : υ.stop = true) : Rel L (inP me body) σ ⟨e, is, n, w⟩ υ := by
  subst hb
  rw [inP_eq]
  exact Rel.bind h1 (Rel.bind h2 (Rel.stop h))
theorem rel_leave {L : List yQ} {me : Int} {body : Pr OutB} {o : OutB} {σ τ υ ω : CSt} {x : OutN} {b : Bool} (h1 : Rel L (enterP me) σ b τ) (hb : b = true) (h2 : Rel L body τ o υ) (h : Rel L (leaveP me o) υ x ω) : Rel L (inP me body) σ ⟨x.e, x.is, x.n, x.w⟩ ω := by
  subst hb
  rw [inP_eq]
  exact Rel.bind h1 (Rel.bind h2 h)
theorem rel_seal {L : List yQ} {me : Int} {body : Pr OutB} {σ τ : CSt} {b : Bool} (h1 : Rel L (enterP me) σ b τ) (hb : b = false) : Rel L (inP me body) σ ⟨6, false, 0, 0⟩ τ := by
  subst hb
  rw [inP_eq]
  exact Rel.bind h1 (Rel.ret _)
theorem nextRefV (L : List yQ) (hL : xB L) {t me k u v w : Int} (ht : Small t) (t0 : 0 ≤ t) (hme : Small me) (R : List PV) (hR : ∀ (τ : CSt) (e : Int) (is : Bool) (n w : Int), Rel L (qW t me k u) cur0 ⟨e, is, n, w⟩ τ → toldV τ e is n w = R) :
    Fn Tryz.prog 16 [.val (.int .i64 t), .val (.int .i64 me), opV k u v w, logV L] (.tup R) := by
  have hi : cur0.i ≤ L.length := Nat.zero_le _
  have cv := vertexRef_fn u
  refine yT Tryz.func16 rfl Tryz.ntmps16 (Nat.le_of_ble_eq_true rfl) ?_
  by_cases hk3 : k = 11 ∨ k = 12 ∨ k = 13
  case neg =>
    have hP : qW t me k u = .ret ⟨1, false, 0, 0⟩ := by
      unfold qW
      rw [decide_eq_false (by omega), decide_eq_false (by omega), decide_eq_false (by omega)]
      rfl
    repeat' (first | (refine zY.is ?_; first | refine zY.nil ?_ | (refine zY.at_ 23 rfl ?_; refine zY.rc (.gY zH (.gY zL (.gY v45_8 (.v yP .e)))) ?_) | (refine zY.at_ 23 rfl ?_; refine zY.rc (.gF (.gF (.gF (.v yH .e)))) ?_) | (refine zY.at_ 29 rfl ?_; refine zY.rc (.v yZ (.v yZ (.v yZ (.w zO (.w zO (.v zW .e)))))) ?_) | (refine zY.in_ [28] rfl ?_; refine zY.ofT rfl (zA.eR [11] (told_fn L _ _ _ _ _) ?_)) | (fail_if_success refine zY.known rfl rfl rfl (by exact .inr (by assumption)) ?_); refine zY.split rfl rfl rfl (fun h => ?_) (fun h => ?_)) | (refine zZ.is ?_; first | refine zZ.seq ?_ | (refine zZ.iR 0 ?_; refine zZ.rc [0, 1, 2, 3] [6, 8, 9, 11, 15] (r := (.m yI (.m zT (.m zT (.v zW .e))))) (h := ?_)) | (refine zZ.iR 1 ?_; refine zZ.rc [0, 1, 3, 6, 8, 9, 10] [6, 8, 9, 11, 15] (r := (.v zX (.v yD (.m zT (.w zO .e))))) (h := ?_)) | (refine zZ.iR 2 ?_; refine zZ.sub (sub_curAt 11 L cur0 rfl) ?_; refine zZ.rc [0, 1, 6, 8, 9, 10, 11] [6, 8, 9, 11, 15] (r := (.v zH (.v zL (.v v43_8 (.v zX .e))))) (h := ?_)) | (refine zZ.iR 3 ?_; refine zZ.rc [0, 1, 6, 8, 9, 10, 11] [6, 8, 9, 11, 15] (r := (.v yD .e)) (h := ?_)) | (refine zZ.iR 4 ?_; refine zZ.rc [0, 1, 6, 8, 9, 10, 11] [6, 8, 9, 11, 15] (r := (.v zH (.v zL .e))) (h := ?_)) | refine zZ.yB rfl bA ?_ | refine zZ.cond rfl (fun h => ?_) (fun h => ?_) | refine zZ.skip ?_ | refine zZ.ret ?_) | refine zK.n ?_ | refine zK.r ?_)
    all_goals first | exact ⟨by first | exact .inl rfl | exact .inr rfl, _, Sub.refl _, .tupE rfl (by decide) (.cons (.cellN rfl rfl (by rfl) (by rfl)) (.cons (.cellN rfl rfl (by rfl) (by rfl)) (.cons (.tmp rfl) .nil))) (hR _ _ _ _ _ (by rw [hP]; exact Rel.ret _)).symm⟩ | (exfalso; simp only [decide_eq_true_eq, decide_eq_false_iff_not] at *; omega)
  case pos =>
    cases hu : vOK u
    case false =>
      have hE : vkE u = 4 := by unfold vkE; rw [hu]; rfl
      have hP : qW t me k u = .ret ⟨4, false, 0, 0⟩ := by
        unfold qW
        rw [hu]
        rcases hk3 with rfl | rfl | rfl <;> rfl
      rw [hE] at cv
      have f1 : decide (k < 11) = false := decide_eq_false (by omega)
      have f2 : decide (k > 13) = false := decide_eq_false (by omega)
      repeat' (first | (refine zY.is ?_; first | refine zY.nil ?_ | (refine zY.at_ 32 rfl ?_; refine zY.rc (.v wW (.v yZ (.v yZ (.v zW (.v zW .e))))) ?_) | (refine zY.at_ 42 rfl ?_; refine zY.rc (.v yZ (.v yZ (.v yZ (.w zO (.w zO (.v zW .e)))))) ?_) | (refine zY.in_ [35] rfl ?_; refine zY.v rfl rfl (yR (cv) rfl rfl rfl (by decide)) ?_) | (refine zY.in_ [41] rfl ?_; refine zY.ofT rfl (zA.eR [11] (told_fn L _ _ _ _ _) ?_))) | (refine zZ.is ?_; first | refine zZ.seq ?_ | (refine zZ.iR 0 ?_; refine zZ.rc [0, 1, 2, 3] [6, 8, 9, 11, 15] (r := (.m yI (.m zT (.m zT (.v zW .e))))) (h := ?_)) | (refine zZ.iR 1 ?_; refine zZ.rc [0, 1, 3, 6, 8, 9, 10] [6, 8, 9, 11, 15] (r := (.v zX (.v yD (.m zT (.w zO .e))))) (h := ?_)) | (refine zZ.iR 2 ?_; refine zZ.sub (sub_curAt 11 L cur0 rfl) ?_; refine zZ.rc [0, 1, 6, 8, 9, 10, 11] [6, 8, 9, 11, 15] (r := (.v zH (.v zL (.v yU (.v zX (.gY zH (.gY zL (.gY v45_0 (.v yP .e))))))))) (h := ?_)) | (refine zZ.iR 4 ?_; refine zZ.rc [0, 1, 6, 8, 9, 10, 11] [6, 8, 9, 11, 15] (r := (.v zH (.v zL .e))) (h := ?_)) | (refine zZ.iR 5 ?_; refine zZ.rc [0, 1, 6, 8, 9, 10, 11, 12, 13] [6, 8, 9, 11, 15] (r := (.v zX (.v v42_4 .e))) (h := ?_)) | (refine zZ.iR 6 ?_; refine zZ.rc [0, 1, 6, 8, 9, 10, 11, 12] [6, 8, 9, 11, 15] (r := (.v yD .e)) (h := ?_)) | refine zZ.yB rfl bA ?_ | refine zZ.yA rfl bA ?_ | refine zZ.skip ?_ | refine zZ.ret ?_) | refine zK.n ?_ | refine zK.r ?_)
      all_goals exact ⟨by first | exact .inl rfl | exact .inr rfl, _, Sub.refl _, .tupE rfl (by decide) (.cons (.cellN rfl rfl (by rfl) (by rfl)) (.cons (.cellN rfl rfl (by rfl) (by rfl)) (.cons (.tmp rfl) .nil))) (hR _ _ _ _ _ (by rw [hP]; exact Rel.ret _)).symm⟩
    case true =>
      have hE : vkE u = 0 := by unfold vkE; rw [hu]; rfl
      rw [hE] at cv
      have hP : qW t me k u = inP me (vopB t me k u) := by
        unfold qW
        rw [hu]
        rcases hk3 with rfl | rfl | rfl <;> rfl
      rcases hk3 with rfl | rfl | rfl
      all_goals
        repeat' (first | (refine zY.is ?_; first | refine zY.nil ?_ | (refine zY.at_ 14 rfl ?_; refine zY.rc (.v zW .e) ?_) | (refine zY.at_ 32 rfl ?_; refine zY.rc (.v wW (.v yZ (.v yZ (.v zW (.v zW .e))))) ?_) | (refine zY.at_ 51 rfl ?_; refine zY.rc (.v yZ (.v yZ (.v yZ (.w zO (.w zO (.v zW .e)))))) ?_) | (refine zY.at_ 58 rfl ?_; refine zY.rc (.v wW (.v yZ (.v yZ (.w zO (.v zW .e))))) ?_) | (refine zY.at_ 67 rfl ?_; refine zY.rc (.v wW (.v yZ (.v yZ (.w zO (.v zW .e))))) ?_) | (refine zY.at_ 75 rfl ?_; refine zY.rc (.v wW (.v yZ (.v yZ (.w zO (.v zW .e))))) ?_) | (refine zY.at_ 85 rfl ?_; refine zY.rc (.v yZ (.v yZ (.v yZ (.w zO (.w zO (.v zW .e)))))) ?_) | (refine zY.at_ 94 rfl ?_; refine zY.rc (.v yZ (.v yZ (.v yZ (.w zO (.w zO (.v zW .e)))))) ?_) | refine zY.rc (.w zO .e) ?_ | (refine zY.in_ [35] rfl ?_; refine zY.v rfl rfl (yR (cv) rfl rfl rfl (by decide)) ?_) | (refine zY.in_ [49] rfl ?_; refine zY.ofT rfl (zA.eR [] (sealedRef_fn) ?_)) | (refine zY.in_ [50, 84, 93] rfl ?_; refine zY.ofT rfl (zA.eR [11] (told_fn L _ _ _ _ _) ?_)) | (refine zY.in_ [46] rfl ?_; refine zY.ofT rfl (zA.cu (i := [11]) (f := enterRef_c L hL hme) (r := fun x τ e g hj => ?_))) | (refine zY.in_ [62] rfl ?_; refine zY.ofT rfl (zA.cu (i := [11]) (f := vaddRef_c L hL ht t0 hme) (r := fun x τ e g hj => ?_))) | (refine zY.in_ [70] rfl ?_; refine zY.ofT rfl (zA.cu (i := [11]) (f := vremRef_c L hL ht) (r := fun x τ e g hj => ?_))) | (refine zY.in_ [78] rfl ?_; refine zY.ofT rfl (zA.cu (i := [11]) (f := vhasRef_c L hL ht) (r := fun x τ e g hj => ?_))) | (refine zY.in_ [91] rfl ?_; refine zY.ofT rfl (zA.cu (i := [11]) (f := leaveRef_c L hL hme _) (r := fun x τ e g hj => ?_)))) | (refine zZ.is ?_; first | refine zZ.seq ?_ | (refine zZ.iR 0 ?_; refine zZ.rc [0, 1, 2, 3] [6, 8, 9, 11, 15] (r := (.m yI (.m zT (.m zT (.v zW .e))))) (h := ?_)) | (refine zZ.iR 1 ?_; refine zZ.rc [0, 1, 3, 6, 8, 9, 10] [6, 8, 9, 11, 15] (r := (.v zX (.v yD (.m zT (.w zO .e))))) (h := ?_)) | (refine zZ.iR 2 ?_; refine zZ.sub (sub_curAt 11 L cur0 rfl) ?_; refine zZ.rc [0, 1, 6, 8, 9, 10, 11] [6, 8, 9, 11, 15] (r := (.v zH (.v zL (.v v43_5 (.v zX (.gY zH (.gY zL (.gY v45_5 (.v yP .e))))))))) (h := ?_)) | (refine zZ.iR 4 ?_; refine zZ.rc [0, 1, 6, 8, 9, 10, 11] [6, 8, 9, 11, 15] (r := (.v zH (.v zL .e))) (h := ?_)) | (refine zZ.iR 5 ?_; refine zZ.rc [0, 1, 6, 8, 9, 10, 11, 12, 13] [6, 8, 9, 11, 15] (r := (.v zX (.v v42_5 .e))) (h := ?_)) | (refine zZ.iR 7 ?_; refine zZ.rc [0, 1, 6, 8, 9, 10, 11, 12] [6, 8, 9, 11, 15] (r := (.v zX .e)) (h := ?_)) | (refine zZ.iR 8 ?_; refine zZ.rc [0, 1, 6, 8, 9, 10, 11, 12, 14] [6, 8, 9, 11, 15] (r := (.v zX (.v wU .e))) (h := ?_)) | (refine zZ.iR 9 ?_; refine zZ.rc [0, 1, 6, 8, 9, 10, 11, 12] [6, 8, 9, 11, 15] (r := .e) (h := ?_)) | (refine zZ.iR 10 ?_; refine zZ.rc [0, 1, 6, 8, 9, 10, 11, 12] [6, 8, 9, 11, 15] (r := (.m zT .e)) (h := ?_)) | (refine zZ.iR 11 ?_; refine zZ.rc [0, 1, 6, 8, 9, 10, 11, 12, 15] [6, 8, 9, 11, 15] (r := (.v zW .e)) (h := ?_)) | (refine zZ.iR 12 ?_; refine zZ.rc [0, 1, 6, 8, 9, 10, 11, 12, 15, 16] [6, 8, 9, 11, 15] (r := (.v zH (.v zL .e))) (h := ?_)) | (refine zZ.iR 13 ?_; refine zZ.rc [0, 1, 8, 9, 10, 11, 12, 15, 16, 55] [6, 8, 9, 11, 15] (r := (.v v41_4 (.v zW .e))) (h := ?_)) | (refine zZ.iR 13 ?_; refine zZ.rc [0, 1, 8, 9, 10, 11, 12, 15, 16, 55] [6, 8, 9, 11, 15] (r := (.v v41_5 (.v zW .e))) (h := ?_)) | (refine zZ.iR 14 ?_; refine zZ.rc [0, 1, 8, 9, 10, 11, 12, 15, 16, 55] [6, 8, 9, 11, 15] (r := (.v zX (.v zX (.v zX .e)))) (h := ?_)) | (refine zZ.iR 15 ?_; refine zZ.rc [0, 1, 8, 9, 10, 11, 12, 15, 16, 55] [6, 8, 9, 11, 15] (r := (.v v41_4 (.v zW .e))) (h := ?_)) | (refine zZ.iR 15 ?_; refine zZ.rc [0, 1, 8, 9, 10, 11, 12, 15, 16, 55] [6, 8, 9, 11, 15] (r := (.v v41_5 (.v zW .e))) (h := ?_)) | (refine zZ.iR 16 ?_; refine zZ.rc [0, 1, 8, 9, 10, 11, 12, 15, 16, 55] [6, 8, 9, 11, 15] (r := (.v zX (.v zX .e))) (h := ?_)) | (refine zZ.iR 17 ?_; refine zZ.rc [0, 1, 8, 9, 10, 11, 12, 15, 16, 55] [6, 8, 9, 11, 15] (r := (.v v41_4 (.v zW .e))) (h := ?_)) | (refine zZ.iR 18 ?_; refine zZ.rc [0, 1, 8, 9, 10, 11, 12, 15, 16] [6, 8, 9, 11, 15] (r := (.v zX (.v zX .e))) (h := ?_)) | (refine zZ.iR 19 ?_; refine zZ.rc [1, 8, 9, 10, 11, 15, 16] [6, 8, 9, 11, 15] (r := (.v zH (.v zL .e))) (h := ?_)) | (refine zZ.iR 20 ?_; refine zZ.rc [1, 8, 9, 10, 11, 15, 16] [6, 8, 9, 11, 15] (r := (.v xC .e)) (h := ?_)) | (refine zZ.iR 21 ?_; refine zZ.rc [1, 8, 9, 10, 11, 15, 16] [6, 8, 9, 11, 15] (r := (.v zX (.v xC (.v zX .e)))) (h := ?_)) | (refine zZ.iR 22 ?_; refine zZ.rc [8, 9, 10, 11, 15] [6, 8, 9, 11, 15] (r := (.v xC .e)) (h := ?_)) | refine zZ.yB rfl bA ?_ | refine zZ.yA rfl bA ?_ | refine zZ.cond rfl (fun h => ?_) (fun h => ?_) | refine zZ.skip ?_ | refine zZ.block ?_ | refine zZ.ret ?_) | refine zK.n ?_ | refine zK.r ?_ | refine zI.n ?_)
        all_goals exact ⟨by first | exact .inl rfl | exact .inr rfl, _, Sub.refl _, .tupE rfl (by decide) (.cons (.cellN rfl rfl (by rfl) (by rfl)) (.cons (.cellN rfl rfl (by rfl) (by rfl)) (.cons (.tmp rfl) .nil))) (hR _ _ _ _ _ (by rw [hP]; first | exact rel_seal (by assumption) (nT (by assumption)) | exact rel_stop (by assumption) (nF (by assumption)) (by assumption) (by assumption) | exact rel_leave (by assumption) (nF (by assumption)) (by assumption) (by assumption))).symm⟩
end
section
attribute [local irreducible] zY zZ Step zV Sub zF zA Fn
theorem zZ.loopOnce {P : Program} {n : Nat} {c : Code} {S : AS} {K : Exit → AS → Prop} (h : zZ P n c S (zK (fun _ => False) K)) : zZ P n (.loop c) S K :=
  zZ.loop (fun _ : Unit => S) (fun _ => True) (fun _ => 0) () (Sub.refl S) trivial fun _ _ => h.mono fun e S' h1 => by
    cases e with
    | normal => exact (h1 : False).elim
    | _ => exact h1
section
variable {P : Program} {n : Nat} {o : Oper} {S : AS} {d : Nat} {x y : Operand} {xt yt : TypeId} {r : Bool}
theorem r_neqS {s u : ByteArray} (ho : o.op = .binOp .neq xt x y yt) (hx : S.get x = .p (.val (.string s))) (hy : S.get y = .p (.val (.string u))) (hr : (!(s.toList == u.toList)) = r) (hd : o.dst = some d) (hn : d < n) : zV P n o S [] (.p (.val (.bool r))) none := by
  subst hr
  exact wL ho hx hy hd hn fun w => by simp [eqGuard, binOp, Op.stringOp]
end
def accS (kind cell a b : Int) (bs : List Int) : PV := .agg [.val (.int .i64 kind), .val (.int .i64 cell), .val (.int .u64 a), .val (.int .u64 b), .sl (byts bs), .sl []]
theorem asks_fn (kind cell a b : Int) (bs : List Int) : Fn Tryz.prog 12 [accS kind cell a b bs, accS kind cell a b bs] (.p (.val (.bool true))) := by
  have g1 : ∀ x : Int, (!decide (x = x)) = false := fun x => by simp
  have g2 : ∀ x : ByteArray, (!(x.toList == x.toList)) = false := fun x => by simp
  have g3 : decide ((0 : Int) < 0) = false := rfl
  refine xV Tryz.func12 rfl Tryz.ntmps12 (Nat.le_of_ble_eq_true rfl) ?_
  repeat' (first | refine zZ.loopOnce ?_ | (refine zZ.is ?_; first | refine zZ.seq ?_ | (refine zZ.iR 0 ?_; refine zZ.wM [0, 1] [2, 3] (by repeat' first | exact zR.nil | apply zR.p rfl) (by repeat' first | exact zU.nil | apply zU.skip) ?_; refine zY.m rfl rfl (w_boxA rfl rfl rfl (by decide)) ?_; refine zY.m rfl rfl (w_boxA rfl rfl rfl (by decide)) ?_; refine zY.va rfl rfl rfl rfl (by decide) ?_; refine zY.nil ?_) | (refine zZ.iR 1 ?_; refine zZ.wM [2, 3, 4] [2, 3] (by repeat' first | exact zR.nil | apply zR.p rfl | apply zR.ptr rfl) (by repeat' first | exact zU.nil | apply zU.boxP rfl rfl) ?_; all_goals (refine zY.v rfl rfl (wY rfl rfl rfl (by decide)) ?_); all_goals (refine zY.v rfl rfl (yG rfl rfl rfl (by rfl) rfl (by decide)) ?_); all_goals (refine zY.v rfl rfl (wY rfl rfl rfl (by decide)) ?_); all_goals (refine zY.v rfl rfl (yG rfl rfl rfl (by rfl) rfl (by decide)) ?_); all_goals (refine zY.v rfl rfl (by exact r_neq rfl rfl rfl (by exact g1 _) rfl (by decide)) ?_); all_goals (refine zY.vm rfl rfl rfl rfl (by decide) ?_); all_goals (refine zY.gY rfl rfl (by decide) rfl (by assumption) rfl (by decide) (wY rfl rfl rfl (by decide)) ?_); all_goals (refine zY.gY rfl rfl (by decide) rfl (by assumption) rfl (by decide) (yG rfl rfl rfl (by rfl) rfl (by decide)) ?_); all_goals (refine zY.gY rfl rfl (by decide) rfl (by assumption) rfl (by decide) (wY rfl rfl rfl (by decide)) ?_); all_goals (refine zY.gY rfl rfl (by decide) rfl (by assumption) rfl (by decide) (yG rfl rfl rfl (by rfl) rfl (by decide)) ?_); all_goals (refine zY.gY rfl rfl (by decide) rfl (by assumption) rfl (by decide) (by exact r_neq rfl rfl rfl (by exact g1 _) rfl (by decide)) ?_); all_goals (refine zY.v rfl rfl (by exact w_pickN rfl rfl (by assumption) rfl rfl (by decide)) ?_); all_goals (refine zY.vm rfl rfl rfl rfl (by decide) ?_); all_goals (refine zY.gY rfl rfl (by decide) rfl (by assumption) rfl (by decide) (wY rfl rfl rfl (by decide)) ?_); all_goals (refine zY.gY rfl rfl (by decide) rfl (by assumption) rfl (by decide) (yG rfl rfl rfl (by rfl) rfl (by decide)) ?_); all_goals (refine zY.gY rfl rfl (by decide) rfl (by assumption) rfl (by decide) (wY rfl rfl rfl (by decide)) ?_); all_goals (refine zY.gY rfl rfl (by decide) rfl (by assumption) rfl (by decide) (yG rfl rfl rfl (by rfl) rfl (by decide)) ?_); all_goals (refine zY.gY rfl rfl (by decide) rfl (by assumption) rfl (by decide) (by exact r_neq rfl rfl rfl (by exact g1 _) rfl (by decide)) ?_); all_goals (refine zY.v rfl rfl (by exact w_pickN rfl rfl (by assumption) rfl rfl (by decide)) ?_); all_goals (refine zY.vm rfl rfl rfl rfl (by decide) ?_); all_goals (refine zY.gY rfl rfl (by decide) rfl (by assumption) rfl (by decide) (wY rfl rfl rfl (by decide)) ?_); all_goals (refine zY.gY rfl rfl (by decide) rfl (by assumption) rfl (by decide) (yG rfl rfl rfl (by rfl) rfl (by decide)) ?_); all_goals (refine zY.gY rfl rfl (by decide) rfl (by assumption) rfl (by decide) (wY rfl rfl rfl (by decide)) ?_); all_goals (refine zY.gY rfl rfl (by decide) rfl (by assumption) rfl (by decide) (yG rfl rfl rfl (by rfl) rfl (by decide)) ?_); all_goals (refine zY.gY rfl rfl (by decide) rfl (by assumption) rfl (by decide) (by exact r_neq rfl rfl rfl (by exact g1 _) rfl (by decide)) ?_); all_goals (refine zY.v rfl rfl (by exact w_pickN rfl rfl (by assumption) rfl rfl (by decide)) ?_); all_goals (refine zY.vm rfl rfl rfl rfl (by decide) ?_); all_goals (refine zY.gY rfl rfl (by decide) rfl (by assumption) rfl (by decide) (wY rfl rfl rfl (by decide)) ?_); all_goals (refine zY.gY rfl rfl (by decide) rfl (by assumption) rfl (by decide) (yG rfl rfl rfl (by rfl) rfl (by decide)) ?_); all_goals (refine zY.gY rfl rfl (by decide) rfl (by assumption) rfl (by decide) (w_str rfl rfl rfl (by decide)) ?_); all_goals (refine zY.gY rfl rfl (by decide) rfl (by assumption) rfl (by decide) (wY rfl rfl rfl (by decide)) ?_); all_goals (refine zY.gY rfl rfl (by decide) rfl (by assumption) rfl (by decide) (yG rfl rfl rfl (by rfl) rfl (by decide)) ?_); all_goals (refine zY.gY rfl rfl (by decide) rfl (by assumption) rfl (by decide) (w_str rfl rfl rfl (by decide)) ?_); all_goals (refine zY.gY rfl rfl (by decide) rfl (by assumption) rfl (by decide) (by exact r_neqS rfl rfl rfl (by exact g2 _) rfl (by decide)) ?_); all_goals (refine zY.v rfl rfl (by exact w_pickN rfl rfl (by assumption) rfl rfl (by decide)) ?_); all_goals (refine zY.vm rfl rfl rfl rfl (by decide) ?_); all_goals (refine zY.gY rfl rfl (by decide) rfl (by assumption) rfl (by decide) (wY rfl rfl rfl (by decide)) ?_); all_goals (refine zY.gY rfl rfl (by decide) rfl (by assumption) rfl (by decide) (yG rfl rfl rfl (by rfl) rfl (by decide)) ?_); all_goals (refine zY.gY rfl rfl (by decide) rfl (by assumption) rfl (by decide) (w_lenS rfl rfl rfl (by decide)) ?_); all_goals (refine zY.gY rfl rfl (by decide) rfl (by assumption) rfl (by decide) (wY rfl rfl rfl (by decide)) ?_); all_goals (refine zY.gY rfl rfl (by decide) rfl (by assumption) rfl (by decide) (yG rfl rfl rfl (by rfl) rfl (by decide)) ?_); all_goals (refine zY.gY rfl rfl (by decide) rfl (by assumption) rfl (by decide) (w_lenS rfl rfl rfl (by decide)) ?_); all_goals (refine zY.gY rfl rfl (by decide) rfl (by assumption) rfl (by decide) (by exact r_neq rfl rfl rfl (by exact g1 _) rfl (by decide)) ?_); all_goals (refine zY.v rfl rfl (by exact w_pickN rfl rfl (by assumption) rfl rfl (by decide)) ?_); all_goals (refine zY.nil ?_)) | (refine zZ.iR 3 ?_; refine zZ.wM [2, 3, 4] [2, 3] (by repeat' first | exact zR.nil | apply zR.p rfl | apply zR.ptr rfl) (by repeat' first | exact zU.nil | apply zU.boxP rfl rfl) ?_; refine zY.va rfl rfl rfl rfl (by decide) ?_; refine zY.nil ?_) | (refine zZ.iR 4 ?_; refine zZ.wM [2, 3, 4, 5, 54, 67] [2, 3] (by repeat' first | exact zR.nil | apply zR.p rfl | apply zR.ptr rfl | apply zR.skip) (by repeat' first | exact zU.nil | apply zU.boxP rfl rfl) ?_; refine zY.vm rfl rfl rfl rfl (by decide) ?_; refine zY.v rfl rfl (wY rfl rfl rfl (by decide)) ?_; refine zY.v rfl rfl (yG rfl rfl rfl (by rfl) rfl (by decide)) ?_; refine zY.v rfl rfl (w_lenS rfl rfl rfl (by decide)) ?_; refine zY.v rfl rfl (r_lss rfl rfl rfl g3 rfl (by decide)) ?_; refine zY.nil ?_) | (refine zZ.iR 8 ?_; refine zZ.wM [4] [2, 3] (by repeat' first | exact zR.nil | apply zR.p rfl) (by repeat' first | exact zU.nil | apply zU.boxP rfl rfl) ?_; refine zY.va rfl rfl rfl rfl (by decide) ?_; refine zY.nil ?_) | refine zZ.yA rfl (by assumption) ?_ | refine zZ.skip ?_ | refine zZ.block ?_ | refine zZ.exit ?_ | refine zZ.ret ?_))
  all_goals refine ⟨by first | exact .inl rfl | exact .inr rfl, gives1 rfl rfl (eqB' ?_)⟩
  all_goals rfl
end
section
attribute [local irreducible] zY zZ Step zV Sub zF zA Fn
def dimsB (t c : Int) : Bool := decide (1 ≤ t) && decide (t ≤ 64) && decide (0 ≤ c) && decide (c ≤ 65536)
theorem dims_fn (t c : Int) : Fn Tryz.prog 8 [.val (.int .i64 t), .val (.int .i64 c)] (.p (.val (.bool (dimsB t c)))) := by
  refine xV Tryz.func8 rfl Tryz.ntmps8 (Nat.le_of_ble_eq_true rfl) ?_
  repeat' (first | (refine zY.is ?_; first | refine zY.nil ?_ | (refine zY.at_ 12 rfl ?_; refine zY.rc (.gY zX (.gY v46_8 (.v yH (.v zX .e)))) ?_) | (refine zY.at_ 12 rfl ?_; refine zY.rc (.gT (.gT (.v yP (.v zX (.gT (.gT (.v yP (.v zW .e)))))))) ?_) | (refine zY.at_ 16 rfl ?_; refine zY.rc (.gY zX (.gY v44_8 (.v yH (.v zW .e)))) ?_) | (refine zY.at_ 16 rfl ?_; refine zY.rc (.gT (.gT (.v yP (.v zW .e)))) ?_) | (refine zY.at_ 8 rfl ?_; refine zY.rc (.gY zX (.gY v44_8 (.v yH (.v zX .e)))) ?_) | (refine zY.at_ 8 rfl ?_; refine zY.rc (.gT (.gT (.v yP (.v zX (.gT (.gT (.v yP (.v zX (.gT (.gT (.v yP (.v zW .e)))))))))))) ?_) | (fail_if_success refine zY.known rfl rfl rfl (by fail) ?_); refine zY.split rfl rfl rfl (fun h => ?_) (fun h => ?_)) | (refine zZ.is ?_; first | refine zZ.seq ?_ | (refine zZ.iR 0 ?_; refine zZ.rc [0, 1] [] (r := (.v zW .e)) (h := ?_)) | (refine zZ.iR 1 ?_; refine zZ.rc [0, 1, 4] [] (r := (.v zX (.v v46_8 (.v zX .e)))) (h := ?_)) | refine zZ.ret ?_))
  all_goals refine ⟨.inl rfl, gives1 rfl rfl (eqB' ?_)⟩
  all_goals simp [dimsB, *]
theorem outs_fn (e : Int) (is : Bool) (n w : Int) : Fn Tryz.prog 13 [qZ e is n w, qZ e is n w] (.p (.val (.bool true))) := by
  have g1 : ∀ x : Int, (!decide (x = x)) = false := fun x => by simp
  have g2 : ∀ x : Bool, (!(x == x)) = false := fun x => by simp
  have g3 : decide ((0 : Int) < 0) = false := rfl
  refine xV Tryz.func13 rfl Tryz.ntmps13 (Nat.le_of_ble_eq_true rfl) ?_
  repeat' (first | refine zZ.loopOnce ?_ | (refine zY.is ?_; first | refine zY.nil ?_ | (refine zY.at_ 12 rfl ?_; refine zY.rc (.gY zH (.gY zL (.gY zH (.gY zL (.gY v42_17 (.v yP (.v zX .e))))))) ?_) | (refine zY.at_ 12 rfl ?_; refine zY.rc (.gF (.gF (.gF (.gF (.gF (.v yH (.v zX (.gF (.gF (.gF (.gF (.gF (.v yH (.v zX (.gF (.gF (.gF (.gF (.gF (.v yH (.v zX (.gF (.gF (.gF (.gF (.gF (.gF (.gF (.v yH .e))))))))))))))))))))))))))))) ?_) | (refine zY.at_ 19 rfl ?_; refine zY.rc (.gY zH (.gY zL (.gY zH (.gY zL (.gY kE (.v yP (.v zX .e))))))) ?_) | (refine zY.at_ 19 rfl ?_; refine zY.rc (.gF (.gF (.gF (.gF (.gF (.v yH (.v zX (.gF (.gF (.gF (.gF (.gF (.v yH (.v zX (.gF (.gF (.gF (.gF (.gF (.gF (.gF (.v yH .e)))))))))))))))))))))) ?_) | (refine zY.at_ 26 rfl ?_; refine zY.rc (.gY zH (.gY zL (.gY zH (.gY zL (.gY kE (.v yP (.v zX .e))))))) ?_) | (refine zY.at_ 26 rfl ?_; refine zY.rc (.gF (.gF (.gF (.gF (.gF (.v yH (.v zX (.gF (.gF (.gF (.gF (.gF (.gF (.gF (.v yH .e))))))))))))))) ?_) | (refine zY.at_ 33 rfl ?_; refine zY.rc (.gY zH (.gY zL (.gY v57_2 (.gY zH (.gY zL (.gY v57_2 (.gY v42_5 (.v yP .e)))))))) ?_) | (refine zY.at_ 33 rfl ?_; refine zY.rc (.gF (.gF (.gF (.gF (.gF (.gF (.gF (.v yH .e)))))))) ?_) | (fail_if_success refine zY.known rfl rfl rfl (by fail) ?_); refine zY.split rfl rfl rfl (fun h => ?_) (fun h => ?_)) | (refine zZ.is ?_; first | refine zZ.seq ?_ | (refine zZ.iR 0 ?_; refine zZ.rc [0, 1] [2, 3] (r := (.m yI (.m yI (.v zW .e)))) (h := ?_)) | (refine zZ.iR 1 ?_; refine zZ.rc [2, 3, 4] [2, 3] (r := (.v zH (.v zL (.v zH (.v zL (.v kE (.v zX .e))))))) (h := ?_)) | (refine zZ.iR 2 ?_; refine zZ.rc [2, 3, 4] [2, 3] (r := (.v zW .e)) (h := ?_)) | (refine zZ.iR 3 ?_; refine zZ.rc [2, 3, 4] [2, 3] (r := (.v zW .e)) (h := ?_)) | (refine zZ.iR 4 ?_; refine zZ.rc [2, 3, 4, 5, 45, 58] [2, 3] (r := (.v zX (.v zH (.v zL (.v v57_2 (.v yU .e)))))) (h := ?_)) | (refine zZ.iR 8 ?_; refine zZ.rc [4] [2, 3] (r := (.v zW .e)) (h := ?_)) | refine zZ.yB rfl bA ?_ | refine zZ.yA rfl bA ?_ | refine zZ.skip ?_ | refine zZ.block ?_ | refine zZ.exit ?_ | refine zZ.ret ?_) | refine zK.r ?_)
  all_goals refine ⟨by first | exact .inl rfl | exact .inr rfl, gives1 rfl rfl (eqB' ?_)⟩
  all_goals first | rfl | (exfalso; simp_all; done)
end
section
attribute [local irreducible] zY zZ Step zV Sub zF zA Fn
def inV (t c me k u v w : Int) (L : List yQ) : PV := .agg [.val (.int .i64 t), .val (.int .i64 c), .val (.int .i64 me), .val (.int .i64 k), .val (.int .i64 u), .val (.int .i64 v), .val (.int .u64 w), logV L]
theorem both_tellV (t c me k u v w : Int) (L : List yQ) (hL : xB L) (ht : Small t) (h0 : 0 ≤ t) (hme : Small me) : ∃ K C A B D E I N X F, Fn Tryz.prog 15 [.val (.int .i64 t), .val (.int .i64 c), .val (.int .i64 me), opV k u v w, logV L] (.tup [accS K C A B D, qZ E I N X, .val (.bool F)]) ∧ Fn Tryz.prog 16 [.val (.int .i64 t), .val (.int .i64 me), opV k u v w, logV L] (.tup [accS K C A B D, qZ E I N X, .val (.bool F)]) := by
  have hfine := fine_vop t me k u
  cases hm : (qW t me k u).run (y9 L) 0 with
  | stuck =>
    have h := hfine.log hL (Nat.zero_le L.length)
    rw [hm] at h
    exact h.elim
  | done o j =>
    have hp : PLet [accV 0 0 0 0 xZ, qZ o.e o.is o.n o.w, .val (.bool true)] [accS 0 0 0 0 [], qZ o.e o.is o.n o.w, .val (.bool true)] := .cons (.agg (.cons (.refl _) (.cons (.refl _) (.cons (.refl _) (.cons (.refl _) (.cons .nil (.cons .nil .nil))))))) (.cons (.refl _) (.cons (.refl _) .nil))
    exact ⟨0, 0, 0, 0, [], o.e, o.is, o.n, o.w, true, (nextV_done L hL c (v := v) (w := w) ht h0 hme hm).weakT hp, (nextRefV L hL (v := v) (w := w) ht h0 hme _ fun _ _ _ _ _ h => told_done hm h).weakT hp⟩
  | need q j =>
    have h := hfine.log hL (Nat.zero_le L.length)
    rw [hm] at h
    have hq : kQ q := h.1
    have hp : PLet [accQ q, qZ 0 false 0 0, .val (.bool false)] [accS q.kind q.cell q.a q.b (kW q.d), qZ 0 false 0 0, .val (.bool false)] := by
      refine .cons (.agg (.cons (.refl _) (.cons (.refl _) (.cons (.refl _) (.cons (.refl _) (.cons ?_ (.cons .nil .nil))))))) (.cons (.refl _) (.cons (.refl _) .nil))
      rcases hq.d with ⟨_, e⟩ | ⟨_, bs, _, _, e⟩
      · rw [e]; exact .nil
      · rw [e, bytsOf_byts]; exact .refl _
    exact ⟨q.kind, q.cell, q.a, q.b, kW q.d, 0, false, 0, 0, false, (nextV_need L hL c (v := v) (w := w) ht h0 hme hm).weakT hp, (nextRefV L hL (v := v) (w := w) ht h0 hme _ fun _ _ _ _ _ h => told_need hL hfine hm h).weakT hp⟩
theorem vertNextLaw_fn (t c me k u v w : Int) (L : List yQ) (hw : U w) (hL : ∀ r ∈ L, U r.n) : Fn Tryz.prog 4 [inV t c me k u v w L] (.p (.val (.bool true))) := by
  have c0 := shown16_fn
  have c1 := dims_fn t c
  refine yT Tryz.func4 rfl Tryz.ntmps4 (Nat.le_of_ble_eq_true rfl) ?_
  cases hd : dimsB t c with
  | false =>
    have h1 : (!dimsB t c) = true := by rw [hd]; rfl
    rw [hd] at c1
    repeat' (first | (refine zY.is ?_; first | refine zY.nil ?_ | (refine zY.at_ 29 rfl ?_; refine zY.rc (.v qI (.v zX (.gF (.gF (.v yH (.v zX (.gF (.gF (.gF (.v yH (.v zX (.gF (.gF (.gF (.v yH .e))))))))))))))) ?_) | (refine zY.at_ 8 rfl ?_; refine zY.rc (.v zW .e) ?_) | (refine zY.in_ [25] rfl ?_; refine zY.v rfl rfl (zG (c0) rfl rfl rfl (by decide)) ?_) | (refine zY.in_ [28] rfl ?_; refine zY.v rfl rfl (zG (c1) rfl rfl rfl (by decide)) ?_)) | (refine zZ.is ?_; first | refine zZ.seq ?_ | (refine zZ.iR 0 ?_; refine zZ.rc [0] [1, 6, 9, 10, 12, 13] (r := (.m yI (.v zW .e))) (h := ?_)) | (refine zZ.iR 1 ?_; refine zZ.rc [1, 2] [1, 6, 9, 10, 12, 13] (r := (.v zH (.v zL (.v zW .e)))) (h := ?_)) | (refine zZ.iR 2 ?_; refine zZ.rc [1, 2, 3] [1, 6, 9, 10, 12, 13] (r := (.v zH (.v zL (.v zW .e)))) (h := ?_)) | (refine zZ.iR 3 ?_; refine zZ.rc [1, 2, 3, 4] [1, 6, 9, 10, 12, 13] (r := (.v zH (.v zL (.v zW .e)))) (h := ?_)) | (refine zZ.iR 4 ?_; refine zZ.rc [1, 2, 3, 4, 5] [1, 6, 9, 10, 12, 13] (r := (.v zH (.v xC (.m zT (.w zO .e))))) (h := ?_)) | (refine zZ.iR 5 ?_; refine zZ.rc [1, 2, 3, 4, 5, 6] [1, 6, 9, 10, 12, 13] (r := (.v zH (.v zL (.v zW .e)))) (h := ?_)) | (refine zZ.iR 6 ?_; refine zZ.rc [2, 3, 4, 5, 6, 7] [1, 6, 9, 10, 12, 13] (r := .e) (h := ?_)) | (refine zZ.iR 7 ?_; refine zZ.rc [2, 3, 4, 5, 6, 7, 8] [1, 6, 9, 10, 12, 13] (r := (.v zX (.v zX .e))) (h := ?_)) | (refine zZ.iR 8 ?_; refine zZ.rc [2, 3, 4, 5, 6, 7, 8] [1, 6, 9, 10, 12, 13] (r := (.v zX (.v zW .e))) (h := ?_)) | refine zZ.yB rfl bA ?_ | refine zZ.ret ?_) | refine zK.r ?_)
    all_goals exact ⟨by first | exact .inl rfl | exact .inr rfl, _, Sub.refl _, .p rfl (.tmp rfl)⟩
  | true =>
    rw [hd] at c1
    have hd' := hd
    unfold dimsB at hd'
    simp only [Bool.and_eq_true, decide_eq_true_eq] at hd'
    rcases Int.lt_or_le me 0 with hme | hme
    · have f1 : decide (me < 0) = true := decide_eq_true hme
      repeat' (first | (refine zY.is ?_; first | refine zY.nil ?_ | (refine zY.at_ 29 rfl ?_; refine zY.rc (.v vS (.v zX (.gY zX (.gY yU (.v yP (.v zX (.gF (.gF (.gF (.v yH (.v zX (.gF (.gF (.gF (.v yH .e))))))))))))))) ?_) | (refine zY.at_ 8 rfl ?_; refine zY.rc (.v zW .e) ?_) | (refine zY.in_ [25] rfl ?_; refine zY.v rfl rfl (zG (c0) rfl rfl rfl (by decide)) ?_) | (refine zY.in_ [28] rfl ?_; refine zY.v rfl rfl (zG (c1) rfl rfl rfl (by decide)) ?_)) | (refine zZ.is ?_; first | refine zZ.seq ?_ | (refine zZ.iR 0 ?_; refine zZ.rc [0] [1, 6, 9, 10, 12, 13] (r := (.m yI (.v zW .e))) (h := ?_)) | (refine zZ.iR 1 ?_; refine zZ.rc [1, 2] [1, 6, 9, 10, 12, 13] (r := (.v zH (.v zL (.v zW .e)))) (h := ?_)) | (refine zZ.iR 2 ?_; refine zZ.rc [1, 2, 3] [1, 6, 9, 10, 12, 13] (r := (.v zH (.v zL (.v zW .e)))) (h := ?_)) | (refine zZ.iR 3 ?_; refine zZ.rc [1, 2, 3, 4] [1, 6, 9, 10, 12, 13] (r := (.v zH (.v zL (.v zW .e)))) (h := ?_)) | (refine zZ.iR 4 ?_; refine zZ.rc [1, 2, 3, 4, 5] [1, 6, 9, 10, 12, 13] (r := (.v zH (.v xC (.m zT (.w zO .e))))) (h := ?_)) | (refine zZ.iR 5 ?_; refine zZ.rc [1, 2, 3, 4, 5, 6] [1, 6, 9, 10, 12, 13] (r := (.v zH (.v zL (.v zW .e)))) (h := ?_)) | (refine zZ.iR 6 ?_; refine zZ.rc [2, 3, 4, 5, 6, 7] [1, 6, 9, 10, 12, 13] (r := .e) (h := ?_)) | (refine zZ.iR 7 ?_; refine zZ.rc [2, 3, 4, 5, 6, 7, 8] [1, 6, 9, 10, 12, 13] (r := (.v zX (.v zX .e))) (h := ?_)) | (refine zZ.iR 8 ?_; refine zZ.rc [2, 3, 4, 5, 6, 7, 8] [1, 6, 9, 10, 12, 13] (r := (.v zX (.v zW .e))) (h := ?_)) | refine zZ.yB rfl bA ?_ | refine zZ.ret ?_) | refine zK.r ?_)
      all_goals exact ⟨by first | exact .inl rfl | exact .inr rfl, _, Sub.refl _, .p rfl (.tmp rfl)⟩
    · have f1 : decide (me < 0) = false := decide_eq_false (by omega)
      rcases Int.lt_or_le me t with hmt | hmt
      · have f2 : decide (t ≤ me) = false := decide_eq_false (by omega)
        rcases Nat.lt_or_ge 120 L.length with hl | hl
        · have f3 : decide ((120 : Int) < ((L.map kM).length : Int)) = true := decide_eq_true (by rw [List.length_map]; omega)
          repeat' (first | (refine zY.is ?_; first | refine zY.nil ?_ | (refine zY.at_ 29 rfl ?_; refine zY.rc (.v vS (.v zX (.gY zX (.gY yU (.v yP (.v zX (.gY zX (.gY zX (.gY v46_0 (.v yP (.v zX (.gY zX (.gY v57_1 (.gY v45_0 (.v yP .e))))))))))))))) ?_) | (refine zY.at_ 8 rfl ?_; refine zY.rc (.v zW .e) ?_) | (refine zY.in_ [25] rfl ?_; refine zY.v rfl rfl (zG (c0) rfl rfl rfl (by decide)) ?_) | (refine zY.in_ [28] rfl ?_; refine zY.v rfl rfl (zG (c1) rfl rfl rfl (by decide)) ?_)) | (refine zZ.is ?_; first | refine zZ.seq ?_ | (refine zZ.iR 0 ?_; refine zZ.rc [0] [1, 6, 9, 10, 12, 13] (r := (.m yI (.v zW .e))) (h := ?_)) | (refine zZ.iR 1 ?_; refine zZ.rc [1, 2] [1, 6, 9, 10, 12, 13] (r := (.v zH (.v zL (.v zW .e)))) (h := ?_)) | (refine zZ.iR 2 ?_; refine zZ.rc [1, 2, 3] [1, 6, 9, 10, 12, 13] (r := (.v zH (.v zL (.v zW .e)))) (h := ?_)) | (refine zZ.iR 3 ?_; refine zZ.rc [1, 2, 3, 4] [1, 6, 9, 10, 12, 13] (r := (.v zH (.v zL (.v zW .e)))) (h := ?_)) | (refine zZ.iR 4 ?_; refine zZ.rc [1, 2, 3, 4, 5] [1, 6, 9, 10, 12, 13] (r := (.v zH (.v xC (.m zT (.w zO .e))))) (h := ?_)) | (refine zZ.iR 5 ?_; refine zZ.rc [1, 2, 3, 4, 5, 6] [1, 6, 9, 10, 12, 13] (r := (.v zH (.v zL (.v zW .e)))) (h := ?_)) | (refine zZ.iR 6 ?_; refine zZ.rc [2, 3, 4, 5, 6, 7] [1, 6, 9, 10, 12, 13] (r := .e) (h := ?_)) | (refine zZ.iR 7 ?_; refine zZ.rc [2, 3, 4, 5, 6, 7, 8] [1, 6, 9, 10, 12, 13] (r := (.v zX (.v zX .e))) (h := ?_)) | (refine zZ.iR 8 ?_; refine zZ.rc [2, 3, 4, 5, 6, 7, 8] [1, 6, 9, 10, 12, 13] (r := (.v zX (.v zW .e))) (h := ?_)) | refine zZ.yB rfl bA ?_ | refine zZ.ret ?_) | refine zK.r ?_)
          all_goals exact ⟨by first | exact .inl rfl | exact .inr rfl, _, Sub.refl _, .p rfl (.tmp rfl)⟩
        · have f3 : decide ((120 : Int) < ((L.map kM).length : Int)) = false := decide_eq_false (by rw [List.length_map]; omega)
          obtain ⟨K, C, A, B, D, E, I, N, X, F, c3, c4⟩ := both_tellV t c me k u v w L ⟨by omega, hL⟩ (by unfold Small; omega) (by omega) (by unfold Small; omega)
          have c5 := asks_fn K C A B D
          have c6 := outs_fn E I N X
          have g1 : (F == F) = true := by simp
          repeat' (first | (refine zY.is ?_; first | refine zY.nil ?_ | (refine zY.at_ 29 rfl ?_; refine zY.rc (.v vS (.v zX (.gY zX (.gY yU (.v yP (.v zX (.gY zX (.gY zX (.gY v46_0 (.v yP (.v zX (.gY zX (.gY v57_1 (.gY v45_0 (.v yP .e))))))))))))))) ?_) | (refine zY.at_ 45 rfl ?_; refine zY.rc (.v wW (.v yZ (.v yZ (.v yZ (.m zT (.m zT (.w zO (.w zO (.v zW .e))))))))) ?_) | (refine zY.at_ 55 rfl ?_; refine zY.rc (.v wW (.v yZ (.v yZ (.v yZ (.m zT (.m zT (.w zO (.w zO (.v zW .e))))))))) ?_) | (refine zY.at_ 69 rfl ?_; refine zY.rc (.v yH (.v zX (.gY xC (.gY xC .e)))) ?_) | (refine zY.at_ 74 rfl ?_; refine zY.rc (.v yH (.v zX (.gY zX (.gY zX (.gY v41_9 (.v yH (.v zW .e))))))) ?_) | (refine zY.at_ 8 rfl ?_; refine zY.rc (.v zW .e) ?_) | (refine zY.in_ [25] rfl ?_; refine zY.v rfl rfl (zG (c0) rfl rfl rfl (by decide)) ?_) | (refine zY.in_ [28] rfl ?_; refine zY.v rfl rfl (zG (c1) rfl rfl rfl (by decide)) ?_) | (refine zY.in_ [51] rfl ?_; refine zY.v rfl rfl (yR (c3) rfl rfl rfl (by decide)) ?_) | (refine zY.in_ [60] rfl ?_; refine zY.v rfl rfl (yR (c4) rfl rfl rfl (by decide)) ?_) | (refine zY.in_ [68] rfl ?_; refine zY.gY rfl rfl (by decide) rfl bA rfl (by decide) (zG (c5) rfl rfl rfl (by decide)) ?_) | (refine zY.in_ [73] rfl ?_; refine zY.gY rfl rfl (by decide) rfl bA rfl (by decide) (zG (c6) rfl rfl rfl (by decide)) ?_)) | (refine zZ.is ?_; first | refine zZ.seq ?_ | (refine zZ.iR 0 ?_; refine zZ.rc [0] [1, 6, 9, 10, 12, 13] (r := (.m yI (.v zW .e))) (h := ?_)) | (refine zZ.iR 1 ?_; refine zZ.rc [1, 2] [1, 6, 9, 10, 12, 13] (r := (.v zH (.v zL (.v zW .e)))) (h := ?_)) | (refine zZ.iR 2 ?_; refine zZ.rc [1, 2, 3] [1, 6, 9, 10, 12, 13] (r := (.v zH (.v zL (.v zW .e)))) (h := ?_)) | (refine zZ.iR 3 ?_; refine zZ.rc [1, 2, 3, 4] [1, 6, 9, 10, 12, 13] (r := (.v zH (.v zL (.v zW .e)))) (h := ?_)) | (refine zZ.iR 4 ?_; refine zZ.rc [1, 2, 3, 4, 5] [1, 6, 9, 10, 12, 13] (r := (.v zH (.v xC (.m zT (.w zO .e))))) (h := ?_)) | (refine zZ.iR 5 ?_; refine zZ.rc [1, 2, 3, 4, 5, 6] [1, 6, 9, 10, 12, 13] (r := (.v zH (.v zL (.v zW .e)))) (h := ?_)) | (refine zZ.iR 6 ?_; refine zZ.rc [2, 3, 4, 5, 6, 7] [1, 6, 9, 10, 12, 13] (r := .e) (h := ?_)) | (refine zZ.iR 7 ?_; refine zZ.rc [2, 3, 4, 5, 6, 7, 8] [1, 6, 9, 10, 12, 13] (r := (.v zX (.v zX .e))) (h := ?_)) | (refine zZ.iR 9 ?_; refine zZ.rc [2, 3, 4, 5, 6, 7, 8] [1, 6, 9, 10, 12, 13] (r := (.v zX (.v zX (.v zX (.v xC (.v zX .e)))))) (h := ?_)) | (refine zZ.iR 10 ?_; refine zZ.rc [2, 3, 5, 6, 7, 8, 9, 10, 11] [1, 6, 9, 10, 12, 13] (r := (.v zX (.v zX (.v xC (.v zX .e))))) (h := ?_)) | (refine zZ.iR 11 ?_; refine zZ.rc [2, 8, 9, 10, 11, 12, 13, 14] [1, 6, 9, 10, 12, 13] (r := (.v zX (.v zX (.gY xC (.gY xC .e))))) (h := ?_)) | refine zZ.yA rfl bA ?_ | refine zZ.skip ?_ | refine zZ.ret ?_))
          all_goals exact ⟨by first | exact .inl rfl | exact .inr rfl, _, Sub.refl _, .p rfl (.tmp (by rfl))⟩
      · have f2 : decide (t ≤ me) = true := decide_eq_true (by omega)
        repeat' (first | (refine zY.is ?_; first | refine zY.nil ?_ | (refine zY.at_ 29 rfl ?_; refine zY.rc (.v vS (.v zX (.gY zX (.gY yU (.v yP (.v zX (.gY zX (.gY zX (.gY v46_0 (.v yP (.v zX (.gF (.gF (.gF (.v yH .e))))))))))))))) ?_) | (refine zY.at_ 8 rfl ?_; refine zY.rc (.v zW .e) ?_) | (refine zY.in_ [25] rfl ?_; refine zY.v rfl rfl (zG (c0) rfl rfl rfl (by decide)) ?_) | (refine zY.in_ [28] rfl ?_; refine zY.v rfl rfl (zG (c1) rfl rfl rfl (by decide)) ?_)) | (refine zZ.is ?_; first | refine zZ.seq ?_ | (refine zZ.iR 0 ?_; refine zZ.rc [0] [1, 6, 9, 10, 12, 13] (r := (.m yI (.v zW .e))) (h := ?_)) | (refine zZ.iR 1 ?_; refine zZ.rc [1, 2] [1, 6, 9, 10, 12, 13] (r := (.v zH (.v zL (.v zW .e)))) (h := ?_)) | (refine zZ.iR 2 ?_; refine zZ.rc [1, 2, 3] [1, 6, 9, 10, 12, 13] (r := (.v zH (.v zL (.v zW .e)))) (h := ?_)) | (refine zZ.iR 3 ?_; refine zZ.rc [1, 2, 3, 4] [1, 6, 9, 10, 12, 13] (r := (.v zH (.v zL (.v zW .e)))) (h := ?_)) | (refine zZ.iR 4 ?_; refine zZ.rc [1, 2, 3, 4, 5] [1, 6, 9, 10, 12, 13] (r := (.v zH (.v xC (.m zT (.w zO .e))))) (h := ?_)) | (refine zZ.iR 5 ?_; refine zZ.rc [1, 2, 3, 4, 5, 6] [1, 6, 9, 10, 12, 13] (r := (.v zH (.v zL (.v zW .e)))) (h := ?_)) | (refine zZ.iR 6 ?_; refine zZ.rc [2, 3, 4, 5, 6, 7] [1, 6, 9, 10, 12, 13] (r := .e) (h := ?_)) | (refine zZ.iR 7 ?_; refine zZ.rc [2, 3, 4, 5, 6, 7, 8] [1, 6, 9, 10, 12, 13] (r := (.v zX (.v zX .e))) (h := ?_)) | (refine zZ.iR 8 ?_; refine zZ.rc [2, 3, 4, 5, 6, 7, 8] [1, 6, 9, 10, 12, 13] (r := (.v zX (.v zW .e))) (h := ?_)) | refine zZ.yB rfl bA ?_ | refine zZ.ret ?_) | refine zK.r ?_)
        all_goals exact ⟨by first | exact .inl rfl | exact .inr rfl, _, Sub.refl _, .p rfl (.tmp rfl)⟩
end
section
open Go Go.RowKit Go.ChangeShapes Go.WideShapes Go.ChangeAt
def NoM : Nat → Nat → Prop := fun _ _ => False
inductive Leaf where
  | int (k : IntKind)
  | bool
  | any
deriving DecidableEq
def leafOK : Leaf → Value → Prop
  | .int k, v => ∃ n, v = .int k n ∧ (Lit.int k n).wf = true
  | .bool, v => ∃ b, v = .bool b
  | .any, v => v.oneCell' = true
def flatB (P : Program) : Nat → TypeId → List Leaf → Bool
  | 0, _, _ => false
  | d + 1, t, ls => match P.underlying t with
    | some (.int k) => decide (ls = [.int k])
    | some .bool => decide (ls = [.bool])
    | some (.slice _) => decide (ls = [.any])
    | some (.struct fs) => (ls.length == P.cellsOf t) && (fs.toList.all fun f => flatB P d f.type ((ls.drop f.offset).take (P.cellsOf f.type)) && (((ls.drop f.offset).take (P.cellsOf f.type)).length == P.cellsOf f.type)) &&
      (List.range ls.length).all fun c => fs.toList.any fun f => decide (f.offset ≤ c) && decide (c < f.offset + P.cellsOf f.type)
    | _ => false
section
variable {H : Type} {enc : TypeId × Value → H} {P : Program} {W : World} {base : Nat} {spare : Nat → Bool} {held : Bool}
theorem flat_trod : ∀ (d : Nat) {t : TypeId} {ls : List Leaf}, flatB P d t ls = true → ∀ {fuel : Nat} {cs : List Value} {x : DataW H × List MemPlace}, DataW.trod enc P W base spare held fuel t cs = some x →
    cs.length = ls.length ∧ ∀ (i : Nat) l v, ls[i]? = some l → cs[i]? = some v → leafOK l v
  | 0, _, _, h, _, _, _, _ => by cases h
  | d + 1, t, ls, h, fuel, cs, x, hx => by
    unfold flatB at h
    cases hu : P.underlying t with
    | none => rw [hu] at h; cases h
    | some ds =>
      rw [hu] at h
      cases ds with
      | int k =>
        obtain rfl : ls = [.int k] := of_decide_eq_true h
        obtain ⟨n, rfl, _, hw⟩ := DataW.trod_int hu hx
        refine ⟨rfl, fun i l v hl hv => ?_⟩
        match i with
        | 0 => simp at hl hv; subst hl hv; exact ⟨n, rfl, hw⟩
        | i + 1 => simp at hl
      | bool =>
        obtain rfl : ls = [.bool] := of_decide_eq_true h
        obtain ⟨b, rfl, _⟩ := DataW.trod_bool hu hx
        refine ⟨rfl, fun i l v hl hv => ?_⟩
        match i with
        | 0 => simp at hl hv; subst hl hv; exact ⟨b, rfl⟩
        | i + 1 => simp at hl
      | slice e =>
        obtain rfl : ls = [.any] := of_decide_eq_true h
        have key : ∀ w : Value, w.oneCell' = true → cs = [w] → cs.length = [Leaf.any].length ∧ ∀ (i : Nat) l v, [Leaf.any][i]? = some l → cs[i]? = some v → leafOK l v := fun w hw e => by
          subst e
          refine ⟨rfl, fun i l v hl hv => ?_⟩
          match i with
          | 0 => simp at hl hv; subst hl hv; exact hw
          | i + 1 => simp at hl
        rcases DataW.trod_slice hu hx with ⟨e, _⟩ | ⟨a, len, cap, _, _, _, _, e, _⟩
        · exact key _ rfl e
        · exact key _ rfl e
      | struct fs =>
        simp only [Bool.and_eq_true, beq_iff_eq, List.all_eq_true, List.mem_range, List.any_eq_true, decide_eq_true_eq] at h
        obtain ⟨⟨hlen, hfs⟩, hcov⟩ := h
        obtain ⟨xs, n, _, _, hcl, hxl, hg⟩ := DataW.trod_struct hu hx
        refine ⟨by omega, fun i l v hl hv => ?_⟩
        have hil : i < ls.length := (List.getElem?_eq_some_iff.1 hl).1
        obtain ⟨f, hf, hf1, hf2⟩ := hcov i hil
        obtain ⟨hfl, hfn⟩ := hfs f hf
        obtain ⟨j, hj, hfj⟩ := List.getElem_of_mem hf
        have hfj2 : fs[j]? = some f := by
          rw [← hfj, Array.getElem_toList]
          exact Array.getElem?_eq_getElem _
        have h2 := hg j f hfj2
        have hjx : j < xs.length := by rw [hxl]; simpa using hj
        rw [List.getElem?_eq_getElem hjx] at h2
        obtain ⟨_, h3⟩ := flat_trod d hfl h2
        refine h3 (i - f.offset) l v ?_ ?_
        · rw [List.getElem?_take_of_lt (by omega), List.getElem?_drop, show f.offset + (i - f.offset) = i by omega]
          exact hl
        · rw [List.getElem?_take_of_lt (by omega), List.getElem?_drop, show f.offset + (i - f.offset) = i by omega]
          exact hv
      | _ => cases h
theorem has_block {r : Reach} {a : Addr} {e : TypeId} {n : Nat} (h : W.has P r base a e n) : a.spot = none ∧ a.block < W.heap.size := by
  obtain ⟨_, h1, row, cells, h2, _⟩ := h
  refine ⟨h1, ?_⟩
  unfold World.shape? at h2
  cases hb : W.heap[a.block]? with
  | none => rw [hb] at h2; cases h2
  | some o => exact (Array.getElem?_eq_some_iff.1 hb).1
theorem cell_slice {t e : TypeId} {a : Addr} {len cap : Nat} (ht : P.underlying t = some (.slice e)) (h : Cell.okWide P W .any base t (.slice (some a) len cap)) : a.spot = none ∧ a.block < W.heap.size ∧ len ≤ cap := by
  simp only [Cell.okWide, ht, Cell.ok] at h
  exact ⟨(has_block h.2.2).1, (has_block h.2.2).2, h.1⟩
theorem wide_cell {t u : TypeId} {fs : Array Field} {cs : Array Value} {ts : List TypeId} {i : Nat} {v : Value} (ht : P.underlying t = some (.struct fs)) (h : Value.okWide P W .any base t (.agg cs)) (hts : P.cellTypes P.depth t = some ts) (hi : ts[i]? = some u) (hv : cs[i]? = some v) : Cell.okWide P W .any base u v := by
  simp only [Value.okWide, ht] at h
  obtain ⟨cs', e, _, ts', h1, _, h2⟩ := h
  injection e with e
  subst e
  obtain rfl : ts = ts' := Option.some.inj (hts.symm.trans h1)
  obtain ⟨u', hu', hc⟩ := h2 i v hv
  have hlt : i < ts.length := (List.getElem?_eq_some_iff.1 hi).1
  rw [Nat.mod_eq_of_lt hlt, hi] at hu'
  obtain rfl := Option.some.inj hu'
  exact hc
theorem leaf_one {l : Leaf} {v : Value} (h : leafOK l v) : v.oneCell' = true := by
  cases l with
  | int k => obtain ⟨n, rfl, _⟩ := h; rfl
  | bool => obtain ⟨b, rfl⟩ := h; rfl
  | any => exact h
theorem flatten_len {n : Nat} : ∀ {rs : List (List Value)}, (∀ r ∈ rs, r.length = n) → rs.flatten.length = rs.length * n
  | [], _ => by simp
  | r :: rs, h => by
    rw [List.flatten_cons, List.length_append, h r (by simp), flatten_len fun x hx => h x (by simp [hx]), List.length_cons, Nat.add_mul]
    omega
theorem flatten_get {n : Nat} : ∀ {rs : List (List Value)}, (∀ r ∈ rs, r.length = n) → ∀ (i c : Nat), c < n → rs.flatten[i * n + c]? = (rs[i]?).bind (·[c]?)
  | [], _, i, c, _ => by simp
  | r :: rs, h, 0, c, hc => by
    rw [List.flatten_cons, Nat.zero_mul, Nat.zero_add, List.getElem?_append_left (by rw [h r (by simp)]; exact hc)]
    rfl
  | r :: rs, h, i + 1, c, hc => by
    have hr := h r (by simp)
    rw [List.flatten_cons, List.getElem?_append_right (by rw [hr, Nat.add_mul]; omega), hr]
    have e : (i + 1) * n + c - n = i * n + c := by rw [Nat.add_mul]; omega
    rw [e, flatten_get (fun x hx => h x (by simp [hx])) i c hc]
    rfl
theorem arg_rows {t e : TypeId} {ls : List Leaf} {dep : Nat} {v : Value} {fuel : Nat} {x : DataW H × List MemPlace} (ht : P.underlying t = some (.slice e)) (hfl : flatB P dep e ls = true) (hn : P.cellsOf e = ls.length)
    (hok : ∀ a len cap, v = .slice (some a) len cap → a.spot = none ∧ a.block < W.heap.size) (h : DataW.trod enc P W base (fun _ => true) held fuel t [v] = some x) :
    ∃ rows : List (List Value), (∀ r ∈ rows, r.length = ls.length ∧ ∀ (i : Nat) l u, ls[i]? = some l → r[i]? = some u → leafOK l u) ∧ rows.length ≤ maxLen ∧
      ∀ es : List PV, es.map PV.cells = rows.map (fun r => r.map PV.val) → Rep NoM W (.sl es) v := by
  rcases DataW.trod_slice ht h with ⟨hv, _⟩ | ⟨a, len, cap, elems, rest, n, _, hv, _, hb, hlc, hm, hlen, hel, _⟩
  · simp only [List.cons.injEq, and_true] at hv
    subst hv
    refine ⟨[], fun r hr => by simp at hr, Nat.zero_le _, fun es he => ?_⟩
    have : es = [] := by simpa using he
    subst this
    exact .nil
  · simp only [List.cons.injEq, and_true] at hv
    subst hv
    obtain ⟨hs, hbk⟩ := hok a len cap rfl
    obtain ⟨g, off, spot⟩ := a
    simp only at hs hbk
    subst hs
    have row : ∀ i, i < len → ∃ r : List Value, W.cells? base (Addr.add ⟨g, off, none⟩ (i * P.cellsOf e)) (P.cellsOf e) = some r ∧ r.length = ls.length ∧ ∀ (j : Nat) l u, ls[j]? = some l → r[j]? = some u → leafOK l u := by
      intro i hi
      have h1 := hel i hi
      rw [List.getElem?_eq_getElem (by omega : i < elems.length)] at h1
      obtain ⟨r, hr, h2⟩ := Option.bind_eq_some_iff.1 h1
      obtain ⟨h3, h4⟩ := flat_trod dep hfl h2
      exact ⟨r, hr, h3, h4⟩
    have rows : ∀ m, m ≤ len → ∃ rs : List (List Value), rs.length = m ∧ ∀ (i : Nat) r, rs[i]? = some r → W.cells? base (Addr.add ⟨g, off, none⟩ (i * P.cellsOf e)) (P.cellsOf e) = some r ∧ r.length = ls.length ∧ ∀ (j : Nat) l u, ls[j]? = some l → r[j]? = some u → leafOK l u := by
      intro m
      induction m with
      | zero => exact fun _ => ⟨[], rfl, fun i r h => by simp at h⟩
      | succ m ih =>
        intro hm2
        obtain ⟨rs, h1, h2⟩ := ih (by omega)
        obtain ⟨r, hr⟩ := row m (by omega)
        refine ⟨rs ++ [r], by simp [h1], fun i r' hi => ?_⟩
        rcases Nat.lt_or_ge i rs.length with h3 | h3
        · rw [List.getElem?_append_left h3] at hi
          exact h2 i r' hi
        · rw [List.getElem?_append_right h3] at hi
          have e0 : i - rs.length = 0 := by
            rcases Nat.eq_zero_or_pos (i - rs.length) with h | h
            · exact h
            · rw [List.getElem?_eq_none (by simp; omega)] at hi; cases hi
          rw [e0] at hi
          simp at hi
          subst hi
          rw [show i = m by omega]
          exact hr
    obtain ⟨rs, hrl, hrs⟩ := rows len (Nat.le_refl _)
    refine ⟨rs, fun r hr => ?_, by omega, fun es he => ?_⟩
    · obtain ⟨i, hi, rfl⟩ := List.getElem_of_mem hr
      exact (hrs i _ (List.getElem?_eq_getElem hi)).2
    · have hn0 : P.cellsOf e = ls.length := hn
      have hesl : es.length = rs.length := by simpa using congrArg List.length he
      have hflat : flat es = rs.flatten.map PV.val := by
        show es.flatMap PV.cells = _
        rw [List.flatMap_def, he, List.map_flatten]
      have hrn : ∀ r ∈ rs, r.length = ls.length := fun r hr => by
        obtain ⟨i, hi, rfl⟩ := List.getElem_of_mem hr
        exact (hrs i _ (List.getElem?_eq_getElem hi)).2.1
      have hyl : rs.flatten.length = rs.length * ls.length := flatten_len hrn
      have at_ : ∀ (j : Nat) y, rs.flatten[j]? = some y → ∃ i c r, j = i * ls.length + c ∧ rs[i]? = some r ∧ r[c]? = some y := fun j y hy => by
        have hj : j < rs.length * ls.length := by rw [← hyl]; exact (List.getElem?_eq_some_iff.1 hy).1
        have hpos : 0 < ls.length := by
          rcases Nat.eq_zero_or_pos ls.length with h | h
          · rw [h] at hj; omega
          · exact h
        have e1 : j = (j / ls.length) * ls.length + j % ls.length := by
          have := Nat.div_add_mod j ls.length
          rw [Nat.mul_comm] at this
          omega
        have hi : j / ls.length < rs.length := (Nat.div_lt_iff_lt_mul hpos).2 hj
        have hc : j % ls.length < ls.length := Nat.mod_lt _ hpos
        have h1 := flatten_get hrn (j / ls.length) (j % ls.length) hc
        rw [← e1, hy, List.getElem?_eq_getElem hi] at h1
        exact ⟨_, _, _, e1, List.getElem?_eq_getElem hi, h1.symm⟩
      refine .sl es g off len cap rs.flatten (by omega) (by rw [hflat, List.length_map]) (fun j y hy => ?_) (fun j c y hc hy => ?_) (fun y hy => ?_) (fun _ _ h => h) hbk hlc hm
      · obtain ⟨i, c, r, rfl, hr, hc⟩ := at_ j y hy
        have h1 := World.cells?_some (hrs i r hr).1
        have hcl : c < P.cellsOf e := by
          rw [hn0, ← (hrs i r hr).2.1]
          exact (List.getElem?_eq_some_iff.1 hc).1
        have h2 := h1.2.2 c hcl
        rw [hc, add_lit, add_lit, hn0, Nat.add_assoc] at h2
        exact h2
      · rw [hflat, List.getElem?_map, hy] at hc
        simp only [Option.map_some, Option.some.injEq] at hc
        subst hc
        exact .val _
      · obtain ⟨j, hj, rfl⟩ := List.getElem_of_mem hy
        obtain ⟨i, c, r, _, hr, hc⟩ := at_ j _ (List.getElem?_eq_getElem hj)
        have hcl : c < ls.length := by
          rw [← (hrs i r hr).2.1]
          exact (List.getElem?_eq_some_iff.1 hc).1
        exact leaf_one ((hrs i r hr).2.2 c _ _ (List.getElem?_eq_getElem hcl) hc)
end
end
section
open Go Go.RowKit Go.ChangeShapes Go.WideShapes Go.ChangeAt
theorem ownT : ownKnob Tryz.prog.godebug = none := by kernel_rfl
theorem laidOutT : laidOutB Tryz.prog = true := by kernel_rfl
section
variable {P : Program} {W : World}
theorem wf_u64 {n : Int} (h : (Lit.int .u64 n).wf = true) : 0 ≤ n ∧ n < 18446744073709551616 := by
  have := bounds_u64 h
  omega
theorem Fn.law {f : FuncId} {args : List PV} (h : Fn P f args (.p (.val (.bool true)))) (hlay : Lays W) {vs : List Value} (hl : vs.length = args.length) (hr : ∀ (i : Nat) x v, args[i]? = some x → vs[i]? = some v → Rep NoM W x v) :
    Calls P f vs.toArray W fun e W' => e = .returned (.bool true) ∧ Below W.heap.size W W' :=
  (h NoM W vs ⟨hlay, fun _ _ _ h => h⟩ (fun _ _ h => h.elim) hl hr).mono fun e W' ⟨v, he, hv, hb⟩ => by
    cases hv
    exact ⟨he, hb⟩
theorem reps1 {M : Nat → Nat → Prop} {x0 : PV} {v0 : Value} (h0 : Rep M W x0 v0) : ∀ (i : Nat) x v, [x0][i]? = some x → [v0][i]? = some v → Rep M W x v := by
  intro i x v hx hv
  match i with
  | 0 => simp at hx hv; subst hx; subst hv; exact h0
  | i + 1 => simp at hx
end
theorem gTbl : Tryz.prog.globalNamed "weald/crc.halves" = some 0 := by kernel_rfl
theorem tTbl : (Tryz.prog.globals[0]?).map (·.type) = some 262 := by kernel_rfl
def laidL : List (String × DataW Unit) := [("weald/crc.halves", Rows.laid_weald_crc_halves)]
theorem lays_of_laid {W : World} (h : laidMetH Tryz.prog laidL W) : Lays W := by
  rw [MakeChecks.laidMetH_plain _ _ _ (by kernel_rfl)] at h
  obtain ⟨ps, ⟨g0, t0, cs0, f0, p0, q0, hg0, ht0, hv0, hd0, _, _⟩, _⟩ := h
  obtain rfl := Option.some.inj (gTbl.symm.trans hg0)
  obtain rfl := Option.some.inj (tTbl.symm.trans ht0)
  have hcell := World.var?_cell hg0 hv0
  obtain ⟨xs, m1, _, hx1, hlen, hn, hel⟩ := DataW.trod_array Tryz.underlying262 hd0
  have c1 : Tryz.prog.cellsOf 251 = 1 := by kernel_rfl
  have c16 : Tryz.prog.cellsOf 262 = 16 := by kernel_rfl
  rw [c16] at hlen
  have hdat : Rows.laid_weald_crc_halves (H := Unit) = .agg (tbl0.map fun p => .lit (.int p.1 p.2)) := by kernel_rfl
  simp only [Prod.mk.injEq] at hx1
  have hxs : xs.map (·.1) = tbl0.map fun p => .lit (.int p.1 p.2) := by
    have := hx1.1
    rw [hdat] at this
    simpa using this.symm
  have hk : ∀ p ∈ tbl0, p.1 = .u32 := by decide +kernel
  intro g ys hg
  have hgy : g = 0 ∧ ys = tbl0 := by
    unfold seatTbl at hg
    split at hg
    · next h => exact ⟨h, (Option.some.inj hg).symm⟩
    · cases hg
  obtain ⟨rfl, rfl⟩ := hgy
  have at_ : ∀ (j : Nat) p, tbl0[j]? = some p → W.cell? ⟨0, j, none⟩ = some (.int p.1 p.2) := by
    intro j p hp
    have hj : j < 16 := (List.getElem?_eq_some_iff.1 hp).1
    have h1 := hel j hj
    have hxj : xs[j]? = some xs[j] := List.getElem?_eq_getElem (by omega)
    rw [hxj, c1, Nat.mul_one] at h1
    obtain ⟨k, e1, e2, _⟩ := DataW.trod_int Tryz.underlying251 h1
    have h3 : (xs.map (·.1))[j]? = some (.lit (.int .u32 k)) := by rw [List.getElem?_map, hxj, e2]; rfl
    rw [hxs, List.getElem?_map, hp] at h3
    simp only [Option.map_some, Option.some.injEq, DataW.lit.injEq, Lit.int.injEq] at h3
    obtain ⟨h4, h5⟩ := h3
    have h6 : cs0[j]? = some (.int .u32 k) := by
      have : (cs0.toList.drop j).take 1 = [cs0.toList[j]'(by rw [hlen]; exact hj)] := by
        rw [List.drop_eq_getElem_cons (by rw [hlen]; exact hj)]
        rfl
      rw [this] at e1
      simp only [List.cons.injEq, and_true] at e1
      rw [← e1]
      simp [Array.getElem?_eq_getElem (show j < cs0.size by simpa using (by rw [hlen]; exact hj : j < cs0.toList.length))]
    rw [hcell j, h6, h4, h5]
  refine ⟨?_, at_⟩
  have h0 := at_ 0 _ rfl
  unfold World.cell? at h0
  cases hh : W.heap[0]? with
  | none => rw [hh] at h0; cases h0
  | some o => exact (Array.getElem?_eq_some_iff.1 hh).1
theorem door_met (os : Os) (args : Array Value) : laidMetH Tryz.prog laidL ((World.doorLaid Tryz.prog 400 os).forCall (fun _ _ => 0) ⟨#[], args, []⟩).memory :=
  laidMetH_of_parts3 (fuel := 8) (laidMet_of_run' 8 (by kernel_rfl) (by kernel_rfl)) (by kernel_rfl) (by kernel_rfl)
end
section
open Go Go.RowKit Go.ChangeShapes Go.WideShapes Go.ChangeAt
def resOf (r : List Value) : yQ := match r with
  | [.int _ n, d, .bool b] => ⟨n, .val d, b⟩
  | _ => ⟨0, xZ, false⟩
theorem resOf_cells {r : List Value} (hl : r.length = 3) (h : ∀ (i : Nat) l u, [Leaf.int .u64, .any, .bool][i]? = some l → r[i]? = some u → leafOK l u) : (kM (resOf r)).cells = r.map PV.val ∧ 0 ≤ (resOf r).n ∧ (resOf r).n < 18446744073709551616 := by
  match r, hl with
  | [a, b, c], _ =>
    obtain ⟨n, rfl, hn⟩ := h 0 _ a rfl rfl
    obtain ⟨f, rfl⟩ := h 2 _ c rfl rfl
    exact ⟨rfl, wf_u64 hn⟩
theorem arg_vertIn {H : Type} {enc : TypeId × Value → H} {W : World} {base : Nat} {v : Value} {d : DataW H} {p : List MemPlace} (hv : Value.okWide Tryz.prog W .any base 45 v) (h : DataW.Trod enc Tryz.prog W 0 (fun _ => true) true 45 v d p) :
    ∃ t c me k u v' w L, Rep NoM W (inV t c me k u v' w L) v ∧ U w ∧ ∀ r ∈ L, 0 ≤ r.n ∧ r.n < 18446744073709551616 := by
  obtain ⟨cs, rfl, hsz⟩ := okWide_struct Tryz.underlying45 hv
  obtain ⟨cl⟩ := cs
  obtain ⟨fuel, hf⟩ := h
  have hf : DataW.trod enc Tryz.prog W 0 (fun _ => true) true fuel 45 cl = some (d, p) := hf
  obtain ⟨hlen, hlf⟩ := flat_trod (ls := [.int .i64, .int .i64, .int .i64, .int .i64, .int .i64, .int .i64, .int .u64, .any]) 8 (by kernel_rfl) hf
  obtain ⟨xs, n, _, _, _, hxl, hg⟩ := DataW.trod_struct Tryz.underlying45 hf
  match cl, hlen with
  | [a0, a1, a2, a3, a4, a5, a6, a7], _ =>
    obtain ⟨n0, rfl, h0⟩ := hlf 0 _ a0 rfl rfl
    obtain ⟨n1, rfl, h1⟩ := hlf 1 _ a1 rfl rfl
    obtain ⟨n2, rfl, h2⟩ := hlf 2 _ a2 rfl rfl
    obtain ⟨n3, rfl, h3⟩ := hlf 3 _ a3 rfl rfl
    obtain ⟨n4, rfl, h4⟩ := hlf 4 _ a4 rfl rfl
    obtain ⟨n5, rfl, h5⟩ := hlf 5 _ a5 rfl rfl
    obtain ⟨n6, rfl, h6⟩ := hlf 6 _ a6 rfl rfl
    have h7 := hlf 7 _ a7 rfl rfl
    have hlog := hg 4 _ rfl
    have hx4 : ∃ y, xs[4]? = some y := ⟨xs[4]'(by rw [hxl]; decide), List.getElem?_eq_getElem _⟩
    obtain ⟨y, hy⟩ := hx4
    rw [hy] at hlog
    have hcell := wide_cell (i := 7) (ts := [3, 3, 3, 3, 3, 3, 22, 25]) (u := 25) (v := a7) Tryz.underlying45 hv (by kernel_rfl) (by kernel_rfl) rfl
    obtain ⟨rows, hr1, hr2, hr3⟩ := arg_rows (ls := [.int .u64, .any, .bool]) (dep := 8) (v := a7) (x := y) Tryz.underlying25 (by kernel_rfl) (by kernel_rfl) (fun a len cap e => by
      subst e
      have := cell_slice Tryz.underlying25 hcell
      exact ⟨this.1, this.2.1⟩) hlog
    refine ⟨n0, n1, n2, n3, n4, n5, n6, rows.map resOf, ?_, wf_u64 h6, fun r hr => ?_⟩
    · have hL : Rep NoM W (logV (rows.map resOf)) a7 := hr3 _ (by
        rw [List.map_map, List.map_map]
        exact List.map_congr_left fun r hr => (resOf_cells (hr1 r hr).1 (hr1 r hr).2).1)
      refine .agg _ [.int .i64 n0, .int .i64 n1, .int .i64 n2, .int .i64 n3, .int .i64 n4, .int .i64 n5, .int .u64 n6, a7] rfl (fun i c u hc hu => ?_) (fun u hu => ?_)
      · match i with
        | 0 => simp at hc hu; subst hc hu; exact .val _
        | 1 => simp at hc hu; subst hc hu; exact .val _
        | 2 => simp at hc hu; subst hc hu; exact .val _
        | 3 => simp at hc hu; subst hc hu; exact .val _
        | 4 => simp at hc hu; subst hc hu; exact .val _
        | 5 => simp at hc hu; subst hc hu; exact .val _
        | 6 => simp at hc hu; subst hc hu; exact .val _
        | 7 => simp at hc hu; subst hc hu; exact hL
        | i + 8 => simp at hc
      · simp only [List.mem_cons, List.not_mem_nil, or_false] at hu
        rcases hu with rfl | rfl | rfl | rfl | rfl | rfl | rfl | rfl
        · rfl
        · rfl
        · rfl
        · rfl
        · rfl
        · rfl
        · rfl
        · exact h7
    · obtain ⟨r', hr', rfl⟩ := List.mem_map.1 hr
      exact (resOf_cells (hr1 r' hr').1 (hr1 r' hr').2).2
theorem vertNext_lifted (os : Os) (started : os.Started) (H : Type) (enc : TypeId × Value → H) :
    ReturnsInHanded {} Tryz.checked os 4 .any (fun w args => (Rows.vertNextSpec.pre enc Tryz.prog Tryz.f4 [] false w args ∧ laidMetH Tryz.prog laidL w) ∧ sizedMet enc Tryz.prog Tryz.f4 (OpenSpec.ofChange Rows.vertNextSpec) false w args)
      (Rows.vertNextSpec.post enc Tryz.prog Tryz.f4 false true false false) := by
  refine returnsInHanded_of_change_and (C := Tryz.checked) (X := fun w _ => laidMetH Tryz.prog laidL w) (fun _ _ _ hh h => h.of_heap hh) ownT started (by kernel_rfl) Tryz.func4
    (ChangeSpec.witness_shaped (enc := enc) (C := Tryz.checked) (os := os) (X := fun w _ => laidMetH Tryz.prog laidL w) false (World.doorLaid Tryz.prog 400 os) #[.agg #[.int .i64 0, .int .i64 0, .int .i64 0, .int .i64 0, .int .i64 0, .int .i64 0, .int .u64 0, .slice none 0 0]] 8 rfl (World.shaped_of_RefB (by kernel_rfl) (by kernel_rfl)) (by kernel_rfl) (by kernel_rfl) (by kernel_rfl) (door_met os _)) ?_
  intro W base args ds gs before hval0 hW hcnd _ hL _
  have hval : ∀ (j : Nat) t v, Tryz.f4.params[j]? = some t → args[j]? = some v → Value.okWide Tryz.prog W .any base t v := hval0
  have hW' := hW
  obtain ⟨p, q, hA0, hV, rfl, hfz, hnd⟩ := hW
  have hA : DataW.TrodAll enc Tryz.prog W 0 (fun _ => true) true Tryz.f4.params.toList args.toList ds p := hA0
  rw [Tryz.params4] at hA hval
  obtain ⟨v0, vs0, d0, ds0, p0, q0, hargs, rfl, rfl, h0, r0⟩ := trodAll_cons hA
  obtain ⟨rfl, rfl, rfl⟩ := trodAll_nil r0
  obtain rfl : args = #[v0] := by cases args; simp_all
  obtain ⟨rfl, rfl⟩ := trodVars_none hV
  have lt0 : ∀ x ∈ p0, x.block < W.heap.size := by obtain ⟨m, hm⟩ := h0; exact DataW.trod_lt m _ _ _ hm
  obtain ⟨t, c, me, k, u, v, w, L, e0, hw, hLr⟩ := arg_vertIn (hval 0 45 v0 rfl rfl) h0
  clear hA0 hval0
  refine ((vertNextLaw_fn t c me k u v w L hw hLr).law (lays_of_laid hL) (vs := [v0]) rfl (reps1 e0)).mono fun e W' ⟨he, bel⟩ => ?_
  subst he
  exact ⟨_, rfl, _, _, _, [], _, [], hW', trodAll_mk1 (shut_bool Tryz.underlying4 _), (trodAll_cons_mk (Below.trod laidOutT (by kernel_rfl) (of_decide_eq_true (by kernel_rfl)) h0 bel lt0) trodAll_mk0), rfl, bel.frame _, fun h => by cases h⟩
theorem vertNext_holds : Rows.VertNextSaid :=
  OpenClaim.holds_of_wide 4 Tryz.f4 rfl rfl rfl rfl rfl rfl rfl ⟨rfl, rfl, rfl, rfl, rfl⟩ rfl rfl rfl rfl rfl (by kernel_rfl) Tryz.func4 (by kernel_rfl)
    (of_decide_eq_true (by kernel_rfl)) (by unfold Func.isWrapper; first | (rw [if_pos (by decide +kernel)]; kernel_rfl) | (rw [if_neg (by decide +kernel)]; exact ⟨rfl, rfl⟩))
    (fun os started H enc _ => vertNext_lifted os started H enc)
theorem vertNextCard_holds : Rows.VertNextCardSaid :=
  Claim7.holds_tied_plain_at .later [] [.data] true _ true
    vertNext_holds (fun _ h => by cases h) (by kernel_rfl) (fun _ h => by cases h) vertNext_row_tie rfl ⟨rfl, rfl⟩ (by kernel_rfl) rfl
    (fun f fn hf hfn => by
      obtain rfl : f = 4 := Option.some.inj ((show Tryz.prog.funcNamed "weald/wealdlaw16.VertNext" = some 4 by kernel_rfl).symm.trans hf) |>.symm
      obtain rfl : fn = Tryz.f4 := (Option.some.inj (Tryz.func4.symm.trans hfn)).symm
      exact ⟨by kernel_rfl, fun j t ht => by
        rw [Tryz.params4] at ht
        have hm : t ∈ [45] := by simpa using Array.mem_of_getElem? ht
        have hall : ([45].all fun u => !Tryz.prog.wantsStandIn u) = true := by kernel_rfl
        exact (show Tryz.prog.wantsStandIn t = false by simpa using List.all_eq_true.1 hall t hm)⟩)
    (by kernel_rfl)
#print axioms vertNextCard_holds
end
end Go.Proofs.YtohlllohmoojiaaGreatDoor
