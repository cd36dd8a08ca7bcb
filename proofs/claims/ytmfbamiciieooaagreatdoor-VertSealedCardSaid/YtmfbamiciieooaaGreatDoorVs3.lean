/- Of a sealed store each operation of a vertex that may be is answered so, by one access, and turns nothing; one of a key that may not be by none. (Part 3 of 9.) -/
import Derived.Test.YtmfbamiciieooaaGreatDoorVs2
import Derived.Laws.BitsAllLaws
/- The rules of the walk, once, each with what it asks found by itself; and runs of operations. Written by gen_run.py. Generic over the program. -/
namespace Go.Proofs.YtmfbamiciieooaaGreatDoor
set_option maxRecDepth 100000
set_option maxHeartbeats 16000000
open Go Go.RowKit
set_option linter.unusedVariables false
section
variable {P : Program} {n id : Nat} {ops : Array Oper} {l l' os os' : List Oper} {S0 S S' S1 : AS} {o : Oper} {d : Nat} {K : Exit → AS → Prop}
variable {bs : List Nat} {av : AV} {b : Blk}
/-- a rule that is had where a name is told -/
theorem flA {p : Prop} (_ : True) (h : p) : p := h
theorem bA {a b : Bool} (h : a = b := by first | assumption | with_reducible rfl) : a = b := h
theorem v2_1 (h : zX P n o S bs av none := by exact w_load1 rfl rfl rfl rfl (by decide)) : zX P n o S bs av none := h
theorem zN (h : zX P n o S bs av none := by exact yX rfl rfl rfl rfl rfl (by decide)) : zX P n o S bs av none := h
theorem yU (h : zX P n o S bs av none := by exact yM rfl rfl rfl (by rfl) (by rfl) rfl (by decide)) : zX P n o S bs av none := h
theorem v2_7 (h : zX P n o S bs av none := by exact w_loadN rfl rfl (by exact Nat.le_of_ble_eq_true rfl) rfl (by decide)) : zX P n o S bs av none := h
theorem v2_8 (h : zX P n o S bs av none := by exact w_loadO rfl rfl rfl rfl rfl (by decide)) : zX P n o S bs av none := h
theorem v2_12 (h : zX P n o S bs av none := by exact w_loadP rfl rfl rfl rfl rfl (by decide)) : zX P n o S bs av none := h
theorem wB (h : zX P n o S bs av none := by exact yP rfl rfl rfl rfl rfl (by decide)) : zX P n o S bs av none := h
theorem v2_14 (h : zX P n o S bs av none := by exact w_loadVN rfl rfl rfl (by assumption) rfl (by assumption) rfl (by decide)) : zX P n o S bs av none := h
theorem v2_19 (h : zX P n o S bs av none := by exact w_loadAg rfl rfl rfl (by rfl) (by rfl) rfl (by decide)) : zX P n o S bs av none := h
theorem zH (h : zX P n o S bs av none := by exact yN rfl rfl rfl (by decide)) : zX P n o S bs av none := h
theorem v3_1 (h : zX P n o S bs av none := by exact w_fieldPt rfl rfl rfl (by decide)) : zX P n o S bs av none := h
theorem yV (h : zX P n o S bs av none := by exact a_extract rfl rfl rfl rfl (by decide)) : zX P n o S bs av none := h
theorem v9_2 (h : zX P n o S bs av none := by exact w_extractAg rfl rfl rfl rfl (by decide)) : zX P n o S bs av none := h
theorem zV (h : zX P n o S bs av none := by exact yE rfl rfl rfl (by decide)) : zX P n o S bs av none := h
theorem v0_1 (h : zX P n o S bs av none := by exact a_moveO rfl rfl rfl (by decide)) : zX P n o S bs av none := h
theorem v0_2 (h : zX P n o S bs av none := by exact a_moveR rfl rfl rfl (by decide)) : zX P n o S bs av none := h
theorem wQ (h : zX P n o S bs av none := by exact a_moveT rfl rfl rfl (by decide)) : zX P n o S bs av none := h
theorem xJ (h : zX P n o S bs av none := by exact a_moveC rfl rfl rfl (by decide)) : zX P n o S bs av none := h
theorem zK (h : zX P n o S bs av none := by exact yB rfl rfl rfl (by decide)) : zX P n o S bs av none := h
theorem v1_1 (h : zX P n o S bs av none := by exact a_assignO rfl rfl rfl (by decide)) : zX P n o S bs av none := h
theorem v1_2 (h : zX P n o S bs av none := by exact a_assignR rfl rfl rfl (by decide)) : zX P n o S bs av none := h
theorem v1_5 (h : zX P n o S bs av none := by exact a_assignC rfl rfl rfl (by decide)) : zX P n o S bs av none := h
theorem v6_0 (h : zX P n o S bs av none := by exact w_conv rfl rfl (by with_reducible assumption) rfl (by decide)) : zX P n o S bs av none := h
theorem v6_2 (h : zX P n o S bs av none := by exact w_conv rfl rfl (by apply F2 <;> assumption) rfl (by decide)) : zX P n o S bs av none := h
theorem v6_5 (h : zX P n o S bs av none := by exact w_conv rfl rfl (by first | exact wrap_i64 _ (by omega) | exact wrap_u64 _ (by omega) | exact wrap_u8 _ (by omega) | exact wrap_u32 _ (by omega) | exact wrap_i32 _ (by omega) | exact wrap_u16 _ (by omega)) rfl (by decide)) : zX P n o S bs av none := h
theorem v6_6 (h : zX P n o S bs av none := by exact w_conv rfl rfl rfl rfl (by decide)) : zX P n o S bs av none := h
theorem v4_0 (h : zX P n o S bs av none := by exact a_nilR rfl rfl rfl (by decide)) : zX P n o S bs av none := h
theorem v7_4 (h : zX P n o S bs av none := by exact w_indexB rfl rfl rfl (by omega) rfl (by decide)) : zX P n o S bs av none := h
theorem v7_18 (h : zX P n o S bs av none := by exact w_indexS rfl rfl rfl (by with_reducible assumption) (by with_reducible assumption) rfl (by decide)) : zX P n o S bs av none := h
theorem v7_34 (h : zX P n o S bs av none := by exact w_indexG rfl rfl rfl rfl rfl (by first | decide | omega) (by with_reducible assumption) rfl (by decide)) : zX P n o S bs av none := h
theorem v7_38 (h : zX P n o S bs av none := by exact w_indexV rfl rfl rfl rfl (by with_reducible assumption) rfl (by decide)) : zX P n o S bs av none := h
theorem wY (h : zX P n o S bs av none := by exact w_idxArr rfl rfl rfl (by omega) rfl (by decide)) : zX P n o S bs av none := h
theorem v41_0 (h : zX P n o S bs av none := by exact r_eql rfl rfl rfl (by with_reducible assumption) rfl (by decide)) : zX P n o S bs av none := h
theorem v41_4 (h : zX P n o S bs av none := by exact r_eql rfl rfl rfl (bT (by decide)) rfl (by decide)) : zX P n o S bs av none := h
theorem v41_5 (h : zX P n o S bs av none := by exact r_eql rfl rfl rfl (bF (by decide)) rfl (by decide)) : zX P n o S bs av none := h
theorem v41_8 (h : zX P n o S bs av none := by exact r_eql rfl rfl rfl rfl rfl (by decide)) : zX P n o S bs av none := h
theorem v41_35 (h : zX P n o S bs av none := by exact r_eqlT rfl rfl rfl rfl rfl rfl (by rfl) rfl rfl (by decide)) : zX P n o S bs av none := h
theorem v41_41 (h : zX P n o S bs av none := by exact r_eqlNil rfl rfl rfl (by assumption) (bF (by decide)) rfl (by decide)) : zX P n o S bs av none := h
theorem v42_0 (h : zX P n o S bs av none := by exact r_neq rfl rfl rfl (by with_reducible assumption) rfl (by decide)) : zX P n o S bs av none := h
theorem v42_4 (h : zX P n o S bs av none := by exact r_neq rfl rfl rfl (bT (by decide)) rfl (by decide)) : zX P n o S bs av none := h
theorem v42_5 (h : zX P n o S bs av none := by exact r_neq rfl rfl rfl (bF (by decide)) rfl (by decide)) : zX P n o S bs av none := h
theorem v42_8 (h : zX P n o S bs av none := by exact r_neq rfl rfl rfl rfl rfl (by decide)) : zX P n o S bs av none := h
theorem xY (h : zX P n o S bs av none := by exact r_lss rfl rfl rfl (by with_reducible assumption) rfl (by decide)) : zX P n o S bs av none := h
theorem v43_1 (h : zX P n o S bs av none := by exact r_lss rfl rfl rfl (by apply F1 <;> assumption) rfl (by decide)) : zX P n o S bs av none := h
theorem v43_4 (h : zX P n o S bs av none := by exact r_lss rfl rfl rfl (bT (by decide)) rfl (by decide)) : zX P n o S bs av none := h
theorem v43_5 (h : zX P n o S bs av none := by exact r_lss rfl rfl rfl (bF (by decide)) rfl (by decide)) : zX P n o S bs av none := h
theorem v43_8 (h : zX P n o S bs av none := by exact r_lss rfl rfl rfl rfl rfl (by decide)) : zX P n o S bs av none := h
theorem y8 (h : zX P n o S bs av none := by exact w_pickY rfl rfl bA rfl rfl (by decide)) : zX P n o S bs av none := h
theorem xC (h : zX P n o S bs av none := by exact w_pickN rfl rfl bA rfl rfl (by decide)) : zX P n o S bs av none := h
theorem v52_0 (h : zX P n o S bs av none := by exact r_notB rfl rfl (by with_reducible assumption) rfl (by decide)) : zX P n o S bs av none := h
theorem v52_4 (h : zX P n o S bs av none := by exact r_notB rfl rfl (bT (by decide)) rfl (by decide)) : zX P n o S bs av none := h
theorem qI (h : zX P n o S bs av none := by exact r_notB rfl rfl (bF (by decide)) rfl (by decide)) : zX P n o S bs av none := h
theorem v52_8 (h : zX P n o S bs av none := by exact r_notB rfl rfl rfl rfl (by decide)) : zX P n o S bs av none := h
theorem wC (h : zX P n o S bs av none := by exact a_add rfl rfl rfl (by with_reducible assumption) rfl (by decide)) : zX P n o S bs av none := h
theorem v30_1 (h : zX P n o S bs av none := by exact a_add rfl rfl rfl (by apply F1 <;> assumption) rfl (by decide)) : zX P n o S bs av none := h
theorem v30_4 (h : zX P n o S bs av none := by exact a_add rfl rfl rfl (by simp only [Int.reduceAdd, Int.reduceSub, Int.reduceMul]; first | exact wrap_i64 _ (by omega) | exact wrap_u64 _ (by omega) | exact wrap_u8 _ (by omega) | exact wrap_u32 _ (by omega) | exact wrap_i32 _ (by omega) | exact wrap_u16 _ (by omega)) rfl (by decide)) : zX P n o S bs av none := h
theorem v30_5 (h : zX P n o S bs av none := by exact a_add rfl rfl rfl (by first | exact wrap_i64 _ (by omega) | exact wrap_u64 _ (by omega) | exact wrap_u8 _ (by omega) | exact wrap_u32 _ (by omega) | exact wrap_i32 _ (by omega) | exact wrap_u16 _ (by omega)) rfl (by decide)) : zX P n o S bs av none := h
theorem v30_6 (h : zX P n o S bs av none := by exact a_add rfl rfl rfl rfl rfl (by decide)) : zX P n o S bs av none := h
theorem v57_0 (h : zX P n o S bs av none := by exact w_lenP rfl rfl rfl (by decide)) : zX P n o S bs av none := h
theorem wO (h : zX P n o S bs av none := by exact w_lenS rfl rfl rfl (by decide)) : zX P n o S bs av none := h
theorem v11_0 (h : zX P n o S bs av none := by exact w_field1 rfl rfl rfl rfl (by decide)) : zX P n o S bs av none := h
theorem v12_4 (h : zX P n o S bs av none := by exact w_idxN rfl rfl rfl (by omega) rfl (by decide)) : zX P n o S bs av none := h
theorem v13_0 (h : zX P n o S bs av none := by exact w_iface (by kernel_rfl) rfl rfl rfl (by decide)) : zX P n o S bs av none := h
theorem v14_0 (h : zX P n o S bs av none := by exact w_mkFunc rfl (by rfl) rfl (by decide)) : zX P n o S bs av none := h
theorem v44_0 (h : zX P n o S bs av none := by exact r_leq rfl rfl rfl (by with_reducible assumption) rfl (by decide)) : zX P n o S bs av none := h
theorem v44_8 (h : zX P n o S bs av none := by exact r_leq rfl rfl rfl rfl rfl (by decide)) : zX P n o S bs av none := h
theorem v45_0 (h : zX P n o S bs av none := by exact r_gtr rfl rfl rfl (by with_reducible assumption) rfl (by decide)) : zX P n o S bs av none := h
theorem v45_8 (h : zX P n o S bs av none := by exact r_gtr rfl rfl rfl rfl rfl (by decide)) : zX P n o S bs av none := h
theorem vT (h : zX P n o S bs av none := by exact r_geq rfl rfl rfl (by with_reducible assumption) rfl (by decide)) : zX P n o S bs av none := h
theorem v46_4 (h : zX P n o S bs av none := by exact r_geq rfl rfl rfl (bT (by decide)) rfl (by decide)) : zX P n o S bs av none := h
theorem v46_8 (h : zX P n o S bs av none := by exact r_geq rfl rfl rfl rfl rfl (by decide)) : zX P n o S bs av none := h
theorem v31_0 (h : zX P n o S bs av none := by exact a_sub rfl rfl rfl (by with_reducible assumption) rfl (by decide)) : zX P n o S bs av none := h
theorem v31_5 (h : zX P n o S bs av none := by exact a_sub rfl rfl rfl (by first | exact wrap_i64 _ (by omega) | exact wrap_u64 _ (by omega) | exact wrap_u8 _ (by omega) | exact wrap_u32 _ (by omega) | exact wrap_i32 _ (by omega) | exact wrap_u16 _ (by omega)) rfl (by decide)) : zX P n o S bs av none := h
theorem v32_0 (h : zX P n o S bs av none := by exact a_mul rfl rfl rfl (by with_reducible assumption) rfl (by decide)) : zX P n o S bs av none := h
theorem v32_5 (h : zX P n o S bs av none := by exact a_mul rfl rfl rfl (by first | exact wrap_i64 _ (by omega) | exact wrap_u64 _ (by omega) | exact wrap_u8 _ (by omega) | exact wrap_u32 _ (by omega) | exact wrap_i32 _ (by omega) | exact wrap_u16 _ (by omega)) rfl (by decide)) : zX P n o S bs av none := h
theorem v34_0 (h : zX P n o S bs av none := by exact a_rem rfl rfl rfl (by first | decide | omega) (by with_reducible assumption) rfl (by decide)) : zX P n o S bs av none := h
theorem v34_3 (h : zX P n o S bs av none := by exact a_rem rfl rfl rfl (by first | decide | omega) rfl rfl (by decide)) : zX P n o S bs av none := h
theorem v35_0 (h : zX P n o S bs av none := by exact a_and rfl rfl rfl (by with_reducible assumption) rfl (by decide)) : zX P n o S bs av none := h
theorem v35_3 (h : zX P n o S bs av none := by exact a_and rfl rfl rfl rfl rfl (by decide)) : zX P n o S bs av none := h
theorem v36_0 (h : zX P n o S bs av none := by exact a_or rfl rfl rfl (by with_reducible assumption) rfl (by decide)) : zX P n o S bs av none := h
theorem v36_1 (h : zX P n o S bs av none := by exact a_or rfl rfl rfl (by apply F1 <;> assumption) rfl (by decide)) : zX P n o S bs av none := h
theorem v37_0 (h : zX P n o S bs av none := by exact a_xor rfl rfl rfl (by with_reducible assumption) rfl (by decide)) : zX P n o S bs av none := h
theorem v51_0 (h : zX P n o S bs av none := by exact a_cmpl rfl rfl rfl (by with_reducible assumption) rfl (by decide)) : zX P n o S bs av none := h
theorem v39_0 (h : zX P n o S bs av none := by exact a_shr rfl rfl rfl (by first | decide | omega) (by first | decide | (simp only [IntKind.bits]; omega)) (by with_reducible assumption) rfl (by decide)) : zX P n o S bs av none := h
theorem v39_1 (h : zX P n o S bs av none := by exact a_shr rfl rfl rfl (by first | decide | omega) (by first | decide | (simp only [IntKind.bits]; omega)) (by simp only [Int.reduceToNat, Int.reducePow]; rfl) rfl (by decide)) : zX P n o S bs av none := h
theorem v38_0 (h : zX P n o S bs av none := by exact a_shl rfl rfl rfl (by first | decide | omega) (by first | decide | (simp only [IntKind.bits]; omega)) (by with_reducible assumption) rfl (by decide)) : zX P n o S bs av none := h
theorem y9 (h : zX P n o S bs av none := by exact w_build rfl (by rfl) (by rfl) (by rfl) (by rfl) rfl (by decide)) : zX P n o S bs av none := h
theorem v10_1 (h : zX P n o S bs av none := by exact w_buildArr rfl (by rfl) (by rfl) (by rfl) (by rfl) rfl (by decide)) : zX P n o S bs av none := h
theorem v10_2 (h : zX P n o S bs av none := by exact w_buildAg0 rfl (by rfl) (by rfl) (by rfl) (by rfl) rfl (by decide)) : zX P n o S bs av none := h
theorem v20_0 (h : zX P n o S bs av none := by exact flA ps_ (w_buildSl rfl (by decide) (by decide) (by decide) (by decide) (by rfl) (by rfl) (by rfl) (by rfl) (by rfl) (by rfl) (by rfl) rfl (by decide))) : zX P n o S bs av none := h
theorem yD (h : zX P n o S bs av (some b) := by exact w_boxA rfl rfl rfl (by decide)) : zX P n o S bs av (some b) := h
theorem m18_1 (h : zX P n o S bs av (some b) := by exact w_boxV rfl rfl rfl rfl (by decide)) : zX P n o S bs av (some b) := h
theorem m18_2 (h : zX P n o S bs av (some b) := by exact w_boxS rfl rfl rfl (by decide)) : zX P n o S bs av (some b) := h
theorem m18_3 (h : zX P n o S bs av (some b) := by exact w_boxC rfl rfl rfl (by decide)) : zX P n o S bs av (some b) := h
theorem m18_6 (h : zX P n o S bs av (some b) := by exact w_boxAg rfl rfl rfl (by decide)) : zX P n o S bs av (some b) := h
theorem zS (h : zX P n o S bs av (some b) := by exact w_alloc rfl (by decide) rfl (by decide)) : zX P n o S bs av (some b) := h
theorem m20_0 (h : zX P n o S bs av (some b) := by exact w_build0V rfl rfl (by decide)) : zX P n o S bs av (some b) := h
theorem m20_2 (h : zX P n o S bs av (some b) := by exact w_buildB rfl (by decide) (by decide) (by decide) (by decide) (by rfl) (by rfl) (by rfl) (by rfl) rfl (by decide)) : zX P n o S bs av (some b) := h
theorem m21_0 (h : zX P n o S bs av (some b) := by exact w_makeV1 rfl rfl rfl (by assumption) rfl (by decide) rfl (by rfl) rfl (by decide)) : zX P n o S bs av (some b) := h
theorem m22_0 (h : zX P n o S bs av (some b) := by exact w_makeMap rfl rfl (by decide)) : zX P n o S bs av (some b) := h
theorem w24_0 (h : Step P n o S S1 := by exact w_storeO rfl rfl rfl rfl rfl rfl (by first | exact Nat.le_of_ble_eq_true rfl | assumption) rfl rfl) : Step P n o S S1 := h
theorem w24_1 (h : Step P n o S S1 := by exact w_storeV rfl rfl rfl rfl rfl (by assumption) (by rfl) rfl (by assumption) rfl) : Step P n o S S1 := h
theorem zR (h : Step P n o S S1 := by exact yT rfl rfl rfl rfl rfl (by rfl) (by first | exact Nat.le_of_ble_eq_true rfl | assumption) rfl rfl) : Step P n o S S1 := h
theorem w55_0 (h : Step P n o S S1 := by exact w_appB rfl rfl rfl rfl (by first | assumption |  (simp only [List.length_append, List.length_cons, List.length_nil, *]; omega)) rfl rfl (by decide)) : Step P n o S S1 := h
theorem w55_1 (h : Step P n o S S1 := by exact w_appOB rfl rfl rfl rfl rfl (by first | assumption |  (simp only [List.length_append, List.length_cons, List.length_nil, *]; omega)) rfl rfl (by decide)) : Step P n o S S1 := h
theorem w55_2 (h : Step P n o S S1 := by exact w_appV rfl rfl rfl rfl (by assumption) (by assumption) rfl (by decide) rfl (by decide)) : Step P n o S S1 := h
theorem w55_3 (h : Step P n o S S1 := by exact s_appL rfl rfl rfl rfl (by assumption) (by assumption) rfl (by decide) rfl (by decide)) : Step P n o S S1 := h
/-- an operation that is not guarded, with a place -/
class GD (o : Oper) (d : outParam Nat) : Prop where
  g : o.guard = none
  d : o.dst = some d
instance {d : Nat} {x : Op} {t : TypeId} {p : String} {a : Array Edge} : GD { dst := some d, op := x, type := t, pos := p, after := a, guard := none } d := ⟨rfl, rfl⟩
class GN (o : Oper) : Prop where
  g : o.guard = none
instance {d : Option Nat} {x : Op} {t : TypeId} {p : String} {a : Array Edge} : GN { dst := d, op := x, type := t, pos := p, after := a, guard := none } := ⟨rfl⟩
/-- a guarded one -/
class GG (o : Oper) (j : outParam Nat) (want : outParam Bool) : Prop where
  g : o.guard = some (j, want)
instance {d : Option Nat} {x : Op} {t : TypeId} {p : String} {a : Array Edge} {j : Nat} {want : Bool} : GG { dst := d, op := x, type := t, pos := p, after := a, guard := some (j, want) } j want := ⟨rfl⟩
class GP (o : Oper) (d : outParam Nat) : Prop where
  d : o.dst = some d
instance {d : Nat} {x : Op} {t : TypeId} {p : String} {a : Array Edge} {g : Option (Nat × Bool)} : GP { dst := some d, op := x, type := t, pos := p, after := a, guard := g } d := ⟨rfl⟩
/-- from l and S the operations lead to l' and S' -/
structure Run (P : Program) (n : Nat) (ops : Array Oper) (l : List Oper) (S : AS) (l' : List Oper) (S' : AS) : Prop where
  h : ∀ K : Exit → AS → Prop, zY P n ops l' S' K → zY P n ops l S K
theorem Run.e : Run P n ops l S l S := ⟨fun _ h => h⟩
theorem Run.v [gd : GD o d] {bs : List Nat} {av : AV} (h : zX P n o S bs av none) (r : Run P n ops os (S.put d av) l' S') : Run P n ops (o :: os) S l' S' := ⟨fun K hk => zY.v gd.g gd.d h (r.h K hk)⟩
theorem Run.m [gd : GD o d] {bs : List Nat} {av : AV} {b : Blk} (h : zX P n o S bs av (some b)) (r : Run P n ops os ((S.create d b).put d av) l' S') : Run P n ops (o :: os) S l' S' := ⟨fun K hk => zY.m gd.g gd.d h (r.h K hk)⟩
theorem Run.w [gd : GN o] (h : Step P n o S S1) (r : Run P n ops os S1 l' S') : Run P n ops (o :: os) S l' S' := ⟨fun K hk => zY.w gd.g h (r.h K hk)⟩
theorem Run.gY {j t : Nat} {want b : Bool} [gd : GG o j want] [gp : GP o d] {bs : List Nat} {av : AV} (h : zX P n o S bs av none) (r : Run P n ops os (S.put d av) l' S') (ht : (ops[j]?).bind (·.dst) = some t := by exact rfl) (htn : t < n := by decide) (hb : S.tmp t = .p (.val (.bool b)) := by exact rfl) (hbw : b = want := by exact bA) (hdn : d < n := by decide) :
    Run P n ops (o :: os) S l' S' := ⟨fun K hk => zY.gY gd.g ht htn hb hbw gp.d hdn h (r.h K hk)⟩
theorem Run.gT {j t : Nat} {b : Bool} [gd : GG o j true] [gp : GP o d] (r : Run P n ops os (S.put d wN) l' S') (ht : (ops[j]?).bind (·.dst) = some t := by exact rfl) (htn : t < n := by decide) (hb : S.tmp t = .p (.val (.bool b)) := by exact rfl) (hbw : b = false := by exact bA) (hdn : d < n := by decide) : Run P n ops (o :: os) S l' S' :=
  ⟨fun K hk => zY.gnT gd.g ht htn hb hbw gp.d hdn (r.h K hk)⟩
theorem Run.gF {j t : Nat} {b : Bool} [gd : GG o j false] [gp : GP o d] (r : Run P n ops os (S.put d wN) l' S') (ht : (ops[j]?).bind (·.dst) = some t := by exact rfl) (htn : t < n := by decide) (hb : S.tmp t = .p (.val (.bool b)) := by exact rfl) (hbw : b = true := by exact bA) (hdn : d < n := by decide) : Run P n ops (o :: os) S l' S' :=
  ⟨fun K hk => zY.gnF gd.g ht htn hb hbw gp.d hdn (r.h K hk)⟩
/-- the same, of a region that draws its order -/
structure DRun (P : Program) (n : Nat) (l : List Oper) (rev : List AI) (S : AS) (os : List Oper) (rev' : List AI) (S' : AS) (os' : List Oper) : Prop where
  h : ∀ (id : Nat) (S0 : AS) (K : Exit → AS → Prop), Draws P n id l S0 K rev' S' os' → Draws P n id l S0 K rev S os
theorem DRun.e {rev : List AI} : DRun P n l rev S os rev S os := ⟨fun _ _ _ h => h⟩
theorem DRun.v [gd : GD o d] {bs : List Nat} {av : AV} {rev rev' : List AI} (h : zX P n o S bs av none) (r : DRun P n l (⟨bs, av, none⟩ :: rev) (S.put d av) os rev' S' os') : DRun P n l rev S (o :: os) rev' S' os' := ⟨fun id S0 K hk => Draws.v gd.g gd.d h (r.h id S0 K hk)⟩
theorem DRun.gY {j t : Nat} {want b : Bool} [gd : GG o j want] [gp : GP o d] {bs : List Nat} {av : AV} {rev rev' : List AI} (h : zX P n o S bs av none) (r : DRun P n l (⟨bs, av, none⟩ :: rev) (S.put d av) os rev' S' os') (ht : wZ l j = some t := by exact rfl) (htn : t < n := by decide) (hb : S.tmp t = .p (.val (.bool b)) := by exact rfl) (hbw : b = want := by exact bA) :
    DRun P n l rev S (o :: os) rev' S' os' := ⟨fun id S0 K hk => Draws.gY gd.g ht htn hb hbw gp.d h (r.h id S0 K hk)⟩
theorem DRun.gT {j t : Nat} {b : Bool} [gd : GG o j true] [gp : GP o d] {rev rev' : List AI} (r : DRun P n l (⟨[], wN, none⟩ :: rev) (S.put d wN) os rev' S' os') (ht : wZ l j = some t := by exact rfl) (htn : t < n := by decide) (hb : S.tmp t = .p (.val (.bool b)) := by exact rfl) (hbw : b = false := by exact bA) (hdn : d < n := by decide) : DRun P n l rev S (o :: os) rev' S' os' :=
  ⟨fun id S0 K hk => Draws.gNT gd.g ht htn hb hbw gp.d hdn (r.h id S0 K hk)⟩
theorem DRun.gF {j t : Nat} {b : Bool} [gd : GG o j false] [gp : GP o d] {rev rev' : List AI} (r : DRun P n l (⟨[], wN, none⟩ :: rev) (S.put d wN) os rev' S' os') (ht : wZ l j = some t := by exact rfl) (htn : t < n := by decide) (hb : S.tmp t = .p (.val (.bool b)) := by exact rfl) (hbw : b = true := by exact bA) (hdn : d < n := by decide) : DRun P n l rev S (o :: os) rev' S' os' :=
  ⟨fun id S0 K hk => Draws.gNF gd.g ht htn hb hbw gp.d hdn (r.h id S0 K hk)⟩
/-- and behind what draws its order -/
structure TRun (P : Program) (n : Nat) (S : AS) (os : List Oper) (S' : AS) (os' : List Oper) : Prop where
  h : ∀ K : Exit → AS → Prop, zD P n K S' os' → zD P n K S os
theorem TRun.e : TRun P n S os S os := ⟨fun _ h => h⟩
theorem TRun.v [gd : GD o d] {bs : List Nat} {av : AV} (h : zX P n o S bs av none) (r : TRun P n (S.put d av) os S' os') : TRun P n S (o :: os) S' os' := ⟨fun K hk => zD.v gd.g gd.d h (r.h K hk)⟩
theorem TRun.w [gd : GN o] (h : Step P n o S S1) (r : TRun P n S1 os S' os') : TRun P n S (o :: os) S' os' := ⟨fun K hk => zD.w gd.g h (r.h K hk)⟩
theorem zY.at_ (d : Nat) (_ : o.dst = some d) (h : zY P n ops (o :: os) S K) : zY P n ops (o :: os) S K := h
theorem zD.at_ (d : Nat) (_ : o.dst = some d) (h : zD P n K S (o :: os)) : zD P n K S (o :: os) := h
theorem zO.at0 {is : List Nat} {l : List (Nat × Blk)} (h : S.blk 1000 = Option.some b) (t : zO S is l) : zO S (1000 :: is) ((1000, b) :: l) := .some h t
theorem zO.at1 {is : List Nat} {l : List (Nat × Blk)} (h : S.blk 1001 = Option.some b) (t : zO S is l) : zO S (1001 :: is) ((1001, b) :: l) := .some h t
theorem zO.at2 {is : List Nat} {l : List (Nat × Blk)} (h : S.blk 1002 = Option.some b) (t : zO S is l) : zO S (1002 :: is) ((1002, b) :: l) := .some h t
theorem zT {S : AS} (is js : List Nat) {l : List (Nat × AV)} {m : List (Nat × Blk)} (ht : zG S is l := by repeat' first | exact zG.nil | apply zG.p rfl | apply zG.ptr rfl | apply zG.own rfl | apply zG.clo rfl | apply zG.ifp rfl | apply zG.pt rfl | apply zG.tup rfl | apply zG.skip) (hb : zO S js m := by repeat' first | exact zO.nil | apply zO.boxP rfl rfl | apply zO.vF rfl | (apply zO.at0; exact xB rfl (H.nk _).1 (by repeat' first | exact KB.refl | apply KB.kill | decide)) | (apply zO.at1; exact xB rfl (H.nk _).2.1 (by repeat' first | exact KB.refl | apply KB.kill | decide)) | (apply zO.at2; exact xB rfl (H.nk _).2.2 (by repeat' first | exact KB.refl | apply KB.kill | decide)) | apply zO.some rfl | apply zO.skip) : Sub S { t := l, s := m } := sub_keep ht hb
/-- one of these places -/
def Oper.isAt (o : Oper) (ds : List Nat) : Bool := match o.dst with
  | some d => ds.contains d
  | none => false
theorem zY.in_ (ds : List Nat) (_ : Oper.isAt o ds = true) (h : zY P n ops (o :: os) S K) : zY P n ops (o :: os) S K := h
theorem zD.in_ (ds : List Nat) (_ : Oper.isAt o ds = true) (h : zD P n K S (o :: os)) : zD P n K S (o :: os) := h
theorem Draws.in_ {rev : List AI} (ds : List Nat) (_ : Oper.isAt o ds = true) (h : Draws P n id l S0 K rev S (o :: os)) : Draws P n id l S0 K rev S (o :: os) := h
theorem zZ.rk {ops : List Oper} (is js : List Nat) {t : List (Nat × AV)} {m : List (Nat × Blk)} (h : zZ P n (.region id ops.toArray true) { t := t, s := m } K) (ht : zG S is t := by repeat' first | exact zG.nil | apply zG.p rfl | apply zG.ptr rfl | apply zG.own rfl | apply zG.clo rfl | apply zG.ag rfl | apply zG.ifp rfl | apply zG.pt rfl | apply zG.tup rfl | apply zG.skip) (hb : zO S js m := by repeat' first | exact zO.nil | apply zO.boxP rfl rfl | apply zO.vF rfl | (apply zO.at0; exact xB rfl (H.nk _).1 (by repeat' first | exact KB.refl | apply KB.kill | decide)) | (apply zO.at1; exact xB rfl (H.nk _).2.1 (by repeat' first | exact KB.refl | apply KB.kill | decide)) | (apply zO.at2; exact xB rfl (H.nk _).2.2 (by repeat' first | exact KB.refl | apply KB.kill | decide)) | apply zO.some rfl | apply zO.skip) : zZ P n (.region id ops.toArray true) S K := zZ.regionD is js ht hb h
/-- a region: what is kept, and as far as is told -/
theorem zZ.rc {ops : List Oper} (is js : List Nat) {t : List (Nat × AV)} {m : List (Nat × Blk)} (ht : zG S is t := by repeat' first | exact zG.nil | apply zG.p rfl | apply zG.ptr rfl | apply zG.own rfl | apply zG.clo rfl | apply zG.ag rfl | apply zG.ifp rfl | apply zG.pt rfl | apply zG.tup rfl | apply zG.skip) (hb : zO S js m := by repeat' first | exact zO.nil | apply zO.boxP rfl rfl | apply zO.vF rfl | (apply zO.at0; exact xB rfl (H.nk _).1 (by repeat' first | exact KB.refl | apply KB.kill | decide)) | (apply zO.at1; exact xB rfl (H.nk _).2.1 (by repeat' first | exact KB.refl | apply KB.kill | decide)) | (apply zO.at2; exact xB rfl (H.nk _).2.2 (by repeat' first | exact KB.refl | apply KB.kill | decide)) | apply zO.some rfl | apply zO.skip) (r : Run P n ops.toArray ops { t := t, s := m } l' S') (h : zY P n ops.toArray l' S' K) : zZ P n (.region id ops.toArray false) S K := zZ.xW is js ht hb (r.h K h)
theorem zY.rc (r : Run P n ops (o :: os) S l' S') (h : zY P n ops l' S' K) : zY P n ops (o :: os) S K := r.h K h
theorem Draws.rc {rev rev' : List AI} (r : DRun P n l rev S (o :: os) rev' S' os') (h : Draws P n id l S0 K rev' S' os') : Draws P n id l S0 K rev S (o :: os) := r.h id S0 K h
theorem zD.rc (r : TRun P n S (o :: os) S' os') (h : zD P n K S' os') : zD P n K S (o :: os) := r.h K h
theorem zZ.dc {ops : List Oper} (is js : List Nat) {t : List (Nat × AV)} {m : List (Nat × Blk)} {rev : List AI} (ht : zG S is t := by repeat' first | exact zG.nil | apply zG.p rfl | apply zG.ptr rfl | apply zG.own rfl | apply zG.clo rfl | apply zG.ag rfl | apply zG.ifp rfl | apply zG.pt rfl | apply zG.tup rfl | apply zG.skip) (hb : zO S js m := by repeat' first | exact zO.nil | apply zO.boxP rfl rfl | apply zO.vF rfl | (apply zO.at0; exact xB rfl (H.nk _).1 (by repeat' first | exact KB.refl | apply KB.kill | decide)) | (apply zO.at1; exact xB rfl (H.nk _).2.1 (by repeat' first | exact KB.refl | apply KB.kill | decide)) | (apply zO.at2; exact xB rfl (H.nk _).2.2 (by repeat' first | exact KB.refl | apply KB.kill | decide)) | apply zO.some rfl | apply zO.skip) (r : DRun P n ops [] { t := t, s := m } ops rev S1 os) (q : TRun P n S1 os S' os') (h : zD P n K S' os')
    (hm : P.follows .mixedOrders = true := by kernel_rfl) (hs : schedB ops rev.reverse.length (rev.reverse.map (·.bs)) = true := by kernel_rfl) (hd : madeB ops rev.reverse { t := t, s := m } = true := by kernel_rfl) : zZ P n (.region id ops.toArray true) S K := zZ.regionD is js ht hb (zZ.draws (r.h _ _ _ (Draws.done hm hs hd (q.h K h))))
end
end Go.Proofs.YtmfbamiciieooaaGreatDoor
/- What makes accesses, told by a log: the closure of play.Run; and play's accesses. -/
namespace Go.Proofs.YtmfbamiciieooaaGreatDoor
set_option maxRecDepth 100000
set_option maxHeartbeats 16000000
open Go Go.RowKit
set_option linter.unusedSimpArgs false
attribute [local irreducible] zY zZ Step zX Sub zD zF Fn
/-- a result, as a log tells it -/
structure xM where
  n : Int
  b : PV
  fail : Bool
def qN (r : xM) : PV := .agg [.val (.int .u64 r.n), r.b, .val (.bool r.fail)]
def logV (L : List xM) : PV := .sl (L.map qN)
/-- an access -/
def accV (kind cell a b : Int) (data : PV) : PV := .agg [.val (.int .i64 kind), .val (.int .i64 cell), .val (.int .u64 a), .val (.int .u64 b), data, .val (.slice none 0 0)]
def xQ : PV := .val (.slice none 0 0)
def atB (i : Nat) : Blk := .box 3 [.p (.val (.int .i64 i))]
def logB (L : List xM) : Blk := .box 53 [.p (logV L)]
/-- the closure -/
def doA : AV := .clo 47 [1000, 1001]
theorem resV_cells (L : List xM) : ∀ e ∈ L.map qN, e.cells.length = 3 := fun e he => by
  obtain ⟨r, _, rfl⟩ := List.mem_map.1 he
  rfl
/-- what is panicked with: the access that isn't told -/
def needA (acc : PV) : AV := .p (.ifc 115 acc)
end Go.Proofs.YtmfbamiciieooaaGreatDoor
/- An access, as it is kept. -/
namespace Go.Proofs.YtmfbamiciieooaaGreatDoor
set_option maxRecDepth 100000
set_option maxHeartbeats 16000000
open Go Go.RowKit
/-- an access, as it is kept -/
structure Ned where
  kind : Int
  cell : Int
  a : Int
  b : Int
  d : PV
  w : PV
def qR (kind cell a b : Int) (d : PV) : Ned := ⟨kind, cell, a, b, d, xQ⟩
def isB (b : Bool) : Blk := .box 4 [.p (.val (.bool b))]
end Go.Proofs.YtmfbamiciieooaaGreatDoor
/- The check of bytes: plain laws. -/
namespace Go.Proofs.YtmfbamiciieooaaGreatDoor
set_option maxRecDepth 100000
set_option maxHeartbeats 16000000
open Go Go.RowKit
def tblN (j : Nat) : Nat := (tbl0.getD j (.u32, 0)).2.toNat
def nibN (s : Nat) : Nat := s / 16 ^^^ tblN (s % 16)
def byteN (s c : Nat) : Nat := nibN (nibN (s ^^^ c))
def crcN (s : Nat) (bs : List Int) : Nat := bs.foldl (fun s c => byteN s c.toNat) s
def bitN (s : Nat) : Nat := if s % 2 = 1 then s / 2 ^^^ 3988292384 else s / 2
/-- a check that is gone on with -/
def moreF (sum : Nat) (bs : List Int) : Nat := 4294967295 - crcN (4294967295 - sum) bs
theorem tblN_lt : ∀ j, j < 16 → tblN j < 4294967296 := by decide +kernel
theorem nib_lt {s : Nat} (h : s < 4294967296) : nibN s < 4294967296 := by
  have h1 := tblN_lt (s % 16) (by omega)
  exact Nat.xor_lt_two_pow (n := 32) (by omega) h1
theorem byte_lt {s c : Nat} (h : s < 4294967296) (hc : c < 256) : byteN s c < 4294967296 := nib_lt (nib_lt (Nat.xor_lt_two_pow (n := 32) h (by omega)))
theorem crc_lt (bs : List Int) (hb : ∀ x ∈ bs, 0 ≤ x ∧ x < 256) : ∀ s, s < 4294967296 → crcN s bs < 4294967296 := by
  induction bs with
  | nil => intro s h; exact h
  | cons c r ih =>
    intro s h
    have := hb c (by simp)
    exact ih (fun x hx => hb x (by simp [hx])) _ (byte_lt h (by omega))
theorem crc_take (s : Nat) (b : List Int) (i : Nat) (h : i < b.length) : crcN s (b.take (i + 1)) = byteN (crcN s (b.take i)) (b.getD i 0).toNat := by
  have e : b.take (i + 1) = b.take i ++ [b.getD i 0] := by
    rw [List.take_add_one, List.getElem?_eq_getElem h]
    simp [List.getD, h]
  unfold crcN
  rw [e, List.foldl_append]
  rfl
theorem compl32 (n : Nat) (h : n < 4294967296) : 4294967295 ^^^ n = 4294967295 - n := by
  have h1 : (BitVec.allOnes 32 ^^^ BitVec.ofNat 32 n).toNat = (~~~ (BitVec.ofNat 32 n)).toNat := by rw [BitVec.allOnes_xor]
  rw [BitVec.toNat_xor, BitVec.toNat_not, BitVec.toNat_allOnes, BitVec.toNat_ofNat, Nat.mod_eq_of_lt (by omega)] at h1
  simpa using h1
theorem xor_max (n : Nat) (h : n < 4294967296) : bits .xor .u32 (IntKind.max .u32) (n : Int) = ((4294967295 - n : Nat) : Int) := by
  have : (IntKind.max .u32) = ((4294967295 : Nat) : Int) := by decide
  rw [this, u32_xor_nat 4294967295 n (by decide) h, compl32 n h]
end Go.Proofs.YtmfbamiciieooaaGreatDoor
/- The check of bytes, the program's and the document's: contracts. -/
namespace Go.Proofs.YtmfbamiciieooaaGreatDoor
set_option maxRecDepth 100000
set_option maxHeartbeats 16000000
open Go Go.RowKit
set_option linter.unusedSimpArgs false
attribute [local irreducible] zY zZ Step zX Sub zD Fn
theorem wrapU32 (x : Int) (h0 : 0 ≤ x) (h1 : x < 4294967296) : IntKind.u32.wrap x = x := wrap_u32 _ (by omega)
theorem getB {b : List Int} (hb : ∀ x ∈ b, 0 ≤ x ∧ x < 256) (i : Nat) : 0 ≤ b.getD i 0 ∧ b.getD i 0 < 256 := by
  by_cases h : i < b.length
  · simpa [List.getD, h] using hb b[i] (List.getElem_mem h)
  · simp [List.getD, h]
/-- frame of More's loop -/
def moreS (b : List Int) (s : Nat) (i : Nat) : AS :=
  { t := [(4, .p (.val (.int .u32 0))), (5, .p (.val (.int .u32 (s : Int)))), (10, .p (.sl (byts b))), (11, .p (.val (.int .i64 b.length))), (12, .p (.val (.int .i64 i)))], s := [] }
theorem more_fn (sum : Nat) (b : List Int) (hs : sum < 4294967296) (h64 : b.length ≤ 9223372036854775807) (hb : ∀ x ∈ b, 0 ≤ x ∧ x < 256) :
    Fn Tryz.prog 140 [.val (.int .u32 sum), .sl (byts b)] (.p (.val (.int .u32 (moreF sum b)))) := by
  have g0 := xor_max sum hs
  refine vY Tryz.func140 rfl Tryz.ntmps140 (Nat.le_of_ble_eq_true rfl) ?_
  repeat' (first | (refine zY.nil ?_) | (refine zZ.is ?_; first | refine zZ.seq ?_ | (refine zZ.isR (id := 0) ?_; refine zZ.rc [0, 1] [] (r := (.v zK .e)) (h := ?_)) | (refine zZ.isR (id := 1) ?_; refine zZ.rc [0, 1, 4] [] (r := (.v zV (.v v51_0 (.v zK .e)))) (h := ?_)) | (refine zZ.isR (id := 2) ?_; refine zZ.rc [1, 4, 5] [] (r := (.v zV (.v v57_0 (.v zV .e)))) (h := ?_)) | refine zZ.block ?_))
  refine zZ.loop (fun i => moreS b (crcN (4294967295 - sum) (b.take i)) i) (fun i => i ≤ b.length) (fun i => b.length - i) 0 ?h0 (Nat.zero_le _) ?rd
  case h0 =>
    exact yL K_o []
  case rd =>
    intro i hi
    have hlt := crc_lt (b.take i) (fun x hx => hb x (List.mem_of_mem_take hx)) (4294967295 - sum) (by omega)
    generalize hst : crcN (4294967295 - sum) (b.take i) = st at *
    by_cases hc : i < b.length
    · have hdec : decide ((i : Int) < (b.length : Int)) = true := by simpa using hc
      have hB := getB hb i
      have hst2 := crc_take (4294967295 - sum) b i hc
      rw [hst] at hst2
      generalize hcc : b.getD i 0 = c at *
      have hcN : c = ((c.toNat : Nat) : Int) := by omega
      have s1 : st ^^^ c.toNat < 4294967296 := Nat.xor_lt_two_pow (n := 32) hlt (by omega)
      have g1 : IntKind.u32.wrap (b.getD (i : Int).toNat 0) = ((c.toNat : Nat) : Int) := by
        rw [Int.toNat_natCast, hcc, wrapU32 c (by omega) (by omega)]
        exact hcN
      have g2 : bits .xor .u32 (st : Int) ((c.toNat : Nat) : Int) = ((st ^^^ c.toNat : Nat) : Int) := u32_xor_nat st c.toNat hlt (by omega)
      have sh : ∀ s : Nat, (s : Int) / 2 ^ (4 : Int).toNat = ((s / 16 : Nat) : Int) := fun s => by show (s : Int) / 16 = _; omega
      have an : ∀ s : Nat, s < 4294967296 → bits .and .u32 (s : Int) 15 = ((s % 16 : Nat) : Int) := fun s h => by
        rw [show (15 : Int) = ((15 : Nat) : Int) from rfl, u32_and_nat s 15 h (by decide)]
        have : s &&& 15 = s % 16 := Nat.and_two_pow_sub_one_eq_mod s 4
        rw [this]
      have tb : ∀ s : Nat, tbl0[((s % 16 : Nat) : Int).toNat]? = some (.u32, ((tblN (s % 16) : Nat) : Int)) := fun s => by
        rw [Int.toNat_natCast]
        have : ∀ j, j < 16 → tbl0[j]? = some (.u32, ((tblN j : Nat) : Int)) := by decide +kernel
        exact this _ (by omega)
      have xr : ∀ s : Nat, s < 4294967296 → bits .xor .u32 ((s / 16 : Nat) : Int) ((tblN (s % 16) : Nat) : Int) = ((nibN s : Nat) : Int) := fun s h => u32_xor_nat _ _ (by omega) (tblN_lt _ (by omega))
      have g3 := sh (st ^^^ c.toNat)
      have g4 := an _ s1
      have g5 := tb (st ^^^ c.toNat)
      have g6 := xr _ s1
      have s2 := nib_lt s1
      have g7 := sh (nibN (st ^^^ c.toNat))
      have g8 := an _ s2
      have g9 := tb (nibN (st ^^^ c.toNat))
      have g10 := xr _ s2
      clear sh an tb xr
      repeat' (first | (refine zY.nil ?_) | (refine zZ.is ?_; first | refine zZ.seq ?_ | (refine zZ.isR (id := 3) ?_; refine zZ.rc [4, 5, 7, 10, 11, 12, 13] [] (r := (.v xY .e)) (h := ?_)) | (refine zZ.isR (id := 4) ?_; refine zZ.rc [4, 5, 7, 10, 11, 12, 13] [] (r := (.v v7_4 (.v v2_1 (.v zK .e)))) (h := ?_)) | (refine zZ.isR (id := 5) ?_; refine zZ.rc [4, 5, 7, 10, 11, 12, 13] [] (r := (.v zV (.v zV (.v v6_0 (.v v37_0 (.v zK .e)))))) (h := ?_)) | (refine zZ.isR (id := 6) ?_; refine zZ.rc [4, 5, 7, 10, 11, 12, 13] [] (r := (.v zV (.v v39_0 (.v zV (.v v35_0 (.v v7_34 (.v v2_1 (.v v37_0 (.v zK .e))))))))) (h := ?_)) | (refine zZ.isR (id := 7) ?_; refine zZ.rc [4, 5, 7, 10, 11, 12, 13] [] (r := (.v zV (.v v39_0 (.v zV (.v v35_0 (.v v7_34 (.v v2_1 (.v v37_0 (.v zK .e))))))))) (h := ?_)) | (refine zZ.isR (id := 8) ?_; refine zZ.rc [4, 5, 7, 10, 11, 12, 13] [] (r := (.v v30_5 (.v zV .e))) (h := ?_)) | refine zZ.yF rfl bA ?_ | refine zZ.skip ?_ | refine zZ.block ?_) | refine zB.n ?_)
      refine ⟨i + 1, ?_, by omega, by omega⟩
      show Sub _ (moreS b (crcN (4294967295 - sum) (b.take (i + 1))) (i + 1))
      rw [hst2]
      exact yL K_o []
    · have hdec : decide ((i : Int) < (b.length : Int)) = false := by simpa using hc
      have hl : b.take i = b := List.take_of_length_le (by omega)
      have g1 : bits .xor .u32 (IntKind.max .u32) (st : Int) = ((moreF sum b : Nat) : Int) := by
        rw [xor_max st hlt]
        unfold moreF
        rw [← hst, hl]
      repeat' (first | (refine zY.nil ?_) | (refine zZ.is ?_; first | refine zZ.seq ?_ | (refine zZ.isR (id := 3) ?_; refine zZ.rc [4, 5, 7, 10, 11, 12, 13] [] (r := (.v xY .e)) (h := ?_)) | (refine zZ.isR (id := 9) ?_; refine zZ.rc [4, 5] [] (r := (.v zV (.v v51_0 (.v zK .e)))) (h := ?_)) | refine zZ.yH rfl bA ?_ | refine zZ.exit ?_ | refine zZ.ret ?_))
      all_goals exact ⟨.inl rfl, gives1 rfl rfl rfl⟩
theorem sum_fn (b : List Int) (h64 : b.length ≤ 9223372036854775807) (hb : ∀ x ∈ b, 0 ≤ x ∧ x < 256) : Fn Tryz.prog 136 [.sl (byts b)] (.p (.val (.int .u32 (moreF 0 b)))) := by
  have c1 := more_fn 0 b (by decide) h64 hb
  refine vY Tryz.func136 rfl Tryz.ntmps136 (Nat.le_of_ble_eq_true rfl) ?_
  repeat' (first | (refine zY.is ?_; first | refine zY.nil ?_ | (refine zY.at_ 2 rfl ?_; refine zY.rc (.v zK .e) ?_) | (refine zY.in_ [4] rfl ?_; refine zY.v rfl rfl (zL (c1) rfl rfl rfl (by decide)) ?_)) | (refine zZ.is ?_; first | refine zZ.seq ?_ | (refine zZ.isR (id := 0) ?_; refine zZ.rc [0] [] (r := (.v zK .e)) (h := ?_)) | (refine zZ.isR (id := 1) ?_; refine zZ.rc [0, 2] [] (r := (.v zV .e)) (h := ?_)) | refine zZ.ret ?_))
  all_goals exact ⟨.inl rfl, gives1 rfl rfl rfl⟩
end Go.Proofs.YtmfbamiciieooaaGreatDoor
/- Contracts of the leaf functions: keys and stamps. -/
namespace Go.Proofs.YtmfbamiciieooaaGreatDoor
set_option maxRecDepth 100000
set_option maxHeartbeats 16000000
open Go.RowKit
def stampB (n : Int) : Bool := decide (0 < n ∧ n < 4611686018427387904)
def rightB (k : Int) : Bool := decide (k / 2147483648 < 1073741824 ∧ k % 2147483648 ≤ 1073741824)
theorem and_mask31 (n : Int) (h0 : 0 ≤ n) (h1 : n < 18446744073709551616) : bits .and .u64 n 2147483647 = n % 2147483648 := by
  obtain ⟨k, rfl⟩ := Int.eq_ofNat_of_zero_le h0
  have h := bits_and_u64_nat k 2147483647 (by omega) (by omega)
  have e : k &&& 2147483647 = k % 2147483648 := Nat.and_two_pow_sub_one_eq_mod k 31
  rw [e] at h
  exact h
theorem stampB_yes {n : Int} (h : 0 < n) : stampB n = decide (n < 4611686018427387904) := by simp [stampB, h]
theorem stampB_no {n : Int} (h : n ≤ 0) : stampB n = false := by
  unfold stampB
  rw [decide_eq_false_iff_not]
  omega
theorem rightB_yes {n : Int} (h : n / 2147483648 < 1073741824) : rightB n = decide (n % 2147483648 ≤ 1073741824) := by simp [rightB, h]
theorem rightB_no {n : Int} (h : 1073741824 ≤ n / 2147483648) : rightB n = false := by
  unfold rightB
  rw [decide_eq_false_iff_not]
  omega
end Go.Proofs.YtmfbamiciieooaaGreatDoor
/- trial -/
namespace Go.Proofs.YtmfbamiciieooaaGreatDoor
set_option maxRecDepth 100000
set_option maxHeartbeats 16000000
open Go Go.RowKit
attribute [local irreducible] zY zZ Step zX Sub zD Fn
theorem eqB {a b : Bool} (h : a = b) : PV.val (.bool a) = PV.val (.bool b) := by rw [h]
theorem stamp_fn (n : Int) : Fn Tryz.prog 137 [.val (.int .u64 n)] (.p (.val (.bool (stampB n)))) := by
  refine vY Tryz.func137 rfl Tryz.ntmps137 (Nat.le_of_ble_eq_true rfl) ?_
  repeat' (first | (refine zY.is ?_; first | refine zY.nil ?_ | (refine zY.at_ 6 rfl ?_; refine zY.rc (.gY zV (.gY v43_8 (.v y8 (.v zK .e)))) ?_) | (refine zY.at_ 6 rfl ?_; refine zY.rc (.gT (.gT (.v xC (.v zK .e)))) ?_) | (fail_if_success refine zY.known rfl rfl rfl (by fail) ?_); refine zY.split rfl rfl rfl (fun h => ?_) (fun h => ?_)) | (refine zZ.is ?_; first | refine zZ.seq ?_ | (refine zZ.isR (id := 0) ?_; refine zZ.rc [0] [] (r := (.v zK .e)) (h := ?_)) | (refine zZ.isR (id := 1) ?_; refine zZ.rc [0, 2] [] (r := (.v zV (.v v45_8 (.v zV .e)))) (h := ?_)) | refine zZ.ret ?_))
  all_goals refine ⟨.inl rfl, gives1 rfl rfl (eqB ?_)⟩
  all_goals simp only [decide_eq_true_eq, decide_eq_false_iff_not] at *
  · exact (stampB_yes (by omega)).symm
  · exact (stampB_no (by omega)).symm
theorem right_fn (n : Int) (h0 : 0 ≤ n) (h1 : n < 18446744073709551616) : Fn Tryz.prog 138 [.val (.int .u64 n)] (.p (.val (.bool (rightB n)))) := by
  have hm := and_mask31 n h0 h1
  refine vY Tryz.func138 rfl Tryz.ntmps138 (Nat.le_of_ble_eq_true rfl) ?_
  repeat' (first | (refine zY.is ?_; first | refine zY.nil ?_ | (refine zY.at_ 7 rfl ?_; refine zY.rc (.gY zV (.gY v35_0 (.gY v44_8 (.v y8 (.v zK .e))))) ?_) | (refine zY.at_ 7 rfl ?_; refine zY.rc (.gT (.gT (.gT (.v xC (.v zK .e))))) ?_) | (fail_if_success refine zY.known rfl rfl rfl (by fail) ?_); refine zY.split rfl rfl rfl (fun h => ?_) (fun h => ?_)) | (refine zZ.is ?_; first | refine zZ.seq ?_ | (refine zZ.isR (id := 0) ?_; refine zZ.rc [0] [] (r := (.v zK .e)) (h := ?_)) | (refine zZ.isR (id := 1) ?_; refine zZ.rc [0, 2] [] (r := (.v zV (.v v39_1 (.v v43_8 (.v zV .e))))) (h := ?_)) | refine zZ.ret ?_))
  all_goals refine ⟨.inl rfl, gives1 rfl rfl (eqB ?_)⟩
  all_goals simp only [decide_eq_true_eq, decide_eq_false_iff_not] at *
  · exact (rightB_yes (by omega)).symm
  · exact (rightB_no (by omega)).symm
theorem split_fn (n : Int) (h0 : 0 ≤ n) (h1 : n < 18446744073709551616) : Fn Tryz.prog 95 [.val (.int .u64 n)] (.tup [.val (.int .i64 (n / 2147483648)), .val (.int .i64 (n % 2147483648 - 1))]) := by
  have hm := and_mask31 n h0 h1
  refine vY Tryz.func95 rfl Tryz.ntmps95 (Nat.le_of_ble_eq_true rfl) ?_
  repeat' (first | (refine zY.nil ?_) | (refine zZ.is ?_; first | refine zZ.seq ?_ | (refine zZ.isR (id := 0) ?_; refine zZ.rc [0] [] (r := (.v zK (.v zK .e))) (h := ?_)) | (refine zZ.isR (id := 1) ?_; refine zZ.rc [0, 2, 3] [] (r := (.v zV (.v v39_1 (.v v6_5 (.v zV (.v v35_0 (.v v6_5 (.v v31_5 (.v zK (.v zK .e)))))))))) (h := ?_)) | refine zZ.ret ?_))
  all_goals refine ⟨.inl rfl, givesT (ts := [2, 3]) rfl (by decide) rfl⟩
end Go.Proofs.YtmfbamiciieooaaGreatDoor
/- Contracts of May, both: which entries may be. -/
namespace Go.Proofs.YtmfbamiciieooaaGreatDoor
set_option maxRecDepth 100000
set_option maxHeartbeats 16000000
open Go.RowKit
def mayB (k s y u v x : Int) : Bool :=
  if k = 1 then stampB s && rightB y && (if y % 2147483648 = 0 then decide (u = 0 ∧ v = 0) else stampB u && stampB v)
  else if k = 2 then stampB s && decide (y = 0 ∧ u = 0 ∧ v = 0 ∧ x = 0)
  else if k = 3 then decide (s ≤ 65536) && decide (y = 0 ∧ u = 0 ∧ v = 0 ∧ x = 0)
  else false
end Go.Proofs.YtmfbamiciieooaaGreatDoor
/- May, both, as contracts. -/
namespace Go.Proofs.YtmfbamiciieooaaGreatDoor
set_option maxRecDepth 100000
set_option maxHeartbeats 16000000
open Go Go.RowKit
attribute [local irreducible] zY zZ Step zX Sub zD Fn
/-- an entry, as it is passed -/
def entV (k s y u v x : Int) : PV := .agg [.val (.int .i64 k), .val (.int .u64 s), .val (.int .u64 y), .val (.int .u64 u), .val (.int .u64 v), .val (.int .u64 x)]
theorem may_fn (k s y u v x : Int) (h0 : 0 ≤ y) (h1 : y < 18446744073709551616) : Fn Tryz.prog 133 [entV k s y u v x] (.p (.val (.bool (mayB k s y u v x)))) := by
  refine vY Tryz.func133 rfl Tryz.ntmps133 (Nat.le_of_ble_eq_true rfl) ?_
  repeat' (first | (refine zY.is ?_; first | refine zY.nil ?_ | (refine zY.at_ 12 rfl ?_; refine zY.rc (.v v52_8 (.v zV .e)) ?_) | (refine zY.at_ 14 rfl ?_; refine zY.rc (.gY zH (.gY zN .e)) ?_) | (refine zY.at_ 14 rfl ?_; refine zY.rc (.gF (.gF (.gF (.gF (.v y8 .e))))) ?_) | (refine zY.at_ 17 rfl ?_; refine zY.rc (.gY v52_8 (.v xC .e)) ?_) | (refine zY.at_ 19 rfl ?_; refine zY.rc (.v wQ (.v yV (.v yV (.v zK (.v zK .e))))) ?_) | (refine zY.at_ 31 rfl ?_; refine zY.rc (.gY zH (.gY zN (.gY v41_8 (.v y8 (.v zK .e))))) ?_) | (refine zY.at_ 31 rfl ?_; refine zY.rc (.gT (.gT (.gT (.v xC (.v zK .e))))) ?_) | (refine zY.at_ 38 rfl ?_; refine zY.rc (.v zV .e) ?_) | (refine zY.at_ 39 rfl ?_; refine zY.rc (.gY zH (.gY zN .e)) ?_) | (refine zY.at_ 39 rfl ?_; refine zY.rc (.gT (.gT (.gT (.v xC (.v zK .e))))) ?_) | (refine zY.at_ 42 rfl ?_; refine zY.rc (.v y8 (.v zK .e)) ?_) | (refine zY.at_ 48 rfl ?_; refine zY.rc (.v zV .e) ?_) | (refine zY.at_ 49 rfl ?_; refine zY.rc (.gY yU (.gY zH (.gY zN (.gY zH (.gY zN (.gY y9 (.gY v41_35 (.v y8 (.v zK .e))))))))) ?_) | (refine zY.at_ 49 rfl ?_; refine zY.rc (.gT (.gT (.gT (.gT (.gT (.gT (.gT (.v xC (.v zK .e))))))))) ?_) | (refine zY.at_ 63 rfl ?_; refine zY.rc (.gY yU (.gY zH (.gY zN (.gY zH (.gY zN (.gY y9 (.gY v41_35 (.v y8 (.v zK .e))))))))) ?_) | (refine zY.at_ 63 rfl ?_; refine zY.rc (.gT (.gT (.gT (.gT (.gT (.gT (.gT (.v xC (.v zK .e))))))))) ?_) | (refine zY.in_ [11, 37, 47] rfl ?_; refine zY.v rfl rfl (zL (stamp_fn _) rfl rfl rfl (by decide)) ?_) | (refine zY.in_ [22] rfl ?_; refine zY.v rfl rfl (yS (split_fn _ h0 h1) rfl rfl rfl (by decide)) ?_) | (refine zY.in_ [41] rfl ?_; refine zY.gY rfl rfl (by decide) rfl bA rfl (by decide) (zL (stamp_fn _) rfl rfl rfl (by decide)) ?_) | (refine zY.in_ [16] rfl ?_; refine zY.gY rfl rfl (by decide) rfl bA rfl (by decide) (zL (right_fn _ h0 h1) rfl rfl rfl (by decide)) ?_) | (fail_if_success refine zY.known rfl rfl rfl (by fail) ?_); refine zY.split rfl rfl rfl (fun h => ?_) (fun h => ?_)) | (refine zZ.is ?_; first | refine zZ.seq ?_ | (refine zZ.isR (id := 0) ?_; refine zZ.rc [0] [1] (r := (.m yD (.v zK .e))) (h := ?_)) | (refine zZ.isR (id := 1) ?_; refine zZ.rc [1, 2] [1] (r := (.v zH (.v zN .e))) (h := ?_)) | (refine zZ.isR (id := 2) ?_; refine zZ.rc [1, 2, 6] [1] (r := (.v v41_8 (.v zK .e))) (h := ?_)) | (refine zZ.isR (id := 3) ?_; refine zZ.rc [1, 2, 6] [1] (r := (.v zH (.v zN .e))) (h := ?_)) | (refine zZ.isR (id := 4) ?_; refine zZ.rc [1, 2, 6] [1] (r := (.v zK .e)) (h := ?_)) | (refine zZ.isR (id := 5) ?_; refine zZ.rc [1, 2, 6] [1] (r := (.v zH (.v zN .e))) (h := ?_)) | (refine zZ.isR (id := 6) ?_; refine zZ.rc [1, 2, 4, 6] [1] (r := (.v zV (.v v43_8 .e))) (h := ?_)) | (refine zZ.isR (id := 7) ?_; refine zZ.rc [1, 2, 6] [1] (r := (.v zH (.v zN (.v v41_8 (.v zV .e))))) (h := ?_)) | (refine zZ.isR (id := 8) ?_; refine zZ.rc [1, 2, 6] [1] (r := (.v zH (.v zN .e))) (h := ?_)) | (refine zZ.isR (id := 9) ?_; refine zZ.rc [1, 2, 6] [1] (r := (.v v41_8 (.v zK .e))) (h := ?_)) | (refine zZ.isR (id := 10) ?_; refine zZ.rc [1, 2, 6] [1] (r := (.v zH (.v zN .e))) (h := ?_)) | (refine zZ.isR (id := 11) ?_; refine zZ.rc [1, 2, 6] [1] (r := (.v v41_8 (.v zK .e))) (h := ?_)) | (refine zZ.isR (id := 12) ?_; refine zZ.rc [1, 2] [1] (r := (.v zH (.v zN (.v v44_8 (.v zV .e))))) (h := ?_)) | (refine zZ.isR (id := 13) ?_; refine zZ.rc [2] [1] (r := (.v zK .e)) (h := ?_)) | refine zZ.yF rfl bA ?_ | refine zZ.cond rfl (fun h => ?_) (fun h => ?_) | refine zZ.skip ?_ | refine zZ.block ?_ | refine zZ.ret ?_) | refine zB.r ?_ | refine zP.r ?_)
  all_goals refine ⟨.inl rfl, gives1 rfl rfl (eqB ?_)⟩
  all_goals simp only [decide_eq_true_eq, decide_eq_false_iff_not, Bool.not_eq_true', Bool.not_eq_false'] at *
  all_goals try subst k
  all_goals try (have hq : y % 2147483648 = 0 := by omega)
  all_goals try (have hq : ¬ y % 2147483648 = 0 := by omega)
  all_goals (unfold mayB; (simp [*]; done))
end Go.Proofs.YtmfbamiciieooaaGreatDoor
/- Contracts of eight and number (the reference's). -/
namespace Go.Proofs.YtmfbamiciieooaaGreatDoor
set_option maxRecDepth 100000
set_option maxHeartbeats 16000000
open Go.RowKit
/-- the k lowest bytes of a number -/
def bytesOf : Nat → Int → List Int
  | 0, _ => []
  | k + 1, n => n % 256 :: bytesOf k (n / 256)
theorem bytesOf_length (k : Nat) (n : Int) : (bytesOf k n).length = k := by
  induction k generalizing n with
  | zero => rfl
  | succ k ih => simp [bytesOf, ih]
theorem bytesOf_snoc (k : Nat) (n : Int) : bytesOf (k + 1) n = bytesOf k n ++ [n / 256 ^ k % 256] := by
  induction k generalizing n with
  | zero => simp [bytesOf]
  | succ k ih =>
    rw [bytesOf, ih (n / 256)]
    simp only [bytesOf, List.cons_append]
    rw [Int.ediv_ediv_of_nonneg (by omega), Int.pow_succ, Int.mul_comm]
end Go.Proofs.YtmfbamiciieooaaGreatDoor
/- eight and number, as contracts over abstract frames. -/
namespace Go.Proofs.YtmfbamiciieooaaGreatDoor
set_option maxRecDepth 100000
set_option maxHeartbeats 16000000
open Go Go.RowKit
end Go.Proofs.YtmfbamiciieooaaGreatDoor
/- Encode, the reference's, as a contract. -/
namespace Go.Proofs.YtmfbamiciieooaaGreatDoor
set_option maxRecDepth 100000
set_option maxHeartbeats 16000000
open Go Go.RowKit
set_option linter.unusedSimpArgs false
attribute [local irreducible] zY zZ Step zX Sub zD Fn
/-- an entry's bytes -/
def encL (k s y u v x : Int) : List Int := (k % 256 :: bytesOf 8 s) ++ (if k = 1 then bytesOf 8 y ++ bytesOf 8 u ++ bytesOf 8 v ++ bytesOf 8 x else [])
end Go.Proofs.YtmfbamiciieooaaGreatDoor
/- Contracts of slices.Insert at the two places where it is used, and of fields. -/
namespace Go.Proofs.YtmfbamiciieooaaGreatDoor
set_option maxRecDepth 100000
set_option maxHeartbeats 16000000
open Go.RowKit
theorem Tryz.infoPtr : (Tryz.prog.info? 197).map (fun i => (i.zero, i.size, i.bytes)) = some (some (.pointer none), 1, 8) := by kernel_rfl
theorem Tryz.sizePtr : (Tryz.prog.info? 197).map (·.size) = some 1 := by kernel_rfl
/-- A row that is known whole is owned. -/
theorem ownsRow_of_heap {w : World} {base g n cap : Nat} {e : TypeId} {cur : List Value} {xs : List Value} (hg : w.heap[g]? = some (.cells cur.toArray e (0, 0))) (hb : base ≤ g)
    (hc : cur.length = cap) (hn : n ≤ cap) (hm : cap ≤ maxLen) (ht : cur.take n = xs) (hx : xs.length = n) : w.ownsRow base e 1 (.slice (some ⟨g, 0, none⟩) n cap) n xs :=
  ⟨by simpa using hx, .inr ⟨g, cap, cur.toArray, rfl, hb, hg, hn, hm, by simpa using hc, by simpa using ht⟩⟩
theorem cells_four {w : World} {b : Nat} {q0 q1 q2 q3 : Value} (h0 : w.cell? ⟨b, 0, none⟩ = some q0) (h1 : w.cell? ⟨b, 1, none⟩ = some q1) (h2 : w.cell? ⟨b, 2, none⟩ = some q2) (h3 : w.cell? ⟨b, 3, none⟩ = some q3) :
    ∀ (j : Nat) v, [q0, q1, q2, q3][j]? = some v → w.cell? ((⟨b, 0, none⟩ : Addr).add j) = some v := by
  intro j v hv
  match j, hv with
  | 0, hv => simp at hv; subst hv; exact h0
  | 1, hv => simp at hv; subst hv; exact h1
  | 2, hv => simp at hv; subst hv; exact h2
  | 3, hv => simp at hv; subst hv; exact h3
  | j + 4, hv => simp at hv
theorem insert_nil (g : Nat) (p : Value) (w : World) (hp : w.cell? ⟨g, 0, none⟩ = some p) (h1 : p.oneCell' = true) :
    Calls Tryz.prog 139 #[.slice none 0 0, .int .i64 0, .slice (some ⟨g, 0, none⟩) 1 1] w fun e w' =>
      ∃ v, e = .returned v ∧ w'.ownsRow w.heap.size 197 1 v 1 [p] ∧ Below w.heap.size w w' := by
  obtain ⟨i0, hi, hz0, hz1, hz2⟩ := info_parts Tryz.infoPtr
  go_enter Tryz.func139, Tryz.ntmps139
  go_wp2_with (at_builtin; refine wpList_append_own _ rfl _ _ 194 rfl w.heap.size 197 i0 (.pointer none) 1 8 Tryz.underlying194 hi hz0 hz1 hz2 rfl (by decide) _ _ _ rfl (World.ownsRow_nil _ _ _ _) ⟨g, 0, none⟩ 1 1 [p] rfl rfl ?c1 ?c2 ?c3 ?c4 ?c5 ?_)
  case c1 => exact cells_one hp
  case c2 => simpa using h1
  case c3 => simp [maxLen]
  case c4 => decide
  case c5 => exact Nat.le_refl _
  intro v' w1 hown' hgrow _
  go_wp2
  go_ret
  exact ⟨_, rfl, hown', (Below.refl _ _).grown hgrow (Nat.le_refl _) (by simp [Value.ownBlock])⟩
theorem insert_four (b g : Nat) (p q0 q1 q2 q3 : Value) (w : World) (hp : w.cell? ⟨g, 0, none⟩ = some p) (h1 : p.oneCell' = true)
   (hq0 : w.cell? ⟨b, 0, none⟩ = some q0) (hq1 : w.cell? ⟨b, 1, none⟩ = some q1) (hq2 : w.cell? ⟨b, 2, none⟩ = some q2) (hq3 : w.cell? ⟨b, 3, none⟩ = some q3)
   (hq : ∀ v ∈ [q0, q1, q2, q3], v.oneCell' = true) (hbw : b < w.heap.size) (hgw : g < w.heap.size) :
    Calls Tryz.prog 139 #[.slice (some ⟨b, 0, none⟩) 4 4, .int .i64 0, .slice (some ⟨g, 0, none⟩) 1 1] w fun e w' =>
      ∃ v, e = .returned v ∧ w'.ownsRow w.heap.size 197 1 v 5 [p, q0, q1, q2, q3] ∧ Below w.heap.size w w' := by
  obtain ⟨i0, hi, hz0, hz1, hz2⟩ := info_parts Tryz.infoPtr
  go_enter Tryz.func139, Tryz.ntmps139
  go_wp2_with (at_builtin; refine wpList_append_zeros rfl (.tmp 34) (.tmp 39) 194 3 rfl 197 i0 (.pointer none) (.pointer none) Tryz.underlying194 Tryz.underlying3 hi hz0 rfl hz1 ⟨b, 0, none⟩ 4 5 rfl rfl (by decide) (by simp [maxLen]) (by rw [hz2]; decide) (by rw [hz2]; decide) ?_)
  intro cap Z w1 HZ H1 hb1 hc1 hc2
  have hp1 : w1.cell? ⟨g, 0, none⟩ = some p := (hb1.cell (p := ⟨g, 0, none⟩) hgw).trans hp
  have hc1' : ¬ cap = 1 := by omega
  have hc1'' : ¬ cap = 0 := by omega
  have hl : Hid (Z.length = cap) := by show Z.length = cap; rw [HZ.out]; simp
  have D1 : 0 < [p].length → some (⟨w.heap.size, 0, none⟩ : Addr) = some ⟨w.heap.size, 0, none⟩ ∧ ∃ ad, some (⟨g, 0, none⟩ : Addr) = some ad ∧ ∀ (j : Nat) v, [p][j]? = some v → w1.cell? (ad.add j) = some v :=
    fun _ => ⟨rfl, _, rfl, cells_one hp1⟩
  have D2 : 0 + [p].length ≤ Z.length := by rw [hl.out]; simp; omega
  have D3 : ∀ v ∈ [p], v.oneCell' = true := by simpa using h1
  have H1' := Lib.hid D1
  have H2' := Lib.hid D2
  have H3' := Lib.hid D3
  clear D1 D2 D3
  go_wp2_with (with_reducible refine wpList_copy_splice rfl (.tmp 43) (.tmp 44) 194 194 rfl 197 Tryz.underlying194 Tryz.sizePtr (some ⟨w.heap.size, 0, none⟩) (some ⟨g, 0, none⟩) 5 cap 1 1 rfl rfl w.heap.size 0 Z 197 H1.out [p] rfl H1'.out H2'.out H3'.out w.heap.size w hb1 (Nat.le_refl _) ?_)
  intro w2 H2 hb2
  have hr0 : w2.cell? ⟨b, 0, none⟩ = some q0 := (hb2.cell (p := ⟨b, 0, none⟩) hbw).trans hq0
  have hr1 : w2.cell? ⟨b, 1, none⟩ = some q1 := (hb2.cell (p := ⟨b, 1, none⟩) hbw).trans hq1
  have hr2 : w2.cell? ⟨b, 2, none⟩ = some q2 := (hb2.cell (p := ⟨b, 2, none⟩) hbw).trans hq2
  have hr3 : w2.cell? ⟨b, 3, none⟩ = some q3 := (hb2.cell (p := ⟨b, 3, none⟩) hbw).trans hq3
  have hw1 : IntKind.i64.wrap 1 = 1 := by decide
  go_wp2
  go_still_tail 8, (by kernel_rfl)
  change wpList _ _ _ _ _ w2.drew
  refine wpList_copy_splice rfl (.tmp 50) (.tmp 53) 194 194 rfl 197 Tryz.underlying194 Tryz.sizePtr (some ⟨w.heap.size, 1, none⟩) (some ⟨b, 0, none⟩) 4 (cap - 1) 4 4 rfl rfl w.heap.size 1 (Go.splice Z 0 [p]) 197 H2.out [q0, q1, q2, q3] rfl ?e1 ?e2 hq w.heap.size w hb2.drew (Nat.le_refl _) ?_
  case e1 => exact fun _ => ⟨rfl, _, rfl, cells_four hr0 hr1 hr2 hr3⟩
  case e2 => have := hl.out; simp [Go.splice]; omega
  intro w3 H3 hb3
  go_wp2
  go_ret
  refine ⟨_, rfl, ownsRow_of_heap H3.out (Nat.le_refl _) ?_ hc1 hc2 ?_ rfl, hb3⟩
  · have := hl.out; simp [Go.splice]; omega
  · simp [Go.splice]
/-- What fields hands back, of an entry of kind k in block b. -/
def fieldsOf (b : Nat) (k : Int) : List Value :=
  if k = 1 then [.pointer (some ⟨b, 1, none⟩), .pointer (some ⟨b, 2, none⟩), .pointer (some ⟨b, 3, none⟩), .pointer (some ⟨b, 4, none⟩), .pointer (some ⟨b, 5, none⟩)]
  else if k = 2 ∨ k = 3 then [.pointer (some ⟨b, 1, none⟩)] else []
theorem fields_any (b : Nat) (k : Int) (w : World) (hp : w.cell? ⟨b, 0, none⟩ = some (.int .i64 k)) :
    Calls Tryz.prog 134 #[.pointer (some ⟨b, 0, none⟩)] w fun e w' =>
      ∃ v, e = .returned v ∧ w'.ownsRow w.heap.size 197 1 v (fieldsOf b k).length (fieldsOf b k) ∧ Below w.heap.size w w' := by
  by_cases h1 : k = 1
  · subst h1
    go_enter Tryz.func134, Tryz.ntmps134
    go_wp2_with fail
    go_still_tail 12, (by kernel_rfl)
    change wpList _ _ _ _ _ w.drew
    go_wp2_with fail
    refine (insert_four w.heap.size (w.heap.size + 1) (.pointer (some ⟨b, 1, none⟩)) (.pointer (some ⟨b, 2, none⟩)) (.pointer (some ⟨b, 3, none⟩)) (.pointer (some ⟨b, 4, none⟩)) (.pointer (some ⟨b, 5, none⟩)) _ (by go_simp) rfl (by go_simp) (by go_simp) (by go_simp) (by go_simp) (by simp [Value.oneCell']) (by simp <;> omega) (by simp <;> omega)).mono ?_
    rintro e w' ⟨v, rfl, hown, hb⟩
    go_wp2
    go_ret
    exact ⟨_, rfl, ownsRow_base hown (by simp <;> omega), ((((Below.refl _ _).alloc (Nat.le_refl _) _).alloc (by simp) _).drew).trans (hb.mono (by simp <;> omega))⟩
  by_cases h2 : k = 2
  · subst h2
    go_enter Tryz.func134, Tryz.ntmps134
    go_wp2_with fail
    refine (insert_nil w.heap.size (.pointer (some ⟨b, 1, none⟩)) _ (by simp) rfl).mono ?_
    rintro e w' ⟨v, rfl, hown, hb⟩
    go_wp2
    go_ret
    exact ⟨_, rfl, ownsRow_base hown (by simp <;> omega), ((Below.refl _ _).alloc (Nat.le_refl _) _).trans (hb.mono (by simp <;> omega))⟩
  by_cases h3 : k = 3
  · subst h3
    go_enter Tryz.func134, Tryz.ntmps134
    go_wp2_with fail
    refine (insert_nil w.heap.size (.pointer (some ⟨b, 1, none⟩)) _ (by simp) rfl).mono ?_
    rintro e w' ⟨v, rfl, hown, hb⟩
    go_wp2
    go_ret
    exact ⟨_, rfl, ownsRow_base hown (by simp <;> omega), ((Below.refl _ _).alloc (Nat.le_refl _) _).trans (hb.mono (by simp <;> omega))⟩
  have e2 : (k == 1) = false := by simpa using h1
  have e3 : (k == 2) = false := by simpa using h2
  have e4 : (k == 3) = false := by simpa using h3
  have hf : Hid (fieldsOf b k = []) := by show fieldsOf b k = []; simp [fieldsOf, h1, h2, h3]
  go_enter Tryz.func134, Tryz.ntmps134
  go_wp2_with fail
  go_ret
  exact ⟨_, rfl, by rw [hf.out]; exact World.ownsRow_nil _ _ _ _, Below.refl _ _⟩
end Go.Proofs.YtmfbamiciieooaaGreatDoor
/- A call of fields, whose argument is a pointer to an own variable. -/
namespace Go.Proofs.YtmfbamiciieooaaGreatDoor
set_option maxRecDepth 100000
set_option maxHeartbeats 16000000
open Go Go.RowKit
/-- what fields hands back: pointers into the variable -/
def yC (id : Nat) (k : Int) : List AV :=
  if k = 1 then [.ptr id 1, .ptr id 2, .ptr id 3, .ptr id 4, .ptr id 5] else if k = 2 ∨ k = 3 then [.ptr id 1] else []
theorem fieldsA_cells {M : Nat → Nat → Prop} {ρ : Nat → Value} {w : World} {id g : Nat} (k : Int) (hg : zU (ρ id) = some g) : yA M ρ w (yC id k) (fieldsOf g k) := by
  have one : ∀ j, yY M ρ w (.ptr id j) (.pointer (some ⟨g, j, none⟩)) := fun j => .ptr id j g hg
  unfold yC fieldsOf
  by_cases h1 : k = 1
  · rw [if_pos h1, if_pos h1]
    refine ⟨rfl, fun i c v hc hv => ?_, fun v hv => ?_⟩
    · match i with
      | 0 | 1 | 2 | 3 | 4 => simp at hc hv; subst hc; subst hv; exact one _
      | i + 5 => simp at hc
    · simp at hv
      rcases hv with rfl | rfl | rfl | rfl | rfl <;> rfl
  · rw [if_neg h1, if_neg h1]
    by_cases h2 : k = 2 ∨ k = 3
    · rw [if_pos h2, if_pos h2]
      refine ⟨rfl, fun i c v hc hv => ?_, fun v hv => ?_⟩
      · match i with
        | 0 => simp at hc hv; subst hc; subst hv; exact one _
        | i + 1 => simp at hc
      · simp at hv
        subst hv
        rfl
    · rw [if_neg h2, if_neg h2]
      exact ⟨rfl, fun i c v hc => by simp at hc, fun v hv => by simp at hv⟩
theorem fieldsA_len (id g : Nat) (k : Int) : (yC id k).length = (fieldsOf g k).length := by
  unfold yC fieldsOf
  split
  · rfl
  · split <;> rfl
theorem w_fields {n : Nat} {o : Oper} {S : AS} {d id ty : Nat} {x : Operand} {k : Int} {cs : List AV} {ts : Array TypeId} (ho : o.op = .call { callee := .value (.func 134), args := #[x], argTypes := ts }) (hx : S.get x = .ptr id 0)
    (hb : S.blk id = some (.box ty cs)) (hk : cs[0]? = some (.p (.val (.int .i64 k)))) (hd : o.dst = some d) (hn : d < n) :
    zX Tryz.prog n o S [id] (.own d) (some (.row 197 1 (yC id k).length (yC id k))) := by
  intro S2 hg hbl M w0 ρ a w K Q hs hK
  have hx2 : S2.get x = .ptr id 0 := (hg x (by rw [ho]; simp [Op.operands, Call.operands])).trans hx
  have hb2 : S2.blk id = some (.box ty cs) := (hbl id (by simp)).trans hb
  have h1 := hs.rep x
  rw [hx2] at h1
  obtain ⟨g, hgv, hv⟩ := wU h1
  obtain ⟨ys, hcs, hcell⟩ := (hs.blks id _ hb2).cells hgv
  have h0 : 0 < cs.length := (List.getElem?_eq_some_iff.1 hk).1
  have hy : ys[0]? = some (ys[0]'(by rw [hcs.len]; exact h0)) := List.getElem?_eq_getElem _
  have hkv := rep_val (qO (hcs.each 0 _ _ hk hy))
  have hc0 := (hcell 0 _ hy).1
  rw [hkv] at hc0
  have he : (execOp a.eval o).run Tryz.prog w = .ok (.enter 134 (#[x].map a.eval)) w := by
    unfold execOp
    rw [ho]
    simp [resolve, Deferred.ofValue, Act.eval, invoke, HasFn.h]
  unfold Oper.wp
  rw [he, Oper.upon_enter]
  have e : #[x].map a.eval = #[.pointer (some ⟨g, 0, none⟩)] := by simp [hv]
  rw [e]
  refine (fields_any g k w hc0).mono ?_
  rintro en w' ⟨v, rfl, hown, hbw⟩
  show K (a.put o.dst v) w'
  rw [hd] at hK ⊢
  have hbk : ∀ k', zU v = some k' → w.heap.size ≤ k' := fun k' hk' => (hown.lt k' (by rw [← own_slice hown]; exact hk')).1
  have h2 := hs.change d (.row 197 1 (yC id k).length (yC id k)) v none (hs.free d hn) ⟨hbw.os, hbw.tape, hbw.output, hbw.size, fun k' hk' _ => hbw.block k' hk'⟩ (fun k' h => by cases h) (fun k' hk' => .inl (hbk k' hk'))
    ⟨fieldsOf g k, by rw [fieldsA_len id g k]; exact ownsRow_base hown (Nat.zero_le _), fieldsA_cells k hgv⟩
  refine hK (upd ρ d v) _ w' (h2.put hn ?_)
  have := yY.own (M := Mut M (S2.create d (.row 197 1 (yC id k).length (yC id k))) (upd ρ d v)) (ρ := upd ρ d v) (w := w') d
  simpa [upd] using this
end Go.Proofs.YtmfbamiciieooaaGreatDoor
/- Encode, the program's, as a contract. -/
namespace Go.Proofs.YtmfbamiciieooaaGreatDoor
set_option maxRecDepth 100000
set_option maxHeartbeats 16000000
open Go Go.RowKit
set_option linter.unusedSimpArgs false
attribute [local irreducible] zY zZ Step zX Sub zD Fn
/-- the values that fields tells, of an entry of kind k -/
def xD (k s y u v x : Int) : List Int := if k = 1 then [s, y, u, v, x] else [s]
/-- the bytes so far: the kind's, and the first i values' -/
def encUp (k : Int) (vals : List Int) (i : Nat) : List Int := IntKind.u8.wrap k :: (vals.take i).flatMap (bytesOf 8)
def cellsOf (k s y u v x : Int) : List PV := [.val (.int .i64 k), .val (.int .u64 s), .val (.int .u64 y), .val (.int .u64 u), .val (.int .u64 v), .val (.int .u64 x)]
theorem encUp_succ (k : Int) (vals : List Int) (i : Nat) (h : i < vals.length) : encUp k vals (i + 1) = encUp k vals i ++ bytesOf 8 (vals.getD i 0) := by
  have e : vals.take (i + 1) = vals.take i ++ [vals.getD i 0] := by
    rw [List.take_add_one, List.getElem?_eq_getElem h]
    simp [List.getD, h]
  unfold encUp
  rw [e, List.flatMap_append, List.cons_append]
  simp
def encO (k s y u v x : Int) (i : Nat) : AS :=
  ⟨[(2, .p (.val (.slice none 0 0))), (3, .p (.val (.int .i64 0))), (4, .own 14), (15, .own 15), (16, .p (.val (.int .i64 (yC 1 k).length))), (17, .p (.val (.int .i64 i)))],
   [(1, .box 70 ((cellsOf k s y u v x).map AV.p)), (14, vF 5 (encUp k (xD k s y u v x) i)), (15, .row 197 1 (yC 1 k).length (yC 1 k))], .any⟩
def encI (k s y u v x : Int) (i j : Nat) : AS :=
  ⟨[(2, .p (.val (.slice none 0 0))), (3, .p (.val (.int .i64 0))), (4, .own 14), (6, .ptr 1 (i + 1)), (15, .own 15), (16, .p (.val (.int .i64 (yC 1 k).length))), (17, .p (.val (.int .i64 i))), (21, .p (.val (.int .i64 j)))],
   [(1, .box 70 ((cellsOf k s y u v x).map AV.p)), (14, vF 5 (encUp k (xD k s y u v x) i ++ bytesOf j ((xD k s y u v x).getD i 0))), (15, .row 197 1 (yC 1 k).length (yC 1 k))], .any⟩
theorem fieldsA_kill (k : Int) (id : Nat) (h : id ≠ 1) : (yC 1 k).map (AV.kill id) = yC 1 k := by
  have e : ∀ j, AV.kill id (.ptr 1 j) = .ptr 1 j := fun j => by
    show (if 1 = id then AV.any else AV.ptr 1 j) = _
    rw [if_neg (fun h' => h h'.symm)]
  unfold yC
  split
  · simp only [List.map_cons, List.map_nil, e]
  · split
    · simp only [List.map_cons, List.map_nil, e]
    · rfl
/-- the row of the fields, whatever is made anew -/
theorem rowF_kill (k : Int) (id : Nat) (h : id ≠ 1) : (some (Blk.row 197 1 (yC 1 k).length ((yC 1 k).map (AV.kill id))) : Option Blk) = some (.row 197 1 (yC 1 k).length (yC 1 k)) := by
  rw [fieldsA_kill k id h]
theorem rowF_kill2 (k : Int) (id id2 : Nat) (h : id ≠ 1) (h2 : id2 ≠ 1) : (some (Blk.row 197 1 (yC 1 k).length (((yC 1 k).map (AV.kill id)).map (AV.kill id2))) : Option Blk) = some (.row 197 1 (yC 1 k).length (yC 1 k)) := by
  rw [fieldsA_kill k id h, fieldsA_kill k id2 h2]
theorem fieldsA_get (k : Int) (i : Nat) (hi : i < (yC 1 k).length) : (yC 1 k)[((i : Int)).toNat * 1]? = some (.ptr 1 (i + 1)) := by
  rw [Nat.mul_one, Int.toNat_natCast]
  unfold yC at hi ⊢
  by_cases h1 : k = 1
  · rw [if_pos h1] at hi ⊢
    match i with
    | 0 | 1 | 2 | 3 | 4 => rfl
    | i + 5 => exact absurd hi (by simp)
  · rw [if_neg h1] at hi ⊢
    by_cases h2 : k = 2 ∨ k = 3
    · rw [if_pos h2] at hi ⊢
      match i with
      | 0 => rfl
      | i + 1 => simp at hi
    · rw [if_neg h2] at hi; simp at hi
theorem fields_len (k s y u v x : Int) (i : Nat) (hi : i < (yC 1 k).length) : i < (xD k s y u v x).length := by
  unfold yC at hi
  unfold xD
  by_cases h1 : k = 1
  · rw [if_pos h1] at hi ⊢; exact hi
  · rw [if_neg h1] at hi ⊢
    by_cases h2 : k = 2 ∨ k = 3
    · rw [if_pos h2] at hi; exact hi
    · rw [if_neg h2] at hi; simp at hi
theorem cells_get (k s y u v x : Int) (i : Nat) (hi : i < (yC 1 k).length) : ((cellsOf k s y u v x).map AV.p)[i + 1]? = some (.p (.val (.int .u64 ((xD k s y u v x).getD i 0)))) := by
  unfold yC at hi
  unfold xD
  by_cases h1 : k = 1
  · rw [if_pos h1] at hi ⊢
    match i with
    | 0 | 1 | 2 | 3 | 4 => rfl
    | i + 5 => exact absurd hi (by simp)
  · rw [if_neg h1] at hi ⊢
    by_cases h2 : k = 2 ∨ k = 3
    · rw [if_pos h2] at hi
      match i with
      | 0 => rfl
      | i + 1 => simp at hi
    · rw [if_neg h2] at hi; simp at hi
theorem valsOf_range (k s y u v x : Int) (h0 : 0 ≤ s) (h1 : s < 18446744073709551616) (h2 : 0 ≤ y) (h3 : y < 18446744073709551616) (h4 : 0 ≤ u) (h5 : u < 18446744073709551616) (h6 : 0 ≤ v) (h7 : v < 18446744073709551616) (h8 : 0 ≤ x) (h9 : x < 18446744073709551616) (i : Nat) :
    0 ≤ (xD k s y u v x).getD i 0 ∧ (xD k s y u v x).getD i 0 < 18446744073709551616 := by
  unfold xD
  by_cases hk : k = 1
  · rw [if_pos hk]
    match i with
    | 0 => exact ⟨h0, h1⟩
    | 1 => exact ⟨h2, h3⟩
    | 2 => exact ⟨h4, h5⟩
    | 3 => exact ⟨h6, h7⟩
    | 4 => exact ⟨h8, h9⟩
    | i + 5 => exact ⟨Int.le_refl 0, (by decide : (0 : Int) < 18446744073709551616)⟩
  · rw [if_neg hk]
    match i with
    | 0 => exact ⟨h0, h1⟩
    | i + 1 => exact ⟨Int.le_refl 0, (by decide : (0 : Int) < 18446744073709551616)⟩
theorem encUp_len (k : Int) (vals : List Int) (i : Nat) : (encUp k vals i).length = 1 + 8 * min i vals.length := by
  unfold encUp
  rw [List.length_cons]
  have : ∀ l : List Int, (l.flatMap (bytesOf 8)).length = 8 * l.length := by
    intro l
    induction l with
    | nil => rfl
    | cons a r ih => simp only [List.flatMap_cons, List.length_append, List.length_cons, bytesOf_length, ih]; omega
  rw [this, List.length_take]
  omega
theorem fieldsA_le (k : Int) : (yC 1 k).length ≤ 5 := by
  unfold yC
  split
  · decide
  · split <;> decide
theorem pow8 (j : Nat) : (2 : Int) ^ (8 * (j : Int)).toNat = 256 ^ j := by
  have : (8 * (j : Int)).toNat = 8 * j := by omega
  rw [this, Int.pow_mul]
  rfl
theorem encUp_all (k s y u v x : Int) (hm : mayB k s y u v x = true) : encUp k (xD k s y u v x) (yC 1 k).length = encL k s y u v x := by
  have hw : IntKind.u8.wrap k = k % 256 := by simp [IntKind.wrap, IntKind.signed, IntKind.bits]
  have hk : k = 1 ∨ k = 2 ∨ k = 3 := by
    unfold mayB at hm
    by_cases h1 : k = 1
    · exact .inl h1
    · by_cases h2 : k = 2
      · exact .inr (.inl h2)
      · by_cases h3 : k = 3
        · exact .inr (.inr h3)
        · simp [h1, h2, h3] at hm
  unfold encUp encL xD yC
  rw [hw]
  rcases hk with rfl | rfl | rfl <;> simp
theorem enc_fn (k s y u v x : Int) (h0 : 0 ≤ s) (h1 : s < 18446744073709551616) (h2 : 0 ≤ y) (h3 : y < 18446744073709551616) (h4 : 0 ≤ u) (h5 : u < 18446744073709551616) (h6 : 0 ≤ v) (h7 : v < 18446744073709551616) (h8 : 0 ≤ x) (h9 : x < 18446744073709551616) :
    Fn Tryz.prog 131 [entV k s y u v x] (.tup (if mayB k s y u v x then [.sl (byts (encL k s y u v x)), .val (.int .i64 0)] else [.sl [], .val (.int .i64 1)])) := by
  refine z8 Tryz.func131 rfl Tryz.ntmps131 (Nat.le_of_ble_eq_true rfl) ?_
  repeat' (first | (refine zZ.is ?_; first | refine zZ.seq ?_ | (refine zZ.iq 0 ?_; refine zZ.rqe _ K_q K_4 ?_; (refine zY.m rfl rfl (w_boxA rfl rfl rfl (by decide)) ?_); (refine zY.v rfl rfl (yB rfl rfl rfl (by decide)) ?_); (refine zY.v rfl rfl (yB rfl rfl rfl (by decide)) ?_); refine zY.nil ?_) | (refine zZ.iq 1 ?_; refine zZ.rqc _ K_e K_4 ?_; (refine zY.v rfl rfl (yM rfl rfl rfl (by rfl) (by rfl) rfl (by decide)) ?_); (refine zY.v rfl rfl (by exact zL (may_fn _ _ _ _ _ _ h2 h3) rfl rfl rfl (by decide)) ?_); (refine zY.v rfl rfl (r_notB rfl rfl (by rfl) rfl (by decide)) ?_); refine zY.nil ?_) | (refine zZ.iq 2 ?_; refine zZ.rqc _ K_e K_4 ?_; (refine zY.v rfl rfl (yB rfl rfl rfl (by decide)) ?_); (refine zY.v rfl rfl (yB rfl rfl rfl (by decide)) ?_); refine zY.nil ?_) | (refine zZ.iq 3 ?_; refine zZ.rqc _ K_e K_4 ?_; (refine zY.v rfl rfl (yN rfl rfl rfl (by decide)) ?_); (refine zY.v rfl rfl (yX rfl rfl rfl rfl rfl (by decide)) ?_); (refine zY.v rfl rfl (w_conv rfl rfl (by rfl) rfl (by decide)) ?_); (refine zY.m rfl rfl (w_buildB rfl (by decide) (by decide) (by decide) (by decide) (by rfl) (by rfl) (by rfl) (by rfl) rfl (by decide)) ?_); (refine zY.v rfl rfl (a_assignO rfl rfl rfl (by decide)) ?_); refine zY.nil ?_) | (refine zZ.isR (id := 4) ?_; refine zZ.xW [1, 2, 3, 4] [1, 2, 9, 14, 15, 16, 32, 33] (by repeat' first | exact zG.nil | apply zG.p rfl | apply zG.ptr rfl | apply zG.own rfl) (by repeat' first | exact zO.nil | apply zO.boxP rfl rfl | apply zO.vF rfl | apply zO.skip) ?_; (refine zY.m rfl rfl (w_fields rfl rfl rfl rfl rfl (by decide)) ?_); (refine zY.v rfl rfl (w_lenO rfl rfl rfl rfl (by decide)) ?_); (refine zY.v rfl rfl (yE rfl rfl rfl (by decide)) ?_); refine zY.nil ?_) | refine zZ.cond rfl (fun h => ?_) (fun h => ?_) | refine zZ.skip ?_ | refine zZ.block ?_ | refine zZ.ret ?_) | refine zB.r ?_)
  · have hm : mayB k s y u v x = false := by simpa using h
    rw [if_neg (by simp [hm])]
    exact ⟨.inl rfl, _, sub_nil (d := 2) rfl, .tup (rs := [.tmp 2, .tmp 3]) rfl (by decide) (.cons (.tmp rfl) (.cons (.tmp rfl) .nil))⟩
  · have hm : mayB k s y u v x = true := by simpa using h
    have h5l := fieldsA_le k
    refine zZ.loop (encO k s y u v x) (fun i => i ≤ (yC 1 k).length) (fun i => (yC 1 k).length - i) 0 ?h0 (Nat.zero_le _) ?rd
    case h0 =>
      refine sub_keep (is := [2, 3, 4, 15, 16, 17]) (js := [1, 14, 15]) ?_ (.boxP rfl rfl (.vF rfl (.some (rowF_kill k 15 (by decide)) .nil)))
      repeat' first | exact zG.nil | apply zG.p rfl | apply zG.ptr rfl | apply zG.own rfl | apply zG.clo rfl | apply zG.pt rfl | apply zG.tup rfl | apply zG.skip
    case rd =>
      intro i hi
      have hV := valsOf_range k s y u v x h0 h1 h2 h3 h4 h5 h6 h7 h8 h9 i
      by_cases hc : i < (yC 1 k).length
      · have hb : decide ((i : Int) < ((yC 1 k).length : Int)) = true := by simpa using hc
        have f1 := fieldsA_get k i hc
        have f2 := cells_get k s y u v x i hc
        have f3 : (0 : Int) ≤ (i : Int) ∧ ((i : Int)).toNat < (yC 1 k).length := by omega
        repeat' ((refine zZ.is ?_; first | refine zZ.seq ?_ | (refine zZ.isR (id := 5) ?_; refine zZ.xW [2, 3, 4, 6, 7, 15, 16, 17, 18, 21, 22] [1, 2, 9, 14, 15, 16, 32, 33] (by repeat' first | exact zG.nil | apply zG.p rfl | apply zG.own rfl | apply zG.skip) (by repeat' first | exact zO.nil | apply zO.boxP rfl rfl | apply zO.vF rfl | apply zO.some rfl | apply zO.skip) ?_; (refine zY.v rfl rfl (r_lss rfl rfl rfl (by rfl) rfl (by decide)) ?_); refine zY.nil ?_) | (refine zZ.isR (id := 6) ?_; refine zZ.xW [2, 3, 4, 6, 7, 15, 16, 17, 18, 21, 22] [1, 2, 9, 14, 15, 16, 32, 33] (by repeat' first | exact zG.nil | apply zG.p rfl | apply zG.own rfl | apply zG.skip) (by repeat' first | exact zO.nil | apply zO.boxP rfl rfl | apply zO.vF rfl | apply zO.some rfl | apply zO.skip) ?_; (refine zY.v rfl rfl (by exact w_indexO rfl rfl rfl rfl (by omega) rfl (by decide)) ?_); (refine zY.v rfl rfl (by exact w_loadP rfl rfl rfl (by exact f1) rfl (by decide)) ?_); (refine zY.v rfl rfl (a_assignR rfl rfl rfl (by decide)) ?_); refine zY.nil ?_) | (refine zZ.iq 7 ?_; refine zZ.rqd _ K_6 K_4 ?_; (refine zY.v rfl rfl (yE rfl rfl rfl (by decide)) ?_); refine zY.nil ?_) | refine zZ.yF rfl (by assumption) ?_ | refine zZ.skip ?_ | refine zZ.block ?_))
        refine zZ.loop (encI k s y u v x i) (fun j => j ≤ 8) (fun j => 8 - j) 0 ?h0 (Nat.zero_le _) ?rd
        case h0 =>
          have e : encUp k (xD k s y u v x) i = encUp k (xD k s y u v x) i ++ bytesOf 0 ((xD k s y u v x).getD i 0) := by simp [bytesOf]
          unfold encI
          rw [← e]
          exact yL K_1f K_r
        case rd =>
          intro j hj
          by_cases hj8 : j < 8
          · have hb8 : decide ((j : Int) < 8) = true := by simp; omega
            have hj8' : (j : Int) < 8 := by omega
            have g1 : (xD k s y u v x).getD i 0 / 2 ^ (8 * (j : Int)).toNat = (xD k s y u v x).getD i 0 / 256 ^ j := by rw [pow8]
            have g2 : IntKind.u8.wrap ((xD k s y u v x).getD i 0 / 256 ^ j) = (xD k s y u v x).getD i 0 / 256 ^ j % 256 := by simp [IntKind.wrap, IntKind.signed, IntKind.bits]
            have g3 : (encUp k (xD k s y u v x) i ++ bytesOf j ((xD k s y u v x).getD i 0)).length + [(xD k s y u v x).getD i 0 / 256 ^ j % 256].length ≤ 140737488355328 := by
              rw [List.length_append, encUp_len, bytesOf_length, List.length_singleton]
              have : min i (xD k s y u v x).length ≤ i := Nat.min_le_left _ _
              omega
            repeat' (first | (refine zZ.is ?_; first | refine zZ.seq ?_ | (refine zZ.iq 8 ?_; refine zZ.rqd _ K_6 K_4 ?_; (refine zY.v rfl rfl (r_lss rfl rfl rfl (by rfl) rfl (by decide)) ?_); refine zY.nil ?_) | (refine zZ.iq 9 ?_; refine zZ.rqd _ K_6 K_4 ?_; (refine zY.v rfl rfl (yE rfl rfl rfl (by decide)) ?_); (refine zY.v rfl rfl (yB rfl rfl rfl (by decide)) ?_); refine zY.nil ?_) | (refine zZ.iq 10 ?_; refine zZ.rqd _ K_6 K_4 ?_; (refine zY.v rfl rfl (a_moveO rfl rfl rfl (by decide)) ?_); (refine zY.v rfl rfl (a_moveR rfl rfl rfl (by decide)) ?_); (refine zY.v rfl rfl (a_nilR rfl rfl rfl (by decide)) ?_); (refine zY.v rfl rfl (by exact yX rfl rfl rfl (by exact f2) rfl (by decide)) ?_); (refine zY.v rfl rfl (yE rfl rfl rfl (by decide)) ?_); (refine zY.v rfl rfl (by exact a_mul rfl rfl rfl (by exact wrap_i64 _ (by omega)) rfl (by decide)) ?_); (refine zY.v rfl rfl (by exact a_shr rfl rfl rfl (by omega) (by (simp only [IntKind.bits]; omega)) (by exact g1) rfl (by decide)) ?_); (refine zY.v rfl rfl (by exact w_conv rfl rfl (by exact g2) rfl (by decide)) ?_); (refine zY.m rfl rfl (w_buildB rfl (by decide) (by decide) (by decide) (by decide) (by rfl) (by rfl) (by rfl) (by rfl) rfl (by decide)) ?_); (refine zY.w rfl (by exact w_appOB rfl rfl rfl rfl rfl (by exact g3) rfl rfl (by decide)) ?_); (refine zY.v rfl rfl (a_assignO rfl rfl rfl (by decide)) ?_); refine zY.nil ?_) | (refine zZ.iq 11 ?_; refine zZ.rqd _ K_6 K_4 ?_; (refine zY.v rfl rfl (by exact a_add rfl rfl rfl (by exact wrap_i64 _ (by omega)) rfl (by decide)) ?_); (refine zY.v rfl rfl (yE rfl rfl rfl (by decide)) ?_); refine zY.nil ?_) | refine zZ.yF rfl (by assumption) ?_ | refine zZ.skip ?_ | refine zZ.block ?_) | refine zB.n ?_)
            refine ⟨j + 1, ?_, by omega, by omega⟩
            have e : encUp k (xD k s y u v x) i ++ bytesOf (j + 1) ((xD k s y u v x).getD i 0) = encUp k (xD k s y u v x) i ++ bytesOf j ((xD k s y u v x).getD i 0) ++ [(xD k s y u v x).getD i 0 / 256 ^ j % 256] := by rw [bytesOf_snoc, List.append_assoc]
            unfold encI
            rw [e]
            refine sub_keep (is := [2, 3, 4, 6, 15, 16, 17, 21]) (js := [1, 14, 15]) ?_ (.boxP rfl rfl (.vF rfl (.some (rowF_kill2 k 32 14 (by decide) (by decide)) .nil)))
            repeat' first | exact zG.nil | apply zG.p rfl | apply zG.ptr rfl | apply zG.own rfl | apply zG.clo rfl | apply zG.pt rfl | apply zG.tup rfl | apply zG.skip
          · have hb8 : decide ((j : Int) < 8) = false := by simp; omega
            obtain rfl : j = 8 := by omega
            repeat' (first | (refine zZ.is ?_; first | refine zZ.seq ?_ | (refine zZ.iq 8 ?_; refine zZ.rqd _ K_6 K_4 ?_; (refine zY.v rfl rfl (by exact r_lss rfl rfl rfl (by exact bF (by decide)) rfl (by decide)) ?_); refine zY.nil ?_) | (refine zZ.iq 12 ?_; refine zZ.rqd _ K_6 K_4 ?_; (refine zY.v rfl rfl (by exact a_add rfl rfl rfl (by exact wrap_i64 _ (by omega)) rfl (by decide)) ?_); (refine zY.v rfl rfl (yE rfl rfl rfl (by decide)) ?_); refine zY.nil ?_) | refine zZ.yH rfl (by assumption) ?_ | refine zZ.exit ?_) | refine zB.n ?_)
            refine ⟨i + 1, ?_, by omega, by omega⟩
            unfold encO
            rw [encUp_succ k _ i (fields_len k s y u v x i hc)]
            exact yL K_1g K_r
      · have hb : decide ((i : Int) < ((yC 1 k).length : Int)) = false := by simpa using hc
        obtain rfl : i = (yC 1 k).length := by omega
        repeat' ((refine zZ.is ?_; first | refine zZ.seq ?_ | (refine zZ.isR (id := 5) ?_; refine zZ.xW [2, 3, 4, 6, 7, 15, 16, 17, 18, 21, 22] [1, 2, 9, 14, 15, 16, 32, 33] (by repeat' first | exact zG.nil | apply zG.p rfl | apply zG.own rfl | apply zG.skip) (by repeat' first | exact zO.nil | apply zO.boxP rfl rfl | apply zO.vF rfl | apply zO.some rfl | apply zO.skip) ?_; (refine zY.v rfl rfl (r_lss rfl rfl rfl (by rfl) rfl (by decide)) ?_); refine zY.nil ?_) | (refine zZ.isR (id := 13) ?_; refine zZ.xW [2, 3, 4] [1, 2, 9, 14, 15, 16, 32, 33] (by repeat' first | exact zG.nil | apply zG.p rfl | apply zG.own rfl) (by repeat' first | exact zO.nil | apply zO.boxP rfl rfl | apply zO.vF rfl | apply zO.some rfl | apply zO.skip) ?_; (refine zY.v rfl rfl (a_moveO rfl rfl rfl (by decide)) ?_); (refine zY.v rfl rfl (a_assignO rfl rfl rfl (by decide)) ?_); (refine zY.v rfl rfl (yB rfl rfl rfl (by decide)) ?_); refine zY.nil ?_) | refine zZ.yH rfl (by assumption) ?_ | refine zZ.exit ?_ | refine zZ.ret ?_))
        rw [if_pos hm, ← encUp_all k s y u v x hm]
        exact ⟨.inl rfl, _, sub_freezeB (d := 2) (id := 14) rfl rfl, .tup (rs := [.tmp 2, .tmp 3]) rfl (by decide) (.cons (.tmp rfl) (.cons (.tmp rfl) .nil))⟩
end Go.Proofs.YtmfbamiciieooaaGreatDoor
/- Frames of bytes, the program's and the document's: contracts of Put. -/
namespace Go.Proofs.YtmfbamiciieooaaGreatDoor
set_option maxRecDepth 100000
set_option maxHeartbeats 16000000
open Go Go.RowKit
set_option linter.unusedSimpArgs false
attribute [local irreducible] zY zZ Step zX Sub zD Fn
theorem byts_vals (bs : List Int) : ∀ c ∈ byts bs, ∃ v, c = .val v := fun c hc => by
  simp only [byts, List.mem_map] at hc
  obtain ⟨b, _, rfl⟩ := hc
  exact ⟨_, rfl⟩
def laidS (cs : List Int) (n : Int) (many i : Nat) : AS :=
  { t := [(0, .own 1000), (1, .p (.val (.int .u64 n))), (6, .p (.val (.slice none 0 0))), (8, .p (.val (.int .i64 many))), (9, .p (.val (.int .i64 i)))], s := [(1000, vF 5 (cs ++ bytesOf i n))] }
theorem laid_fn (cs : List Int) (n : Int) (many : Nat) (hm : many ≤ 8) (hc : cs.length ≤ 1000000) :
    FnR Tryz.prog 135 [.val (.int .u64 n), .val (.int .i64 many)] (vF 5 cs) (vF 5 (cs ++ bytesOf many n)) := by
  refine fn_ofR (t := 6) Tryz.func135 rfl Tryz.ntmps135 (Nat.le_of_ble_eq_true rfl) rfl ?_
  repeat' (first | (refine zY.nil ?_) | (refine zZ.is ?_; first | refine zZ.seq ?_ | (refine zZ.isR (id := 0) ?_; refine zZ.rc [0, 1, 2] [6, 18, 1000] (r := (.v zK .e)) (h := ?_)) | (refine zZ.isR (id := 1) ?_; refine zZ.rc [0, 1, 2, 6] [6, 18, 1000] (r := (.v zV (.v zV .e))) (h := ?_)) | refine zZ.block ?_))
  refine zZ.loop (laidS cs n many) (fun i => i ≤ many) (fun i => many - i) 0 ?h0 (Nat.zero_le _) ?rd
  case h0 =>
    have e : cs = cs ++ bytesOf 0 n := by simp [bytesOf]
    unfold laidS
    rw [← e]
    exact yL K_s K_t
  case rd =>
    intro i hi
    by_cases hlt : i < many
    · have hd : decide ((i : Int) < (many : Int)) = true := by simp; omega
      have g1 : n / 2 ^ (8 * (i : Int)).toNat = n / 256 ^ i := by rw [pow8]
      have g2 : IntKind.u8.wrap (n / 256 ^ i) = n / 256 ^ i % 256 := by simp [IntKind.wrap, IntKind.signed, IntKind.bits]
      have g3 : (cs ++ bytesOf i n).length + [n / 256 ^ i % 256].length ≤ 140737488355328 := by
        rw [List.length_append, bytesOf_length, List.length_singleton]
        omega
      repeat' (first | (refine zY.nil ?_) | (refine zZ.is ?_; first | refine zZ.seq ?_ | (refine zZ.isR (id := 2) ?_; refine zZ.rc [0, 1, 6, 7, 8, 9, 10] [6, 18, 1000] (r := (.v xY .e)) (h := ?_)) | (refine zZ.isR (id := 3) ?_; refine zZ.rc [0, 1, 6, 7, 8, 9, 10] [6, 18, 1000] (r := (.v zV (.v zK .e))) (h := ?_)) | (refine zZ.isR (id := 4) ?_; refine zZ.rc [0, 1, 6, 7, 8, 9, 10] [6, 18, 1000] (r := (.v v0_1 (.v zV (.v zV (.v v32_5 (.v v39_0 (.v v6_0 (.m m20_2 (.w w55_1 (.v v1_1 .e)))))))))) (h := ?_)) | (refine zZ.isR (id := 5) ?_; refine zZ.rc [0, 1, 6, 7, 8, 9, 10] [6, 18, 1000] (r := (.v v30_5 (.v zV .e))) (h := ?_)) | refine zZ.yF rfl bA ?_ | refine zZ.skip ?_ | refine zZ.block ?_) | refine zB.n ?_)
      refine ⟨i + 1, ?_, by omega, by omega⟩
      have e : cs ++ bytesOf (i + 1) n = cs ++ bytesOf i n ++ [n / 256 ^ i % 256] := by rw [bytesOf_snoc, List.append_assoc]
      unfold laidS
      rw [e]
      exact yL K_s K_t
    · have hd : decide ((i : Int) < (many : Int)) = false := by simp; omega
      obtain rfl : i = many := by omega
      repeat' (first | (refine zY.nil ?_) | (refine zZ.is ?_; first | refine zZ.seq ?_ | (refine zZ.isR (id := 2) ?_; refine zZ.rc [0, 1, 6, 7, 8, 9, 10] [6, 18, 1000] (r := (.v xY .e)) (h := ?_)) | (refine zZ.isR (id := 6) ?_; refine zZ.rc [0, 6] [6, 18, 1000] (r := (.v v0_1 (.v v1_1 .e))) (h := ?_)) | refine zZ.yH rfl bA ?_ | refine zZ.exit ?_ | refine zZ.ret ?_))
      exact ⟨.inl rfl, _, Sub.refl _, rfl, rfl⟩
/-- a frame's bytes -/
def putF (b : List Int) : List Int := bytesOf 2 b.length ++ bytesOf 4 (moreF 0 b : Nat) ++ b
def putOk (b : List Int) : Prop := 1 ≤ b.length ∧ b.length ≤ 65535
theorem moreF_lt (sum : Nat) (b : List Int) : moreF sum b < 4294967296 := by unfold moreF; omega
theorem put_fn (b : List Int) (hb : ∀ x ∈ b, 0 ≤ x ∧ x < 256) (hl : putOk b) : Fn Tryz.prog 132 [.sl (byts b)] (.tup [.sl (byts (putF b)), .val (.int .i64 0)]) := by
  obtain ⟨hl0, hl1⟩ := hl
  have hm := moreF_lt 0 b
  have c1 := sum_fn b (by omega) hb
  have c2 := laid_fn [] (b.length : Int) 2 (by decide) (by decide)
  have c3 := laid_fn ([] ++ bytesOf 2 (b.length : Int)) ((moreF 0 b : Nat) : Int) 4 (by decide) (by rw [List.nil_append, bytesOf_length]; decide)
  have g1 : decide ((b.length : Int) < 1) = false := decide_eq_false (by omega)
  have g2 : decide ((65535 : Int) < (b.length : Int)) = false := decide_eq_false (by omega)
  have g3 : IntKind.u64.wrap (b.length : Int) = (b.length : Int) := wrap_u64 _ (by omega)
  have g4 : IntKind.u64.wrap ((moreF 0 b : Nat) : Int) = ((moreF 0 b : Nat) : Int) := wrap_u64 _ (by omega)
  have g5 : ([] ++ bytesOf 2 (b.length : Int) ++ bytesOf 4 ((moreF 0 b : Nat) : Int)).length + b.length ≤ 140737488355328 := by
    rw [List.nil_append, List.length_append, bytesOf_length, bytesOf_length]
    omega
  refine z8 Tryz.func132 rfl Tryz.ntmps132 (Nat.le_of_ble_eq_true rfl) ?_
  repeat' (first | (refine zY.is ?_; first | refine zY.nil ?_ | (refine zY.at_ 20 rfl ?_; refine zY.rc (.v v6_0 .e) ?_) | (refine zY.at_ 4 rfl ?_; refine zY.rc (.v v1_1 .e) ?_) | (refine zY.in_ [19] rfl ?_; refine zY.v rfl rfl (zL (c1) rfl rfl rfl (by decide)) ?_) | (refine zY.in_ [16] rfl ?_; refine zY.w rfl (s_callRnil (c2) (byts_vals _) rfl ⟨_, rfl, rfl⟩ rfl rfl (by decide)) ?_) | (refine zY.in_ [21] rfl ?_; refine zY.w rfl (s_callR (c3) (byts_vals _) rfl ⟨_, rfl, rfl⟩ rfl rfl rfl (by decide)) ?_)) | (refine zZ.is ?_; first | refine zZ.seq ?_ | (refine zZ.isR (id := 0) ?_; refine zZ.rc [0] [2, 6, 10, 14, 16, 19, 21, 24] (r := (.v zK (.v zK .e))) (h := ?_)) | (refine zZ.isR (id := 1) ?_; refine zZ.rc [0, 2, 3] [2, 6, 10, 14, 16, 19, 21, 24] (r := (.v zV (.v v57_0 (.v xY (.v zV (.gY zV (.gY v57_0 (.gY v45_0 (.v xC .e))))))))) (h := ?_)) | (refine zZ.isR (id := 3) ?_; refine zZ.rc [0, 2, 3] [2, 6, 10, 14, 16, 19, 21, 24] (r := (.v zV (.v v57_0 (.v v6_0 .e)))) (h := ?_)) | (refine zZ.isR (id := 4) ?_; refine zZ.rc [0, 2, 3, 4] [2, 6, 10, 14, 16, 19, 21, 24] (r := (.v v0_1 (.v zV .e))) (h := ?_)) | (refine zZ.isR (id := 5) ?_; refine zZ.rc [0, 2, 3, 4] [2, 6, 10, 14, 16, 19, 21, 24] (r := (.v v0_1 (.v zV (.w w55_0 (.v v1_1 (.v zK .e)))))) (h := ?_)) | refine zZ.yH rfl bA ?_ | refine zZ.skip ?_ | refine zZ.ret ?_))
  all_goals exact ⟨.inl rfl, _, sub_freezeB (d := 2) (id := 16) rfl rfl, .tup (rs := [.tmp 2, .tmp 3]) rfl (by decide) (.cons (.tmp rfl) (.cons (.tmp rfl) .nil))⟩
theorem put_nil : Fn Tryz.prog 132 [.sl (byts [])] (.tup [.sl (byts []), .val (.int .i64 1)]) := by
  refine z8 Tryz.func132 rfl Tryz.ntmps132 (Nat.le_of_ble_eq_true rfl) ?_
  repeat' (first | (refine zY.nil ?_) | (refine zZ.is ?_; first | refine zZ.seq ?_ | (refine zZ.isR (id := 0) ?_; refine zZ.rc [0] [2, 6, 10, 14, 16, 19, 21, 24] (r := (.v zK (.v zK .e))) (h := ?_)) | (refine zZ.isR (id := 1) ?_; refine zZ.rc [0, 2, 3] [2, 6, 10, 14, 16, 19, 21, 24] (r := (.v zV (.v v57_0 (.v v43_4 (.v zV (.gF (.gF (.gF (.v y8 .e))))))))) (h := ?_)) | (refine zZ.isR (id := 2) ?_; refine zZ.rc [0, 2, 3] [2, 6, 10, 14, 16, 19, 21, 24] (r := (.v zK (.v zK .e))) (h := ?_)) | refine zZ.yF rfl bA ?_ | refine zZ.ret ?_) | refine zB.r ?_)
  all_goals exact ⟨.inl rfl, _, sub_nil (d := 2) rfl, .tup (rs := [.tmp 2, .tmp 3]) rfl (by decide) (.cons (.tmp rfl) (.cons (.tmp rfl) .nil))⟩
theorem putF_ref (b : List Int) (hl : putOk b) : putF b = [((b.length : Int) % 256), ((b.length : Int) / 256), ((moreF 0 b : Nat) : Int) % 256, ((moreF 0 b : Nat) : Int) / 256 % 256, ((moreF 0 b : Nat) : Int) / 65536 % 256, ((moreF 0 b : Nat) : Int) / 16777216] ++ b := by
  obtain ⟨hl0, hl1⟩ := hl
  have hm := moreF_lt 0 b
  unfold putF
  generalize moreF 0 b = m at *
  simp only [bytesOf, List.cons_append, List.nil_append, List.cons.injEq, true_and, and_true]
  refine ⟨by omega, by omega, by omega⟩
/-- an entry's bytes, as a frame; none, if it may not be -/
def bytesE (k s y u v x : Int) : List Int := if mayB k s y u v x then putF (encL k s y u v x) else []
theorem encL_le2 (k s y u v x : Int) : putOk (encL k s y u v x) := by
  have : (encL k s y u v x).length = if k = 1 then 41 else 9 := by
    unfold encL
    by_cases hk : k = 1
    · rw [if_pos hk, if_pos hk]; simp [bytesOf_length]
    · rw [if_neg hk, if_neg hk]; simp [bytesOf_length]
  unfold putOk
  rw [this]
  split <;> decide
theorem bytesOf_range' : ∀ (k : Nat) (n : Int), ∀ x ∈ bytesOf k n, 0 ≤ x ∧ x < 256
  | 0, n, x, hx => by simp [bytesOf] at hx
  | k + 1, n, x, hx => by
    rw [bytesOf, List.mem_cons] at hx
    rcases hx with rfl | hx
    · omega
    · exact bytesOf_range' k (n / 256) x hx
theorem encL_range' (k s y u v x : Int) : ∀ c ∈ encL k s y u v x, 0 ≤ c ∧ c < 256 := by
  intro c hc
  unfold encL at hc
  simp only [List.cons_append, List.mem_cons, List.mem_append] at hc
  have r := bytesOf_range' 8
  rcases hc with rfl | hc | hc
  · omega
  · exact r s c hc
  · by_cases hk : k = 1
    · rw [if_pos hk] at hc
      simp only [List.mem_append] at hc
      rcases hc with ((hc | hc) | hc) | hc
      · exact r _ c hc
      · exact r _ c hc
      · exact r _ c hc
      · exact r _ c hc
    · rw [if_neg hk] at hc; simp at hc
def U (x : Int) : Prop := 0 ≤ x ∧ x < 18446744073709551616
theorem bytes_fn (k s y u v x : Int) (h0 : U s) (h2 : U y) (h4 : U u) (h6 : U v) (h8 : U x) : Fn Tryz.prog 128 [entV k s y u v x] (.p (.sl (byts (bytesE k s y u v x)))) := by
  have c1 := enc_fn k s y u v x h0.1 h0.2 h2.1 h2.2 h4.1 h4.2 h6.1 h6.2 h8.1 h8.2
  refine vY Tryz.func128 rfl Tryz.ntmps128 (Nat.le_of_ble_eq_true rfl) ?_
  unfold bytesE
  by_cases hm : mayB k s y u v x = true
  · rw [if_pos hm] at c1 ⊢
    have c2 := put_fn (encL k s y u v x) (encL_range' k s y u v x) (encL_le2 k s y u v x)
    repeat' (first | (refine zY.is ?_; first | refine zY.nil ?_ | (refine zY.at_ 12 rfl ?_; refine zY.rc (.v wQ (.v yV (.v yV (.v zK (.v zK .e))))) ?_) | (refine zY.at_ 7 rfl ?_; refine zY.rc (.v wQ (.v yV (.v yV (.v zK (.v zK .e))))) ?_) | (refine zY.in_ [9] rfl ?_; refine zY.v rfl rfl (yS (c1) rfl rfl rfl (by decide)) ?_) | (refine zY.in_ [14] rfl ?_; refine zY.v rfl rfl (yS (c2) rfl rfl rfl (by decide)) ?_)) | (refine zZ.is ?_; first | refine zZ.seq ?_ | (refine zZ.isR (id := 0) ?_; refine zZ.rc [0] [1, 2] (r := (.m yD (.v zK .e))) (h := ?_)) | (refine zZ.isR (id := 1) ?_; refine zZ.rc [1, 2] [1, 2] (r := (.v yU .e)) (h := ?_)) | (refine zZ.isR (id := 2) ?_; refine zZ.rc [2, 3] [1, 2] (r := (.v zV .e)) (h := ?_)) | (refine zZ.isR (id := 3) ?_; refine zZ.rc [2, 5] [1, 2] (r := (.v zV (.v zK .e))) (h := ?_)) | refine zZ.ret ?_))
    all_goals exact ⟨.inl rfl, gives1 rfl rfl rfl⟩
  · rw [if_neg hm] at c1 ⊢
    have c1' : Fn Tryz.prog 131 [entV k s y u v x] (.tup [.sl (byts []), .val (.int .i64 1)]) := c1
    have c2 := put_nil
    repeat' (first | (refine zY.is ?_; first | refine zY.nil ?_ | (refine zY.at_ 12 rfl ?_; refine zY.rc (.v wQ (.v yV (.v yV (.v zK (.v zK .e))))) ?_) | (refine zY.at_ 7 rfl ?_; refine zY.rc (.v wQ (.v yV (.v yV (.v zK (.v zK .e))))) ?_) | (refine zY.in_ [9] rfl ?_; refine zY.v rfl rfl (yS (c1') rfl rfl rfl (by decide)) ?_) | (refine zY.in_ [14] rfl ?_; refine zY.v rfl rfl (yS (c2) rfl rfl rfl (by decide)) ?_)) | (refine zZ.is ?_; first | refine zZ.seq ?_ | (refine zZ.isR (id := 0) ?_; refine zZ.rc [0] [1, 2] (r := (.m yD (.v zK .e))) (h := ?_)) | (refine zZ.isR (id := 1) ?_; refine zZ.rc [1, 2] [1, 2] (r := (.v yU .e)) (h := ?_)) | (refine zZ.isR (id := 2) ?_; refine zZ.rc [2, 3] [1, 2] (r := (.v zV .e)) (h := ?_)) | (refine zZ.isR (id := 3) ?_; refine zZ.rc [2, 5] [1, 2] (r := (.v zV (.v zK .e))) (h := ?_)) | refine zZ.ret ?_))
    all_goals exact ⟨.inl rfl, gives1 rfl rfl rfl⟩
end Go.Proofs.YtmfbamiciieooaaGreatDoor
/- Programs as trees: an answer, or an access and how it goes on with what that tells; how they are run. Generic over the program. -/
namespace Go.Proofs.YtmfbamiciieooaaGreatDoor
set_option maxRecDepth 100000
set_option maxHeartbeats 16000000
open Go Go.RowKit
set_option linter.unusedSimpArgs false
inductive Pr (α : Type) where
  | ret (x : α) : Pr α
  | stuck : Pr α
  | ask (q : Ned) (k : xM → Pr α) : Pr α
def Pr.bind {α β : Type} : Pr α → (α → Pr β) → Pr β
  | .ret x, f => f x
  | .stuck, _ => .stuck
  | .ask q k, f => .ask q fun r => (k r).bind f
/-- rounds, no more than so many -/
def Pr.loop {ι α : Type} (body : ι → Pr (ι ⊕ α)) : Nat → ι → Pr α
  | 0, _ => .stuck
  | n + 1, s => (body s).bind fun x => match x with
    | .inl s' => Pr.loop body n s'
    | .inr x => .ret x
theorem Pr.loop_succ {ι α : Type} (body : ι → Pr (ι ⊕ α)) (n : Nat) (s : ι) : Pr.loop body (n + 1) s = (body s).bind fun x => match x with
    | .inl s' => Pr.loop body n s'
    | .inr x => .ret x := rfl
/-- more rounds than a log has places -/
def many : Nat := 1000001
def askP (q : Ned) : Pr Int := .ask q fun r => .ret r.n
def xL (c : Int) : Pr Int := askP (qR 0 c 0 0 xQ)
def qD (c v : Int) : Pr Unit := .ask (qR 1 c v 0 xQ) fun _ => .ret ()
def casP (c a b : Int) : Pr Bool := .ask (qR 2 c a b xQ) fun r => .ret (decide (r.n = 1))
def addP (c v : Int) : Pr Int := askP (qR 3 c v 0 xQ)
def swapP (c v : Int) : Pr Int := askP (qR 4 c v 0 xQ)
/-! ### What may be asked, and answered -/
theorem U.lo {x : Int} (h : U x) : 0 ≤ x := h.1
theorem U.hi {x : Int} (h : U x) : x < 18446744073709551616 := h.2
theorem U.zero : U 0 := by unfold U; decide
/-- an access of a word, or of a thread's stream -/
structure Asked (q : Ned) : Prop where
  w : q.w = xQ
  a : U q.a
  b : U q.b
  d : ((0 ≤ q.kind ∧ q.kind ≤ 4 ∨ q.kind = 6) ∧ q.d = xQ) ∨ (q.kind = 5 ∧ ∃ bs : List Int, (∀ x ∈ bs, 0 ≤ x ∧ x < 256) ∧ bs.length ≤ 1000 ∧ q.d = .sl (byts bs))
theorem asked_word {k c a b : Int} (hk : 0 ≤ k ∧ k ≤ 4) (ha : U a) (hb : U b) : Asked (qR k c a b xQ) := ⟨rfl, ha, hb, .inl ⟨.inl hk, rfl⟩⟩
/-- what is asked may be; what is answered is good; it does not get stuck within m accesses -/
def Pr.wD {α : Type} (good : α → Prop) : Nat → Pr α → Prop
  | _, .ret x => good x
  | m, .stuck => m = 0
  | m, .ask q k => Asked q ∧ ∀ r : xM, U r.n → (k r).wD good (m - 1)
def Pr.yZ {α : Type} (good : α → Prop) (p : Pr α) : Prop := p.wD good many
def yes {α : Type} (_ : α) : Prop := True
theorem Pr.wD.le {α : Type} {good : α → Prop} : ∀ {p : Pr α} {m n : Nat}, n ≤ m → p.wD good m → p.wD good n
  | .ret _, _, _, _, h => h
  | .stuck, m, n, hm, h => by have : m = 0 := h; show n = 0; omega
  | .ask _ _, _, _, hm, h => ⟨h.1, fun r hr => Pr.wD.le (by omega) (h.2 r hr)⟩
theorem Pr.wD.bind {α β : Type} {g1 : α → Prop} {g2 : β → Prop} {f : α → Pr β} : ∀ {p : Pr α} {m : Nat}, p.wD g1 m → (∀ x, g1 x → (f x).wD g2 m) → (p.bind f).wD g2 m
  | .ret _, _, h, hf => hf _ h
  | .stuck, _, h, _ => h
  | .ask _ _, m, h, hf => ⟨h.1, fun r hr => Pr.wD.bind (h.2 r hr) fun x hx => Pr.wD.le (by omega) (hf x hx)⟩
theorem Pr.yZ.ret {α : Type} {good : α → Prop} {x : α} (h : good x) : (Pr.ret x).yZ good := h
theorem Pr.yZ.bind {α β : Type} {g1 : α → Prop} {g2 : β → Prop} {f : α → Pr β} {p : Pr α} (h : p.yZ g1) (hf : ∀ x, g1 x → (f x).yZ g2) : (p.bind f).yZ g2 := Pr.wD.bind h hf
theorem Pr.yZ.cond {α : Type} {good : α → Prop} {c : Bool} {p1 p2 : Pr α} (h1 : p1.yZ good) (h2 : p2.yZ good) : (bif c then p1 else p2).yZ good := by cases c <;> assumption
theorem Pr.yZ.condB {α : Type} {good : α → Prop} {c : Bool} {p1 p2 : Pr α} (h1 : c = true → p1.yZ good) (h2 : c = false → p2.yZ good) : (bif c then p1 else p2).yZ good := by
  cases c
  · exact h2 rfl
  · exact h1 rfl
/-- what holds behind a round -/
def Next {ι α : Type} (inv : ι → Prop) (good : α → Prop) : ι ⊕ α → Prop
  | .inl s => inv s
  | .inr x => good x
theorem Pr.wD.loop {ι α : Type} {good : α → Prop} {inv : ι → Prop} {body : ι → Pr (ι ⊕ α)} (ha : ∀ s, ∃ q k, body s = .ask q k) : ∀ (n : Nat), (∀ s, inv s → (body s).wD (Next inv good) n) → ∀ (s : ι), inv s → (Pr.loop body n s).wD good n
  | 0, _, _, _ => rfl
  | n + 1, h, s, hs => by
    have h1 := h s hs
    obtain ⟨q, k, e⟩ := ha s
    rw [e] at h1
    rw [Pr.loop_succ, e]
    refine ⟨h1.1, fun r hr => Pr.wD.bind (h1.2 r hr) fun x hx => ?_⟩
    cases x with
    | inl s' => exact Pr.wD.loop ha n (fun s hs => Pr.wD.le (by omega) (h s hs)) s' hx
    | inr x => exact hx
theorem Pr.yZ.loop {ι α : Type} {good : α → Prop} {body : ι → Pr (ι ⊕ α)} (inv : ι → Prop) (ha : ∀ s, ∃ q k, body s = .ask q k) (h : ∀ s, inv s → (body s).yZ (Next inv good)) (s : ι) (hs : inv s) : (Pr.loop body many s).yZ good := Pr.wD.loop ha many h s hs
theorem fine_ask {α : Type} {good : α → Prop} {q : Ned} {k : xM → Pr α} (hq : Asked q) (h : ∀ r : xM, U r.n → (k r).yZ good) : (Pr.ask q k).yZ good := ⟨hq, fun r hr => Pr.wD.le (by unfold many; omega) (h r hr)⟩
theorem yQ (c : Int) : (xL c).yZ U := ⟨asked_word (by decide) U.zero U.zero, fun _ h => h⟩
theorem w9 (c : Int) {v : Int} (h : U v) : (qD c v).yZ yes := ⟨asked_word (by decide) h U.zero, fun _ _ => trivial⟩
theorem vW (c : Int) {a b : Int} (ha : U a) (hb : U b) : (casP c a b).yZ yes := ⟨asked_word (by decide) ha hb, fun _ _ => trivial⟩
theorem fine_add (c : Int) {v : Int} (h : U v) : (addP c v).yZ U := ⟨asked_word (by decide) h U.zero, fun _ h => h⟩
theorem fine_swap (c : Int) {v : Int} (h : U v) : (swapP c v).yZ U := ⟨asked_word (by decide) h U.zero, fun _ h => h⟩
/-! ### How they are run -/
inductive Ans (σ : Type) where
  | ret (r : xM) (s : σ)
  | need (q : Ned) (s : σ)
  | out
inductive Held (σ α : Type) where
  | done (x : α) (s : σ)
  | need (q : Ned) (s : σ)
  | stuck
def Held.bind {σ α β : Type} (m : Held σ α) (f : α → σ → Held σ β) : Held σ β := match m with
  | .done x s => f x s
  | .need q s => .need q s
  | .stuck => .stuck
theorem Held.zW {σ α β : Type} (x : α) (s : σ) (f : α → σ → Held σ β) : (Held.done x s).bind f = f x s := rfl
theorem Held.zA {σ α β : Type} (q : Ned) (s : σ) (f : α → σ → Held σ β) : (Held.need q s : Held σ α).bind f = .need q s := rfl
theorem Held.zQ {σ α β : Type} (f : α → σ → Held σ β) : (Held.stuck : Held σ α).bind f = .stuck := rfl
def Pr.run {σ α : Type} (st : σ → Ned → Ans σ) : Pr α → σ → Held σ α
  | .ret x, s => .done x s
  | .stuck, _ => .stuck
  | .ask q k, s => match st s q with
    | .ret r s' => (k r).run st s'
    | .need q s' => .need q s'
    | .out => .stuck
theorem zC {σ α : Type} (st : σ → Ned → Ans σ) (x : α) (s : σ) : (Pr.ret x).run st s = .done x s := rfl
theorem run_ask {σ α : Type} (st : σ → Ned → Ans σ) (q : Ned) (k : xM → Pr α) (s : σ) : (Pr.ask q k).run st s = match st s q with
    | .ret r s' => (k r).run st s'
    | .need q s' => .need q s'
    | .out => .stuck := by rw [Pr.run]
theorem run_bind {σ α β : Type} (st : σ → Ned → Ans σ) (f : α → Pr β) : ∀ (p : Pr α) (s : σ), (p.bind f).run st s = (p.run st s).bind fun x s' => (f x).run st s'
  | .ret _, _ => rfl
  | .stuck, _ => rfl
  | .ask q k, s => by
    show Pr.run st (.ask q fun r => (k r).bind f) s = _
    rw [run_ask, run_ask]
    cases st s q with
    | ret r s' => exact run_bind st f (k r) s'
    | need q s' => rfl
    | out => rfl
theorem zJ {σ α : Type} (st : σ → Ned → Ans σ) (c : Bool) (p1 p2 : Pr α) (s : σ) : (bif c then p1 else p2).run st s = bif c then p1.run st s else p2.run st s := by cases c <;> rfl
/-- a log, told place by place -/
def wP (L : List xM) (i : Nat) (q : Ned) : Ans Nat := match L[i]? with
  | some r => .ret r (i + 1)
  | none => .need q L.length
def LogOK (L : List xM) : Prop := L.length ≤ 1000000 ∧ ∀ r ∈ L, U r.n
theorem LogOK.at {L : List xM} (h : LogOK L) {i : Nat} {r : xM} (hr : L[i]? = some r) : U r.n := h.2 r (List.mem_of_getElem? hr)
/-- what is asked of it is an access, and its state stays right -/
structure StOK {σ : Type} (st : σ → Ned → Ans σ) (ok : σ → Prop) : Prop where
  ret : ∀ s q r s', ok s → Asked q → st s q = .ret r s' → U r.n ∧ ok s'
  need : ∀ s q q' s', ok s → Asked q → st s q = .need q' s' → ok s'
theorem Pr.wD.run {σ α : Type} {good : α → Prop} {st : σ → Ned → Ans σ} {ok : σ → Prop} (H : StOK st ok) : ∀ {p : Pr α} {m : Nat} {s : σ}, p.wD good m → ok s → match p.run st s with
    | .done x s' => good x ∧ ok s'
    | .need _ s' => ok s'
    | .stuck => True
  | .ret _, _, _, h, hs => ⟨h, hs⟩
  | .stuck, _, _, _, _ => trivial
  | .ask q k, m, s, h, hs => by
    rw [run_ask]
    cases e : st s q with
    | need q' s' => exact H.need s q q' s' hs h.1 e
    | out => trivial
    | ret r s' =>
      obtain ⟨h1, h2⟩ := H.ret s q r s' hs h.1 e
      exact Pr.wD.run H (h.2 r h1) h2
theorem Pr.yZ.run {σ α : Type} {good : α → Prop} {st : σ → Ned → Ans σ} {ok : σ → Prop} (H : StOK st ok) {p : Pr α} {s : σ} (h : p.yZ good) (hs : ok s) : match p.run st s with
    | .done x s' => good x ∧ ok s'
    | .need _ s' => ok s'
    | .stuck => True := Pr.wD.run H h hs
theorem stOK_log {L : List xM} (hL : LogOK L) : StOK (wP L) (fun i => i ≤ L.length) where
  ret := fun i q r j _ _ h => by
    unfold wP at h
    cases e : L[i]? with
    | none => rw [e] at h; cases h
    | some r' => rw [e] at h; cases h; exact ⟨hL.at e, (List.getElem?_eq_some_iff.1 e).1⟩
  need := fun i q q' j _ _ h => by
    unfold wP at h
    cases e : L[i]? with
    | none => rw [e] at h; cases h; exact Nat.le_refl _
    | some r' => rw [e] at h; cases h
end Go.Proofs.YtmfbamiciieooaaGreatDoor
/- Calls whose end, and whose variables behind it, are told by a property. Generic over the program. -/
namespace Go.Proofs.YtmfbamiciieooaaGreatDoor
set_option maxRecDepth 100000
set_option maxHeartbeats 16000000
open Go Go.RowKit
set_option linter.unusedVariables false
section
variable {P : Program} {n : Nat} {o : Oper} {S : AS} {d : Nat}
/-- Something that is run, of the values that the frame holds: a call, or what is left of a body. -/
theorem call_effP {C : (Ending → World → Prop) → Prop} (hmono : ∀ R R' : Ending → World → Prop, (∀ e w', R e w' → R' e w') → C R → C R') {xs : List AV} {ids : List Nat} {B : List Blk} {Post : EV → List Blk → Prop} (hh : Hands S ids B) (hP : ∀ ev B', Post ev B' → B'.length = B.length ∧ B'.all (Blk.okE B.length) = true) (hxs : xs.all (AV.okE B.length) = true)
    {M : Nat → Nat → Prop} {w0 : Home} {ρ : Nat → Value} {a : Act} {w : World} (hs : Sat M n w0 S ρ a w) {vs : List Value}
    (hvs : ∀ (i : Nat) x v, xs[i]? = some x → vs[i]? = some v → yY (Mut M S ρ) ρ w (x.ren (sig ids)) v)
    (hf : ∀ (M' : Nat → Nat → Prop) (h : Home) (ρ' : Nat → Value), h.w = w → h.d = [] → Handed h B ρ' → Sat M' 0 h (asB B) ρ' xP w → (∀ (i : Nat) x v, xs[i]? = some x → vs[i]? = some v → yY (Mut M' (asB B) ρ') ρ' w x v) → (∀ k, 1000 ≤ k → k < 1000 + B.length → ρ' k = ρ (sig ids k)) →
      C fun e w' => ∃ ev B', Post ev B' ∧ ∃ ρ2, Sat M' 0 h (asB B') ρ2 xP w' ∧ EvOK (Mut M' (asB B') ρ2) ρ2 w' ev e) :
    C fun e w' => ∃ ev B', Post ev B' ∧ Sat M n w0 (S.after ids B') ρ a w' ∧ EvOut B.length (sig ids) (Mut M (S.after ids B') ρ) ρ w' ev e := by
  have hlen := hh.len
  have at_i : ∀ i, i < B.length → ∃ id b, ids[i]? = some id ∧ B[i]? = some b ∧ S.blk id = some (b.ren (sig ids)) ∧ sig ids (1000 + i) = id := fun i hi => by
    have h1 : ids[i]? = some (ids[i]'(by omega)) := List.getElem?_eq_getElem _
    have h2 : B[i]? = some B[i] := List.getElem?_eq_getElem _
    exact ⟨_, _, h1, h2, hh.at_ i _ _ h1 h2, sig_at h1⟩
  have box_i : ∀ i, i < B.length → ∃ mp g, ρ (sig ids (1000 + i)) = objV mp g := fun i hi => by
    obtain ⟨id, b, h1, h2, h3, h4⟩ := at_i i hi
    have hb := hs.blks id _ h3
    have hbo := List.all_eq_true.1 hh.ok b (List.mem_of_getElem? h2)
    rw [h4]
    cases b with
    | box t cs =>
      obtain ⟨g, ys, hv, _⟩ := hb
      exact ⟨false, g, hv⟩
    | row t s m cs => cases hbo
    | prow t s m cs => cases hbo
    | lent t s m cs => cases hbo
    | obj mp Q =>
      obtain ⟨g, o, hv, _⟩ := hb
      exact ⟨mp, g, hv⟩
  let T : Nat → Prop := fun k => ∃ i, i < B.length ∧ zU (ρ (sig ids (1000 + i))) = some k
  have T_mut : ∀ k c, T k → Mut M S ρ k c := fun k c ⟨i, hi, hk⟩ => by
    obtain ⟨id, b, h1, h2, h3, h4⟩ := at_i i hi
    rw [h4] at hk
    exact .inr ⟨id, _, h3, hk, (Blk.vP c).2 (Blk.wJ (List.all_eq_true.1 hh.ok b (List.mem_of_getElem? h2)) c)⟩
  have T_has : ∀ k, T k → w0.has k := fun k ⟨i, hi, hk⟩ => by
    obtain ⟨id, b, h1, h2, h3, h4⟩ := at_i i hi
    rw [h4] at hk
    exact hs.mine id _ k h3 hk
  let M' : Nat → Nat → Prop := fun k c => Mut M S ρ k c ∧ ¬ T k
  let h : Home := ⟨w, T, hs.lays, (fun g hg ht => hs.tabs g 0 hg (T_mut g 0 ht)), fun k => if 1000 ≤ k ∧ k < 1000 + B.length then some (ρ (sig ids k)) else none, (fun k v hk => by
      by_cases hc : 1000 ≤ k ∧ k < 1000 + B.length
      · simp only [hc, and_self, if_true, Option.some.injEq] at hk
        obtain ⟨mp, g, hg⟩ := box_i (k - 1000) (by omega)
        have e : 1000 + (k - 1000) = k := by omega
        rw [e] at hg
        exact ⟨mp, g, by rw [← hk, hg]⟩
      · rw [if_neg hc] at hk; cases hk), (fun k hk => if_neg (by omega)), []⟩
  have hr_i : ∀ k, 1000 ≤ k → k < 1000 + B.length → h.r k = some (ρ (sig ids k)) := fun k h1 h2 => if_pos ⟨h1, h2⟩
  have mutc : ∀ k c, Mut M' (asB B) (fun k => ρ (sig ids k)) k c → Mut M S ρ k c := by
    rintro k c (hk | ⟨id, b, hb, hk, _⟩)
    · exact hk.1
    · obtain ⟨i, rfl, hbi⟩ := yI hb
      exact T_mut k c ⟨i, (List.getElem?_eq_some_iff.1 hbi).1, hk⟩
  have hsat : Sat M' 0 h (asB B) (fun k => ρ (sig ids k)) xP h.w := by
    refine ⟨xO.refl h, fun k c hk hh2 => ?_, fun g c hg hk => ?_, rfl, rfl, fun i => .any _, fun id b hb => ?_, fun id b k hb hk => ?_, fun k v hk => ?_, fun k hk => by omega, fun i j bi bj k hi hj h1 h2 => ?_⟩
    · rcases hh2 with hh2 | hh2
      · exact absurd (Mut.lt hs hk.1) (Nat.not_lt.2 hh2)
      · exact hk.2 hh2
    · exact hs.tabs g c hg hk.1
    · obtain ⟨i, rfl, hbi⟩ := yI hb
      have hi : i < B.length := (List.getElem?_eq_some_iff.1 hbi).1
      obtain ⟨id, b2, h1, h2, h3, h4⟩ := at_i i hi
      rw [hbi] at h2
      obtain rfl := Option.some.inj h2
      have hbo := List.all_eq_true.1 hh.ok b (List.mem_of_getElem? hbi)
      have hb2 := hs.blks id _ h3
      cases b with
      | box t cs =>
        obtain ⟨g, ys, hv, hg, hhp, hc⟩ := hb2
        exact ⟨g, ys, by show ρ (sig ids (1000 + i)) = _; rw [h4]; exact hv, hg, hhp, yA.inn hc hbo fun k c _ hk => mutc k c hk⟩
      | row t s m cs => cases hbo
      | prow t s m cs => cases hbo
      | lent t s m cs => cases hbo
      | obj mp Q =>
        obtain ⟨g, o, hv, hg, hhp, hq⟩ := hb2
        exact ⟨g, o, by show ρ (sig ids (1000 + i)) = _; rw [h4]; exact hv, hg, hhp, hq⟩
    · obtain ⟨i, rfl, hbi⟩ := yI hb
      exact .inr ⟨i, (List.getElem?_eq_some_iff.1 hbi).1, hk⟩
    · by_cases hc : 1000 ≤ k ∧ k < 1000 + B.length
      · rw [hr_i k hc.1 hc.2] at hk
        exact Option.some.inj hk
      · have : h.r k = none := if_neg hc
        rw [this] at hk; cases hk
    · obtain ⟨i', rfl, hbi⟩ := yI hi
      obtain ⟨j', rfl, hbj⟩ := yI hj
      obtain ⟨id, b1, p1, p2, p3, p4⟩ := at_i i' (List.getElem?_eq_some_iff.1 hbi).1
      obtain ⟨jd, b2, q1, q2, q3, q4⟩ := at_i j' (List.getElem?_eq_some_iff.1 hbj).1
      rw [p4] at h1
      rw [q4] at h2
      have e := hs.dist id jd _ _ k p3 q3 h1 h2
      subst e
      rw [nodup_inj hh.nodup p1 q1]
  refine hmono _ _ ?_ (hf M' h _ rfl rfl ⟨fun i hi => hr_i _ (by omega) (by omega), fun k hk => hk⟩ hsat (fun i x v h1 h2 => yY.inn (hvs i x v h1 h2) (List.all_eq_true.1 hxs x (List.mem_of_getElem? h1)) fun k c _ hk => mutc k c hk) (fun _ _ _ => rfl))
  rintro e w' ⟨ev, B', hpost, ρ2, hs2, hev⟩
  obtain ⟨hB', hok'⟩ := hP ev B' hpost
  have hρ : ∀ k, 1000 ≤ k → k < 1000 + B.length → ρ2 k = ρ (sig ids k) := fun k h1 h2 => hs2.fix k _ (hr_i k h1 h2)
  have hblk : ∀ j, (S.after ids B').blk j = if j ∈ ids then (B'.map (Blk.ren (sig ids)))[ids.idxOf j]? else S.blk j := fun j => look_putBs ids _ S.s j (by simp [hlen, hB']) hh.nodup
  have mem_at : ∀ j, j ∈ ids → ∃ i b b', ids.idxOf j = i ∧ i < B.length ∧ ids[i]? = some j ∧ B[i]? = some b ∧ B'[i]? = some b' ∧ S.blk j = some (b.ren (sig ids)) ∧ sig ids (1000 + i) = j := fun j hj => by
    have h1 : ids.idxOf j < ids.length := List.idxOf_lt_length_of_mem hj
    have h2 : ids[ids.idxOf j]? = some j := by rw [List.getElem?_eq_getElem h1, List.getElem_idxOf h1]
    obtain ⟨id, b, h3, h4, h5, h6⟩ := at_i (ids.idxOf j) (by omega)
    rw [h2] at h3
    obtain rfl := Option.some.inj h3
    exact ⟨_, b, B'[ids.idxOf j]'(by omega), rfl, by omega, h2, h4, List.getElem?_eq_getElem _, h5, h6⟩
  have keys : ∀ j b, (S.after ids B').blk j = some b → ∃ b0, S.blk j = some b0 ∧ ∀ c, b.turns c → b0.turns c := fun j b hb => by
    rw [hblk] at hb
    by_cases hj : j ∈ ids
    · obtain ⟨i, b0, b', _, _, _, h3, _, h5, _⟩ := mem_at j hj
      exact ⟨_, h5, fun c _ => (Blk.vP c).2 (Blk.wJ (List.all_eq_true.1 hh.ok b0 (List.mem_of_getElem? h3)) c)⟩
    · rw [if_neg hj] at hb
      exact ⟨b, hb, fun _ h => h⟩
  have keys' : ∀ j b, S.blk j = some b → ∃ b0, (S.after ids B').blk j = some b0 := fun j b hb => by
    rw [hblk]
    by_cases hj : j ∈ ids
    · obtain ⟨i, b0, b', h1, _, _, _, h4, _, _⟩ := mem_at j hj
      rw [if_pos hj, h1]
      exact ⟨_, by rw [List.getElem?_map, h4]; rfl⟩
    · rw [if_neg hj]
      exact ⟨b, hb⟩
  have mut1 : ∀ k c, Mut M (S.after ids B') ρ k c → Mut M S ρ k c := by
    rintro k c (hk | ⟨j, b, hb, hk, ht⟩)
    · exact .inl hk
    · obtain ⟨b0, h0, h0t⟩ := keys j b hb
      exact .inr ⟨j, b0, h0, hk, h0t c ht⟩
  have mut2 : ∀ k c, Mut M S ρ k c → Mut M' (asB B') ρ2 k c := fun k c hk => by
    by_cases ht : T k
    · obtain ⟨i, hi, hk2⟩ := ht
      refine .inr ⟨1000 + i, B'[i]'(by omega), by rw [qP]; exact List.getElem?_eq_getElem _, ?_, Blk.wJ (List.all_eq_true.1 hok' _ (List.getElem_mem _)) c⟩
      rw [hρ (1000 + i) (by omega) (by omega)]
      exact hk2
    · exact .inl ⟨hk, ht⟩
  have grow : Keeps (Mut M S ρ) w w' := ⟨hs2.below.size, fun k c hk hnm => World.cell?_of_block (w := w) (hs2.below.block k hk (fun ht => hnm (T_mut k c ht)))⟩
  have sat' : Sat M n w0 (S.after ids B') ρ a w' := by
    refine ⟨⟨hs2.below.os.trans hs.below.os, hs2.below.tape.trans hs.below.tape, hs2.below.output.trans hs.below.output, Nat.le_trans hs.below.size hs2.below.size, fun k hk ht => ?_⟩, hs.out, hs.tab, hs.size, hs.defers, fun i => ((hs.tmps i).keep grow).mono fun k c _ hk => mut1 k c hk, fun j b hb => ?_, fun j b k hb hk => ?_, hs.fix, hs.free, fun i j bi bj k hi hj h1 h2 => ?_⟩
    · refine (hs2.below.block k (Nat.lt_of_lt_of_le hk hs.below.size) (fun hT => ?_)).trans (hs.below.block k hk ht)
      rcases T_has k hT with h1 | h1
      · omega
      · exact ht h1
    · rw [hblk] at hb
      by_cases hj : j ∈ ids
      · obtain ⟨i, b0, b', h1, hi, h2, h3, h4, h5, h6⟩ := mem_at j hj
        rw [if_pos hj, h1, List.getElem?_map, h4] at hb
        obtain rfl := Option.some.inj hb
        have hb2 := hs2.blks (1000 + i) b' (by rw [qP]; exact h4)
        have hbo := List.all_eq_true.1 hok' b' (List.mem_of_getElem? h4)
        cases b' with
        | box t cs =>
          obtain ⟨g, ys, hv, hg, hhp, hc⟩ := hb2
          rw [hρ (1000 + i) (by omega) (by omega), h6] at hv
          exact ⟨g, ys, hv, hg, hhp, yA.outw hc hbo (fun k c _ hk => mut2 k c (mut1 k c hk)) hρ⟩
        | row t s m cs => cases hbo
        | prow t s m cs => cases hbo
        | lent t s m cs => cases hbo
        | obj mp Q =>
          obtain ⟨g, o, hv, hg, hhp, hq⟩ := hb2
          rw [hρ (1000 + i) (by omega) (by omega), h6] at hv
          exact ⟨g, o, hv, hg, hhp, hq⟩
      · rw [if_neg hj] at hb
        refine (xG.keep (hs.blks j b hb) (fun k hk => ?_) grow (fun k c _ hk => hk)).mono mut1
        refine hs2.below.block k (Mut.blk_lt hs hb hk) (fun ⟨i, hi, hk2⟩ => ?_)
        obtain ⟨id, b2, p1, p2, p3, p4⟩ := at_i i hi
        rw [p4] at hk2
        have := hs.dist j id _ _ k hb p3 hk hk2
        subst this
        exact hj (List.mem_of_getElem? p1)
    · obtain ⟨b0, h0, _⟩ := keys j b hb
      exact hs.mine j b0 k h0 hk
    · obtain ⟨b1, h3, _⟩ := keys i bi hi
      obtain ⟨b2, h4, _⟩ := keys j bj hj
      exact hs.dist i j b1 b2 k h3 h4 h1 h2
  refine ⟨ev, B', hpost, sat', ?_⟩
  cases ev with
  | ret x =>
    intro hx
    obtain ⟨v, he, hv⟩ := hev
    exact ⟨v, he, yY.outw hv hx (fun k c _ hk => mut2 k c (mut1 k c hk)) hρ⟩
  | pan x =>
    intro hx
    obtain ⟨v, he, hv⟩ := hev
    exact ⟨v, he, yY.outw hv hx (fun k c _ hk => mut2 k c (mut1 k c hk)) hρ⟩
/-- What function f does: of such arguments, and such variables of its callers': Post tells how it ends, and these variables then. -/
def FnQ (P : Program) (f : FuncId) (args : List AV) (B : List Blk) (Post : EV → List Blk → Prop) : Prop :=
  ∀ (M : Nat → Nat → Prop) (h : Home) (ρ : Nat → Value) (vs : List Value), Handed h B ρ → Sat M 0 h (asB B) ρ xP h.w → vs.length = args.length →
    (∀ (i : Nat) x v, args[i]? = some x → vs[i]? = some v → yY (Mut M (asB B) ρ) ρ h.w x v) →
    Calls P f vs.toArray h.w fun e w' => ∃ ev B', Post ev B' ∧ ∃ ρ', Sat M 0 h (asB B') ρ' xP w' ∧ EvOK (Mut M (asB B') ρ') ρ' w' ev e
theorem FnQ.e {f : FuncId} {args : List AV} {B B' : List Blk} {ev : EV} (h : FnQ P f args B fun ev' B2 => ev' = ev ∧ B2 = B') : FnE P f args B ev B' :=
  fun M hh ρ vs h1 h2 h3 h4 => (h M hh ρ vs h1 h2 h3 h4).mono fun _ _ ⟨_, _, ⟨e1, e2⟩, ρ', h6⟩ => by subst e1 e2; exact ⟨ρ', h6⟩
/-- how a body ends -/
inductive EndQ (P : Program) (fn : Func) (Post : EV → List Blk → Prop) : Exit → AS → Prop
  | ret {e : Exit} {S S' : AS} {x : AV} {B' : List Blk} (he : e = .ret ∨ e = .normal) (hs : Sub S S') (hg : GivesA P fn S' x) (hB : HasB S' B') (hp : Post (.ret x) B') : EndQ P fn Post e S
  | pan {S S' : AS} {x : AV} {B' : List Blk} (hs : ∀ (M : Nat → Nat → Prop) (n : Nat) (w0 : Home) (ρ : Nat → Value) (a : Act) (w : World), Sat M n w0 S ρ a w → Sat M n w0 S' ρ a w) (hm : ∀ (M : Nat → Nat → Prop) (ρ : Nat → Value) k c, Mut M S' ρ k c → Mut M S ρ k c) (hx : S.x = x) (hB : HasB S' B') (hp : Post (.pan x) B') : EndQ P fn Post (.panic []) S
theorem fn_ofQ {f : FuncId} {fn : Func} {c : Code} {args : List AV} {B : List Blk} {Post : EV → List Blk → Prop} (hf : P.funcs[f]? = some fn) (hb : fn.body = some c) (hn : fn.ntmps = n) (hle : args.length ≤ n) (h1000 : n ≤ 1000)
    (h : zZ P n c { t := zipA 0 args, s := numB 1000 B } (EndQ P fn Post)) : FnQ P f args B Post := by
  intro M hh ρ vs hand hs0 hvl hvs
  refine calls_of_wp hf hb ?_
  have hsat : Sat M n hh { t := zipA 0 args, s := numB 1000 B } ρ { tmps := vs.toArray ++ Array.replicate (fn.ntmps - vs.toArray.size) undef, defers := [] } hh.w := by
    refine ⟨hs0.below, hs0.out, hs0.tab, by simp; omega, hs0.defers, fun i => ?_, hs0.blks, hs0.mine, hs0.fix, fun k hk => hh.lo k (by omega), hs0.dist⟩
    show yY _ _ _ ((look (zipA 0 args) i).getD .any) _
    rw [look_zipA]
    simp only [Nat.zero_le, if_true, Nat.sub_zero]
    cases hx : args[i]? with
    | none => exact .any _
    | some x =>
      have hi : i < vs.length := by rw [hvl]; exact (List.getElem?_eq_some_iff.1 hx).1
      have e : ({ tmps := vs.toArray ++ Array.replicate (fn.ntmps - vs.toArray.size) undef, defers := [] } : Act).tmps.getD i undef = vs[i] := by
        simp [Array.getD_eq_getD_getElem?, Array.getElem?_append, hi]
      rw [e]
      exact hvs i x vs[i] hx (List.getElem?_eq_getElem hi)
  refine h M hh ρ _ hh.w _ hsat ?_
  intro e S0 ρ0 a' w' hend hs1 hx
  generalize he0 : bare e = e0 at hend
  cases hend with
  | @pan _ S' x B' hsub hm hxx hB hp =>
    subst hxx
    cases e with
    | panic c =>
      obtain ⟨v, rfl, hv⟩ := hx
      have hs2 := hsub M n hh ρ0 a' w' hs1
      obtain ⟨h1, h2⟩ := hs2.asB hs0.defers.symm hB
      exact ⟨hs1.defers.trans hs0.defers.symm, _, B', hp, ρ0, h1, v, rfl, hv.mono fun k c _ hk => hm M ρ0 k c (h2 k c hk)⟩
    | _ => cases he0
  | @ret _ _ S' x B' he hsub hg hB hp =>
    obtain ⟨ρ', hs'⟩ := hsub M n hh ρ0 a' w' hs1
    obtain ⟨h1, h2⟩ := hs'.asB hs0.defers.symm hB
    have fin : a'.defers = [] ∧ ∃ v, (results fn a'.tmps).run P w' = .ok v w' ∧ (∃ ev B', Post ev B' ∧ ∃ ρ', Sat M 0 hh (asB B') ρ' xP w' ∧ EvOK (Mut M (asB B') ρ') ρ' w' ev (.returned v)) := by
      refine ⟨hs'.defers.trans hs0.defers.symm, ?_⟩
      cases hg with
      | none hr => exact ⟨_, results_none hr _ _ _, _, B', hp, ρ', h1, _, rfl, .any _⟩
      | one hr ht =>
        subst ht
        exact ⟨_, results_tmp hr _ _ _, _, B', hp, ρ', h1, _, rfl, (hs'.tmps _).mono fun k c _ hk => h2 k c hk⟩
      | p hr hx =>
        obtain ⟨v, g1, g2⟩ := res_oneM hs' hx
        have g3 := xX (P := P) (w := w') fn a'.tmps (rs := [_]) (vs := [v]) hr (by simp only [List.mapM_cons, List.mapM_nil, Sem.run_bind, Sem.run_pure, g1, Result.andThen_ok])
        exact ⟨v, g3, _, B', hp, ρ', h1, _, rfl, .p (g2.mono fun k c _ hk => h2 k c hk)⟩
      | tup hr hl hx =>
        obtain ⟨us, g1, g2, g4, g3⟩ := res_allM hs' hx
        have g5 := xX (P := P) (w := w') fn a'.tmps hr g1
        rw [dif_neg (by simp only [List.size_toArray]; omega)] at g5
        refine ⟨_, g5, _, B', hp, ρ', h1, _, rfl, .tup _ us (by simpa using g2) fun i c v hc hv => ?_⟩
        rw [List.getElem?_map, Option.map_eq_some_iff] at hc
        obtain ⟨y, hy, rfl⟩ := hc
        exact .p ((g3 i y v hy hv).mono fun k c _ hk => h2 k c hk)
    cases e with
    | ret => exact fin
    | normal => exact fin
    | exit id => subst he0; rcases he with h | h <;> cases h
    | goto l => subst he0; rcases he with h | h <;> cases h
    | panic c => subst he0; rcases he with h | h <;> cases h
    | outgrown => subst he0; rcases he with h | h <;> cases h
/-- a variable, of which no more is known than that it is there -/
def Blk.forget : Blk → Blk
  | .box t xs => .box t (xs.map fun _ => .any)
  | .obj mp _ => .obj mp fun _ _ => True
  | b => b
theorem xG.forget {M : Nat → Nat → Prop} {B : Nat} {v : Value} {b : Blk} {w : World} {ρ : Nat → Value} (h : xG M B ρ w v b) : xG M B ρ w v b.forget := by
  cases b with
  | box t xs =>
    obtain ⟨g, ys, e, hg, hh, hc⟩ := h
    refine ⟨g, ys, e, hg, hh, by simp [hc.len], fun i c u hu hv => ?_, hc.one⟩
    rw [List.getElem?_map, Option.map_eq_some_iff] at hu
    obtain ⟨_, _, rfl⟩ := hu
    exact .any _
  | row t s m xs => exact h
  | prow t s m xs => exact h
  | lent t s m xs => exact h
  | obj mp Q =>
    obtain ⟨g, o, e, hg, hh, _⟩ := h
    exact ⟨g, o, e, hg, hh, trivial⟩
theorem Blk.forget_turns (b : Blk) (c : Nat) : b.forget.turns c ↔ b.turns c := by cases b <;> exact Iff.rfl
/-- all but the first three variables are forgotten -/
def AS.forget (S : AS) : AS := { S with s := S.s.map fun p => (p.1, if p.1 < 1003 then p.2 else p.2.forget) }
theorem AS.xI (S : AS) (id : Nat) : S.forget.blk id = (S.blk id).map fun b => if id < 1003 then b else b.forget := by
  show look (S.s.map _) id = (look S.s id).map _
  induction S.s with
  | nil => rfl
  | cons p r ih =>
    simp only [List.map_cons, look, ih]
    by_cases h : p.1 = id
    · subst h; simp
    · rw [if_neg h, if_neg h]
theorem AS.forget_mut (S : AS) (M : Nat → Nat → Prop) (ρ : Nat → Value) (k c : Nat) : Mut M S.forget ρ k c ↔ Mut M S ρ k c := by
  have tb : ∀ id (b : Blk) c, (if id < 1003 then b else b.forget).turns c ↔ b.turns c := fun id b c => by
    by_cases h : id < 1003
    · rw [if_pos h]
    · rw [if_neg h]; exact b.forget_turns c
  constructor
  · rintro (h | ⟨id, b, hb, hk, ht⟩)
    · exact .inl h
    · rw [AS.xI, Option.map_eq_some_iff] at hb
      obtain ⟨b0, h0, rfl⟩ := hb
      exact .inr ⟨id, b0, h0, hk, (tb id b0 c).1 ht⟩
  · rintro (h | ⟨id, b, hb, hk, ht⟩)
    · exact .inl h
    · exact .inr ⟨id, _, by rw [AS.xI, hb]; rfl, hk, (tb id b c).2 ht⟩
theorem Sat.forget {M : Nat → Nat → Prop} {n : Nat} {w0 : Home} {ρ : Nat → Value} {a : Act} {w : World} (h : Sat M n w0 S ρ a w) : Sat M n w0 S.forget ρ a w := by
  have key : ∀ id b, S.forget.blk id = some b → ∃ b0, S.blk id = some b0 ∧ b = if id < 1003 then b0 else b0.forget := fun id b hb => by
    rw [AS.xI, Option.map_eq_some_iff] at hb
    obtain ⟨b0, h0, rfl⟩ := hb
    exact ⟨b0, h0, rfl⟩
  have hm : ∀ k c, Mut M S.forget ρ k c → Mut M S ρ k c := fun k c => (AS.forget_mut S M ρ k c).1
  refine ⟨h.below, h.out, h.tab, h.size, h.defers, fun i => (h.tmps i).mono fun k c _ hk => hm k c hk, fun id b hb => ?_, fun id b k hb hk => ?_, h.fix, h.free, fun i j bi bj k hi hj h1 h2 => ?_⟩
  · obtain ⟨b0, h0, rfl⟩ := key id b hb
    have h1 := (h.blks id b0 h0).mono hm
    by_cases hlt : id < 1003
    · rw [if_pos hlt]; exact h1
    · rw [if_neg hlt]; exact h1.forget
  · obtain ⟨b0, h0, _⟩ := key id b hb
    exact h.mine id b0 k h0 hk
  · obtain ⟨b1, h3, _⟩ := key i bi hi
    obtain ⟨b2, h4, _⟩ := key j bj hj
    exact h.dist i j b1 b2 k h3 h4 h1 h2
end
end Go.Proofs.YtmfbamiciieooaaGreatDoor
/- Programs' functions, whatever makes their accesses; the document's functions, over a log: contracts by trees. -/
namespace Go.Proofs.YtmfbamiciieooaaGreatDoor
set_option maxRecDepth 100000
set_option maxHeartbeats 16000000
open Go Go.RowKit
set_option linter.unusedSimpArgs false
set_option linter.unusedVariables false
attribute [local irreducible] zY zZ Step zX Sub zD zF Fn
def accQ (q : Ned) : PV := accV q.kind q.cell q.a q.b q.d
/-- a block, seen through new blocks' numbers -/
inductive KB (b : Blk) : Blk → Prop
  | refl : KB b b
  | kill {c : Blk} (i : Nat) (hi : i < 1000) (h : KB b c) : KB b (c.kill i)
theorem KB.eq {b c : Blk} (hb : ∀ i, i < 1000 → b.kill i = b) (h : KB b c) : c = b := by
  induction h with
  | refl => rfl
  | kill i hi _ ih => rw [ih, hb i hi]
theorem xB {S : AS} {id : Nat} {b c : Blk} (h : S.blk id = some c) (hb : ∀ i, i < 1000 → b.kill i = b) (hk : KB b c) : S.blk id = some b := by rw [h, hk.eq hb]
/-- What makes accesses: a closure of two variables (and one more that it turns). -/
structure Hnd where
  σ : Type
  fn : FuncId
  b0 : σ → Blk
  b1 : σ → Blk
  b2 : σ → Blk
  ok : σ → Prop
  st : σ → Ned → Ans σ
  stOK : StOK st ok
  has : HasFn Tryz.prog fn
  okE : ∀ s m, 3 ≤ m → (b0 s).okE m = true ∧ (b1 s).okE m = true ∧ (b2 s).okE m = true
  ren : ∀ s ks, (b0 s).ren (sig (1000 :: 1001 :: 1002 :: ks)) = b0 s ∧ (b1 s).ren (sig (1000 :: 1001 :: 1002 :: ks)) = b1 s ∧ (b2 s).ren (sig (1000 :: 1001 :: 1002 :: ks)) = b2 s
  nk : ∀ s, (∀ i, i < 1000 → (b0 s).kill i = b0 s) ∧ (∀ i, i < 1000 → (b1 s).kill i = b1 s) ∧ ∀ i, i < 1000 → (b2 s).kill i = b2 s
  doOK : ∀ s q, ok s → Asked q → match st s q with
    | .ret r s' => FnE Tryz.prog fn [.p (accQ q), .ptr 1000 0, .ptr 1001 0] [b0 s, b1 s, b2 s] (.ret (.p (qN r))) [b0 s', b1 s', b2 s']
    | .need q' s' => FnE Tryz.prog fn [.p (accQ q), .ptr 1000 0, .ptr 1001 0] [b0 s, b1 s, b2 s] (.pan (needA (accQ q'))) [b0 s', b1 s', b2 s']
    | .out => True
instance (H : Hnd) : HasFn Tryz.prog H.fn := H.has
def Hnd.doA (H : Hnd) : AV := .clo H.fn [1000, 1001]
def Hnd.B (H : Hnd) (s : H.σ) (bk : List Blk) : List Blk := H.b0 s :: H.b1 s :: H.b2 s :: bk
/-- What function f does, that makes accesses by H. -/
def FnH {α : Type} (H : Hnd) (f : FuncId) (args : List AV) (bk : List Blk) (res : α → AV) (bk' : α → List Blk) (good : α → Prop) (s : H.σ) (p : Pr α) : Prop :=
  H.ok s → match p.run H.st s with
  | .done x s' => good x ∧ H.ok s' ∧ FnE Tryz.prog f args (H.b0 s :: H.b1 s :: H.b2 s :: bk) (.ret (res x)) (H.b0 s' :: H.b1 s' :: H.b2 s' :: bk' x)
  | .need q s' => H.ok s' ∧ FnE Tryz.prog f args (H.b0 s :: H.b1 s :: H.b2 s :: bk) (.pan (needA (accQ q))) (H.b0 s' :: H.b1 s' :: H.b2 s' :: bk.map Blk.forget)
  | .stuck => True
theorem FnH.done {α : Type} {H : Hnd} {f : FuncId} {args : List AV} {bk : List Blk} {res : α → AV} {bk' : α → List Blk} {good : α → Prop} {s : H.σ} {p : Pr α} (h : FnH H f args bk res bk' good s p) (hok : H.ok s) {x : α} {s' : H.σ} (hm : p.run H.st s = .done x s') :
    good x ∧ H.ok s' ∧ FnE Tryz.prog f args (H.b0 s :: H.b1 s :: H.b2 s :: bk) (.ret (res x)) (H.b0 s' :: H.b1 s' :: H.b2 s' :: bk' x) := by
  have := h hok
  rw [hm] at this
  exact this
theorem FnH.need {α : Type} {H : Hnd} {f : FuncId} {args : List AV} {bk : List Blk} {res : α → AV} {bk' : α → List Blk} {good : α → Prop} {s : H.σ} {p : Pr α} (h : FnH H f args bk res bk' good s p) (hok : H.ok s) {q : Ned} {s' : H.σ} (hm : p.run H.st s = .need q s') :
    H.ok s' ∧ FnE Tryz.prog f args (H.b0 s :: H.b1 s :: H.b2 s :: bk) (.pan (needA (accQ q))) (H.b0 s' :: H.b1 s' :: H.b2 s' :: bk.map Blk.forget) := by
  have := h hok
  rw [hm] at this
  exact this
theorem Blk.okE_forget {b : Blk} {m : Nat} (h : b.okE m = true) : b.forget.okE m = true := by
  cases b with
  | box t xs =>
    show (xs.map fun _ => AV.any).all (AV.okE m) = true
    simp [AV.okE]
  | row t s n xs => cases h
  | prow t s n xs => cases h
  | lent t s n xs => cases h
  | obj mp Q => rfl
theorem forget_okE {bk : List Blk} {m : Nat} (h : bk.all (Blk.okE m) = true) : (bk.map Blk.forget).all (Blk.okE m) = true := by
  rw [List.all_map, List.all_eq_true]
  intro b hb
  exact Blk.okE_forget (List.all_eq_true.1 h b hb)
theorem zF.held {α : Type} {o : Oper} {S : AS} {K : Exit → AS → Prop} {n d : Nat} {f : FuncId} {avs xs : List AV} {bk : List Blk} {res : α → AV} {bk' : α → List Blk} {good : α → Prop} (H : Hnd) {s : H.σ} {p : Pr α} {N : AS → Prop} (ks : List Nat) (hd : o.dst = some d) (hn : d < n) (he : Enters Tryz.prog o S f avs)
    (hx : avs = xs.map (AV.ren (sig (1000 :: 1001 :: 1002 :: ks)))) (hnd : (1000 :: 1001 :: 1002 :: ks).Nodup) (h0 : S.blk 1000 = some (H.b0 s)) (h1 : S.blk 1001 = some (H.b1 s)) (h2 : S.blk 1002 = some (H.b2 s)) (hat : AtB S (1000 :: 1001 :: 1002 :: ks) ks bk)
    (hbk : bk.all (Blk.okE (bk.length + 3)) = true) (hxs : xs.all (AV.okE (bk.length + 3)) = true) (hrx : ∀ x, (res x).okE (bk.length + 3) = true) (hbk' : ∀ x, (bk' x).length = bk.length ∧ (bk' x).all (Blk.okE (bk.length + 3)) = true) (hok : H.ok s) (hf : FnH H f xs bk res bk' good s p)
    (hr : ∀ x s', p.run H.st s = .done x s' → good x → H.ok s' → N (({ S with s := vJ (1000 :: 1001 :: 1002 :: ks) (H.b0 s' :: H.b1 s' :: H.b2 s' :: (bk' x).map (Blk.ren (sig (1000 :: 1001 :: 1002 :: ks)))) S.s } : AS).put d ((res x).ren (sig (1000 :: 1001 :: 1002 :: ks)))))
    (hp : ∀ q s', p.run H.st s = .need q s' → K (.panic []) { S with s := vJ (1000 :: 1001 :: 1002 :: ks) (H.b0 s' :: H.b1 s' :: H.b2 s' :: (bk.map Blk.forget).map (Blk.ren (sig (1000 :: 1001 :: 1002 :: ks)))) S.s, x := needA (accQ q) })
    (hst : p.run H.st s ≠ .stuck) : zF Tryz.prog n o S K N := by
  have e3 : ∀ l : List Blk, (H.b0 s :: H.b1 s :: H.b2 s :: l).length = l.length + 3 := fun l => rfl
  have hall : ∀ (t : H.σ) (l : List Blk), l.all (Blk.okE (bk.length + 3)) = true → (H.b0 t :: H.b1 t :: H.b2 t :: l).all (Blk.okE (bk.length + 3)) = true := fun t l hl => by
    obtain ⟨a, b, c⟩ := H.okE t (bk.length + 3) (by omega)
    simp [a, b, c, hl]
  have hh : Hands S (1000 :: 1001 :: 1002 :: ks) (H.b0 s :: H.b1 s :: H.b2 s :: bk) := vH hnd (hall s bk hbk) (by
    obtain ⟨a, b, c⟩ := H.ren s ks
    exact ⟨by rw [a]; exact h0, by rw [b]; exact h1, by rw [c]; exact h2, hat⟩)
  have hmap : ∀ (t : H.σ) (l : List Blk), (H.b0 t :: H.b1 t :: H.b2 t :: l).map (Blk.ren (sig (1000 :: 1001 :: 1002 :: ks))) = H.b0 t :: H.b1 t :: H.b2 t :: l.map (Blk.ren (sig (1000 :: 1001 :: 1002 :: ks))) := fun t l => by
    obtain ⟨a, b, c⟩ := H.ren t ks
    simp only [List.map_cons, a, b, c]
  have hf' := hf hok
  cases m : p.run H.st s with
  | done x s' =>
    rw [m] at hf'
    obtain ⟨g1, g2, g3⟩ := hf'
    have hr' := hr x s' m g1 g2
    rw [← hmap s' (bk' x)] at hr'
    refine zF.eRet (1000 :: 1001 :: 1002 :: ks) g3 hd hn he hx hh ?_ (hall s' _ (hbk' x).2) hxs (hrx x) hr'
    show (bk' x).length + 3 = bk.length + 3
    rw [(hbk' x).1]
  | need q s' =>
    rw [m] at hf'
    have hp' := hp q s' m
    rw [← hmap s' (bk.map Blk.forget)] at hp'
    refine zF.ePan (1000 :: 1001 :: 1002 :: ks) hf'.2 he hx hh ?_ (hall s' _ (forget_okE hbk)) hxs rfl hp'
    show (bk.map Blk.forget).length + 3 = bk.length + 3
    rw [List.length_map]
  | stuck => exact absurd m hst
/-- these variables are there -/
def fgL (S : AS) : Nat → List Blk → Prop
  | _, [] => True
  | i, b :: r => (∃ b', S.blk i = some b' ∧ b'.forget = b.forget) ∧ fgL S (i + 1) r
inductive EndH {α : Type} (H : Hnd) (fn : Func) (res : α → AV) (bk : List Blk) (bk' : α → List Blk) (m : Held H.σ α) : Exit → AS → Prop
  | pan {S : AS} {q : Ned} {s' : H.σ} (hx : S.x = needA (accQ q)) (hB : hasL S 1000 [H.b0 s', H.b1 s', H.b2 s']) (hF : fgL S 1003 bk) (h : m = .need q s') : EndH H fn res bk bk' m (.panic []) S
  | ret {e : Exit} {S : AS} {x : α} {s' : H.σ} (he : e = .ret ∨ e = .normal) (hg : GivesA Tryz.prog fn S (res x)) (hB : hasL S 1000 (H.b0 s' :: H.b1 s' :: H.b2 s' :: bk' x)) (h : m = .done x s') : EndH H fn res bk bk' m e S
theorem fg_at {S : AS} : ∀ (bk : List Blk) (i : Nat), 1003 ≤ i → fgL S i bk → ∀ (j : Nat) b, (bk.map Blk.forget)[j]? = some b → S.forget.blk (i + j) = some b
  | [], _, _, _, j, b, h => by simp at h
  | c :: r, i, hi, h, 0, b, hb => by
    obtain ⟨⟨b', h1, h2⟩, _⟩ := h
    simp at hb
    subst hb
    show S.forget.blk i = _
    rw [AS.xI, h1]
    simp only [Option.map_some]
    rw [if_neg (by omega), h2]
  | c :: r, i, hi, h, j + 1, b, hb => by
    have := fg_at r (i + 1) (by omega) h.2 j b (by simpa using hb)
    rw [show i + (j + 1) = i + 1 + j by omega]
    exact this
theorem yO {α : Type} {H : Hnd} {n : Nat} {f : FuncId} {fn : Func} {c : Code} {args : List AV} {bk : List Blk} {res : α → AV} {bk' : α → List Blk} {good : α → Prop} {s : H.σ} {p : Pr α} (hf : Tryz.prog.funcs[f]? = some fn) (hb : fn.body = some c) (hn : fn.ntmps = n) (hle : args.length ≤ n) (h1000 : n ≤ 1000)
    (hfine : p.yZ good) (h : H.ok s → p.run H.st s ≠ .stuck → zZ Tryz.prog n c { t := zipA 0 args, s := numB 1000 (H.b0 s :: H.b1 s :: H.b2 s :: bk) } (EndH H fn res bk bk' (p.run H.st s))) : FnH H f args bk res bk' good s p := by
  intro hok
  have hg := Pr.yZ.run H.stOK hfine hok
  have hbody := h hok
  cases m : p.run H.st s with
  | stuck => trivial
  | done x s' =>
    rw [m] at hg hbody
    replace hbody := hbody (by simp)
    refine ⟨hg.1, hg.2, fn_ofE hf hb hn hle h1000 (hbody.mono fun e S he => ?_)⟩
    cases he with
    | pan _ _ _ h => cases h
    | ret he hg hB h => cases h; exact ⟨he, _, Sub.refl _, hg, wL hB⟩
  | need q s' =>
    rw [m] at hg hbody
    replace hbody := hbody (by simp)
    refine ⟨hg, FnQ.e (fn_ofQ hf hb hn hle h1000 (hbody.mono fun e S he => ?_))⟩
    cases he with
    | ret he hg hB h => cases h
    | @pan _ q2 s2 hx hB hF h =>
      injection h with e1 e2
      subst e1 e2
      refine .pan (S' := S.forget) (fun M n w0 ρ a w hs => hs.forget) (fun M ρ k c => (AS.forget_mut S M ρ k c).1) hx (fun i b hi => ?_) ⟨rfl, rfl⟩
      match i with
      | 0 =>
        simp at hi; subst hi
        rw [AS.xI, hB.1]; rfl
      | 1 =>
        simp at hi; subst hi
        rw [AS.xI, hB.2.1]; rfl
      | 2 =>
        simp at hi; subst hi
        rw [AS.xI, hB.2.2.1]; rfl
      | i + 3 =>
        rw [show 1000 + (i + 3) = 1003 + i by omega]
        exact fg_at bk 1003 (by omega) hF i b (by simpa using hi)
/-- an access -/
theorem do_h (H : Hnd) (s : H.σ) (q : Ned) (h : Asked q) : FnH H H.fn [.p (accQ q), .ptr 1000 0, .ptr 1001 0] [] (fun r => .p (qN r)) (fun _ => []) (fun r => U r.n) s (.ask q .ret) := fun hok => by
  have h1 := H.doOK s q hok h
  rw [run_ask]
  cases m : H.st s q with
  | ret r s' =>
    rw [m] at h1
    obtain ⟨g1, g2⟩ := H.stOK.ret s q r s' hok h m
    exact ⟨g1, g2, h1⟩
  | need q' s' =>
    rw [m] at h1
    exact ⟨H.stOK.need s q q' s' hok h m, h1⟩
  | out => trivial
end Go.Proofs.YtmfbamiciieooaaGreatDoor
/- The document's log that is gone through. -/
namespace Go.Proofs.YtmfbamiciieooaaGreatDoor
set_option maxRecDepth 100000
set_option maxHeartbeats 16000000
open Go Go.RowKit
end Go.Proofs.YtmfbamiciieooaaGreatDoor
/- Programs as trees, and the document's log. -/
namespace Go.Proofs.YtmfbamiciieooaaGreatDoor
set_option maxRecDepth 100000
set_option maxHeartbeats 16000000
open Go Go.RowKit
set_option linter.unusedSimpArgs false
/-! ### The document's log -/
structure CSt where
  i : Nat
  stop : Bool
  q : Ned
/-- what the document's function tells is what p tells -/
structure Rel {α : Type} (L : List xM) (p : Pr α) (σ : CSt) (x : α) (τ : CSt) : Prop where
  halt : σ.stop = true → τ = σ
  done : σ.stop = false → ∀ y j, p.run (wP L) σ.i = .done y j → x = y ∧ τ = ⟨j, false, σ.q⟩
  need : σ.stop = false → ∀ q j, p.run (wP L) σ.i = .need q j → τ = ⟨j, true, q⟩
end Go.Proofs.YtmfbamiciieooaaGreatDoor
/- The document's functions, over a log: contracts by trees. -/
namespace Go.Proofs.YtmfbamiciieooaaGreatDoor
set_option maxRecDepth 100000
set_option maxHeartbeats 16000000
open Go Go.RowKit
set_option linter.unusedSimpArgs false
set_option linter.unusedVariables false
attribute [local irreducible] zY zZ Step zX Sub zD zF Fn
end Go.Proofs.YtmfbamiciieooaaGreatDoor
