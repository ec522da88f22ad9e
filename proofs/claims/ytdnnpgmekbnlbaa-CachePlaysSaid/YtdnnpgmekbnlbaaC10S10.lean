/- What stamps' functions tell. No condition. -/
import Derived.Test.YtdnnpgmekbnlbaaC10S05
import Derived.Test.YtdnnpgmekbnlbaaAmW
set_option linter.unusedVariables false
set_option linter.unusedSimpArgs false
namespace Go.Proofs.Ytdnnpgmekbnlbaa
open Go.Wam

attribute [local simp] den_seq den_region den_regionD0 den_regionD1 den_condB condB_bool den_block den_keep den_ret den_skip den_exit sops_cons sops_nil sopsR_cons sopsR_nil goR_eq readOk trace_cons trace_nil Opd.ev evs Go.Wam.look St.put enterA zipI leaveR_ret leaveR_normal rvs RV.ev
  st_guard guardB_bool st_move st_pick pickB_bool st_allocL st_alloc st_boxL st_box st_build st_buildSlice st_load st_store st_nilCheck nilC st_bin st_un st_convI convI st_convS convS st_convB convB st_mkIface st_mkFunc st_mkMap st_mkSlice mkSl st_slice st_fieldAddr fldA st_field fldV st_idx idxS_slice idxS_oslice st_idxArr idxArr st_idxStr idxStr st_idxAgg idxAgg st_extract extA st_call callA_func st_len st_lenStr lenStr st_lenArr st_lenMap st_append st_clear clearV st_maxs st_mins
  load_ptr load_lptr storeA rd wr goOn_normal goOn_exit goOn_ret outBlock_normal outBlock_exit outBlock_ret prune freeL_nil freeL_cons frV_lptr frV_tuple frV_noL fillA allNoL packA unA checkAt ev_load wantedA beq_same beqL_same AV.beq AV.beqL drawCond freshD readsOk isRead undefA optInt optIntO
  strOp aeqF_nil aeqF_cons andA_some i_add i_sub i_mul i_lss i_leq i_gtr i_geq i_quo i_rem i_eql i_neq s_eql s_neq s_lss
  s_leq s_gtr s_geq s_add e_bool n_bool e_nilp n_nilp e_ptr n_ptr e_lptr n_lptr e_agg n_agg
  e_nils n_nils e_slice n_slice e_oslice n_oslice e_eslice n_eslice e_xslice n_xslice e_nilm n_nilm e_map n_map
  e_nilFunc n_nilFunc e_func n_func q_int q_bool q_str q_struct q_ptr0 q_ptrL0 q_ptrR0 q_ptrL1 q_ptrR1 q_slice0
  q_sliceL0 q_sliceR0 q_sliceL1 q_sliceR1 q_sliceL2 q_sliceR2 q_sliceL3 q_sliceR3 q_map0 q_mapL0 q_mapR0 q_func0 q_funcL0 q_funcR0
  okR_some guardB_tuple get_alloc_eq rdAt_alloc_eq set_alloc_eq set_alloc_ne get_alloc_ne rdAt_alloc_ne
abbrev Stp := Int × Int
def eS (a : Stp) : AV := .agg [.int .i64 a.1, .int .i64 a.2]
def ltS (a b : Stp) : Bool := decide (a.1 < b.1) || (decide (a.1 = b.1) && decide (a.2 < b.2))
def rightT (a : Stp) : Bool := decide (0 ≤ a.1) && decide (a.1 ≤ 1099511627776) && (decide (0 ≤ a.2) && decide (a.2 ≤ 65535))
def maxS (a b : Stp) : Stp := if ltS a b = true then b else a

theorem tNaN (a : Int) (H : AHeap) : call T 65 [.int .i64 a] H = some (.bool false, H) := by
  rw [call_at (show T 65 = some (.ir ⟨_, _, _, _, _⟩) from T65)]
  simp -implicitDefEqProofs [fin_pure]
theorem tCmp (a b : Int) (H : AHeap) : call T 61 [.int .i64 a, .int .i64 b] H = some (.int .i64 (if a < b then -1 else if b < a then 1 else 0), H) := by
  rw [call_at (show T 61 = some (.ir ⟨_, _, _, _, _⟩) from T61)]
  by_cases h1 : a < b
  · simp -implicitDefEqProofs [tNaN, h1, fin_pure]
  · by_cases h2 : b < a
    · simp -implicitDefEqProofs [tNaN, h1, h2, fin_pure]
    · simp -implicitDefEqProofs [tNaN, h1, h2, fin_pure]
theorem tWithin (x a b : Int) (H : AHeap) : call T 54 [.int .i64 x, .int .i64 a, .int .i64 b] H = some (.bool (decide (a ≤ x) && decide (x ≤ b)), H) := by
  rw [call_at (show T 54 = some (.ir ⟨_, _, _, _, _⟩) from T54)]
  by_cases h1 : a ≤ x
  · simp -implicitDefEqProofs [h1, fin_pure]
  · simp -implicitDefEqProofs [h1, fin_pure]
theorem tRight (a : Stp) (H : AHeap) : call T 41 [.agg [.int .i64 a.1, .int .i64 a.2]] H = some (.bool (rightT a), H) := by
  rw [call_at (show T 41 = some (.ir ⟨_, _, _, _, _⟩) from T41)]
  unfold rightT
  have e1 := tWithin a.1 0 1099511627776
  have e2 := tWithin a.2 0 65535
  generalize (decide (0 ≤ a.1) && decide (a.1 ≤ 1099511627776)) = p at *
  generalize (decide (0 ≤ a.2) && decide (a.2 ≤ 65535)) = q at *
  cases p <;> simp -implicitDefEqProofs [e1, e2, fin_pure]
theorem tRight' (a : Stp) (H : AHeap) : call T 46 [.agg [.int .i64 a.1, .int .i64 a.2]] H = some (.bool (rightT a), H) := by
  rw [call_at (show T 46 = some (.ir ⟨_, _, _, _, _⟩) from T46)]
  unfold rightT
  by_cases h1 : 0 ≤ a.1
  · by_cases h2 : a.1 ≤ 1099511627776
    · by_cases h3 : 0 ≤ a.2
      · simp -implicitDefEqProofs [h1, h2, h3, fin_pure]
      · simp -implicitDefEqProofs [h1, h2, h3, fin_pure]
    · simp -implicitDefEqProofs [h1, h2, fin_pure]
  · simp -implicitDefEqProofs [h1, fin_pure]
theorem tOr (a b : Int) (H : AHeap) (id : Nat) (h : H.get id = some (.row false 1 [.int .i64 a, .int .i64 b])) : call T 60 [.slice id 0 2 2] H = some (.int .i64 (if a = 0 then b else a), H) := by
  rw [call_at (show T 60 = some (.ir ⟨_, _, _, _, _⟩) from T60)]
  have r := rdAt_row (H := H.top) (show H.top.get id = _ from h)
  have w1 := wrap_id (n := 1) (by omega) (by omega)
  have w2 := wrap_id (n := 2) (by omega) (by omega)
  by_cases h1 : a = 0
  · by_cases h2 : b = 0
    · simp -implicitDefEqProofs [r, h1, h2, fin_pure, den_loop, L60_0, w1, w2]
    · simp -implicitDefEqProofs [r, h1, h2, fin_pure, den_loop, L60_0, w1, w2]
  · simp -implicitDefEqProofs [r, h1, fin_pure, den_loop, L60_0, w1, w2]
theorem tCompare (a b : Stp) (H : AHeap) : call T 45 [.agg [.int .i64 a.1, .int .i64 a.2], .agg [.int .i64 b.1, .int .i64 b.2]] H = some (.int .i64 (if a.1 < b.1 then -1 else if b.1 < a.1 then 1 else if a.2 < b.2 then -1 else if b.2 < a.2 then 1 else 0), H) := by
  rw [call_at (show T 45 = some (.ir ⟨_, _, _, _, _⟩) from T45)]
  have key : ∀ a b : Int, call T 60 [.slice H.n 0 2 2] (H.top.alloc (.row false 1 [.int .i64 a, .int .i64 b])) = some (.int .i64 (if a = 0 then b else a), H.top.alloc (.row false 1 [.int .i64 a, .int .i64 b])) :=
    fun a b => tOr a b _ _ (get_alloc_same H.top _)
  have e1 := tCmp a.1 b.1 H.top
  have e2 := tCmp a.2 b.2 H.top
  have hfin : ∀ (n : Int) (x : AObj), Go.Wam.fin H (.int .i64 n) (H.top.alloc x) = H := fun n x => fin_drop' (by simp) (by simp)
  generalize h1 : (if a.1 < b.1 then (-1 : Int) else if b.1 < a.1 then 1 else 0) = c1 at *
  generalize h2 : (if a.2 < b.2 then (-1 : Int) else if b.2 < a.2 then 1 else 0) = c2 at *
  simp -implicitDefEqProofs [e1, e2, key, hfin]
  subst h1 h2
  (repeat' split) <;> simp_all <;> omega
theorem tLess (a b : Stp) (H : AHeap) : call T 23 [.agg [.int .i64 a.1, .int .i64 a.2], .agg [.int .i64 b.1, .int .i64 b.2]] H = some (.bool (ltS a b), H) := by
  rw [call_at (show T 23 = some (.ir ⟨_, _, _, _, _⟩) from T23)]
  have e1 := tCompare a b H.top
  have e2 : ltS a b = decide ((if a.1 < b.1 then (-1 : Int) else if b.1 < a.1 then 1 else if a.2 < b.2 then -1 else if b.2 < a.2 then 1 else 0) < 0) := by
    unfold ltS
    (repeat' split) <;> simp_all <;> omega
  rw [e2]
  generalize (if a.1 < b.1 then (-1 : Int) else if b.1 < a.1 then 1 else if a.2 < b.2 then -1 else if b.2 < a.2 then 1 else 0) = c at *
  simp -implicitDefEqProofs [e1, fin_pure]
theorem tLess' (a b : Stp) (H : AHeap) : call T 47 [.agg [.int .i64 a.1, .int .i64 a.2], .agg [.int .i64 b.1, .int .i64 b.2]] H = some (.bool (ltS a b), H) := by
  rw [call_at (show T 47 = some (.ir ⟨_, _, _, _, _⟩) from T47)]
  unfold ltS
  by_cases h1 : a.1 < b.1
  · simp -implicitDefEqProofs [h1, fin_pure]
  · by_cases h2 : a.1 = b.1
    · have h2' : (a.1 = b.1) = True := eq_true h2
      simp -implicitDefEqProofs [h1, h2', fin_pure]
    · simp -implicitDefEqProofs [h1, h2, fin_pure]
theorem tMax (a b : Stp) (H : AHeap) : call T 18 [.agg [.int .i64 a.1, .int .i64 a.2], .agg [.int .i64 b.1, .int .i64 b.2]] H = some (.agg [.int .i64 (maxS a b).1, .int .i64 (maxS a b).2], H) := by
  rw [call_at (show T 18 = some (.ir ⟨_, _, _, _, _⟩) from T18)]
  have e1 := tLess a b H.top
  unfold maxS
  cases h : ltS a b <;> rw [h] at e1 <;> simp -implicitDefEqProofs [e1, fin_pure]
theorem tMax' (a b : Stp) (H : AHeap) : call T 48 [.agg [.int .i64 a.1, .int .i64 a.2], .agg [.int .i64 b.1, .int .i64 b.2]] H = some (.agg [.int .i64 (maxS a b).1, .int .i64 (maxS a b).2], H) := by
  rw [call_at (show T 48 = some (.ir ⟨_, _, _, _, _⟩) from T48)]
  have e1 := tLess' a b H.top
  unfold maxS
  cases h : ltS a b <;> rw [h] at e1 <;> simp -implicitDefEqProofs [e1, fin_pure]
def fitB (f t : List UInt8) : Bool := decide (f.length ≤ 200) && decide (t.length ≤ 200)
theorem sFits (f t : List UInt8) (H : AHeap) : call T 13 [.agg [.str f, .str t]] H = some (.bool (fitB f t), H) := by
  rw [call_at (show T 13 = some (.ir ⟨_, _, _, _, _⟩) from T13)]
  unfold fitB
  by_cases h1 : f.length ≤ 200
  · have h2 : (f.length : Int) ≤ 200 := by omega
    by_cases h3 : t.length ≤ 200
    · have h4 : (t.length : Int) ≤ 200 := by omega
      simp -implicitDefEqProofs [h1, h2, h3, h4, fin_pure]
    · have h4 : ¬ (t.length : Int) ≤ 200 := by omega
      simp -implicitDefEqProofs [h1, h2, h3, h4, fin_pure]
  · have h2 : ¬ (f.length : Int) ≤ 200 := by omega
    simp -implicitDefEqProofs [h1, h2, fin_pure]
theorem small_len {s : List UInt8} (h : s.length ≤ 200) : Small s := by unfold Small; omega
end Go.Proofs.Ytdnnpgmekbnlbaa
