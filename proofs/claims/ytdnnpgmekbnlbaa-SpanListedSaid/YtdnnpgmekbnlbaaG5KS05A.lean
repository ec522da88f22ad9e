/- What two spans have in common. No condition. -/
import Derived.Test.YtdnnpgmekbnlbaaG5KS05
set_option linter.unusedVariables false
set_option linter.unusedSimpArgs false
namespace Go.Proofs.Ytdnnpgmekbnlbaa
open Go.Wam

attribute [local simp] den_seq den_region den_regionD0 den_regionD1 den_condB condB_bool den_block den_keep den_ret den_skip den_exit sops_cons sops_nil sopsR_cons sopsR_nil goR_eq readOk trace_cons trace_nil Opd.ev evs Go.Wam.look St.put enterA zipI leaveR_ret leaveR_normal rvs RV.ev
  st_guard guardB_bool st_move st_pick pickB_bool st_allocL st_alloc st_boxL st_box st_build st_buildSlice st_load st_store st_nilCheck nilC st_bin st_un st_convI convI st_convS convS st_convB convB st_mkIface st_mkFunc st_mkMap st_mkSlice mkSl st_slice st_fieldAddr fldA st_field fldV st_idx idxS_slice idxS_oslice st_idxArr idxArr st_idxStr idxStr st_idxAgg idxAgg st_extract extA st_call callA_func st_len st_lenStr lenStr st_lenArr st_lenMap st_append st_clear clearV st_maxs st_mins
  load_ptr load_lptr storeA rd wr goOn_normal goOn_exit goOn_ret outBlock_normal outBlock_exit outBlock_ret prune freeL_nil freeL_cons frV_lptr frV_tuple frV_noL fillA allNoL packA unA checkAt ev_load wantedA beq_same beqL_same AV.beq AV.beqL drawCond freshD readsOk isRead undefA optInt optIntO
  strOp aeqF_nil aeqF_cons andA_some i_add i_sub i_mul i_lss i_leq i_gtr i_geq i_quo i_rem i_eql i_neq s_eql s_neq s_lss
  s_leq s_gtr s_geq s_add e_bool n_bool e_nilp n_nilp e_ptr n_ptr e_lptr n_lptr e_agg n_agg
  e_nils n_nils e_slice n_slice e_oslice n_oslice e_eslice n_eslice e_xslice n_xslice e_nilm n_nilm e_map n_map
  e_nilFunc n_nilFunc e_func n_func q_int q_bool q_str q_struct q_ptr0 q_ptrL0 q_ptrR0 q_ptrL1 q_ptrR1 q_slice0
  q_sliceL0 q_sliceR0 q_sliceL1 q_sliceR1 q_sliceL2 q_sliceR2 q_sliceL3 q_sliceR3 q_map0 q_mapL0 q_mapR0 q_func0 q_funcL0 q_funcR0
  okR_some guardB_tuple get_alloc_eq rdAt_alloc_eq set_alloc_eq set_alloc_ne get_alloc_ne rdAt_alloc_ne
/-- What two spans have in common, and whether they have anything. -/
def clipB (f t f' t' : List UInt8) : (List UInt8 × List UInt8) × Bool :=
  if meetB f t f' t' = true then
    (if t = [] then ((f, t), true) else if t' = [] then ((f', t'), true) else ((if bytesLess f f' then f' else f, if bytesLess t' t then t' else t), true))
  else (([], []), false)
theorem less_min (a b : List UInt8) : (if (bytesLess a b || a == b) = true then a else b) = (if bytesLess b a = true then b else a) := by
  rw [less_total]; cases bytesLess b a <;> rfl
theorem sClip {f t f' t' : List UInt8} (hf : Small f) (ht : Small t) (hf' : Small f') (ht' : Small t') (H : AHeap) :
    call T 29 [.agg [.str f, .str t], .agg [.str f', .str t']] H = some (.tuple [.agg [.str (clipB f t f' t').1.1, .str (clipB f t f' t').1.2], .bool (clipB f t f' t').2], H) := by
  have e1 := sMeet hf ht hf' ht'
  unfold clipB
  rw [call_at (show T 29 = some (.ir ⟨_, _, _, _, _⟩) from T29)]
  by_cases h1 : meetB f t f' t' = true
  · by_cases h2 : t = []
    · subst h2; simp -implicitDefEqProofs [e1, fin_pure, h1]
    · by_cases h3 : t' = []
      · subst h3; simp -implicitDefEqProofs [e1, fin_pure, h1, h2]
      · have e2 := less_min t t'
        cases h4 : bytesLess f f' <;> cases h5 : bytesLess t' t <;> rw [h5] at e2 <;> simp -implicitDefEqProofs [e1, fin_pure, h1, h2, h3, foldA, max2A, min2A, h4, h5] <;> simpa using e2
  · simp -implicitDefEqProofs [e1, fin_pure, h1]
theorem rClip {f t f' t' : List UInt8} (hf : Small f) (ht : Small t) (hf' : Small f') (ht' : Small t') (H : AHeap) :
    call T 30 [.agg [.str f, .str t], .agg [.str f', .str t']] H = some (.tuple [.agg [.str (clipB f t f' t').1.1, .str (clipB f t f' t').1.2], .bool (clipB f t f' t').2], H) := by
  have e1 := rMeet hf ht hf' ht'
  unfold clipB
  rw [call_at (show T 30 = some (.ir ⟨_, _, _, _, _⟩) from T30)]
  by_cases h1 : meetB f t f' t' = true
  · by_cases h2 : t = []
    · subst h2; simp -implicitDefEqProofs [e1, fin_pure, h1]
    · by_cases h3 : t' = []
      · subst h3; simp -implicitDefEqProofs [e1, fin_pure, h1, h2]
      · have e2 := gtr_less f' f
        cases h4 : bytesLess f f' <;> cases h5 : bytesLess t' t <;> rw [h4] at e2 <;> simp -implicitDefEqProofs [e1, fin_pure, h1, h2, h3, h4, h5, e2]
  · simp -implicitDefEqProofs [e1, fin_pure, h1]
theorem sAll (H : AHeap) : call T 40 [] H = some (.agg [.str [97], .str [123]], H) := by
  rw [call_at (show T 40 = some (.ir ⟨_, _, _, _, _⟩) from T40)]
  simp -implicitDefEqProofs [fin_pure]
def fitB (f t : List UInt8) : Bool := decide (f.length ≤ 200) && decide (t.length ≤ 200)
theorem sFits (f t : List UInt8) (H : AHeap) : call T 13 [.agg [.str f, .str t]] H = some (.bool (fitB f t), H) := by
  rw [call_at (show T 13 = some (.ir ⟨_, _, _, _, _⟩) from T13)]
  unfold fitB
  by_cases h1 : f.length ≤ 200
  · have h2 : (f.length : Int) ≤ 200 := by omega
    by_cases h3 : t.length ≤ 200
    · have h4 : (t.length : Int) ≤ 200 := by omega
      simp -implicitDefEqProofs [h1, h2, h3, h4, fin_pure]
    · have h4 : ¬ (t.length : Int) ≤ 200 := by omega
      simp -implicitDefEqProofs [h1, h2, h3, h4, fin_pure]
  · have h2 : ¬ (f.length : Int) ≤ 200 := by omega
    simp -implicitDefEqProofs [h1, h2, fin_pure]
end Go.Proofs.Ytdnnpgmekbnlbaa
