/- What else is asked of a chain; when two are alike. No condition. -/
import Derived.Test.YtkahfmgdjoaiiaaV08S08F
set_option linter.unusedVariables false
set_option linter.unusedSimpArgs false
namespace Go.Proofs.Ytkahfmgdjoaiiaa
open Go.Wam

attribute [local simp] seqK_normal seqK_exit seqK_ret blockK_normal blockK_exit blockK_ret condO_bool evK_skip evK_exit evK_ret evK_keep evK_cond evK_block evK_seq_seq evK_seq_cond evK_seq_block evK_seq_loop evK_seq_skip evK_seq_keep evK_seq_exit evK_seq_ret prK_eq toSt_eq av_l av_v valS_v valT_v valS_u av_u valO_tmp
  nl_eq nl_none nl_if nlR_eq boxC_eq stL_eq storeP_ptr loadP_ptr fldP_ptr idxP_ptr inN_int callN_func strV_str fillC_nil fillC_cons pickV_bool guardK_bool kB_eq chk_some ifaceV_eq funcV_eq natV_int notL_noL leaveK_ret leaveK_normal rvsK_nil rvsK_cons rvK_tmp rvC_l rvC_v rvK_cell enterK_eq ok_l ok_v ok_u norm_eq norm_l norm_v norm_u
  Go.Wam.look zipI prune packA rd undefA allNoL convI convS lenStr lenMap extA fldV idxStr idxAgg idxS_slice idxS_oslice unA beq_same beqL_same AV.beq AV.beqL sliceV nilC clearW
  strOp aeqF_nil aeqF_cons andA_some i_add i_sub i_mul i_lss i_leq i_gtr i_geq i_quo i_rem i_eql i_neq s_eql s_neq s_lss
  s_leq s_gtr s_geq s_add e_bool n_bool e_nilp n_nilp e_ptr n_ptr e_lptr n_lptr e_agg n_agg
  e_nils n_nils e_slice n_slice e_oslice n_oslice e_eslice n_eslice e_xslice n_xslice e_nilm n_nilm e_map n_map
  e_nilFunc n_nilFunc e_func n_func q_int q_bool q_str q_struct q_ptr0 q_ptrL0 q_ptrR0 q_ptrL1 q_ptrR1 q_slice0
  q_sliceL0 q_sliceR0 q_sliceL1 q_sliceR1 q_sliceL2 q_sliceR2 q_sliceL3 q_sliceR3 q_map0 q_mapL0 q_mapR0 q_func0 q_funcL0 q_funcR0
  okR_some get_alloc_eq rdAt_alloc_eq set_alloc_eq set_alloc_ne get_alloc_ne rdAt_alloc_ne
attribute [local congr] bind_cg guardK_cg kB_cg condO_cg evK_cg
theorem eqVe (x y : Ve) : binA .eql (.struct [(0, true, 2, (.struct [(0, false, 1, .int), (1, false, 1, .int)])), (2, false, 1, .str), (3, false, 1, .bool), (4, false, 1, .int)]) (.agg (rowVe x)) (.agg (rowVe y)) = some (.bool (decide (x = y))) := by
  obtain ⟨⟨a1, a2⟩, av, ag, ab⟩ := x
  obtain ⟨⟨b1, b2⟩, bv, bg, bb⟩ := y
  simp [rowVe]
  by_cases h1 : a1 = b1 <;> by_cases h2 : a2 = b2 <;> by_cases h3 : av = bv <;> by_cases h4 : ag = bg <;> by_cases h5 : ab = bb <;> simp [h1, h2, h3, h4, h5]
theorem neVe (x y : Ve) : binA .neq (.struct [(0, true, 2, (.struct [(0, false, 1, .int), (1, false, 1, .int)])), (2, false, 1, .str), (3, false, 1, .bool), (4, false, 1, .int)]) (.agg (rowVe x)) (.agg (rowVe y)) = some (.bool !decide (x = y)) := by
  have := eqVe x y
  rw [e_agg] at this
  rw [n_agg]
  cases h : aeq (.struct [(0, true, 2, (.struct [(0, false, 1, .int), (1, false, 1, .int)])), (2, false, 1, .str), (3, false, 1, .bool), (4, false, 1, .int)]) (.agg (rowVe x)) (.agg (rowVe y)) with
  | none => rw [h] at this; cases this
  | some b => rw [h] at this; simp only [Option.map_some, Option.some.injEq, AV.bool.injEq] at this ⊢; rw [this]
theorem eqMt (x y : Mt) : binA .eql (.struct [(0, false, 1, .int), (1, false, 1, .int), (2, false, 1, .str), (3, true, 2, (.struct [(0, false, 1, .int), (1, false, 1, .int)]))]) (.agg (celMt x)) (.agg (celMt y)) = some (.bool (decide (x = y))) := by
  obtain ⟨a1, a2, a3, a4, a5⟩ := x
  obtain ⟨b1, b2, b3, b4, b5⟩ := y
  simp [celMt]
  by_cases h1 : a1 = b1 <;> by_cases h2 : a2 = b2 <;> by_cases h3 : a3 = b3 <;> by_cases h4 : a4 = b4 <;> by_cases h5 : a5 = b5 <;> simp [h1, h2, h3, h4, h5]
def eIt : EqT := .struct [(0, true, 5, (.struct [(0, false, 1, .int), (1, false, 1, .int), (2, false, 1, .str), (3, true, 2, (.struct [(0, false, 1, .int), (1, false, 1, .int)]))])), (5, false, 1, .int), (6, true, 2, (.struct [(0, false, 1, .int), (1, false, 1, .int)])), (8, false, 1, .str), (9, false, 1, .bool)]
theorem qIt (x y : It) : aeq eIt (.agg (celIt x)) (.agg (celIt y)) = some (decide (x = y)) := by
  obtain ⟨⟨a1, a2, a3, a4, a5⟩, a6, ⟨a7, a8⟩, a9, a10⟩ := x
  obtain ⟨⟨b1, b2, b3, b4, b5⟩, b6, ⟨b7, b8⟩, b9, b10⟩ := y
  simp [celIt, eIt]
  by_cases h1 : a1 = b1 <;> by_cases h2 : a2 = b2 <;> by_cases h3 : a3 = b3 <;> by_cases h4 : a4 = b4 <;> by_cases h5 : a5 = b5 <;> simp [h1, h2, h3, h4, h5]
  by_cases h6 : a6 = b6 <;> by_cases h7 : a7 = b7 <;> by_cases h8 : a8 = b8 <;> by_cases h9 : a9 = b9 <;> by_cases h10 : a10 = b10 <;> simp [h6, h7, h8, h9, h10]
theorem eqIt (x y : It) : binA .eql eIt (.agg (celIt x)) (.agg (celIt y)) = some (.bool (decide (x = y))) := by rw [e_agg, qIt]; rfl
theorem neIt (x y : It) : binA .neq eIt (.agg (celIt x)) (.agg (celIt y)) = some (.bool !decide (x = y)) := by rw [n_agg, qIt]; rfl
end Go.Proofs.Ytkahfmgdjoaiiaa
