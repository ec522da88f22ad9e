/- No transaction: the law. No condition. -/
import Derived.Test.YtldiggjdbdfdgaaGreatS22F
import Derived.Test.YtldiggjdbdfdgaaGreatAmVa
set_option linter.unusedVariables false
set_option linter.unusedSimpArgs false
namespace Go.Proofs.YtldiggjdbdfdgaaGreat
open Go.Wam

attribute [local simp] seqK_normal seqK_exit seqK_ret blockK_normal blockK_exit blockK_ret condO_bool evK_skip evK_exit evK_ret evK_keep evK_cond evK_block evK_seq_seq evK_seq_cond evK_seq_block evK_seq_loop evK_seq_skip evK_seq_keep evK_seq_exit evK_seq_ret prK_eq toSt_eq av_l av_v valS_v valT_v valS_u av_u valO_tmp
  nl_eq nl_none nl_if nlR_eq boxC_eq stL_eq storeP_ptr loadP_ptr fldP_ptr idxP_ptr inN_int callN_func strV_str fillC_nil fillC_cons pickV_bool guardK_bool kB_eq chk_some ifaceV_eq funcV_eq natV_int notL_noL leaveK_ret leaveK_normal rvsK_nil rvsK_cons rvK_tmp rvC_l rvC_v rvK_cell enterK_eq ok_l ok_v ok_u norm_eq norm_l norm_v norm_u
  Go.Wam.look zipI prune packA rd undefA allNoL convI convS lenStr lenMap extA fldV idxStr idxAgg idxS_slice idxS_oslice unA beq_same beqL_same AV.beq AV.beqL sliceV nilC clearW
  strOp aeqF_nil aeqF_cons andA_some i_add i_sub i_mul i_lss i_leq i_gtr i_geq i_quo i_rem i_eql i_neq s_eql s_neq s_lss
  s_leq s_gtr s_geq s_add e_bool n_bool e_nilp n_nilp e_ptr n_ptr e_lptr n_lptr e_agg n_agg
  e_nils n_nils e_slice n_slice e_oslice n_oslice e_eslice n_eslice e_xslice n_xslice e_nilm n_nilm e_map n_map
  e_nilFunc n_nilFunc e_func n_func q_int q_bool q_str q_struct q_ptr0 q_ptrL0 q_ptrR0 q_ptrL1 q_ptrR1 q_slice0
  q_sliceL0 q_sliceR0 q_sliceL1 q_sliceR1 q_sliceL2 q_sliceR2 q_sliceL3 q_sliceR3 q_map0 q_mapL0 q_mapR0 q_func0 q_funcL0 q_funcR0
  okR_some get_alloc_eq rdAt_alloc_eq set_alloc_eq set_alloc_ne get_alloc_ne rdAt_alloc_ne
attribute [local congr] bind_cg guardK_cg kB_cg condO_cg evK_cg
theorem isNilF_nil : isNilF [] = true := rfl
attribute [local simp] isNilF_nil
section
variable (H : AHeap)
abbrev zRes : AV := .agg [.int .i64 0, .int .i64 0, .int .i64 0, .nils, .bool false, .int .i64 0, .int .i64 0, .str [], .int .i64 0, .int .i64 0, .int .i64 0, .int .i64 0, .int .i64 0, .int .i64 0, .int .i64 0, .int .i64 0, .int .i64 0, .nils]
theorem uNew : call T 22 [.nilp, .int .i64 1, .agg [.int .i64 0, .int .i64 0]] H = some (.tuple [.nilp, .int .i64 1], H) := by
  refine okR_eq (call_evK' (show T 22 = some (.ir ⟨_, _, _, _, _⟩) from T22) (by decide) rfl rfl ?_)
  simp -implicitDefEqProofs [fin_pure]
theorem uAnswer : call T 23 [.nilp] H = some (.tuple [.agg [.int .i64 0, .int .i64 0, .int .i64 0, .nils], .bool false], H) := by
  refine okR_eq (call_evK' (show T 23 = some (.ir ⟨_, _, _, _, _⟩) from T23) (by decide) rfl rfl ?_)
  simp -implicitDefEqProofs [fin_pure]
theorem uStatus : call T 24 [.nilp] H = some (.tuple [.int .i64 2, .agg [.int .i64 0, .int .i64 0]], H) := by
  refine okR_eq (call_evK' (show T 24 = some (.ir ⟨_, _, _, _, _⟩) from T24) (by decide) rfl rfl ?_)
  simp -implicitDefEqProofs [fin_pure]
theorem uDo (k : Int) (a b v : List UInt8) : call T 25 [.nilp, .agg [.int .i64 k, .str a, .str b, .str v]] H = some (.int .i64 1, H) := by
  refine okR_eq (call_evK' (show T 25 = some (.ir ⟨_, _, _, _, _⟩) from T25) (by decide) rfl rfl ?_)
  simp -implicitDefEqProofs [fin_pure]
theorem uWants : call T 26 [.nilp] H = some (.nils, H) := by
  refine okR_eq (call_evK' (show T 26 = some (.ir ⟨_, _, _, _, _⟩) from T26) (by decide) rfl rfl ?_)
  simp -implicitDefEqProofs [fin_pure]
theorem uHear (n : Int) : call T 27 [.nilp, .int .i64 n, zRes] H = some (.int .i64 1, H) := by
  refine okR_eq (call_evK' (show T 27 = some (.ir ⟨_, _, _, _, _⟩) from T27) (by decide) rfl rfl ?_)
  simp -implicitDefEqProofs [fin_drop]
theorem uTick : call T 28 [.nilp, .agg [.int .i64 0, .int .i64 0]] H = some (.int .i64 1, H) := by
  refine okR_eq (call_evK' (show T 28 = some (.ir ⟨_, _, _, _, _⟩) from T28) (by decide) rfl rfl ?_)
  simp -implicitDefEqProofs [fin_pure]
theorem uIdle : call T 19 [.nilp] H = some (.bool true, H) := by
  refine okR_eq (call_evK' (show T 19 = some (.ir ⟨_, _, _, _, _⟩) from T19) (by decide) rfl rfl ?_)
  simp -implicitDefEqProofs [fin_pure]
theorem lawT (k n : Int) (a b v : List UInt8) : call T 6 [.agg [.int .i64 k, .str a, .str b, .str v], .int .i64 n] H = some (.bool true, H) := by
  have a1 := alive H.top
  have u1 := uNew H.top
  have u2 := uAnswer H.top
  have u3 := uStatus H.top
  have u4 := uDo H.top
  have u5 := uWants H.top
  have u6 := uHear H.top
  have u7 := uTick H.top
  have u8 := uIdle H.top
  refine okR_eq (call_evK (show T 6 = some (.ir ⟨_, _, _, _, _⟩) from T6) (by decide) rfl rfl rfl ?_)
  by_cases h1 : (a.length : Int) > 60
  · simp -implicitDefEqProofs [h1, a1, u1, u2, u3, u4, u5, u6, u7, u8, fin_pure]
  by_cases h2 : (b.length : Int) > 60
  · simp -implicitDefEqProofs [h1, h2, a1, u1, u2, u3, u4, u5, u6, u7, u8, fin_pure]
  by_cases h3 : (v.length : Int) > 60
  · simp -implicitDefEqProofs [h1, h2, h3, a1, u1, u2, u3, u4, u5, u6, u7, u8, fin_pure]
  simp -implicitDefEqProofs [h1, h2, h3, a1, u1, u2, u3, u4, u5, u6, u7, u8, fin_pure]
end
abbrev shI : Sh := .int .i64
abbrev shSpan : Sh := .pair .str (.pair .str .unit)
abbrev shOp : Sh := .pair shI (.pair shSpan (.pair .str .unit))
theorem lawNil : Law T 6 [shOp, shI] := by
  intro H ls hw hl ha
  obtain ⟨x, y, rfl, hx, hy⟩ := args2 ha
  obtain ⟨_, _, rfl, ⟨c0, rfl, _⟩, _, _, rfl, ⟨_, _, rfl, ⟨s1, rfl, _⟩, _, _, rfl, ⟨s2, rfl, _⟩, rfl⟩, _, _, rfl, ⟨s3, rfl, _⟩, rfl⟩ := hx
  obtain ⟨n, rfl, _⟩ := hy
  exact ⟨H, lawT H c0 n s1 s2 s3⟩
end Go.Proofs.YtldiggjdbdfdgaaGreat
