/- No server: the law. No condition. -/
import Derived.Test.YtpdmmpajjdaebaaGreatS20S14N
set_option linter.unusedVariables false
set_option linter.unusedSimpArgs false
namespace Go.Proofs.YtpdmmpajjdaebaaGreat
open Go.Wam

attribute [local simp] seqK_normal seqK_exit seqK_ret blockK_normal blockK_exit blockK_ret condO_bool evK_skip evK_exit evK_ret evK_keep evK_cond evK_block evK_seq_seq evK_seq_cond evK_seq_block evK_seq_loop evK_seq_skip evK_seq_keep evK_seq_exit evK_seq_ret prK_eq toSt_eq av_l av_v valS_v valT_v valS_u av_u valO_tmp
  nl_eq nl_none nl_if nlR_eq boxC_eq stL_eq storeP_ptr loadP_ptr fldP_ptr idxP_ptr inN_int callN_func strV_str fillC_nil fillC_cons pickV_bool guardK_bool kB_eq chk_some ifaceV_eq funcV_eq natV_int notL_noL leaveK_ret leaveK_normal rvsK_nil rvsK_cons rvK_tmp rvC_l rvC_v rvK_cell enterK_eq ok_l ok_v ok_u norm_eq norm_l norm_v norm_u
  Go.Wam.look zipI prune packA rd undefA allNoL convI convS lenStr lenMap extA fldV idxStr idxAgg idxS_slice idxS_oslice unA beq_same beqL_same AV.beq AV.beqL sliceV nilC clearW
  strOp aeqF_nil aeqF_cons andA_some i_add i_sub i_mul i_lss i_leq i_gtr i_geq i_quo i_rem i_eql i_neq s_eql s_neq s_lss
  s_leq s_gtr s_geq s_add e_bool n_bool e_nilp n_nilp e_ptr n_ptr e_lptr n_lptr e_agg n_agg
  e_nils n_nils e_slice n_slice e_oslice n_oslice e_eslice n_eslice e_xslice n_xslice e_nilm n_nilm e_map n_map
  e_nilFunc n_nilFunc e_func n_func q_int q_bool q_str q_struct q_ptr0 q_ptrL0 q_ptrR0 q_ptrL1 q_ptrR1 q_slice0
  q_sliceL0 q_sliceR0 q_sliceL1 q_sliceR1 q_sliceL2 q_sliceR2 q_sliceL3 q_sliceR3 q_map0 q_mapL0 q_mapR0 q_func0 q_funcL0 q_funcR0
  okR_some get_alloc_eq rdAt_alloc_eq set_alloc_eq set_alloc_ne get_alloc_ne rdAt_alloc_ne
attribute [local congr] bind_cg guardK_cg kB_cg condO_cg evK_cg
theorem isNilF_nil : isNilF [] = true := rfl
attribute [local simp] isNilF_nil
section
variable (H : AHeap)
theorem uNew : call T 23 [.nilp, .int .i64 0] H = some (.tuple [.nilp, .int .i64 1], H) := by
  refine okR_eq (call_evK' (show T 23 = some (.ir ⟨_, _, _, _, _⟩) from T23) (by decide) rfl rfl ?_)
  simp -implicitDefEqProofs [fin_pure]
theorem uTick : call T 25 [.nilp] H = some (.int .i64 1, H) := by
  refine okR_eq (call_evK' (show T 25 = some (.ir ⟨_, _, _, _, _⟩) from T25) (by decide) rfl rfl ?_)
  simp -implicitDefEqProofs [fin_pure]
theorem uTurn : call T 26 [.nilp] H = some (.int .i64 1, H) := by
  refine okR_eq (call_evK' (show T 26 = some (.ir ⟨_, _, _, _, _⟩) from T26) (by decide) rfl rfl ?_)
  simp -implicitDefEqProofs [fin_pure]
theorem uAnswers : call T 27 [.nilp] H = some (.nils, H) := by
  refine okR_eq (call_evK' (show T 27 = some (.ir ⟨_, _, _, _, _⟩) from T27) (by decide) rfl rfl ?_)
  simp -implicitDefEqProofs [fin_pure]
theorem uHolds : call T 28 [.nilp] H = some (.bool false, H) := by
  refine okR_eq (call_evK' (show T 28 = some (.ir ⟨_, _, _, _, _⟩) from T28) (by decide) rfl rfl ?_)
  simp -implicitDefEqProofs [fin_pure]
theorem uWaiting : call T 29 [.nilp] H = some (.int .i64 0, H) := by
  refine okR_eq (call_evK' (show T 29 = some (.ir ⟨_, _, _, _, _⟩) from T29) (by decide) rfl rfl ?_)
  simp -implicitDefEqProofs [fin_pure]
end
section
variable {H : AHeap} {v : AV} {W : List (List UInt8 × Int)}
variable (c0 c1 c2 c3 c4 c5 c7 c8 c9 c14 c15 c16 c17 c21 : Int) (s6 s10 s11 s12 : List UInt8) (b13 b18 b19 : Bool)
theorem uAsk (hV : View H 2 v (W.map rowW)) : call T 24 [.nilp, .int .i64 0, .int .i64 0, .agg (cmd c0 c1 c2 c3 c4 c5 c7 c8 c9 c14 c15 c16 c17 c21 s6 s10 s11 s12 b13 b18 b19 v)] H = some (.int .i64 1, H) := by
  have n1 := hV.noL
  have n2 := hV.cells
  have n3 := hV.one
  have n4 := notL_of n1
  simp only [cmd]
  refine okR_eq (call_evK' (show T 24 = some (.ir ⟨_, _, _, _, _⟩) from T24) (by decide) rfl rfl ?_)
  simp -implicitDefEqProofs [n1, n2, n3, n4, fin_pure]
theorem lawS (hV : View H 2 v (W.map rowW)) : call T 4 [.agg (cmd c0 c1 c2 c3 c4 c5 c7 c8 c9 c14 c15 c16 c17 c21 s6 s10 s11 s12 b13 b18 b19 v)] H = some (.bool true, H) := by
  have n1 := hV.noL
  have n2 := hV.cells
  have n3 := hV.one
  have n4 := notL_of n1
  obtain ⟨b, e1⟩ := fFits (H := H.top) c0 c1 c2 c3 c4 c5 c7 c8 c9 c14 c15 c16 c17 c21 s6 s10 s11 s12 b13 b18 b19 hV.top
  have e2 := uAsk c0 c1 c2 c3 c4 c5 c7 c8 c9 c14 c15 c16 c17 c21 s6 s10 s11 s12 b13 b18 b19 hV.top
  have a1 := alive H.top
  have u1 := uNew H.top
  have u2 := uTick H.top
  have u3 := uTurn H.top
  have u4 := uAnswers H.top
  have u5 := uHolds H.top
  have u6 := uWaiting H.top
  simp only [cmd] at *
  refine okR_eq (call_evK' (show T 4 = some (.ir ⟨_, _, _, _, _⟩) from T4) (by decide) rfl rfl ?_)
  cases b
  · simp -implicitDefEqProofs [n1, n2, n3, n4, e1, e2, a1, u1, u2, u3, u4, u5, u6, fin_pure]
  · simp -implicitDefEqProofs [n1, n2, n3, n4, e1, e2, a1, u1, u2, u3, u4, u5, u6, fin_pure]
end
abbrev shI : Sh := .int .i64
abbrev shStamp : Sh := .pair shI (.pair shI .unit)
abbrev shSpan : Sh := .pair .str (.pair .str .unit)
abbrev shMeta : Sh := .pair shI (.pair shI (.pair .str (.pair shStamp .unit)))
abbrev shW : Sh := .pair .str (.pair shI .unit)
abbrev shCmd : Sh := .pair shI (.pair shI (.pair shI (.pair shI (.pair shMeta (.pair shI (.pair shSpan (.pair .str (.pair .bool (.pair shStamp (.pair shStamp (.pair .bool (.pair .bool (.pair (.slice 2 24 shW) (.pair shI .unit))))))))))))))
theorem rows_w {H : AHeap} : ∀ {rows : List (List AV)}, (∀ r ∈ rows, IsC H shW r) → ∃ W : List (List UInt8 × Int), rows = W.map rowW
  | [], _ => ⟨[], rfl⟩
  | r :: rows, h => by
    obtain ⟨W, rfl⟩ := rows_w (rows := rows) fun r hr => h r (by simp [hr])
    obtain ⟨x, y, rfl, ⟨s, rfl, _⟩, z, u, rfl, ⟨n, rfl, _⟩, rfl⟩ := h r (by simp)
    exact ⟨(s, n) :: W, rfl⟩
theorem lawNil : Law T 4 [shCmd] := by
  intro H ls hw hl ha
  obtain ⟨x, rfl, hx⟩ := args1 ha
  have hf := isC_flat hx
  obtain ⟨_, _, rfl, ⟨c0, rfl, _⟩, _, _, rfl, ⟨c1, rfl, _⟩, _, _, rfl, ⟨c2, rfl, _⟩, _, _, rfl, ⟨c3, rfl, _⟩, _, _, rfl, ⟨_, _, rfl, ⟨c4, rfl, _⟩, _, _, rfl, ⟨c5, rfl, _⟩, _, _, rfl, ⟨s6, rfl, _⟩, _, _, rfl, ⟨_, _, rfl, ⟨c7, rfl, _⟩, _, _, rfl, ⟨c8, rfl, _⟩, rfl⟩, rfl⟩,
    _, _, rfl, ⟨c9, rfl, _⟩, _, _, rfl, ⟨_, _, rfl, ⟨s10, rfl, _⟩, _, _, rfl, ⟨s11, rfl, _⟩, rfl⟩, _, _, rfl, ⟨s12, rfl, _⟩, _, _, rfl, ⟨b13, rfl⟩, _, _, rfl, ⟨_, _, rfl, ⟨c14, rfl, _⟩, _, _, rfl, ⟨c15, rfl, _⟩, rfl⟩, _, _, rfl, ⟨_, _, rfl, ⟨c16, rfl, _⟩, _, _, rfl, ⟨c17, rfl, _⟩, rfl⟩,
    _, _, rfl, ⟨b18, rfl⟩, _, _, rfl, ⟨b19, rfl⟩, _, _, rfl, ⟨v, rows, rfl, hs, _, _, hr⟩, _, _, rfl, ⟨c21, rfl, _⟩, rfl⟩ := hx
  obtain ⟨W, rfl⟩ := rows_w hr
  exact ⟨H, lawS c0 c1 c2 c3 c4 c5 c7 c8 c9 c14 c15 c16 c17 c21 s6 s10 s11 s12 b13 b18 b19 hs.view⟩
end Go.Proofs.YtpdmmpajjdaebaaGreat
