/- No replica: the law. No condition. -/
import Derived.Test.YtpdmmpajjdaebaaGreatS17S17N
import Derived.Test.YtpdmmpajjdaebaaGreatAmLeaf
set_option linter.unusedVariables false
set_option linter.unusedSimpArgs false
namespace Go.Proofs.YtpdmmpajjdaebaaGreat
open Go.Wam

attribute [local simp] seqK_normal seqK_exit seqK_ret blockK_normal blockK_exit blockK_ret condO_bool evK_skip evK_exit evK_ret evK_keep evK_cond evK_block evK_seq_seq evK_seq_cond evK_seq_block evK_seq_loop evK_seq_skip evK_seq_keep evK_seq_exit evK_seq_ret prK_eq toSt_eq av_l av_v valS_v valT_v valS_u av_u valO_tmp
  nl_eq nl_none nl_if nlR_eq boxC_eq stL_eq storeP_ptr loadP_ptr fldP_ptr idxP_ptr inN_int callN_func strV_str fillC_nil fillC_cons pickV_bool guardK_bool kB_eq chk_some ifaceV_eq funcV_eq natV_int notL_noL leaveK_ret leaveK_normal rvsK_nil rvsK_cons rvK_tmp rvC_l rvC_v rvK_cell enterK_eq ok_l ok_v ok_u norm_eq norm_l norm_v norm_u
  Go.Wam.look zipI prune packA rd undefA allNoL convI convS lenStr lenMap extA fldV idxStr idxAgg idxS_slice idxS_oslice unA beq_same beqL_same AV.beq AV.beqL sliceV nilC clearW
  strOp aeqF_nil aeqF_cons andA_some i_add i_sub i_mul i_lss i_leq i_gtr i_geq i_quo i_rem i_eql i_neq s_eql s_neq s_lss
  s_leq s_gtr s_geq s_add e_bool n_bool e_nilp n_nilp e_ptr n_ptr e_lptr n_lptr e_agg n_agg
  e_nils n_nils e_slice n_slice e_oslice n_oslice e_eslice n_eslice e_xslice n_xslice e_nilm n_nilm e_map n_map
  e_nilFunc n_nilFunc e_func n_func q_int q_bool q_str q_struct q_ptr0 q_ptrL0 q_ptrR0 q_ptrL1 q_ptrR1 q_slice0
  q_sliceL0 q_sliceR0 q_sliceL1 q_sliceR1 q_sliceL2 q_sliceR2 q_sliceL3 q_sliceR3 q_map0 q_mapL0 q_mapR0 q_func0 q_funcL0 q_funcR0
  okR_some get_alloc_eq rdAt_alloc_eq set_alloc_eq set_alloc_ne get_alloc_ne rdAt_alloc_ne
attribute [local congr] bind_cg guardK_cg kB_cg condO_cg evK_cg
theorem isNilF_nil : isNilF [] = true := rfl
attribute [local simp] isNilF_nil
section
variable (H : AHeap)
theorem uOpen : call T 8 [.nilp, .int .i64 0, .int .i64 0, .agg [.str [97], .str [123]]] H = some (.tuple [.nilp, .int .i64 1], H) := by
  refine okR_eq (call_evK' (show T 8 = some (.ir ⟨_, _, _, _, _⟩) from T8) (by decide) rfl rfl ?_)
  simp -implicitDefEqProofs [fin_pure]
theorem uAll : call T 9 [] H = some (.agg [.str [97], .str [123]], H) := by
  refine okR_eq (call_evK' (show T 9 = some (.ir ⟨_, _, _, _, _⟩) from T9) (by decide) rfl rfl ?_)
  simp -implicitDefEqProofs [fin_pure]
theorem uPropose (Q : List AV) : call T 10 [.nilp, .agg Q] H = some (.tuple [.int .i64 0, .int .i64 0, .int .i64 1], H) := by
  refine okR_eq (call_evK' (show T 10 = some (.ir ⟨_, _, _, _, _⟩) from T10) (by decide) rfl rfl ?_)
  simp -implicitDefEqProofs [fin_pure]
theorem uRole : call T 11 [.nilp] H = some (.tuple [.int .i64 0, .int .i64 0], H) := by
  refine okR_eq (call_evK' (show T 11 = some (.ir ⟨_, _, _, _, _⟩) from T11) (by decide) rfl rfl ?_)
  simp -implicitDefEqProofs [fin_pure]
theorem uStep (Q : List AV) : call T 12 [.nilp, .agg Q] H = some (.int .i64 1, H) := by
  refine okR_eq (call_evK' (show T 12 = some (.ir ⟨_, _, _, _, _⟩) from T12) (by decide) rfl rfl ?_)
  simp -implicitDefEqProofs [fin_pure]
theorem uElect : call T 13 [.nilp] H = some (.int .i64 1, H) := by
  refine okR_eq (call_evK' (show T 13 = some (.ir ⟨_, _, _, _, _⟩) from T13) (by decide) rfl rfl ?_)
  simp -implicitDefEqProofs [fin_pure]
theorem uBeat : call T 14 [.nilp] H = some (.int .i64 1, H) := by
  refine okR_eq (call_evK' (show T 14 = some (.ir ⟨_, _, _, _, _⟩) from T14) (by decide) rfl rfl ?_)
  simp -implicitDefEqProofs [fin_pure]
theorem uOut : call T 15 [.nilp] H = some (.nils, H) := by
  refine okR_eq (call_evK' (show T 15 = some (.ir ⟨_, _, _, _, _⟩) from T15) (by decide) rfl rfl ?_)
  simp -implicitDefEqProofs [fin_pure]
theorem uDone : call T 16 [.nilp] H = some (.nils, H) := by
  refine okR_eq (call_evK' (show T 16 = some (.ir ⟨_, _, _, _, _⟩) from T16) (by decide) rfl rfl ?_)
  simp -implicitDefEqProofs [fin_pure]
theorem uTerm : call T 17 [.nilp] H = some (.int .i64 0, H) := by
  refine okR_eq (call_evK' (show T 17 = some (.ir ⟨_, _, _, _, _⟩) from T17) (by decide) rfl rfl ?_)
  simp -implicitDefEqProofs [fin_pure]
theorem uApplied : call T 18 [.nilp] H = some (.int .i64 0, H) := by
  refine okR_eq (call_evK' (show T 18 = some (.ir ⟨_, _, _, _, _⟩) from T18) (by decide) rfl rfl ?_)
  simp -implicitDefEqProofs [fin_pure]
theorem uBoot : call T 19 [.nilp] H = some (.int .i64 0, H) := by
  refine okR_eq (call_evK' (show T 19 = some (.ir ⟨_, _, _, _, _⟩) from T19) (by decide) rfl rfl ?_)
  simp -implicitDefEqProofs [fin_pure]
theorem uState : call T 20 [.nilp] H = some (.nilp, H) := by
  refine okR_eq (call_evK' (show T 20 = some (.ir ⟨_, _, _, _, _⟩) from T20) (by decide) rfl rfl ?_)
  simp -implicitDefEqProofs [fin_pure]
end
section
variable {H : AHeap} {v d w : AV} {W : List (List UInt8 × Int)} {L M : List AV} {nd : Int} {E : List (Int × AV × Int)}
variable (c0 c1 c2 c3 c4 c5 c7 c8 c9 c14 c15 c16 c17 c21 : Int) (s6 s10 s11 s12 : List UInt8) (b13 b18 b19 : Bool)
theorem lawS (hV : View H 2 v (E.map rowE)) (hE : ∀ x ∈ E, x.2.1.noL = true ∧ lenS x.2.1 = some (.int .i64 x.2.2)) (hW : View H 2 w (W.map rowW)) (r12 : rd false 1 12 L = some v) (r13 : rd false 1 13 L = some d) (hd : d.noL = true) (hdl : lenS d = some (.int .i64 nd)) (rc : rd true 22 56 L = some (.agg (cmd c0 c1 c2 c3 c4 c5 c7 c8 c9 c14 c15 c16 c17 c21 s6 s10 s11 s12 b13 b18 b19 w)))
    (rm : rd true 53 3 L = some (.agg M)) (ra : rd true 80 0 L = some (.agg L)) : call T 3 [.agg L] H = some (.bool true, H) := by
  obtain ⟨b, e1⟩ := fAct (H := H.top) c0 c1 c2 c3 c4 c5 c7 c8 c9 c14 c15 c16 c17 c21 s6 s10 s11 s12 b13 b18 b19 hV.top hE hW.top r12 r13 hd hdl rc
  have a1 := alive H.top
  have u1 := uOpen H.top
  have u2 := uAll H.top
  have u3 := uPropose H.top
  have u4 := uRole H.top
  have u5 := uStep H.top
  have u6 := uElect H.top
  have u7 := uBeat H.top
  have u8 := uOut H.top
  have u9 := uDone H.top
  have u10 := uTerm H.top
  have u11 := uApplied H.top
  have u12 := uBoot H.top
  have u13 := uState H.top
  refine okR_eq (call_evK' (show T 3 = some (.ir ⟨_, _, _, _, _⟩) from T3) (by decide) rfl rfl ?_)
  cases b
  · simp -implicitDefEqProofs [-Go.Wam.rd, e1, a1, u1, u2, u3, u4, u5, u6, u7, u8, u9, u10, u11, u12, u13, rc, rm, ra, fin_pure]
  · simp -implicitDefEqProofs [-Go.Wam.rd, e1, a1, u1, u2, u3, u4, u5, u6, u7, u8, u9, u10, u11, u12, u13, rc, rm, ra, fin_pure]
end
abbrev shI : Sh := .int .i64
abbrev shU : Sh := .int .u8
abbrev shW : Sh := .pair .str (.pair shI .unit)
abbrev shP : Sh := .pair .str (.pair .str .unit)
abbrev shE : Sh := .pair shI (.pair (.slice 1 1 shU) .unit)
abbrev shCmd : Sh := (.pair shI (.pair shI (.pair shI (.pair shI (.pair (.pair shI (.pair shI (.pair .str (.pair (.pair shI (.pair shI .unit)) .unit)))) (.pair shI (.pair (.pair .str (.pair .str .unit)) (.pair .str (.pair .bool (.pair (.pair shI (.pair shI .unit)) (.pair (.pair shI (.pair shI .unit)) (.pair .bool (.pair .bool (.pair (.slice 2 24 shW) (.pair shI .unit)))))))))))))))
abbrev shMsg : Sh := (.pair shI (.pair shI (.pair shI (.pair shI (.pair shI (.pair shI (.pair shI (.pair shI (.pair .bool (.pair (.slice 2 32 shE) (.pair (.slice 1 1 shU) (.pair (.pair shI (.pair shI .unit)) (.pair (.pair shI (.pair shI (.pair shI (.pair shI (.pair (.pair shI (.pair shI (.pair .str (.pair (.pair shI (.pair shI .unit)) .unit)))) (.pair shI (.pair (.pair .str (.pair .str .unit)) (.pair .str (.pair .bool (.pair (.pair shI (.pair shI .unit)) (.pair (.pair shI (.pair shI .unit)) (.pair .bool (.pair .bool (.pair (.slice 2 24 shW) (.pair shI .unit))))))))))))))) (.pair (.pair shI (.pair (.pair shI (.pair shI .unit)) (.pair (.slice 2 32 shP) (.pair .bool (.pair (.pair shI (.pair shI (.pair .str (.pair (.pair shI (.pair shI .unit)) .unit)))) (.pair (.pair shI (.pair shI (.pair shI (.pair (.pair shI (.pair shI .unit)) (.pair (.pair shI (.pair shI .unit)) (.pair (.slice 2 24 shW) .unit)))))) .unit)))))) .unit))))))))))))))
theorem rows_w {H : AHeap} : ∀ {rows : List (List AV)}, (∀ r ∈ rows, IsC H shW r) → ∃ W : List (List UInt8 × Int), rows = W.map rowW
  | [], _ => ⟨[], rfl⟩
  | r :: rows, h => by
    obtain ⟨W, rfl⟩ := rows_w (rows := rows) fun r hr => h r (by simp [hr])
    obtain ⟨x, y, rfl, ⟨s, rfl, _⟩, z, u, rfl, ⟨n, rfl, _⟩, rfl⟩ := h r (by simp)
    exact ⟨(s, n) :: W, rfl⟩
theorem rows_e {H : AHeap} : ∀ {rows : List (List AV)}, (∀ r ∈ rows, IsC H shE r) → ∃ E : List (Int × AV × Int), rows = E.map rowE ∧ ∀ x ∈ E, x.2.1.noL = true ∧ lenS x.2.1 = some (.int .i64 x.2.2)
  | [], _ => ⟨[], rfl, fun x hx => by cases hx⟩
  | r :: rows, h => by
    obtain ⟨E, rfl, hE⟩ := rows_e (rows := rows) fun r hr => h r (by simp [hr])
    obtain ⟨x, y, rfl, ⟨n, rfl, _⟩, z, u, rfl, ⟨v, ro, rfl, hs, _, _, _⟩, rfl⟩ := h r (by simp)
    refine ⟨(n, v, (ro.length : Int)) :: E, rfl, fun e he => ?_⟩
    rcases List.mem_cons.1 he with rfl | he
    · exact ⟨hs.view.noL, hs.view.lenS⟩
    · exact hE e he
abbrev shAct : Sh := (.pair shI (.pair shI (.pair shI (.pair (.pair shI (.pair shI (.pair shI (.pair shI (.pair shI (.pair shI (.pair shI (.pair shI (.pair .bool (.pair (.slice 2 32 shE) (.pair (.slice 1 1 shU) (.pair (.pair shI (.pair shI .unit)) (.pair (.pair shI (.pair shI (.pair shI (.pair shI (.pair (.pair shI (.pair shI (.pair .str (.pair (.pair shI (.pair shI .unit)) .unit)))) (.pair shI (.pair (.pair .str (.pair .str .unit)) (.pair .str (.pair .bool (.pair (.pair shI (.pair shI .unit)) (.pair (.pair shI (.pair shI .unit)) (.pair .bool (.pair .bool (.pair (.slice 2 24 shW) (.pair shI .unit))))))))))))))) (.pair (.pair shI (.pair (.pair shI (.pair shI .unit)) (.pair (.slice 2 32 shP) (.pair .bool (.pair (.pair shI (.pair shI (.pair .str (.pair (.pair shI (.pair shI .unit)) .unit)))) (.pair (.pair shI (.pair shI (.pair shI (.pair (.pair shI (.pair shI .unit)) (.pair (.pair shI (.pair shI .unit)) (.pair (.slice 2 24 shW) .unit)))))) .unit)))))) .unit)))))))))))))) (.pair (.pair shI (.pair shI (.pair shI (.pair shI (.pair (.pair shI (.pair shI (.pair .str (.pair (.pair shI (.pair shI .unit)) .unit)))) (.pair shI (.pair (.pair .str (.pair .str .unit)) (.pair .str (.pair .bool (.pair (.pair shI (.pair shI .unit)) (.pair (.pair shI (.pair shI .unit)) (.pair .bool (.pair .bool (.pair (.slice 2 24 shW) (.pair shI .unit))))))))))))))) (.pair .bool (.pair .bool .unit)))))))
theorem lawNil : Law T 3 [shAct] := by
  intro H ls hw hl ha
  obtain ⟨L, rfl, hx⟩ := args1 ha
  have hL := isC_leaves hx
  have hn : L.length = 80 := hL.len
  obtain ⟨v, e12, ro12, q12, g12⟩ := hL.at (i := 12) (t := .slice 2 32 shE) (by kernel_rfl)
  obtain ⟨d, e13, ro13, q13, g13⟩ := hL.at (i := 13) (t := .slice 1 1 shU) (by kernel_rfl)
  obtain ⟨_, e56, c0, rfl⟩ := hL.at (i := 56) (t := .int .i64) (by kernel_rfl)
  obtain ⟨_, e57, c1, rfl⟩ := hL.at (i := 57) (t := .int .i64) (by kernel_rfl)
  obtain ⟨_, e58, c2, rfl⟩ := hL.at (i := 58) (t := .int .i64) (by kernel_rfl)
  obtain ⟨_, e59, c3, rfl⟩ := hL.at (i := 59) (t := .int .i64) (by kernel_rfl)
  obtain ⟨_, e60, c4, rfl⟩ := hL.at (i := 60) (t := .int .i64) (by kernel_rfl)
  obtain ⟨_, e61, c5, rfl⟩ := hL.at (i := 61) (t := .int .i64) (by kernel_rfl)
  obtain ⟨_, e62, s6, rfl⟩ := hL.at (i := 62) (t := .str) (by kernel_rfl)
  obtain ⟨_, e63, c7, rfl⟩ := hL.at (i := 63) (t := .int .i64) (by kernel_rfl)
  obtain ⟨_, e64, c8, rfl⟩ := hL.at (i := 64) (t := .int .i64) (by kernel_rfl)
  obtain ⟨_, e65, c9, rfl⟩ := hL.at (i := 65) (t := .int .i64) (by kernel_rfl)
  obtain ⟨_, e66, s10, rfl⟩ := hL.at (i := 66) (t := .str) (by kernel_rfl)
  obtain ⟨_, e67, s11, rfl⟩ := hL.at (i := 67) (t := .str) (by kernel_rfl)
  obtain ⟨_, e68, s12, rfl⟩ := hL.at (i := 68) (t := .str) (by kernel_rfl)
  obtain ⟨_, e69, b13, rfl⟩ := hL.at (i := 69) (t := .bool) (by kernel_rfl)
  obtain ⟨_, e70, c14, rfl⟩ := hL.at (i := 70) (t := .int .i64) (by kernel_rfl)
  obtain ⟨_, e71, c15, rfl⟩ := hL.at (i := 71) (t := .int .i64) (by kernel_rfl)
  obtain ⟨_, e72, c16, rfl⟩ := hL.at (i := 72) (t := .int .i64) (by kernel_rfl)
  obtain ⟨_, e73, c17, rfl⟩ := hL.at (i := 73) (t := .int .i64) (by kernel_rfl)
  obtain ⟨_, e74, b18, rfl⟩ := hL.at (i := 74) (t := .bool) (by kernel_rfl)
  obtain ⟨_, e75, b19, rfl⟩ := hL.at (i := 75) (t := .bool) (by kernel_rfl)
  obtain ⟨w, e76, ro76, q76, g76⟩ := hL.at (i := 76) (t := .slice 2 24 shW) (by kernel_rfl)
  obtain ⟨_, e77, c21, rfl⟩ := hL.at (i := 77) (t := .int .i64) (by kernel_rfl)
  have rc : rd true 22 56 L = some (.agg (cmd c0 c1 c2 c3 c4 c5 c7 c8 c9 c14 c15 c16 c17 c21 s6 s10 s11 s12 b13 b18 b19 w)) := rdPart (by omega) rfl fun i hi => match i, hi with
      | 0, _ => e56
      | 1, _ => e57
      | 2, _ => e58
      | 3, _ => e59
      | 4, _ => e60
      | 5, _ => e61
      | 6, _ => e62
      | 7, _ => e63
      | 8, _ => e64
      | 9, _ => e65
      | 10, _ => e66
      | 11, _ => e67
      | 12, _ => e68
      | 13, _ => e69
      | 14, _ => e70
      | 15, _ => e71
      | 16, _ => e72
      | 17, _ => e73
      | 18, _ => e74
      | 19, _ => e75
      | 20, _ => e76
      | 21, _ => e77
      | n + 22, h => absurd h (by omega)
  obtain ⟨E, rfl, hE⟩ := rows_e g12
  obtain ⟨W, rfl⟩ := rows_w g76
  exact ⟨H, lawS c0 c1 c2 c3 c4 c5 c7 c8 c9 c14 c15 c16 c17 c21 s6 s10 s11 s12 b13 b18 b19 q12.view hE q76.view (rdCell e12) (rdCell e13) q13.view.noL q13.view.lenS rc (rdSome (by omega)) (rdAll hn)⟩
end Go.Proofs.YtpdmmpajjdaebaaGreat
