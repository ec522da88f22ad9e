/- VersionRefreshed, VersionOnce; an act. No condition. -/
import Derived.Test.YtkahfmgdjoaiiaaV08S08U
set_option linter.unusedVariables false
set_option linter.unusedSimpArgs false
namespace Go.Proofs.Ytkahfmgdjoaiiaa
open Go.Wam

attribute [local simp] seqK_normal seqK_exit seqK_ret blockK_normal blockK_exit blockK_ret condO_bool evK_skip evK_exit evK_ret evK_keep evK_cond evK_block evK_seq_seq evK_seq_cond evK_seq_block evK_seq_loop evK_seq_skip evK_seq_keep evK_seq_exit evK_seq_ret prK_eq toSt_eq av_l av_v valS_v valT_v valS_u av_u valO_tmp
  nl_eq nl_none nl_if nlR_eq boxC_eq stL_eq storeP_ptr loadP_ptr fldP_ptr idxP_ptr inN_int callN_func strV_str fillC_nil fillC_cons pickV_bool guardK_bool kB_eq chk_some ifaceV_eq funcV_eq natV_int notL_noL leaveK_ret leaveK_normal rvsK_nil rvsK_cons rvK_tmp rvC_l rvC_v rvK_cell enterK_eq ok_l ok_v ok_u norm_eq norm_l norm_v norm_u
  Go.Wam.look zipI prune packA rd undefA allNoL convI convS lenStr lenMap extA fldV idxStr idxAgg idxS_slice idxS_oslice unA beq_same beqL_same AV.beq AV.beqL sliceV nilC clearW
  strOp aeqF_nil aeqF_cons andA_some i_add i_sub i_mul i_lss i_leq i_gtr i_geq i_quo i_rem i_eql i_neq s_eql s_neq s_lss
  s_leq s_gtr s_geq s_add e_bool n_bool e_nilp n_nilp e_ptr n_ptr e_lptr n_lptr e_agg n_agg
  e_nils n_nils e_slice n_slice e_oslice n_oslice e_eslice n_eslice e_xslice n_xslice e_nilm n_nilm e_map n_map
  e_nilFunc n_nilFunc e_func n_func q_int q_bool q_str q_struct q_ptr0 q_ptrL0 q_ptrR0 q_ptrL1 q_ptrR1 q_slice0
  q_sliceL0 q_sliceR0 q_sliceL1 q_sliceR1 q_sliceL2 q_sliceR2 q_sliceL3 q_sliceR3 q_map0 q_mapL0 q_mapR0 q_func0 q_funcL0 q_funcR0
  okR_some get_alloc_eq rdAt_alloc_eq set_alloc_eq set_alloc_ne get_alloc_ne rdAt_alloc_ne
attribute [local congr] bind_cg guardK_cg kB_cg condO_cg evK_cg
theorem refreshed_is {c : Ch} (hr : rightC c = true) {f t : Stp} (h : (refreshC c (-1) f t).2 = 0) (hft : ltS f t = true) :
    ∃ x b, readC c f f (-1) 0 = (x, b, zMt, 0) ∧ readC c t t (-1) 0 = (x, b, zMt, 0) ∧ readC c f t (-1) 0 = (x, b, zMt, 0) := by
  have hL := rightC_L hr
  unfold refreshC at h
  by_cases h1 : othI c (-1) t = true
  · rw [if_pos h1] at h; cases h
  rw [if_neg h1] at h
  by_cases h2 : aboveN c.L f < aboveN c.L t
  · rw [if_pos h2] at h; cases h
  have h3 := above_mono hL (lt_upto hft)
  have h4 : aboveN c.L f = aboveN c.L t := by omega
  have h5 : ¬ othI c (-1) f = true := by
    intro hh
    refine h1 ?_
    unfold othI at hh ⊢
    simp only [Bool.and_eq_true] at hh ⊢
    exact ⟨hh.1, hh.2.1, upto_trans hh.2.2 (lt_upto hft)⟩
  unfold readC
  by_cases h6 : ownI c (-1) 0 = true
  · rw [if_pos h6, if_pos h6, if_pos h6]
    by_cases h7 : c.i.gone = true
    · rw [if_pos h7]; exact ⟨_, _, rfl, rfl, rfl⟩
    · rw [if_neg h7]; exact ⟨_, _, rfl, rfl, rfl⟩
  rw [if_neg h6, if_neg h6, if_neg h6, if_neg h1, if_neg h1, if_neg h5, h4, if_neg (by omega : ¬ aboveN c.L t < aboveN c.L t)]
  by_cases h7 : aboveN c.L t = 0 ∨ (atV c.L (aboveN c.L t - 1)).gone = true
  · rw [if_pos h7]; exact ⟨_, _, rfl, rfl, rfl⟩
  · rw [if_neg h7]; exact ⟨_, _, rfl, rfl, rfl⟩
section
variable {H : AHeap} {v w : AV} {a b c : Ch}
theorem vRead' (hS : SV H 5 v (c.L.map rowVe)) (hl : c.L.length < 1000000000000000) (a l : Stp) (id ep : Int) :
    call T 19 [.agg (celCh v c), .agg [.int .i64 a.1, .int .i64 a.2], .agg [.int .i64 l.1, .int .i64 l.2], .int .i64 id, .int .i64 ep] H = some (outR (readC c a l id ep), H) := by
  obtain ⟨L, op, ⟨⟨mid, mep, manc, mw, mg⟩, sq, iat, ival, igone⟩⟩ := c
  exact vRead hS hl op mid mep manc mw mg sq iat ival igone a l id ep
theorem nRefreshed (hok : H.ok) (hS : SV H 5 v (c.L.map rowVe)) (hl : c.L.length < 2932031007403) (p q : Stp) :
    call T 5 [.agg (celCh v c), .agg [.int .i64 p.1, .int .i64 p.2], .agg [.int .i64 q.1, .int .i64 q.2]] H = some (.bool true, H) := by
  have hokT := AHeap.ok.top hok.1
  have hvn := hS.view.noL
  have hvc := hS.view.cells
  have hv1 := hS.view.one
  have hvo := hS.ok
  have e0 := vAlive hokT
  have e9 := vFits hS.top
  have e8 := vRefresh hS.top hl (-1) p q
  have e7 := tLess p q H.top
  refine okR_eq (call_evK (show T 5 = some (.ir ⟨_, _, _, _, _⟩) from T5) rfl rfl ?_)
  cases hf : fitC c with
  | false =>
    rw [hf] at e9
    generalize refreshC c (-1) p q = r1 at *
    unfold celMt celCh celIt at *
    simp -implicitDefEqProofs [e0, e9, e8, e7, hvn, hvc, hv1, fin_pure]
  | true =>
    rw [hf] at e9
    rw [fitC_iff] at hf
    by_cases h0 : (refreshC c (-1) p q).2 = 0
    · by_cases hlt : ltS p q = true
      · obtain ⟨x, b, h1, h2, h3⟩ := refreshed_is hf.2 h0 hlt
        have e1 := vRead' hS.top (by omega) p p (-1) 0
        have e2 := vRead' hS.top (by omega) q q (-1) 0
        have e3 := vRead' hS.top (by omega) p q (-1) 0
        rw [h1] at e1
        rw [h2] at e2
        rw [h3] at e3
        rw [hlt] at e7
        rw [h0] at e8
        generalize (refreshC c (-1) p q).1 = r1 at *
        simp only [outR, celCh, celIt, celMt, rowVe, zMt] at *
        simp -implicitDefEqProofs [e0, e1, e2, e3, e7, e8, e9, hvn, hvc, hv1, hvo, fin_pure]
      · rw [Bool.not_eq_true] at hlt
        rw [hlt] at e7
        rw [h0] at e8
        generalize (refreshC c (-1) p q).1 = r1 at *
        simp only [celCh, celIt, celMt] at *
        simp -implicitDefEqProofs [e0, e7, e8, e9, hvn, hvc, hv1, hvo, fin_pure]
    · generalize refreshC c (-1) p q = r1 at *
      simp only [celCh, celIt, celMt] at *
      simp -implicitDefEqProofs [e0, e7, e8, e9, hvn, hvc, hv1, hvo, fin_pure, h0]
theorem lawRefreshed : Law T 5 [chSh, stSh, stSh] := by
  intro H ls hw hl ha
  obtain ⟨x, y, z, rfl, hx, hy, hz⟩ := args3 ha
  obtain ⟨v, c, rfl, hv, hl'⟩ := ch_cells hw hx
  obtain ⟨p, rfl⟩ := st_cells hy
  obtain ⟨q, rfl⟩ := st_cells hz
  exact law_of (nRefreshed ⟨hw, by omega⟩ hv hl' p q)
end
end Go.Proofs.Ytkahfmgdjoaiiaa
