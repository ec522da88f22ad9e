/- The document's chains: Resolve. No condition. -/
import Derived.Test.YtkahfmgdjoaiiaaV08S08O
set_option linter.unusedVariables false
set_option linter.unusedSimpArgs false
namespace Go.Proofs.Ytkahfmgdjoaiiaa
open Go.Wam

attribute [local simp] seqK_normal seqK_exit seqK_ret blockK_normal blockK_exit blockK_ret condO_bool evK_skip evK_exit evK_ret evK_keep evK_cond evK_block evK_seq_seq evK_seq_cond evK_seq_block evK_seq_loop evK_seq_skip evK_seq_keep evK_seq_exit evK_seq_ret prK_eq toSt_eq av_l av_v valS_v valT_v valS_u av_u valO_tmp
  nl_eq nl_none nl_if nlR_eq boxC_eq stL_eq storeP_ptr loadP_ptr fldP_ptr idxP_ptr inN_int callN_func strV_str fillC_nil fillC_cons pickV_bool guardK_bool kB_eq chk_some ifaceV_eq funcV_eq natV_int notL_noL leaveK_ret leaveK_normal rvsK_nil rvsK_cons rvK_tmp rvC_l rvC_v rvK_cell enterK_eq ok_l ok_v ok_u norm_eq norm_l norm_v norm_u
  Go.Wam.look zipI prune packA rd undefA allNoL convI convS lenStr lenMap extA fldV idxStr idxAgg idxS_slice idxS_oslice unA beq_same beqL_same AV.beq AV.beqL sliceV nilC clearW
  strOp aeqF_nil aeqF_cons andA_some i_add i_sub i_mul i_lss i_leq i_gtr i_geq i_quo i_rem i_eql i_neq s_eql s_neq s_lss
  s_leq s_gtr s_geq s_add e_bool n_bool e_nilp n_nilp e_ptr n_ptr e_lptr n_lptr e_agg n_agg
  e_nils n_nils e_slice n_slice e_oslice n_oslice e_eslice n_eslice e_xslice n_xslice e_nilm n_nilm e_map n_map
  e_nilFunc n_nilFunc e_func n_func q_int q_bool q_str q_struct q_ptr0 q_ptrL0 q_ptrR0 q_ptrL1 q_ptrR1 q_slice0
  q_sliceL0 q_sliceR0 q_sliceL1 q_sliceR1 q_sliceL2 q_sliceR2 q_sliceL3 q_sliceR3 q_map0 q_mapL0 q_mapR0 q_func0 q_funcL0 q_funcR0
  okR_some get_alloc_eq rdAt_alloc_eq set_alloc_eq set_alloc_ne get_alloc_ne rdAt_alloc_ne
attribute [local congr] bind_cg guardK_cg kB_cg condO_cg evK_cg
section
variable {H : AHeap} {v : AV} {c : Ch}
set_option maxHeartbeats 8000000 in
theorem rResolve (hok : H.ok) (hS : SV H 5 v (c.L.map rowVe)) (hl : c.L.length < 1000000000000) (id ep : Int) (commit : Bool) (a : Stp) :
    ∃ v' K, call T 17 [.agg (celCh v c), .int .i64 id, .int .i64 ep, .bool commit, .agg [.int .i64 a.1, .int .i64 a.2]] H = some (outV v' (resolveC c id ep commit a), K) ∧ NewL H K 5 v' ((resolveC c id ep commit a).1.L.map rowVe) := by
  have hokT := AHeap.ok.top hok.1
  have hvn := hS.view.noL
  obtain ⟨L, op, i⟩ := c
  simp only at hS hl
  have call_w : ∀ {P : AV × AHeap → Prop}, _ → OkR (call T 17 [.agg (celCh v ⟨L, op, i⟩), .int .i64 id, .int .i64 ep, .bool commit, .agg [.int .i64 a.1, .int .i64 a.2]] H) P := fun {P} h => call_evK (show T 17 = some (.ir ⟨_, _, _, _, _⟩) from T17) rfl rfl h
  obtain ⟨v', K, e5, m⟩ := rCopy hokT hS.top hl (.bool op :: celIt i) rfl
  have okK := m.chg.ok hokT
  have vn' := m.sv.view.noL
  have vc' := m.sv.view.cells
  have v1' := m.sv.view.one
  have vo' := m.sv.ok
  have eu := rUpto a (lastS L) K
  have er := tRight' a K
  have el := rLast (hS.top.new hokT.1 m.chg) (by omega) (.bool op :: celIt i) rfl
  have hvoK := (hS.top.new hokT.1 m.chg).ok
  have hlow : H.n ≤ K.low := by rw [m.chg.low_eq]; simp
  unfold resolveC keepC celCh celIt at *
  simp only
  by_cases h1 : (!op || (decide (¬ i.m.id = id) || (!commit && decide (ep < i.m.ep)))) = true
  · rw [if_pos h1]
    refine ⟨v', Go.Wam.fin H (outV v' (⟨L, op, i⟩, 0)) K, okR_eq (call_w ?_), NewL.fin hok m.toNewL okB_outV⟩
    unfold outV celCh celIt
    cases op with
    | false => simp -implicitDefEqProofs [hvn, e5, vn', vc', v1', vo']
    | true =>
      by_cases h2 : i.m.id = id
      · simp only [Bool.not_true, Bool.false_or, h2, not_true, decide_false, Bool.and_eq_true, Bool.not_eq_true', decide_eq_true_eq] at h1
        obtain ⟨rfl, h3⟩ := h1
        simp -implicitDefEqProofs [hvn, e5, vn', vc', v1', vo', eq_true h2, h3]
      · simp -implicitDefEqProofs [hvn, e5, vn', vc', v1', vo', h2]
  rw [if_neg h1]
  have hop : op = true := by cases op; simp at h1; rfl
  subst hop
  have h2 : i.m.id = id := by by_cases h : i.m.id = id; exact h; simp [h] at h1
  have h3 : commit = true ∨ ¬ ep < i.m.ep := by
    cases commit
    · right; intro h; simp [h] at h1
    · left; rfl
  clear h1
  by_cases h4 : commit = true ∧ i.m.ep = ep
  · rw [if_pos h4]
    obtain ⟨rfl, h4⟩ := h4
    by_cases h5 : lateC L a = true
    · rw [if_pos h5]
      have hfin := fin_drop' (H := H) (K := K) (v := outV .nils (zCh, 84)) hlow (by simp [outV, celCh, zCh, celIt, zIt])
      refine ⟨.nils, H, okR_eq (call_w ?_), .nil H 5⟩
      unfold outV celCh zCh celIt zIt at *
      unfold lateC at h5
      by_cases h0 : L = []
      · simp only [h0, if_true, ne_eq, not_true, decide_false, Bool.false_and, Bool.or_false, Bool.not_eq_true'] at el h5
        rw [h5] at er
        simp -implicitDefEqProofs [hvn, e5, vn', vc', v1', vo', eq_true h2, eq_true h4, el, er, hfin]
      · simp only [h0, if_false, ne_eq, not_false_eq_true, decide_true, Bool.true_and] at el h5
        cases hr : rightT a with
        | false => rw [hr] at er; simp -implicitDefEqProofs [hvn, e5, vn', vc', v1', vo', eq_true h2, eq_true h4, el, er, hfin]
        | true =>
          rw [hr] at er h5
          simp only [Bool.not_true, Bool.false_or] at h5
          rw [h5] at eu
          simp -implicitDefEqProofs [hvn, e5, vn', vc', v1', vo', eq_true h2, eq_true h4, el, er, eu, hfin]
    · rw [if_neg h5]
      have hr : rightT a = true := by unfold lateC at h5; cases h : rightT a; simp [h] at h5; rfl
      rw [hr] at er
      have m1 := m.more hokT (.alloc K (.row false 5 (rowVe ⟨a, i.val, i.gone, id⟩)))
      obtain ⟨v2, K2, ha, m2, v2n⟩ := m1.append (bytes := 48) hokT (one_view K 5 (rowVe ⟨a, i.val, i.gone, id⟩) rfl) (by omega) (by rw [List.length_map]; simp; omega)
      have v2c := m2.sv.view.cells
      have v21 := m2.sv.view.one
      refine ⟨v2, Go.Wam.fin H (outV v2 (⟨L ++ [⟨a, i.val, i.gone, id⟩], false, zIt⟩, 0)) K2, okR_eq (call_w ?_), ?_⟩
      · unfold outV celCh zIt celIt
        unfold rowVe at ha
        unfold lateC at h5
        by_cases h0 : L = []
        · simp only [h0, if_true, ne_eq, not_true, decide_false] at el
          simp -implicitDefEqProofs [hvn, e5, vn', vc', v1', vo', eq_true h2, eq_true h4, el, er, ha, v2n, v2c, v21]
        · simp only [h0, if_false, ne_eq, not_false_eq_true, decide_true, Bool.true_and, hr, Bool.not_true, Bool.false_or] at el h5
          have h5 : uptoB a (lastS L) = false := by simpa using h5
          rw [h5] at eu
          simp -implicitDefEqProofs [hvn, e5, vn', vc', v1', vo', eq_true h2, eq_true h4, el, er, eu, ha, v2n, v2c, v21]
      · have := NewL.fin (w := outV v2 (⟨L ++ [⟨a, i.val, i.gone, id⟩], false, zIt⟩, 0)) hok m2.toNewL okB_outV
        rw [List.map_append]; exact this
  · rw [if_neg h4]
    refine ⟨v', Go.Wam.fin H (outV v' (⟨L, false, zIt⟩, 0)) K, okR_eq (call_w ?_), NewL.fin hok m.toNewL okB_outV⟩
    unfold outV celCh zIt celIt
    cases commit with
    | false =>
      have h3' : ¬ ep < i.m.ep := by rcases h3 with h | h; cases h; exact h
      simp -implicitDefEqProofs [hvn, e5, vn', vc', v1', vo', eq_true h2, h3']
    | true =>
      have h4' : ¬ i.m.ep = ep := fun h => h4 ⟨rfl, h⟩
      simp -implicitDefEqProofs [hvn, e5, vn', vc', v1', vo', eq_true h2, h4']
end
end Go.Proofs.Ytkahfmgdjoaiiaa
