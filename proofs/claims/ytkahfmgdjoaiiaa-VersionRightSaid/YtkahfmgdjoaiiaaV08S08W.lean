/- VersionOnce. No condition. -/
import Derived.Test.YtkahfmgdjoaiiaaV08S08V
set_option linter.unusedVariables false
set_option linter.unusedSimpArgs false
namespace Go.Proofs.Ytkahfmgdjoaiiaa
open Go.Wam

attribute [local simp] seqK_normal seqK_exit seqK_ret blockK_normal blockK_exit blockK_ret condO_bool evK_skip evK_exit evK_ret evK_keep evK_cond evK_block evK_seq_seq evK_seq_cond evK_seq_block evK_seq_loop evK_seq_skip evK_seq_keep evK_seq_exit evK_seq_ret prK_eq toSt_eq av_l av_v valS_v valT_v valS_u av_u valO_tmp
  nl_eq nl_none nl_if nlR_eq boxC_eq stL_eq storeP_ptr loadP_ptr fldP_ptr idxP_ptr inN_int callN_func strV_str fillC_nil fillC_cons pickV_bool guardK_bool kB_eq chk_some ifaceV_eq funcV_eq natV_int notL_noL leaveK_ret leaveK_normal rvsK_nil rvsK_cons rvK_tmp rvC_l rvC_v rvK_cell enterK_eq ok_l ok_v ok_u norm_eq norm_l norm_v norm_u
  Go.Wam.look zipI prune packA rd undefA allNoL convI convS lenStr lenMap extA fldV idxStr idxAgg idxS_slice idxS_oslice unA beq_same beqL_same AV.beq AV.beqL sliceV nilC clearW
  strOp aeqF_nil aeqF_cons andA_some i_add i_sub i_mul i_lss i_leq i_gtr i_geq i_quo i_rem i_eql i_neq s_eql s_neq s_lss
  s_leq s_gtr s_geq s_add e_bool n_bool e_nilp n_nilp e_ptr n_ptr e_lptr n_lptr e_agg n_agg
  e_nils n_nils e_slice n_slice e_oslice n_oslice e_eslice n_eslice e_xslice n_xslice e_nilm n_nilm e_map n_map
  e_nilFunc n_nilFunc e_func n_func q_int q_bool q_str q_struct q_ptr0 q_ptrL0 q_ptrR0 q_ptrL1 q_ptrR1 q_slice0
  q_sliceL0 q_sliceR0 q_sliceL1 q_sliceR1 q_sliceL2 q_sliceR2 q_sliceL3 q_sliceR3 q_map0 q_mapL0 q_mapR0 q_func0 q_funcL0 q_funcR0
  okR_some get_alloc_eq rdAt_alloc_eq set_alloc_eq set_alloc_ne get_alloc_ne rdAt_alloc_ne
attribute [local congr] bind_cg guardK_cg kB_cg condO_cg evK_cg
theorem laid_is {c : Ch} (hr : rightC c = true) {i : It} (h : (writeC c i).2.2.2 = 0) :
    ∃ x, writeC c i = (x, x.i.at_, zMt, 0) ∧ rightC x = true ∧ x.op = true ∧ x.i.m.id = i.m.id ∧ x.i.m.ep = i.m.ep ∧ i.seq ≤ x.i.seq ∧ ¬ x.L.any (fun y => decide (y.by_ = i.m.id)) = true ∧ x.L = c.L := by
  rcases write_is hr h with ⟨h1, h2, h3, h4, h5, h6⟩ | ⟨s, h1, h2, h3, h4, h5, h6, h7⟩
  · exact ⟨c, h1, hr, h2, h3, h4, h5, h6, rfl⟩
  · exact ⟨_, h1, right_new (rightC_L hr) h2 h4, rfl, rfl, rfl, Int.le_refl _, h6, rfl⟩
theorem write_again {x : Ch} {i : It} (h1 : x.op = true) (h2 : x.i.m.id = i.m.id) (h3 : x.i.m.ep = i.m.ep) (h4 : i.seq ≤ x.i.seq) (h5 : ¬ x.L.any (fun y => decide (y.by_ = i.m.id)) = true) : writeC x i = (x, x.i.at_, zMt, 0) := by
  unfold writeC
  rw [if_neg (fun hh => hh.2 h2), if_neg h5, if_neg (fun hh => by have := hh.2; omega), if_pos ⟨h1, h3, h4⟩]
theorem late_no {L : List Ve} {s : Stp} (h : rightT s = true) (h' : L = [] ∨ ltS (lastS L) s = true) : ¬ lateC L s = true := by
  unfold lateC
  rcases h' with h' | h'
  · simp [h, h']
  · simp [h, not_upto.2 h']
theorem settled {x : Ch} {id ep : Int} (commit : Bool) {s : Stp} (h1 : x.op = true) (h2 : x.i.m.id = id) (h3 : x.i.m.ep = ep) (h4 : rightT s = true) (h5 : x.L = [] ∨ ltS (lastS x.L) s = true) :
    resolveC x id ep commit s = (if commit = true then (⟨x.L ++ [⟨s, x.i.val, x.i.gone, id⟩], false, zIt⟩, 0) else (⟨x.L, false, zIt⟩, 0)) := by
  unfold resolveC
  have hk : ¬ keepC x id ep commit = true := by unfold keepC; simp [h1, h2, h3]
  rw [if_neg hk]
  cases commit with
  | false => simp
  | true => simp [h3, late_no h4 h5]
theorem once_is {x : Ch} (hr : rightC x = true) {i : It} (commit : Bool) (h1 : x.op = true) (h2 : x.i.m.id = i.m.id) (h3 : x.i.m.ep = i.m.ep) :
    ∃ z e, resolveC x i.m.id i.m.ep commit x.i.at_ = (z, 0) ∧ z.op = false ∧ resolveC z i.m.id i.m.ep commit x.i.at_ = (z, 0) ∧ (writeC z i).2.2.2 = e ∧ (commit = true → e = 83) ∧ z.L.length ≤ x.L.length + 1 := by
  obtain ⟨_, a2, a3⟩ := rightC_open hr h1
  rw [settled commit h1 h2 h3 a2 a3]
  cases commit with
  | false => exact ⟨_, _, rfl, rfl, by simp [resolveC, keepC], rfl, by simp, by simp⟩
  | true => exact ⟨_, _, rfl, rfl, by simp [resolveC, keepC], rfl, fun _ => by simp [writeC], by simp⟩
section
variable {H : AHeap} {v w : AV} {a b c : Ch}
set_option maxHeartbeats 4000000 in
theorem nOnce (hok : H.ok) (hS : SV H 5 v (c.L.map rowVe)) (hl : c.L.length < 2932031007403) (i : It) (commit : Bool) :
    call T 7 [.agg (celCh v c), .agg (celIt i), .bool commit] H = some (.bool true, H) := by
  have hokT := AHeap.ok.top hok.1
  have hvn := hS.view.noL
  have hvc := hS.view.cells
  have hv1 := hS.view.one
  have e9 := vFits hS.top
  obtain ⟨v1, K1, e1, m1⟩ := vWrite hokT hS.top hl i
  have ok1 := m1.chg.ok hokT
  have n1 := m1.sv.view.noL
  have c1 := m1.sv.view.cells
  refine okR_eq (call_evK (show T 7 = some (.ir ⟨_, _, _, _, _⟩) from T7) rfl rfl ?_)
  have e0 := vAlive ok1
  have hfin1 : Go.Wam.fin H (.bool true) K1 = H := fin_drop' (by rw [m1.chg.low_eq]; simp) (by simp)
  cases hf : fitC c with
  | false =>
    rw [hf] at e9
    generalize writeC c i = q2 at *
    simp only [outW, outV, celCh, celIt, celMt, rowVe] at *
    simp -implicitDefEqProofs [e0, e1, e9, n1, c1, hvn, hvc, hv1, hfin1]
  | true =>
    rw [hf] at e9
    rw [fitC_iff] at hf
    by_cases h0 : (writeC c i).2.2.2 = 0
    · obtain ⟨x, hx, hxr, hxo, hxi, hxe, hxs, hxb, hxL⟩ := laid_is hf.2 h0
      rw [hx] at e1 m1
      obtain ⟨v2, K2, e2, m2⟩ := vWrite ok1 m1.sv (by rw [hxL]; omega) i
      rw [write_again hxo hxi hxe hxs hxb] at e2 m2
      have ok2 := m2.chg.ok ok1
      have s2 := m1.sv.new ok1.1 m2.chg
      have e3 := vSame (a := x) (b := x) s2 m2.sv (by rw [hxL]; omega) (by rw [hxL]; omega)
      rw [sameC_self] at e3
      obtain ⟨v3, K3, e4, m3⟩ := vResolve ok2 s2 (by rw [hxL]; omega) i.m.id i.m.ep commit x.i.at_
      obtain ⟨z, ez, hz1, hz2, hz3, hz4, hz5, hz6⟩ := once_is hxr commit hxo hxi hxe
      rw [hxL] at hz6
      rw [hz1] at e4 m3
      have ok3 := m3.chg.ok ok2
      obtain ⟨v4, K4, e5, m4⟩ := vResolve ok3 m3.sv (by simp only; omega) i.m.id i.m.ep commit x.i.at_
      rw [hz3] at e5 m4
      have ok4 := m4.chg.ok ok3
      have s4 := m3.sv.new ok3.1 m4.chg
      obtain ⟨v5, K5, e6, m5⟩ := vWrite ok4 s4 (by simp only; omega) i
      have ok5 := m5.chg.ok ok4
      have e7 := vSame (a := z) (b := z) (s4.new ok4.1 m5.chg) (m4.sv.new ok4.1 m5.chg) (by omega) (by omega)
      rw [sameC_self] at e7
      have e8 := vAlive ok5
      have e8' := vAlive ok3
      have n2 := m2.sv.view.noL
      have c2 := m2.sv.view.cells
      have n3 := m3.sv.view.noL
      have c3 := m3.sv.view.cells
      have n4 := m4.sv.view.noL
      have c4 := m4.sv.view.cells
      have n5 := m5.sv.view.noL
      have c5 := m5.sv.view.cells
      have l3 : K3.low = H.n := by rw [m3.chg.low_eq, m2.chg.low_eq, m1.chg.low_eq]; simp
      have hfin3 : Go.Wam.fin H (.bool true) K3 = H := fin_drop' (by omega) (by simp)
      have hfin5 : Go.Wam.fin H (.bool true) K5 = H := fin_drop' (by rw [m5.chg.low_eq, m4.chg.low_eq, l3]; omega) (by simp)
      have q1 := eqMt c.i.m i.m
      generalize hq : writeC z i = q2 at *
      obtain ⟨y1, y2, y3, y4⟩ := q2
      simp only at hz4
      subst hz4
      clear h0 hx hxr hxs hxb hz1 hz3 hq hxi hxe
      have hge : ∀ b, decide (c.i.seq ≥ i.seq) = b → decide (i.seq ≤ c.i.seq) = b := fun b h => h
      cases hco : c.op with
      | false =>
        simp only [outW, outV, celCh, celIt, celMt, zMt, rowVe] at *
        simp only [hco, hxo, hz2] at e1 e2 e3 e4 e5 e6 e7 e9
        cases commit with
        | false => simp -implicitDefEqProofs [e8, e8', e1, e2, e3, e4, e5, e6, e7, e9, n1, c1, n2, c2, n3, c3, n4, c4, n5, c5, hvn, hvc, hv1, hfin3, hfin5, hco, hxo, hz2]
        | true => simp -implicitDefEqProofs [e8, e8', e1, e2, e3, e4, e5, e6, e7, e9, n1, c1, n2, c2, n3, c3, n4, c4, n5, c5, hvn, hvc, hv1, hfin3, hfin5, hco, hxo, hz2, hz5 rfl]
      | true =>
        by_cases hcm : c.i.m = i.m
        · rw [decide_eq_true hcm] at q1
          by_cases hcs : i.seq ≤ c.i.seq
          · simp only [outW, outV, celCh, celIt, celMt, zMt, rowVe] at *
            simp only [hco, hxo, hz2] at e1 e2 e3 e4 e5 e6 e7 e9
            simp -implicitDefEqProofs [-e_agg, e8, e8', e1, e2, e3, e4, e5, e6, e7, e9, n1, c1, n2, c2, n3, c3, n4, c4, n5, c5, hvn, hvc, hv1, hfin3, hfin5, hco, hxo, hz2, q1, hcs]
          · simp only [outW, outV, celCh, celIt, celMt, zMt, rowVe] at *
            simp only [hco, hxo, hz2] at e1 e2 e3 e4 e5 e6 e7 e9
            cases commit with
            | false => simp -implicitDefEqProofs [-e_agg, e8, e8', e1, e2, e3, e4, e5, e6, e7, e9, n1, c1, n2, c2, n3, c3, n4, c4, n5, c5, hvn, hvc, hv1, hfin3, hfin5, hco, hxo, hz2, q1, hcs]
            | true => simp -implicitDefEqProofs [-e_agg, e8, e8', e1, e2, e3, e4, e5, e6, e7, e9, n1, c1, n2, c2, n3, c3, n4, c4, n5, c5, hvn, hvc, hv1, hfin3, hfin5, hco, hxo, hz2, q1, hcs, hz5 rfl]
        · rw [decide_eq_false hcm] at q1
          simp only [outW, outV, celCh, celIt, celMt, zMt, rowVe] at *
          simp only [hco, hxo, hz2] at e1 e2 e3 e4 e5 e6 e7 e9
          cases commit with
          | false => simp -implicitDefEqProofs [-e_agg, e8, e8', e1, e2, e3, e4, e5, e6, e7, e9, n1, c1, n2, c2, n3, c3, n4, c4, n5, c5, hvn, hvc, hv1, hfin3, hfin5, hco, hxo, hz2, q1]
          | true => simp -implicitDefEqProofs [-e_agg, e8, e8', e1, e2, e3, e4, e5, e6, e7, e9, n1, c1, n2, c2, n3, c3, n4, c4, n5, c5, hvn, hvc, hv1, hfin3, hfin5, hco, hxo, hz2, q1, hz5 rfl]
    · generalize writeC c i = q2 at *
      simp only [outW, outV, celCh, celIt, celMt, rowVe] at *
      simp -implicitDefEqProofs [e0, e1, e9, n1, c1, hvn, hvc, hv1, hfin1, h0]
theorem lawOnce : Law T 7 [chSh, itSh, .bool] := by
  intro H ls hw hl ha
  obtain ⟨x, y, z, rfl, hx, hy, ⟨b, rfl⟩⟩ := args3 ha
  obtain ⟨v, c, rfl, hv, hl'⟩ := ch_cells hw hx
  obtain ⟨i, rfl⟩ := it_cells hy
  exact law_of (nOnce ⟨hw, by omega⟩ hv hl' i b)
end
end Go.Proofs.Ytkahfmgdjoaiiaa
