/- The document's chains: Write, in full. No condition. -/
import Derived.Test.YtkahfmgdjoaiiaaV08S08Q
set_option linter.unusedVariables false
set_option linter.unusedSimpArgs false
namespace Go.Proofs.Ytkahfmgdjoaiiaa
open Go.Wam

attribute [local simp] seqK_normal seqK_exit seqK_ret blockK_normal blockK_exit blockK_ret condO_bool evK_skip evK_exit evK_ret evK_keep evK_cond evK_block evK_seq_seq evK_seq_cond evK_seq_block evK_seq_loop evK_seq_skip evK_seq_keep evK_seq_exit evK_seq_ret prK_eq toSt_eq av_l av_v valS_v valT_v valS_u av_u valO_tmp
  nl_eq nl_none nl_if nlR_eq boxC_eq stL_eq storeP_ptr loadP_ptr fldP_ptr idxP_ptr inN_int callN_func strV_str fillC_nil fillC_cons pickV_bool guardK_bool kB_eq chk_some ifaceV_eq funcV_eq natV_int notL_noL leaveK_ret leaveK_normal rvsK_nil rvsK_cons rvK_tmp rvC_l rvC_v rvK_cell enterK_eq ok_l ok_v ok_u norm_eq norm_l norm_v norm_u
  Go.Wam.look zipI prune packA rd undefA allNoL convI convS lenStr lenMap extA fldV idxStr idxAgg idxS_slice idxS_oslice unA beq_same beqL_same AV.beq AV.beqL sliceV nilC clearW
  strOp aeqF_nil aeqF_cons andA_some i_add i_sub i_mul i_lss i_leq i_gtr i_geq i_quo i_rem i_eql i_neq s_eql s_neq s_lss
  s_leq s_gtr s_geq s_add e_bool n_bool e_nilp n_nilp e_ptr n_ptr e_lptr n_lptr e_agg n_agg
  e_nils n_nils e_slice n_slice e_oslice n_oslice e_eslice n_eslice e_xslice n_xslice e_nilm n_nilm e_map n_map
  e_nilFunc n_nilFunc e_func n_func q_int q_bool q_str q_struct q_ptr0 q_ptrL0 q_ptrR0 q_ptrL1 q_ptrR1 q_slice0
  q_sliceL0 q_sliceR0 q_sliceL1 q_sliceR1 q_sliceL2 q_sliceR2 q_sliceL3 q_sliceR3 q_map0 q_mapL0 q_mapR0 q_func0 q_funcL0 q_funcR0
  okR_some get_alloc_eq rdAt_alloc_eq set_alloc_eq set_alloc_ne get_alloc_ne rdAt_alloc_ne
attribute [local congr] bind_cg guardK_cg kB_cg condO_cg evK_cg
section
variable {H : AHeap} {v : AV} {c : Ch}
set_option maxHeartbeats 16000000 in
theorem rWrite (hok : H.ok) (hS : SV H 5 v (c.L.map rowVe)) (hl : c.L.length < 1000000000000) (i : It) :
    ∃ v' K, call T 15 [.agg (celCh v c), .agg (celIt i)] H = some (outW v' (writeC c i), K) ∧ NewL H K 5 v' ((writeC c i).1.L.map rowVe) := by
  have hokT := AHeap.ok.top hok.1
  have hvn := hS.view.noL
  have hvc := hS.view.cells
  have hvo := hS.ok
  have hv1 := hS.view.one
  obtain ⟨L, op, ci⟩ := c
  simp only at hS hl
  obtain ⟨x, st, s', f1, ⟨q0, q1⟩, hp, hr, hH⟩ := rWrite_loop (H := H.top) hS.top hl (.bool op :: celIt ci) rfl i [.nils, .bool false, .int .i64 0, .int .i64 0, .str [], .int .i64 0, .int .i64 0, .int .i64 0, .int .i64 0, .int .i64 0, .str [], .bool false] [.int .i64 0, .int .i64 0] [.int .i64 0, .int .i64 0, .str [], .int .i64 0, .int .i64 0] (celIt ci) rfl rfl rfl
  rw [q0] at hH
  simp only [toSt_eq, List.map_cons, List.map_nil, av_v, av_l, Int.natCast_zero] at f1
  have call_w : ∀ {P : AV × AHeap → Prop}, _ → OkR (call T 15 [.agg (celCh v ⟨L, op, ci⟩), .agg (celIt i)] H) P := fun {P} h => call_evK (show T 15 = some (.ir ⟨_, _, _, _, _⟩) from T15) rfl rfl h
  have el := rLast hS.top (by omega) (.bool op :: celIt ci) rfl
  have en := tNext' (lastS L) H.top
  have em := tMax' i.at_ (nextS (lastS L)).1 H.top
  have em2 := tMax' (upS L i.at_) ci.at_ H.top
  have er := tRight' (if op = true then maxS (upS L i.at_) ci.at_ else upS L i.at_) H.top
  unfold celCh celIt at *
  unfold writeC
  simp only
  by_cases h1 : op = true ∧ ¬ ci.m.id = i.m.id
  · rw [if_pos h1]
    obtain ⟨rfl, h1⟩ := h1
    exact ⟨.nils, H, okR_eq (call_w (by simp -implicitDefEqProofs [hvn, hvc, h1, fin_pure, outW, celCh, zCh, celIt, zIt, celMt])), .nil H 5⟩
  rw [if_neg h1]
  have ho : ∀ {P : Prop}, (op = false → P) → (op = true → ci.m.id = i.m.id → P) → P := fun {P} p1 p2 => by
    cases op with
    | false => exact p1 rfl
    | true => exact p2 rfl (by by_cases h : ci.m.id = i.m.id; exact h; exact absurd ⟨rfl, h⟩ h1)
  rcases q1 with ⟨rfl, hq, hk⟩ | ⟨rfl, hq, hk⟩
  rotate_left
  · have hk := hr _ _ hk
    rw [if_pos hq]
    simp only [celCh, zCh, celIt, zIt, celMt, zMt] at hk
    refine ho (fun h => ?_) (fun h h' => ?_)
    · subst h
      exact ⟨.nils, H, okR_eq (call_w (by simp -implicitDefEqProofs [hvn, hvc, f1, hk, hH, fin_pure, outW, celCh, zCh, celIt, zIt, celMt, zMt])), .nil H 5⟩
    · subst h
      exact ⟨.nils, H, okR_eq (call_w (by simp -implicitDefEqProofs [hvn, hvc, f1, hk, hH, eq_true h', fin_pure, outW, celCh, zCh, celIt, zIt, celMt, zMt])), .nil H 5⟩
  have hk := (hp [2, 3, 4, 5, 6, 8] [2, 3, 4, 5, 6, 8]).trans (congrArg SK.norm hk)
  rw [if_neg (by rw [hq]; simp)]
  by_cases h3 : op = true ∧ i.m.ep < ci.m.ep
  · rw [if_pos h3]
    obtain ⟨rfl, h3⟩ := h3
    refine ho (fun h => by cases h) (fun _ h' => ?_)
    exact ⟨.nils, H, okR_eq (call_w (by simp -implicitDefEqProofs [hvn, hvc, f1, hk, eq_true h', h3, fin_pure, outW, celCh, zCh, celIt, zIt, celMt, zMt])), .nil H 5⟩
  rw [if_neg h3]
  obtain ⟨v', K, e5, m⟩ := rCopy hokT hS.top hl [.bool op, .int .i64 ci.m.id, .int .i64 ci.m.ep, .str ci.m.anc, .int .i64 ci.m.w, .int .i64 ci.m.g, .int .i64 ci.seq, .int .i64 ci.at_.1, .int .i64 ci.at_.2, .str ci.val, .bool ci.gone] rfl
  have vn' := m.sv.view.noL
  have vc' := m.sv.view.cells
  have v1' := m.sv.view.one
  have vo' := m.sv.ok
  by_cases h4 : op = true ∧ ci.m.ep = i.m.ep ∧ i.seq ≤ ci.seq
  · rw [if_pos h4]
    obtain ⟨rfl, h4, h5⟩ := h4
    refine ho (fun h => by cases h) (fun _ h' => ?_)
    have h3' : ¬ i.m.ep < ci.m.ep := fun h => h3 ⟨rfl, h⟩
    refine ⟨v', Go.Wam.fin H (outW v' (⟨L, true, ci⟩, ci.at_, zMt, 0)) K, okR_eq (call_w ?_), NewL.fin hok m.toNewL (fun h => ?_)⟩
    · simp -implicitDefEqProofs [hvn, hvc, hvo, hv1, f1, hk, eq_true h', h3', eq_true h4, h5, e5, vn', outW, celCh, celIt, celMt, zMt]
    · unfold outW celCh at h; rw [okB_tuple, okL_cons] at h; simp only [Bool.and_eq_true] at h; exact okB_head h.1
  rw [if_neg h4]
  have tail : ∀ {P : Prop}, (op = false → P) → (op = true → ci.m.id = i.m.id → ¬ i.m.ep < ci.m.ep → (¬ ci.m.ep = i.m.ep ∨ (ci.m.ep = i.m.ep ∧ ¬ i.seq ≤ ci.seq)) → P) → P := fun {P} p1 p2 => ho p1 fun h h' => p2 h h' (fun h'' => h3 ⟨h, h''⟩) (by
    by_cases h5 : ci.m.ep = i.m.ep
    · exact .inr ⟨h5, fun h6 => h4 ⟨h, h5, h6⟩⟩
    · exact .inl h5)
  clear ho h1 h3 h4
  suffices key : (∃ s : Stp, leastC L op ci.at_ i.at_ = (s, 0) ∧ OkR (call T 15 [.agg [v, .bool op, .int .i64 ci.m.id, .int .i64 ci.m.ep, .str ci.m.anc, .int .i64 ci.m.w, .int .i64 ci.m.g, .int .i64 ci.seq, .int .i64 ci.at_.1, .int .i64 ci.at_.2, .str ci.val, .bool ci.gone], .agg [.int .i64 i.m.id, .int .i64 i.m.ep, .str i.m.anc, .int .i64 i.m.w, .int .i64 i.m.g, .int .i64 i.seq, .int .i64 i.at_.1, .int .i64 i.at_.2, .str i.val, .bool i.gone]] H) (fun r => r = (outW v' (⟨L, true, { i with at_ := s }⟩, s, zMt, 0), Go.Wam.fin H (outW v' (⟨L, true, { i with at_ := s }⟩, s, zMt, 0)) K))) ∨
      (∃ e : Stp × Int, leastC L op ci.at_ i.at_ = e ∧ ¬ e.2 = 0 ∧ OkR (call T 15 [.agg [v, .bool op, .int .i64 ci.m.id, .int .i64 ci.m.ep, .str ci.m.anc, .int .i64 ci.m.w, .int .i64 ci.m.g, .int .i64 ci.seq, .int .i64 ci.at_.1, .int .i64 ci.at_.2, .str ci.val, .bool ci.gone], .agg [.int .i64 i.m.id, .int .i64 i.m.ep, .str i.m.anc, .int .i64 i.m.w, .int .i64 i.m.g, .int .i64 i.seq, .int .i64 i.at_.1, .int .i64 i.at_.2, .str i.val, .bool i.gone]] H) (fun r => r = (outW .nils (zCh, (0, 0), zMt, 31), H))) by
    rcases key with ⟨s, h, hc⟩ | ⟨e, h, he, hc⟩
    · rw [h]
      exact ⟨v', _, okR_eq hc, NewL.fin hok m.toNewL (fun h => by unfold outW celCh at h; rw [okB_tuple, okL_cons] at h; simp only [Bool.and_eq_true] at h; exact okB_head h.1)⟩
    · rw [h, if_neg he]
      exact ⟨.nils, H, okR_eq hc, .nil H 5⟩
  by_cases h0 : L = []
  · have hu : upS L i.at_ = i.at_ := by unfold upS; rw [if_pos h0]
    have hlc : leastC L op ci.at_ i.at_ = if rightT (if op = true then maxS i.at_ ci.at_ else i.at_) = true then (if op = true then maxS i.at_ ci.at_ else i.at_, 0) else ((0, 0), 31) := by
      unfold leastC; rw [hu, if_neg (fun h => h.1 h0)]
    rw [hu] at em2 er
    simp only [h0, if_true, ne_eq, not_true, decide_false] at el
    clear hu h0
    refine tail (fun h => ?_) (fun h h' h'' h5 => ?_)
    · subst h
      simp only [Bool.false_eq_true, if_false] at er hlc
      cases hr : rightT i.at_ with
      | true =>
        rw [hr] at er hlc
        refine .inl ⟨_, hlc, call_w ?_⟩
        simp -implicitDefEqProofs [hvn, hvc, hvo, hv1, f1, hk, el, er, e5, vn', vc', v1', vo', outW, celCh, celIt, celMt, zMt]
      | false =>
        rw [hr] at er hlc
        refine .inr ⟨_, hlc, by simp, call_w ?_⟩
        simp -implicitDefEqProofs [hvn, hvc, hvo, hv1, f1, hk, el, er, fin_pure, outW, celCh, zCh, celIt, zIt, celMt, zMt]
    · subst h
      simp only [if_true] at er hlc
      cases hr : rightT (maxS i.at_ ci.at_) with
      | true =>
        rw [hr] at er hlc
        refine .inl ⟨_, hlc, call_w ?_⟩
        rcases h5 with h5 | ⟨h5, h6⟩
        · simp -implicitDefEqProofs [hvn, hvc, hvo, hv1, f1, hk, eq_true h', h'', h5, el, em2, er, e5, vn', vc', v1', vo', outW, celCh, celIt, celMt, zMt]
        · simp -implicitDefEqProofs [hvn, hvc, hvo, hv1, f1, hk, eq_true h', h'', eq_true h5, h6, el, em2, er, e5, vn', vc', v1', vo', outW, celCh, celIt, celMt, zMt]
      | false =>
        rw [hr] at er hlc
        refine .inr ⟨_, hlc, by simp, call_w ?_⟩
        rcases h5 with h5 | ⟨h5, h6⟩
        · simp -implicitDefEqProofs [hvn, hvc, hvo, hv1, f1, hk, eq_true h', h'', h5, el, em2, er, fin_pure, outW, celCh, zCh, celIt, zIt, celMt, zMt]
        · simp -implicitDefEqProofs [hvn, hvc, hvo, hv1, f1, hk, eq_true h', h'', eq_true h5, h6, el, em2, er, fin_pure, outW, celCh, zCh, celIt, zIt, celMt, zMt]
  · simp only [h0, if_false, ne_eq, not_false_eq_true, decide_true] at el
    by_cases hn : (nextS (lastS L)).2 = 0
    · have hu : upS L i.at_ = maxS i.at_ (nextS (lastS L)).1 := by unfold upS; rw [if_neg h0]
      have hlc : leastC L op ci.at_ i.at_ = if rightT (if op = true then maxS (maxS i.at_ (nextS (lastS L)).1) ci.at_ else maxS i.at_ (nextS (lastS L)).1) = true then (if op = true then maxS (maxS i.at_ (nextS (lastS L)).1) ci.at_ else maxS i.at_ (nextS (lastS L)).1, 0) else ((0, 0), 31) := by
        unfold leastC; rw [hu, if_neg (fun h => h.2 hn)]
      rw [hu] at em2 er
      rw [hn] at en
      clear hu h0 hn
      generalize (nextS (lastS L)).1 = nx at *
      refine tail (fun h => ?_) (fun h h' h'' h5 => ?_)
      · subst h
        simp only [Bool.false_eq_true, if_false] at er hlc
        cases hr : rightT (maxS i.at_ nx) with
        | true =>
          rw [hr] at er hlc
          refine .inl ⟨_, hlc, call_w ?_⟩
          simp -implicitDefEqProofs [hvn, hvc, hvo, hv1, f1, hk, el, en, em, er, e5, vn', vc', v1', vo', outW, celCh, celIt, celMt, zMt]
        | false =>
          rw [hr] at er hlc
          refine .inr ⟨_, hlc, by simp, call_w ?_⟩
          simp -implicitDefEqProofs [hvn, hvc, hvo, hv1, f1, hk, el, en, em, er, fin_pure, outW, celCh, zCh, celIt, zIt, celMt, zMt]
      · subst h
        simp only [if_true] at er hlc
        cases hr : rightT (maxS (maxS i.at_ nx) ci.at_) with
        | true =>
          rw [hr] at er hlc
          refine .inl ⟨_, hlc, call_w ?_⟩
          rcases h5 with h5 | ⟨h5, h6⟩
          · simp -implicitDefEqProofs [hvn, hvc, hvo, hv1, f1, hk, eq_true h', h'', h5, el, en, em, em2, er, e5, vn', vc', v1', vo', outW, celCh, celIt, celMt, zMt]
          · simp -implicitDefEqProofs [hvn, hvc, hvo, hv1, f1, hk, eq_true h', h'', eq_true h5, h6, el, en, em, em2, er, e5, vn', vc', v1', vo', outW, celCh, celIt, celMt, zMt]
        | false =>
          rw [hr] at er hlc
          refine .inr ⟨_, hlc, by simp, call_w ?_⟩
          rcases h5 with h5 | ⟨h5, h6⟩
          · simp -implicitDefEqProofs [hvn, hvc, hvo, hv1, f1, hk, eq_true h', h'', h5, el, en, em, em2, er, fin_pure, outW, celCh, zCh, celIt, zIt, celMt, zMt]
          · simp -implicitDefEqProofs [hvn, hvc, hvo, hv1, f1, hk, eq_true h', h'', eq_true h5, h6, el, en, em, em2, er, fin_pure, outW, celCh, zCh, celIt, zIt, celMt, zMt]
    · have hlc : leastC L op ci.at_ i.at_ = ((0, 0), (nextS (lastS L)).2) := by unfold leastC; rw [if_pos ⟨h0, hn⟩]
      refine .inr ⟨_, hlc, hn, call_w ?_⟩
      clear hlc
      generalize nextS (lastS L) = nx at *
      refine tail (fun h => ?_) (fun h h' h'' h5 => ?_)
      · subst h
        simp -implicitDefEqProofs [hvn, hvc, hvo, hv1, f1, hk, el, en, hn, fin_pure, outW, celCh, zCh, celIt, zIt, celMt, zMt]
      · subst h
        rcases h5 with h5 | ⟨h5, h6⟩
        · simp -implicitDefEqProofs [hvn, hvc, hvo, hv1, f1, hk, eq_true h', h'', h5, el, en, hn, fin_pure, outW, celCh, zCh, celIt, zIt, celMt, zMt]
        · simp -implicitDefEqProofs [hvn, hvc, hvo, hv1, f1, hk, eq_true h', h'', eq_true h5, h6, el, en, hn, fin_pure, outW, celCh, zCh, celIt, zIt, celMt, zMt]
end
end Go.Proofs.Ytkahfmgdjoaiiaa
