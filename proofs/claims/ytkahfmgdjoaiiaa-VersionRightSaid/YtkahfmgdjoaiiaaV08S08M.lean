/- The document's chains: Copy, Same, Right, Refresh. No condition. -/
import Derived.Test.YtkahfmgdjoaiiaaV08S08L
set_option linter.unusedVariables false
set_option linter.unusedSimpArgs false
namespace Go.Proofs.Ytkahfmgdjoaiiaa
open Go.Wam

attribute [local simp] seqK_normal seqK_exit seqK_ret blockK_normal blockK_exit blockK_ret condO_bool evK_skip evK_exit evK_ret evK_keep evK_cond evK_block evK_seq_seq evK_seq_cond evK_seq_block evK_seq_loop evK_seq_skip evK_seq_keep evK_seq_exit evK_seq_ret prK_eq toSt_eq av_l av_v valS_v valT_v valS_u av_u valO_tmp
  nl_eq nl_none nl_if nlR_eq boxC_eq stL_eq storeP_ptr loadP_ptr fldP_ptr idxP_ptr inN_int callN_func strV_str fillC_nil fillC_cons pickV_bool guardK_bool kB_eq chk_some ifaceV_eq funcV_eq natV_int notL_noL leaveK_ret leaveK_normal rvsK_nil rvsK_cons rvK_tmp rvC_l rvC_v rvK_cell enterK_eq ok_l ok_v ok_u norm_eq norm_l norm_v norm_u
  Go.Wam.look zipI prune packA rd undefA allNoL convI convS lenStr lenMap extA fldV idxStr idxAgg idxS_slice idxS_oslice unA beq_same beqL_same AV.beq AV.beqL sliceV nilC clearW
  strOp aeqF_nil aeqF_cons andA_some i_add i_sub i_mul i_lss i_leq i_gtr i_geq i_quo i_rem i_eql i_neq s_eql s_neq s_lss
  s_leq s_gtr s_geq s_add e_bool n_bool e_nilp n_nilp e_ptr n_ptr e_lptr n_lptr e_agg n_agg
  e_nils n_nils e_slice n_slice e_oslice n_oslice e_eslice n_eslice e_xslice n_xslice e_nilm n_nilm e_map n_map
  e_nilFunc n_nilFunc e_func n_func q_int q_bool q_str q_struct q_ptr0 q_ptrL0 q_ptrR0 q_ptrL1 q_ptrR1 q_slice0
  q_sliceL0 q_sliceR0 q_sliceL1 q_sliceR1 q_sliceL2 q_sliceR2 q_sliceL3 q_sliceR3 q_map0 q_mapL0 q_mapR0 q_func0 q_funcL0 q_funcR0
  okR_some get_alloc_eq rdAt_alloc_eq set_alloc_eq set_alloc_ne get_alloc_ne rdAt_alloc_ne
attribute [local congr] bind_cg guardK_cg kB_cg condO_cg evK_cg
section
variable {H : AHeap} {v w : AV} {L M : List Ve} {a b c : Ch}
theorem lit_new {H : AHeap} (sz : Nat) : NewO H (H.alloc (.row false sz [])) sz (.slice H.n 0 0 0) [] := ⟨⟨⟨⟨rfl, rfl, fun r hr => (by cases hr), fun h => (by simp at h)⟩, by simp [AV.okB]⟩, .alloc _ _, fun h => by simp at h⟩, .lit _ _ _, by simp⟩
theorem rCopy (hok : H.ok) (hS : SV H 5 v (L.map rowVe)) (hl : L.length < 1000000000000) (cs : List AV) (hcs : cs.length = 11) :
    ∃ v' K, call T 13 [.agg (v :: cs)] H = some (.agg (v' :: cs), K) ∧ NewO H K 5 v' (L.map rowVe) := by
  have hokT := AHeap.ok.top hok.1
  have hvn := hS.view.noL
  obtain ⟨v', K, ha, m, vn'⟩ := (lit_new (H := H.top) 5).append (bytes := 48) hokT (hS.top.view.new hokT.1 (.alloc _ _)) (by omega) (by rw [List.length_map]; simp; omega)
  rw [List.nil_append] at m
  have vc' := m.sv.view.cells
  refine ⟨v', Go.Wam.fin H (.agg (v' :: cs)) K, okR_eq (call_evK (show T 13 = some (.ir ⟨_, _, _, _, _⟩) from T13) rfl rfl ?_), NewO.fin hok m okB_head⟩
  match cs, hcs with
  | [c1, c2, c3, c4, c5, c6, c7, c8, c9, c10, c11], _ =>
  simp only [top_n] at ha
  simp -implicitDefEqProofs [ha, hvn, vn', vc']
theorem rSame (hS : SV H 5 v (a.L.map rowVe)) (hT : SV H 5 w (b.L.map rowVe)) (hl : a.L.length < 1000000000000) (hl' : b.L.length < 1000000000000) :
    call T 18 [.agg (celCh v a), .agg (celCh w b)] H = some (.bool (sameC a b), H) := by
  have hvn := hS.view.noL
  have hvc := hS.view.cells
  have hvo := hS.ok
  have hwn := hT.view.noL
  have hwc := hT.view.cells
  have hwo := hT.ok
  have e0 := lenV hS.view
  have e0' := lenV hT.view
  have call_w : ∀ {P : AV × AHeap → Prop}, _ → OkR (call T 18 [.agg (celCh v a), .agg (celCh w b)] H) P := fun {P} h => call_evK (show T 18 = some (.ir ⟨_, _, _, _, _⟩) from T18) rfl rfl h
  refine okR_eq (call_w ?_)
  clear call_w
  have e2 := neIt a.i b.i
  obtain ⟨L, op, i⟩ := a
  obtain ⟨M, oq, j⟩ := b
  simp only at hS hT hl hl' e0 e0' e2
  unfold sameC
  by_cases h1 : op = oq
  rotate_left
  · have h1' : (op == oq) = false := by simpa using h1
    unfold celCh celIt
    simp -implicitDefEqProofs [hvn, hvc, hwn, hwc, h1', fin_pure]
  subst h1
  by_cases h2 : i = j
  rotate_left
  · unfold eIt at e2
    rw [decide_eq_false h2] at e2
    unfold celCh
    unfold celIt at *
    simp -implicitDefEqProofs [-n_agg, hvn, hvc, hwn, hwc, e2, h2, fin_pure]
  rw [decide_eq_true h2] at e2
  unfold eIt at e2
  by_cases hlen : L.length = M.length
  rotate_left
  · have hlen' : ¬ (L.length : Int) = M.length := by omega
    have hne : ¬ L = M := fun h => hlen (by rw [h])
    unfold celCh
    unfold celIt at *
    simp -implicitDefEqProofs [-n_agg, hvn, hvc, hwn, hwc, e0, e0', e2, eq_true h2, hlen', hne, fin_pure]
  have hlen' : ((L.length : Int) = M.length) = True := eq_true (by omega)
  obtain ⟨x, st, s', f1, ⟨q0, q1⟩, hp, hr, hH⟩ := loopK (T := T) (L := L18_0) rfl
    (fun n s => ∃ k : Nat, k + n = L.length ∧ (∀ j, j < k → atV L j = atV M j) ∧ s = ⟨[(2, .l 2 0), (3, .l 3 0), (5, .v (.int .i64 k))], [(2, celCh v ⟨L, op, i⟩), (3, celCh w ⟨M, op, j⟩)], H.top⟩)
    (fun x s => s.H = H.top ∧ ((x = .exit 0 ∧ L = M ∧ prK [] [] s = ⟨[], [], H.top⟩) ∨ (x = .ret ∧ ¬ L = M ∧ rvsK s [.tmp 4] = some [.bool false])))
    (by
      rintro n _ ⟨k, hi, hall, rfl⟩ P hI hX hR
      by_cases hlt : k < L.length
      · have hlt' : (k : Int) < L.length := by omega
        have hw := wrap_id (n := (k : Int) + 1) (by omega) (by omega)
        have e1 := ixV hS.view hlt
        have e2 := rdV hS.top.view hlt
        have e3 := ixV hT.view (i := k) (by omega)
        have e4 := rdV hT.top.view (i := k) (by omega)
        have e5 := neVe (atV L k) (atV M k)
        have k1 := okRow H.n (atV L k)
        have k2 := okRow H.n (atV M k)
        unfold celCh at *
        by_cases he : atV L k = atV M k
        · rw [he] at e5 e2 k1
          simp only [decide_true, Bool.not_true] at e5
          generalize rowVe (atV M k) = ry at *
          simp -implicitDefEqProofs [B18_0, hvn, hwn, hvo, hwo, e0, hlt', e1, e2, e3, e4, e5, k1, k2, hw]
          refine hI _ _ _ (n - 1) (by omega) ?_
          refine ⟨k + 1, by omega, fun j hj => ?_, by simp⟩
          by_cases hji : j = k
          · subst hji; exact he
          · exact hall j (by omega)
        · simp only [he, decide_false, Bool.not_false] at e5
          generalize rowVe (atV L k) = rx at *
          generalize rowVe (atV M k) = ry at *
          simp -implicitDefEqProofs [B18_0, hvn, hwn, hvo, hwo, e0, hlt', e1, e2, e3, e4, e5, k1, k2, hw]
          refine hR _ ?_
          exact ⟨rfl, .inr ⟨rfl, fun h => he (by rw [h]), by simp⟩⟩
      · have hlt' : ¬ (k : Int) < L.length := by omega
        unfold celCh at *
        simp -implicitDefEqProofs [B18_0, hvn, hwn, hvo, hwo, e0, hlt']
        refine hX _ _ ?_
        exact ⟨rfl, .inl ⟨rfl, ext_atV hlen (fun j hj => hall j (by omega)), by simp⟩⟩)
    L.length ⟨[(2, .l 2 0), (3, .l 3 0), (5, .v (.int .i64 (0 : Nat)))], [(2, celCh v ⟨L, op, i⟩), (3, celCh w ⟨M, op, j⟩)], H.top⟩ (by simp) ⟨0, by omega, by omega, by simp⟩
  rw [q0] at hH
  simp only [toSt_eq, List.map_cons, List.map_nil, av_v, av_l, Int.natCast_zero] at f1
  unfold celCh at *
  unfold celIt at *
  rcases q1 with ⟨rfl, hLM, hk⟩ | ⟨rfl, hLM, hk⟩
  · have hk := (hp [] []).trans (congrArg SK.norm hk)
    simp -implicitDefEqProofs [-n_agg, hvn, hvc, hwn, hwc, e0, e0', e2, eq_true h2, hlen', f1, hk, eq_true hLM, fin_pure]
  · have hk := hr _ _ hk
    simp -implicitDefEqProofs [-n_agg, hvn, hvc, hwn, hwc, e0, e0', e2, eq_true h2, hlen', f1, hk, hH, hLM, fin_pure]
end
end Go.Proofs.Ytkahfmgdjoaiiaa
