/- The document's chains: Write. No condition. -/
import Derived.Test.YtkahfmgdjoaiiaaV08S08P
set_option linter.unusedVariables false
set_option linter.unusedSimpArgs false
namespace Go.Proofs.Ytkahfmgdjoaiiaa
open Go.Wam

attribute [local simp] seqK_normal seqK_exit seqK_ret blockK_normal blockK_exit blockK_ret condO_bool evK_skip evK_exit evK_ret evK_keep evK_cond evK_block evK_seq_seq evK_seq_cond evK_seq_block evK_seq_loop evK_seq_skip evK_seq_keep evK_seq_exit evK_seq_ret prK_eq toSt_eq av_l av_v valS_v valT_v valS_u av_u valO_tmp
  nl_eq nl_none nl_if nlR_eq boxC_eq stL_eq storeP_ptr loadP_ptr fldP_ptr idxP_ptr inN_int callN_func strV_str fillC_nil fillC_cons pickV_bool guardK_bool kB_eq chk_some ifaceV_eq funcV_eq natV_int notL_noL leaveK_ret leaveK_normal rvsK_nil rvsK_cons rvK_tmp rvC_l rvC_v rvK_cell enterK_eq ok_l ok_v ok_u norm_eq norm_l norm_v norm_u
  Go.Wam.look zipI prune packA rd undefA allNoL convI convS lenStr lenMap extA fldV idxStr idxAgg idxS_slice idxS_oslice unA beq_same beqL_same AV.beq AV.beqL sliceV nilC clearW
  strOp aeqF_nil aeqF_cons andA_some i_add i_sub i_mul i_lss i_leq i_gtr i_geq i_quo i_rem i_eql i_neq s_eql s_neq s_lss
  s_leq s_gtr s_geq s_add e_bool n_bool e_nilp n_nilp e_ptr n_ptr e_lptr n_lptr e_agg n_agg
  e_nils n_nils e_slice n_slice e_oslice n_oslice e_eslice n_eslice e_xslice n_xslice e_nilm n_nilm e_map n_map
  e_nilFunc n_nilFunc e_func n_func q_int q_bool q_str q_struct q_ptr0 q_ptrL0 q_ptrR0 q_ptrL1 q_ptrR1 q_slice0
  q_sliceL0 q_sliceR0 q_sliceL1 q_sliceR1 q_sliceL2 q_sliceR2 q_sliceL3 q_sliceR3 q_map0 q_mapL0 q_mapR0 q_func0 q_funcL0 q_funcR0
  okR_some get_alloc_eq rdAt_alloc_eq set_alloc_eq set_alloc_ne get_alloc_ne rdAt_alloc_ne
attribute [local congr] bind_cg guardK_cg kB_cg condO_cg evK_cg
section
variable {H : AHeap} {v : AV} {L : List Ve} {c : Ch}
theorem rdByV (hV : View H 5 v (L.map rowVe)) {i : Nat} (h : i < L.length) : H.rdAt (sid v) false 1 (soff v + i * 5 + 4) = some (.int .i64 (atV L i).by_) :=
  hV.rd (i := i) (r := rowVe (atV L i)) (by rw [List.getElem?_map, atV_get h]; rfl) false (k := 1) (f := 4) (by omega) (by omega) (by simp)
theorem any_by {L : List Ve} {id : Int} : (L.any fun x => decide (x.by_ = id)) = true ↔ ∃ j, j < L.length ∧ (atV L j).by_ = id := by
  rw [List.any_eq_true]
  constructor
  · rintro ⟨x, hx, h⟩
    obtain ⟨j, hj, rfl⟩ := List.mem_iff_getElem.1 hx
    exact ⟨j, hj, by rw [← atV_eq hj]; simpa using h⟩
  · rintro ⟨j, hj, h⟩
    exact ⟨L[j], List.getElem_mem hj, by rw [atV_eq hj]; simpa using h⟩
theorem rWrite_loop (hS : SV H 5 v (L.map rowVe)) (hl : L.length < 1000000000000) (cs : List AV) (hcs : cs.length = 11) (i : It) (z4 z5 z6 z8 : List AV) (h4 : z4.length = 12) (h5 : z5.length = 2) (h6 : z6.length = 5) :
    ∃ x st s', den T (.loop L15_0) (SK.toSt ⟨[(2, .l 2 0), (3, .l 3 0), (4, .l 4 0), (5, .l 5 0), (6, .l 6 0), (8, .l 8 0), (9, .v (.int .i64 (0 : Nat)))], [(2, v :: cs), (3, celIt i), (4, z4), (5, z5), (6, z6), (8, z8)], H⟩) = some (x, st) ∧
      (s'.H = H ∧ ((x = .exit 0 ∧ (L.any fun x => decide (x.by_ = i.m.id)) = false ∧ prK [2, 3, 4, 5, 6, 8] [2, 3, 4, 5, 6, 8] s' = ⟨[(2, .l 2 0), (3, .l 3 0), (4, .l 4 0), (5, .l 5 0), (6, .l 6 0), (8, .l 8 0)], [(2, v :: cs), (3, celIt i), (4, z4), (5, z5), (6, z6), (8, z8)], H⟩) ∨
        (x = .ret ∧ (L.any fun x => decide (x.by_ = i.m.id)) = true ∧ rvsK s' [.cell 4 true 12, .cell 5 true 2, .cell 6 true 5, .tmp 7] = some [.agg (celCh .nils zCh), .agg [.int .i64 0, .int .i64 0], .agg (celMt zMt), .int .i64 83]))) ∧ (∀ ks ls, prK ks ls (ofSt st) = (prK ks ls s').norm) ∧ (∀ rs vs, rvsK s' rs = some vs → rvsK (ofSt st) rs = some vs) ∧ (ofSt st).H = s'.H := by
  have hvn := hS.view.noL
  have hvo := hS.ok
  have e0 := lenV hS.view
  refine loopK (T := T) (L := L15_0) rfl
    (fun n s => ∃ k : Nat, k + n = L.length ∧ (∀ j, j < k → ¬ (atV L j).by_ = i.m.id) ∧ s = ⟨[(2, .l 2 0), (3, .l 3 0), (4, .l 4 0), (5, .l 5 0), (6, .l 6 0), (8, .l 8 0), (9, .v (.int .i64 k))], [(2, v :: cs), (3, celIt i), (4, z4), (5, z5), (6, z6), (8, z8)], H⟩)
    (fun x s' => s'.H = H ∧ ((x = .exit 0 ∧ (L.any fun x => decide (x.by_ = i.m.id)) = false ∧ prK [2, 3, 4, 5, 6, 8] [2, 3, 4, 5, 6, 8] s' = ⟨[(2, .l 2 0), (3, .l 3 0), (4, .l 4 0), (5, .l 5 0), (6, .l 6 0), (8, .l 8 0)], [(2, v :: cs), (3, celIt i), (4, z4), (5, z5), (6, z6), (8, z8)], H⟩) ∨
        (x = .ret ∧ (L.any fun x => decide (x.by_ = i.m.id)) = true ∧ rvsK s' [.cell 4 true 12, .cell 5 true 2, .cell 6 true 5, .tmp 7] = some [.agg (celCh .nils zCh), .agg [.int .i64 0, .int .i64 0], .agg (celMt zMt), .int .i64 83])))
    ?_ L.length _ (by simp) ⟨0, by omega, by omega, by simp⟩
  match cs, hcs, z4, h4, z5, h5, z6, h6 with
  | [c1, c2, c3, c4, c5, c6, c7, c8, c9, c10, c11], _, [y1, y2, y3, y4, y5, y6, y7, y8, y9, y10, y11, y12], _, [u1, u2], _, [w1, w2, w3, w4, w5], _ =>
  rintro n _ ⟨k, hi, hall, rfl⟩ P hI hX hR
  unfold celIt at *
  by_cases hlt : k < L.length
  · have hlt' : (k : Int) < L.length := by omega
    have hw := wrap_id (n := (k : Int) + 1) (by omega) (by omega)
    have e1 := ixV hS.view hlt
    have e2 := rdByV hS.view hlt
    by_cases hb : (atV L k).by_ = i.m.id
    · simp -implicitDefEqProofs [B15_0, hvn, hvo, e0, hlt', e1, e2, hw, eq_true hb]
      refine hR _ ?_
      exact ⟨rfl, .inr ⟨rfl, any_by.2 ⟨k, hlt, hb⟩, by simp [celCh, zCh, celIt, zIt, celMt, zMt]⟩⟩
    · simp -implicitDefEqProofs [B15_0, hvn, hvo, e0, hlt', e1, e2, hw, hb]
      refine hI _ _ _ (n - 1) (by omega) ?_
      refine ⟨k + 1, by omega, fun j hj => ?_, by simp⟩
      by_cases hji : j = k
      · subst hji; exact hb
      · exact hall j (by omega)
  · have hlt' : ¬ (k : Int) < L.length := by omega
    simp -implicitDefEqProofs [B15_0, hvn, hvo, e0, hlt']
    refine hX _ _ ?_
    refine ⟨rfl, .inl ⟨rfl, ?_, by simp⟩⟩
    cases h : (L.any fun x => decide (x.by_ = i.m.id)) with
    | false => rfl
    | true => obtain ⟨j, hj, h2⟩ := any_by.1 h; exact absurd h2 (hall j (by omega))
end
end Go.Proofs.Ytkahfmgdjoaiiaa
