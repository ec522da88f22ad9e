/- The last version, the next stamp, a chain of its own, the least stamp. No condition. -/
import Derived.Test.YtkahfmgdjoaiiaaV08S08D
set_option linter.unusedVariables false
set_option linter.unusedSimpArgs false
namespace Go.Proofs.Ytkahfmgdjoaiiaa
open Go.Wam

attribute [local simp] seqK_normal seqK_exit seqK_ret blockK_normal blockK_exit blockK_ret condO_bool evK_skip evK_exit evK_ret evK_keep evK_cond evK_block evK_seq_seq evK_seq_cond evK_seq_block evK_seq_loop evK_seq_skip evK_seq_keep evK_seq_exit evK_seq_ret prK_eq toSt_eq av_l av_v valS_v valT_v valS_u av_u valO_tmp
  nl_eq nl_none nl_if nlR_eq boxC_eq stL_eq storeP_ptr loadP_ptr fldP_ptr idxP_ptr inN_int callN_func strV_str fillC_nil fillC_cons pickV_bool guardK_bool kB_eq chk_some ifaceV_eq funcV_eq natV_int notL_noL leaveK_ret leaveK_normal rvsK_nil rvsK_cons rvK_tmp rvC_l rvC_v rvK_cell enterK_eq ok_l ok_v ok_u norm_eq norm_l norm_v norm_u
  Go.Wam.look zipI prune packA rd undefA allNoL convI convS lenStr lenMap extA fldV idxStr idxAgg idxS_slice idxS_oslice unA beq_same beqL_same AV.beq AV.beqL sliceV nilC clearW
  strOp aeqF_nil aeqF_cons andA_some i_add i_sub i_mul i_lss i_leq i_gtr i_geq i_quo i_rem i_eql i_neq s_eql s_neq s_lss
  s_leq s_gtr s_geq s_add e_bool n_bool e_nilp n_nilp e_ptr n_ptr e_lptr n_lptr e_agg n_agg
  e_nils n_nils e_slice n_slice e_oslice n_oslice e_eslice n_eslice e_xslice n_xslice e_nilm n_nilm e_map n_map
  e_nilFunc n_nilFunc e_func n_func q_int q_bool q_str q_struct q_ptr0 q_ptrL0 q_ptrR0 q_ptrL1 q_ptrR1 q_slice0
  q_sliceL0 q_sliceR0 q_sliceL1 q_sliceR1 q_sliceL2 q_sliceR2 q_sliceL3 q_sliceR3 q_map0 q_mapL0 q_mapR0 q_func0 q_funcL0 q_funcR0
  okR_some get_alloc_eq rdAt_alloc_eq set_alloc_eq set_alloc_ne get_alloc_ne rdAt_alloc_ne
attribute [local congr] bind_cg guardK_cg kB_cg condO_cg evK_cg
theorem tNext (a : Stp) (H : AHeap) : call T 29 [.agg [.int .i64 a.1, .int .i64 a.2]] H = some (.tuple [.agg [.int .i64 (nextS a).1.1, .int .i64 (nextS a).1.2], .int .i64 (nextS a).2], H) := by
  refine okR_eq (call_evK (show T 29 = some (.ir ⟨_, _, _, _, _⟩) from T29) rfl rfl ?_)
  have e1 := tRight a H.top
  unfold nextS
  cases hr : rightT a with
  | false => rw [hr] at e1; simp -implicitDefEqProofs [e1, fin_pure]
  | true =>
    rw [hr] at e1
    have hb := right_bounds hr
    by_cases h1 : a.1 = 1099511627776 ∧ a.2 = 65535
    · simp -implicitDefEqProofs [e1, eq_true h1.1, eq_true h1.2, fin_pure]
    · by_cases h2 : a.2 = 65535
      · have h3 : ¬ a.1 = 1099511627776 := fun h => h1 ⟨h, h2⟩
        have w := wrap_id (n := a.1 + 1) (by omega) (by omega)
        simp -implicitDefEqProofs [e1, eq_true h2, h3, w, fin_pure]
      · have w := wrap_id (n := a.2 + 1) (by omega) (by omega)
        by_cases h3 : a.1 = 1099511627776
        · simp -implicitDefEqProofs [e1, h2, eq_true h3, w, fin_pure]
        · simp -implicitDefEqProofs [e1, h2, h3, w, fin_pure]
theorem tNext' (a : Stp) (H : AHeap) : call T 36 [.agg [.int .i64 a.1, .int .i64 a.2]] H = some (.tuple [.agg [.int .i64 (nextS a).1.1, .int .i64 (nextS a).1.2], .int .i64 (nextS a).2], H) := by
  refine okR_eq (call_evK (show T 36 = some (.ir ⟨_, _, _, _, _⟩) from T36) rfl rfl ?_)
  have e1 := tRight' a H.top
  unfold nextS
  cases hr : rightT a with
  | false => rw [hr] at e1; simp -implicitDefEqProofs [e1, fin_pure]
  | true =>
    rw [hr] at e1
    have hb := right_bounds hr
    by_cases h1 : a.1 = 1099511627776 ∧ a.2 = 65535
    · simp -implicitDefEqProofs [e1, eq_true h1.1, eq_true h1.2, fin_pure]
    · by_cases h2 : a.2 = 65535
      · have h3 : ¬ a.1 = 1099511627776 := fun h => h1 ⟨h, h2⟩
        have w := wrap_id (n := a.1 + 1) (by omega) (by omega)
        simp -implicitDefEqProofs [e1, eq_true h2, h3, w, fin_pure]
      · have w := wrap_id (n := a.2 + 1) (by omega) (by omega)
        by_cases h3 : a.1 = 1099511627776
        · simp -implicitDefEqProofs [e1, h2, eq_true h3, w, fin_pure]
        · simp -implicitDefEqProofs [e1, h2, h3, w, fin_pure]
def lastS (L : List Ve) : Stp := (atV L (L.length - 1)).at_
section
variable {H : AHeap} {v : AV} {L : List Ve}
theorem vLast (hS : SV H 5 v (L.map rowVe)) (hl : L.length < 1000000000000000) (cs : List AV) (hcs : cs.length = 11) :
    call T 39 [.agg (v :: cs)] H = some (.tuple [.agg [.int .i64 (if L = [] then 0 else (lastS L).1), .int .i64 (if L = [] then 0 else (lastS L).2)], .bool (decide (L ≠ []))], H) := by
  refine okR_eq (call_evK (show T 39 = some (.ir ⟨_, _, _, _, _⟩) from T39) rfl rfl ?_)
  have hV := hS.view
  have hvn := hV.noL
  have hvo := hS.ok
  have hv1 := hV.one
  have e0 := hV.lenS
  rw [List.length_map] at e0
  match cs, hcs with
  | [c1, c2, c3, c4, c5, c6, c7, c8, c9, c10, c11], _ =>
  by_cases h0 : L = []
  · have h0' : ((L.length : Int) = 0) = True := eq_true (by subst h0; rfl)
    simp -implicitDefEqProofs [e0, h0', hvn, fin_pure]
    simp [h0]
  · have hp : 0 < L.length := List.length_pos_iff.2 h0
    have h0' : ¬ (L.length : Int) = 0 := by omega
    have w := wrap_id (n := (L.length : Int) - 1) (by omega) (by omega)
    have e1 := idxP hV hp (Nat.le_refl _)
    have e2 := rdP hV hp (Nat.le_refl _) true (sz := 2) (f := 0) (by omega) (by omega) (by simp)
    simp only [rowVe, Nat.add_zero] at e2
    simp -implicitDefEqProofs [e0, h0', hvn, hvo, hv1, w, e1, e2, fin_pure]
    simp [h0, lastS]
theorem rLast (hS : SV H 5 v (L.map rowVe)) (hl : L.length < 1000000000000000) (cs : List AV) (hcs : cs.length = 11) :
    call T 35 [.agg (v :: cs)] H = some (.tuple [.agg [.int .i64 (if L = [] then 0 else (lastS L).1), .int .i64 (if L = [] then 0 else (lastS L).2)], .bool (decide (L ≠ []))], H) := by
  refine okR_eq (call_evK (show T 35 = some (.ir ⟨_, _, _, _, _⟩) from T35) rfl rfl ?_)
  have hV := hS.view
  have hvn := hV.noL
  have hvo := hS.ok
  have hv1 := hV.one
  have e0 := hV.lenS
  rw [List.length_map] at e0
  match cs, hcs with
  | [c1, c2, c3, c4, c5, c6, c7, c8, c9, c10, c11], _ =>
  by_cases h0 : L = []
  · have h0' : ((L.length : Int) = 0) = True := eq_true (by subst h0; rfl)
    simp -implicitDefEqProofs [e0, h0', hvn, fin_pure]
    simp [h0]
  · have hp : 0 < L.length := List.length_pos_iff.2 h0
    have h0' : ¬ (L.length : Int) = 0 := by omega
    have w := wrap_id (n := (L.length : Int) - 1) (by omega) (by omega)
    have e1 := idxP hV hp (Nat.le_refl _)
    have e2 := rdP hV hp (Nat.le_refl _) true (sz := 2) (f := 0) (by omega) (by omega) (by simp)
    simp only [rowVe, Nat.add_zero] at e2
    simp -implicitDefEqProofs [e0, h0', hvn, hvo, hv1, w, e1, e2, fin_pure]
    simp [h0, lastS]
theorem vCopied (hok : H.ok) (hS : SV H 5 v (L.map rowVe)) (hl : L.length < 2932031007403) (cs : List AV) (hcs : cs.length = 11) :
    ∃ v' K, call T 33 [.agg (v :: cs)] H = some (.agg (v' :: cs), K) ∧ NewO H K 5 v' (L.map rowVe) := by
  obtain ⟨v', K, e1, m, _, hvn', low, vo, own, mine⟩ := clone (T := T) (H := H.top) (k := 48) (sz := 5) (bytes := 48) T48 (AHeap.ok.top hok.1) (by omega) hS.view.top (by rw [List.length_map]; omega)
  have hvn := hS.view.noL
  have hv1' := m.view.one
  have hvc' := m.view.cells
  refine ⟨v', Go.Wam.fin H (.agg (v' :: cs)) K, okR_eq (call_evK (show T 33 = some (.ir ⟨_, _, _, _, _⟩) from T33) rfl rfl ?_), NewO.fin hok ⟨⟨⟨m.view, vo⟩, m.chg, m.new⟩, own, mine⟩ okB_head⟩
  match cs, hcs with
  | [c1, c2, c3, c4, c5, c6, c7, c8, c9, c10, c11], _ =>
  simp -implicitDefEqProofs [e1, hvn, hvn', hvc']
end
end Go.Proofs.Ytkahfmgdjoaiiaa
