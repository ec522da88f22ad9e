/- Chains alike, Query, Refresh, Resolve. No condition. -/
import Derived.Test.YtkahfmgdjoaiiaaV08S08H
set_option linter.unusedVariables false
set_option linter.unusedSimpArgs false
namespace Go.Proofs.Ytkahfmgdjoaiiaa
open Go.Wam

attribute [local simp] seqK_normal seqK_exit seqK_ret blockK_normal blockK_exit blockK_ret condO_bool evK_skip evK_exit evK_ret evK_keep evK_cond evK_block evK_seq_seq evK_seq_cond evK_seq_block evK_seq_loop evK_seq_skip evK_seq_keep evK_seq_exit evK_seq_ret prK_eq toSt_eq av_l av_v valS_v valT_v valS_u av_u valO_tmp
  nl_eq nl_none nl_if nlR_eq boxC_eq stL_eq storeP_ptr loadP_ptr fldP_ptr idxP_ptr inN_int callN_func strV_str fillC_nil fillC_cons pickV_bool guardK_bool kB_eq chk_some ifaceV_eq funcV_eq natV_int notL_noL leaveK_ret leaveK_normal rvsK_nil rvsK_cons rvK_tmp rvC_l rvC_v rvK_cell enterK_eq ok_l ok_v ok_u norm_eq norm_l norm_v norm_u
  Go.Wam.look zipI prune packA rd undefA allNoL convI convS lenStr lenMap extA fldV idxStr idxAgg idxS_slice idxS_oslice unA beq_same beqL_same AV.beq AV.beqL sliceV nilC clearW
  strOp aeqF_nil aeqF_cons andA_some i_add i_sub i_mul i_lss i_leq i_gtr i_geq i_quo i_rem i_eql i_neq s_eql s_neq s_lss
  s_leq s_gtr s_geq s_add e_bool n_bool e_nilp n_nilp e_ptr n_ptr e_lptr n_lptr e_agg n_agg
  e_nils n_nils e_slice n_slice e_oslice n_oslice e_eslice n_eslice e_xslice n_xslice e_nilm n_nilm e_map n_map
  e_nilFunc n_nilFunc e_func n_func q_int q_bool q_str q_struct q_ptr0 q_ptrL0 q_ptrR0 q_ptrL1 q_ptrR1 q_slice0
  q_sliceL0 q_sliceR0 q_sliceL1 q_sliceR1 q_sliceL2 q_sliceR2 q_sliceL3 q_sliceR3 q_map0 q_mapL0 q_mapR0 q_func0 q_funcL0 q_funcR0
  okR_some get_alloc_eq rdAt_alloc_eq set_alloc_eq set_alloc_ne get_alloc_ne rdAt_alloc_ne
attribute [local congr] bind_cg guardK_cg kB_cg condO_cg evK_cg
def sameC (a b : Ch) : Bool := (a.op == b.op) && (decide (a.i = b.i) && decide (a.L = b.L))
theorem sameC_iff (a b : Ch) : sameC a b = true ↔ a = b := by
  obtain ⟨L, o, i⟩ := a
  obtain ⟨M, p, j⟩ := b
  simp only [sameC, Bool.and_eq_true, beq_iff_eq, decide_eq_true_eq, Ch.mk.injEq]
  exact ⟨fun ⟨h1, h2, h3⟩ => ⟨h3, h1, h2⟩, fun ⟨h1, h2, h3⟩ => ⟨h2, h3, h1⟩⟩
def queryC (c : Ch) (id ep seq : Int) (a : Stp) : Bool := c.op && (decide (c.i.m.id = id) && (decide (c.i.m.ep = ep) && (decide (seq ≤ c.i.seq) && uptoB c.i.at_ a)))
def refreshC (c : Ch) (id : Int) (f t : Stp) : Mt × Int :=
  if othI c id t = true then (c.i.m, 81) else if aboveN c.L f < aboveN c.L t then (zMt, 221) else (zMt, 0)
section
variable {H : AHeap} {v w : AV} {a b c : Ch}
theorem vSame (hS : SV H 5 v (a.L.map rowVe)) (hT : SV H 5 w (b.L.map rowVe)) (hl : a.L.length < 1000000000000) (hl' : b.L.length < 1000000000000) :
    call T 27 [.agg (celCh v a), .agg (celCh w b)] H = some (.bool (sameC a b), H) := by
  refine okR_eq (call_evK (show T 27 = some (.ir ⟨_, _, _, _, _⟩) from T27) rfl rfl ?_)
  have e1 := vEqual hS.top hT.top hl hl'
  have e2 := eqIt a.i b.i
  have hvn := hS.view.noL
  have hvc := hS.view.cells
  have hwn := hT.view.noL
  have hwc := hT.view.cells
  obtain ⟨L, op, i⟩ := a
  obtain ⟨M, oq, j⟩ := b
  simp only at e1 e2
  unfold sameC celCh
  by_cases h1 : op = oq
  · subst h1
    unfold eIt at e2
    unfold celIt at *
    by_cases h2 : i = j
    · simp only [h2, decide_true] at e2
      simp -implicitDefEqProofs [hvn, hvc, hwn, hwc, e1, h2, fin_pure]
    · simp only [h2, decide_false] at e2
      simp -implicitDefEqProofs [-e_agg, hvn, hvc, hwn, hwc, e2, h2, fin_pure]
  · have h1' : (op == oq) = false := by simpa using h1
    unfold celIt
    simp -implicitDefEqProofs [hvn, hvc, hwn, hwc, h1', fin_pure]
theorem vQuery (hS : SV H 5 v (c.L.map rowVe)) (id ep seq : Int) (s : Stp) :
    call T 25 [.agg (celCh v c), .int .i64 id, .int .i64 ep, .int .i64 seq, .agg [.int .i64 s.1, .int .i64 s.2]] H = some (.bool (queryC c id ep seq s), H) := by
  refine okR_eq (call_evK (show T 25 = some (.ir ⟨_, _, _, _, _⟩) from T25) rfl rfl ?_)
  have e1 := vUpto c.i.at_ s H.top
  have hvn := hS.view.noL
  obtain ⟨L, op, i⟩ := c
  unfold queryC celCh celIt
  simp only at e1 ⊢
  cases op with
  | false => simp -implicitDefEqProofs [hvn, fin_pure]
  | true =>
    by_cases h1 : i.m.id = id
    · by_cases h2 : i.m.ep = ep
      · by_cases h3 : seq ≤ i.seq
        · simp -implicitDefEqProofs [hvn, eq_true h1, eq_true h2, h3, e1, fin_pure]
        · simp -implicitDefEqProofs [hvn, eq_true h1, eq_true h2, h3, fin_pure]
      · simp -implicitDefEqProofs [hvn, eq_true h1, h2, fin_pure]
    · simp -implicitDefEqProofs [hvn, h1, fin_pure]
theorem rQuery (hS : SV H 5 v (c.L.map rowVe)) (id ep seq : Int) (s : Stp) :
    call T 26 [.agg (celCh v c), .int .i64 id, .int .i64 ep, .int .i64 seq, .agg [.int .i64 s.1, .int .i64 s.2]] H = some (.bool (queryC c id ep seq s), H) := by
  refine okR_eq (call_evK (show T 26 = some (.ir ⟨_, _, _, _, _⟩) from T26) rfl rfl ?_)
  have e1 := rUpto c.i.at_ s H.top
  have hvn := hS.view.noL
  obtain ⟨L, op, i⟩ := c
  unfold queryC celCh celIt
  simp only at e1 ⊢
  cases op with
  | false => simp -implicitDefEqProofs [hvn, fin_pure]
  | true =>
    by_cases h1 : i.m.id = id
    · by_cases h2 : i.m.ep = ep
      · by_cases h3 : seq ≤ i.seq
        · simp -implicitDefEqProofs [hvn, eq_true h1, eq_true h2, h3, e1, fin_pure]
        · simp -implicitDefEqProofs [hvn, eq_true h1, eq_true h2, h3, fin_pure]
      · simp -implicitDefEqProofs [hvn, eq_true h1, h2, fin_pure]
    · simp -implicitDefEqProofs [hvn, h1, fin_pure]
theorem vRefresh (hS : SV H 5 v (c.L.map rowVe)) (hl : c.L.length < 2932031007403) (id : Int) (f t : Stp) :
    call T 22 [.agg (celCh v c), .int .i64 id, .agg [.int .i64 f.1, .int .i64 f.2], .agg [.int .i64 t.1, .int .i64 t.2]] H = some (.tuple [.agg (celMt (refreshC c id f t).1), .int .i64 (refreshC c id f t).2], H) := by
  refine okR_eq (call_evK (show T 22 = some (.ir ⟨_, _, _, _, _⟩) from T22) rfl rfl ?_)
  have eu := vUpto c.i.at_ t H.top
  have hvn := hS.view.noL
  have hvo := hS.ok
  have hv1 := hS.view.one
  have ef := vAbove f hS.top.view (by omega) c.op c.i
  have et := vAbove t hS.top.view (by omega) c.op c.i
  obtain ⟨L, op, i⟩ := c
  unfold refreshC othI celCh
  simp only [celIt] at *
  generalize aboveN L f = kf at *
  generalize aboveN L t = kt at *
  by_cases h2 : op = true ∧ ¬ i.m.id = id ∧ uptoB i.at_ t = true
  · obtain ⟨rfl, h2, h3⟩ := h2
    rw [h3] at eu
    simp -implicitDefEqProofs [hvn, h2, h3, eu, fin_pure, celMt]
  have ho : ∀ {P : Prop}, (op = false → P) → (op = true → i.m.id = id → P) → (op = true → ¬ i.m.id = id → uptoB i.at_ t = false → P) → P := fun {P} p1 p2 p3 => by
    cases op with
    | false => exact p1 rfl
    | true =>
      by_cases h4 : i.m.id = id
      · exact p2 rfl h4
      · refine p3 rfl h4 ?_
        cases hu : uptoB i.at_ t with | false => rfl | true => exact absurd ⟨rfl, h4, hu⟩ h2
  clear h2
  by_cases h3 : kf < kt
  · refine ho (fun h => ?_) (fun h h' => ?_) (fun h h' h'' => ?_)
    · subst h; simp -implicitDefEqProofs [hvn, hvo, hv1, ef, et, h3, fin_pure, celMt, zMt]
    · subst h; simp -implicitDefEqProofs [hvn, hvo, hv1, ef, et, h3, eq_true h', fin_pure, celMt, zMt]
    · subst h; rw [h''] at eu; simp -implicitDefEqProofs [hvn, hvo, hv1, ef, et, eu, h3, h', h'', fin_pure, celMt, zMt]
  · refine ho (fun h => ?_) (fun h h' => ?_) (fun h h' h'' => ?_)
    · subst h; simp -implicitDefEqProofs [hvn, hvo, hv1, ef, et, h3, fin_pure, celMt, zMt]
    · subst h; simp -implicitDefEqProofs [hvn, hvo, hv1, ef, et, h3, eq_true h', fin_pure, celMt, zMt]
    · subst h; rw [h''] at eu; simp -implicitDefEqProofs [hvn, hvo, hv1, ef, et, eu, h3, h', h'', fin_pure, celMt, zMt]
end
end Go.Proofs.Ytkahfmgdjoaiiaa
