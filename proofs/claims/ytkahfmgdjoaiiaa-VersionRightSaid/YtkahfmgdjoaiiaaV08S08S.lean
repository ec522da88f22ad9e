/- What the statements of chapter 8 are handed; the live question; does a chain fit? No condition. -/
import Derived.Test.YtkahfmgdjoaiiaaV08S08R
set_option linter.unusedVariables false
set_option linter.unusedSimpArgs false
namespace Go.Proofs.Ytkahfmgdjoaiiaa
open Go.Wam

attribute [local simp] seqK_normal seqK_exit seqK_ret blockK_normal blockK_exit blockK_ret condO_bool evK_skip evK_exit evK_ret evK_keep evK_cond evK_block evK_seq_seq evK_seq_cond evK_seq_block evK_seq_loop evK_seq_skip evK_seq_keep evK_seq_exit evK_seq_ret prK_eq toSt_eq av_l av_v valS_v valT_v valS_u av_u valO_tmp
  nl_eq nl_none nl_if nlR_eq boxC_eq stL_eq storeP_ptr loadP_ptr fldP_ptr idxP_ptr inN_int callN_func strV_str fillC_nil fillC_cons pickV_bool guardK_bool kB_eq chk_some ifaceV_eq funcV_eq natV_int notL_noL leaveK_ret leaveK_normal rvsK_nil rvsK_cons rvK_tmp rvC_l rvC_v rvK_cell enterK_eq ok_l ok_v ok_u norm_eq norm_l norm_v norm_u
  Go.Wam.look zipI prune packA rd undefA allNoL convI convS lenStr lenMap extA fldV idxStr idxAgg idxS_slice idxS_oslice unA beq_same beqL_same AV.beq AV.beqL sliceV nilC clearW
  strOp aeqF_nil aeqF_cons andA_some i_add i_sub i_mul i_lss i_leq i_gtr i_geq i_quo i_rem i_eql i_neq s_eql s_neq s_lss
  s_leq s_gtr s_geq s_add e_bool n_bool e_nilp n_nilp e_ptr n_ptr e_lptr n_lptr e_agg n_agg
  e_nils n_nils e_slice n_slice e_oslice n_oslice e_eslice n_eslice e_xslice n_xslice e_nilm n_nilm e_map n_map
  e_nilFunc n_nilFunc e_func n_func q_int q_bool q_str q_struct q_ptr0 q_ptrL0 q_ptrR0 q_ptrL1 q_ptrR1 q_slice0
  q_sliceL0 q_sliceR0 q_sliceL1 q_sliceR1 q_sliceL2 q_sliceR2 q_sliceL3 q_sliceR3 q_map0 q_mapL0 q_mapR0 q_func0 q_funcL0 q_funcR0
  okR_some get_alloc_eq rdAt_alloc_eq set_alloc_eq set_alloc_ne get_alloc_ne rdAt_alloc_ne
attribute [local congr] bind_cg guardK_cg kB_cg condO_cg evK_cg
def stSh : Sh := .pair (.int .i64) (.pair (.int .i64) .unit)
def veSh : Sh := .pair stSh (.pair .str (.pair .bool (.pair (.int .i64) .unit)))
def mtSh : Sh := .pair (.int .i64) (.pair (.int .i64) (.pair .str (.pair stSh .unit)))
def itSh : Sh := .pair mtSh (.pair (.int .i64) (.pair stSh (.pair .str (.pair .bool .unit))))
def chSh : Sh := .pair (.slice 5 48 veSh) (.pair .bool (.pair itSh .unit))
def acSh : Sh := .pair (.int .i64) (.pair (.int .i64) (.pair (.int .i64) (.pair itSh (.pair .bool (.pair stSh .unit)))))
theorem st_cells {H : AHeap} {l : List AV} (h : IsC H stSh l) : ∃ a : Stp, l = [.int .i64 a.1, .int .i64 a.2] := by
  obtain ⟨a, b, rfl, ⟨x, rfl, _⟩, c, d, rfl, ⟨y, rfl, _⟩, rfl⟩ := h
  exact ⟨(x, y), rfl⟩
theorem ve_cells {H : AHeap} {l : List AV} (h : IsC H veSh l) : ∃ x : Ve, l = rowVe x := by
  obtain ⟨a, b, rfl, h1, c, d, rfl, ⟨s, rfl, _⟩, e, f, rfl, ⟨g, rfl⟩, i, j, rfl, ⟨n, rfl, _⟩, rfl⟩ := h
  obtain ⟨x, rfl⟩ := st_cells h1
  exact ⟨⟨x, s, g, n⟩, rfl⟩
theorem mt_cells {H : AHeap} {l : List AV} (h : IsC H mtSh l) : ∃ x : Mt, l = celMt x := by
  obtain ⟨a, b, rfl, ⟨n, rfl, _⟩, c, d, rfl, ⟨m, rfl, _⟩, e, f, rfl, ⟨g, rfl, _⟩, i, j, rfl, h1, rfl⟩ := h
  obtain ⟨x, rfl⟩ := st_cells h1
  exact ⟨⟨n, m, g, x.1, x.2⟩, rfl⟩
theorem it_cells {H : AHeap} {l : List AV} (h : IsC H itSh l) : ∃ x : It, l = celIt x := by
  obtain ⟨a, b, rfl, h1, c, d, rfl, ⟨m, rfl, _⟩, e, f, rfl, h2, i, j, rfl, ⟨s, rfl, _⟩, p, q, rfl, ⟨g, rfl⟩, rfl⟩ := h
  obtain ⟨x, rfl⟩ := mt_cells h1
  obtain ⟨y, rfl⟩ := st_cells h2
  exact ⟨⟨x, m, y, s, g⟩, rfl⟩
theorem rows_of {α : Type} {H : AHeap} {sh : Sh} {f : α → List AV} (hf : ∀ l, IsC H sh l → ∃ x : α, l = f x) : ∀ {rows : List (List AV)}, (∀ r ∈ rows, IsC H sh r) → ∃ xs : List α, rows = xs.map f
  | [], _ => ⟨[], rfl⟩
  | r :: rows, h => by
    obtain ⟨x, rfl⟩ := hf r (h r (by simp))
    obtain ⟨xs, rfl⟩ := rows_of hf (rows := rows) fun r hr => h r (by simp [hr])
    exact ⟨x :: xs, rfl⟩
theorem ch_cells {H : AHeap} {l : List AV} (hw : H.wf) (h : IsC H chSh l) : ∃ v c, l = celCh v c ∧ SV H 5 v (c.L.map rowVe) ∧ c.L.length < 2932031007403 := by
  obtain ⟨a, b, rfl, ⟨v, rows, rfl, hs, hb, _, hr⟩, c, d, rfl, ⟨o, rfl⟩, e, f, rfl, h1, rfl⟩ := h
  obtain ⟨i, rfl⟩ := it_cells h1
  obtain ⟨L, rfl⟩ := rows_of (fun l h => ve_cells h) hr
  rw [List.length_map] at hb
  exact ⟨v, ⟨L, o, i⟩, by simp [celCh], hs.sv hw, by simp only [reachBytes] at hb; show L.length < _; omega⟩
section
variable {H : AHeap}
theorem vAlive (hok : H.ok) : call T 12 [] H = some (.bool true, H) := by
  have hokT := AHeap.ok.top hok.1
  have hi : It := ⟨⟨7, 0, [107], 0, 0⟩, 1, (5, 0), [118], false⟩
  obtain ⟨v1, K1, e1, m1⟩ := vWrite (c := zCh) (v := .nils) hokT (.nil _ _) (by simp [zCh]) ⟨⟨7, 0, [107], 0, 0⟩, 1, (5, 0), [118], false⟩
  have w1 : writeC zCh ⟨⟨7, 0, [107], 0, 0⟩, 1, (5, 0), [118], false⟩ = (⟨[], true, ⟨⟨7, 0, [107], 0, 0⟩, 1, (5, 0), [118], false⟩⟩, (5, 0), zMt, 0) := by rfl
  rw [w1] at e1 m1
  have ok1 := m1.chg.ok hokT
  obtain ⟨v2, K2, e2, m2⟩ := vResolve (c := ⟨[], true, ⟨⟨7, 0, [107], 0, 0⟩, 1, (5, 0), [118], false⟩⟩) ok1 m1.sv (by simp) 7 0 true (6, 0)
  have w2 : resolveC ⟨[], true, ⟨⟨7, 0, [107], 0, 0⟩, 1, (5, 0), [118], false⟩⟩ 7 0 true (6, 0) = (⟨[⟨(6, 0), [118], false, 7⟩], false, zIt⟩, 0) := by rfl
  rw [w2] at e2 m2
  have e3 := vRead m2.sv (by simp) false 0 0 [] 0 0 0 (0, 0) [] false (6, 0) (6, 0) 0 0
  have e4 := vRead m2.sv (by simp) false 0 0 [] 0 0 0 (0, 0) [] false (5, 0) (9, 0) 0 0
  have w3 : readC ⟨[⟨(6, 0), [118], false, 7⟩], false, ⟨⟨0, 0, [], 0, 0⟩, 0, (0, 0), [], false⟩⟩ (6, 0) (6, 0) 0 0 = (⟨(6, 0), [118], false, 7⟩, true, zMt, 0) := by rfl
  have w4 : readC ⟨[⟨(6, 0), [118], false, 7⟩], false, ⟨⟨0, 0, [], 0, 0⟩, 0, (0, 0), [], false⟩⟩ (5, 0) (9, 0) 0 0 = (⟨(6, 0), [], false, 0⟩, false, zMt, 82) := by rfl
  rw [w3] at e3
  rw [w4] at e4
  have n1 := m1.sv.view.noL
  have n2 := m2.sv.view.noL
  have c1 := m1.sv.view.cells
  have c2 := m2.sv.view.cells
  have hfin : Go.Wam.fin H (.bool true) K2 = H := fin_drop' (by rw [m2.chg.low_eq, m1.chg.low_eq]; simp) (by simp)
  refine okR_eq (call_evK (show T 12 = some (.ir ⟨_, _, _, _, _⟩) from T12) rfl rfl ?_)
  simp only [outW, outV, outR, celCh, celIt, celMt, zCh, zIt, zMt, rowVe] at e1 e2 e3 e4
  simp -implicitDefEqProofs [e1, e2, e3, e4, n1, n2, c1, c2, hfin]
def fitC (c : Ch) : Bool := decide (c.L.length ≤ 60) && rightC c
theorem vFits {v : AV} {c : Ch} (hS : SV H 5 v (c.L.map rowVe)) : call T 11 [.agg (celCh v c)] H = some (.bool (fitC c), H) := by
  have hvn := hS.view.noL
  have hvc := hS.view.cells
  have e0 := lenV hS.view
  refine okR_eq (call_evK (show T 11 = some (.ir ⟨_, _, _, _, _⟩) from T11) rfl rfl ?_)
  unfold fitC
  by_cases h : c.L.length ≤ 60
  · have h' : ((c.L.length : Int) ≤ 60) := by omega
    have e1 := rRight hS.top (by omega)
    unfold celCh celIt at *
    simp -implicitDefEqProofs [e0, e1, hvn, hvc, h, h', fin_pure]
  · have h' : ¬ ((c.L.length : Int) ≤ 60) := by omega
    unfold celCh celIt at *
    simp -implicitDefEqProofs [e0, hvn, hvc, h, h', fin_pure]
end
end Go.Proofs.Ytkahfmgdjoaiiaa
