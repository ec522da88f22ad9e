/- Two lists of versions, and two chains, alike. No condition. -/
import Derived.Test.YtkahfmgdjoaiiaaV08S08G
set_option linter.unusedVariables false
set_option linter.unusedSimpArgs false
namespace Go.Proofs.Ytkahfmgdjoaiiaa
open Go.Wam

attribute [local simp] seqK_normal seqK_exit seqK_ret blockK_normal blockK_exit blockK_ret condO_bool evK_skip evK_exit evK_ret evK_keep evK_cond evK_block evK_seq_seq evK_seq_cond evK_seq_block evK_seq_loop evK_seq_skip evK_seq_keep evK_seq_exit evK_seq_ret prK_eq toSt_eq av_l av_v valS_v valT_v valS_u av_u valO_tmp
  nl_eq nl_none nl_if nlR_eq boxC_eq stL_eq storeP_ptr loadP_ptr fldP_ptr idxP_ptr inN_int callN_func strV_str fillC_nil fillC_cons pickV_bool guardK_bool kB_eq chk_some ifaceV_eq funcV_eq natV_int notL_noL leaveK_ret leaveK_normal rvsK_nil rvsK_cons rvK_tmp rvC_l rvC_v rvK_cell enterK_eq ok_l ok_v ok_u norm_eq norm_l norm_v norm_u
  Go.Wam.look zipI prune packA rd undefA allNoL convI convS lenStr lenMap extA fldV idxStr idxAgg idxS_slice idxS_oslice unA beq_same beqL_same AV.beq AV.beqL sliceV nilC clearW
  strOp aeqF_nil aeqF_cons andA_some i_add i_sub i_mul i_lss i_leq i_gtr i_geq i_quo i_rem i_eql i_neq s_eql s_neq s_lss
  s_leq s_gtr s_geq s_add e_bool n_bool e_nilp n_nilp e_ptr n_ptr e_lptr n_lptr e_agg n_agg
  e_nils n_nils e_slice n_slice e_oslice n_oslice e_eslice n_eslice e_xslice n_xslice e_nilm n_nilm e_map n_map
  e_nilFunc n_nilFunc e_func n_func q_int q_bool q_str q_struct q_ptr0 q_ptrL0 q_ptrR0 q_ptrL1 q_ptrR1 q_slice0
  q_sliceL0 q_sliceR0 q_sliceL1 q_sliceR1 q_sliceL2 q_sliceR2 q_sliceL3 q_sliceR3 q_map0 q_mapL0 q_mapR0 q_func0 q_funcL0 q_funcR0
  okR_some get_alloc_eq rdAt_alloc_eq set_alloc_eq set_alloc_ne get_alloc_ne rdAt_alloc_ne
attribute [local congr] bind_cg guardK_cg kB_cg condO_cg evK_cg
theorem atV_eq {L : List Ve} {i : Nat} (h : i < L.length) : L[i] = atV L i := by have := atV_get h; rw [List.getElem?_eq_getElem h] at this; exact Option.some.inj this
theorem ext_atV {L M : List Ve} (hl : L.length = M.length) (h : ∀ j, j < L.length → atV L j = atV M j) : L = M :=
  List.ext_getElem hl fun i h1 h2 => by rw [atV_eq h1, atV_eq h2]; exact h i h1
section
variable {H : AHeap} {v w : AV} {L M : List Ve}
theorem rdV (hV : View H 5 v (L.map rowVe)) {i : Nat} (h : i < L.length) : H.rdAt (sid v) true 5 (soff v + i * 5) = some (.agg (rowVe (atV L i))) := by
  have := hV.rd (i := i) (r := rowVe (atV L i)) (by rw [List.getElem?_map, atV_get h]; rfl) true (k := 5) (f := 0) (by omega) (by omega) (by simp)
  rw [Nat.add_zero, eVe] at this; exact this
theorem ixV (hV : View H 5 v (L.map rowVe)) {i : Nat} (h : i < L.length) : idxS 5 v (.int .i64 i) = some (.ptr (sid v) (soff v + i * 5)) := by
  have := hV.idx .i64 (n := i) (by omega) (by rw [List.length_map]; omega)
  simpa using this
theorem lenV (hV : View H 5 v (L.map rowVe)) : lenS v = some (.int .i64 L.length) := by have := hV.lenS; rw [List.length_map] at this; exact this
theorem okRow (n : Nat) (x : Ve) : (AV.agg (rowVe x)).okB n = true := by simp [rowVe]
theorem vEqual (hS : SV H 5 v (L.map rowVe)) (hT : SV H 5 w (M.map rowVe)) (hl : L.length < 1000000000000) (hl' : M.length < 1000000000000) :
    call T 45 [v, w] H = some (.bool (decide (L = M)), H) := by
  have hvn := hS.view.noL
  have hwn := hT.view.noL
  have e0 := lenV hS.view
  have e0' := lenV hT.view
  by_cases hlen : L.length = M.length
  · have hlen' : ((L.length : Int) = M.length) = True := eq_true (by omega)
    obtain ⟨x, st, s', f1, ⟨q0, q1⟩, hp, hr, hH⟩ := loopK (T := T) (L := L45_0) rfl
      (fun n s => ∃ i : Nat, i + n = L.length ∧ (∀ j, j < i → atV L j = atV M j) ∧ s = ⟨[(0, .v v), (1, .v w), (12, .v (.int .i64 L.length)), (13, .v (.int .i64 i))], [], H.top⟩)
      (fun x s => s.H = H.top ∧ ((x = .exit 0 ∧ L = M ∧ prK [] [] s = ⟨[], [], H.top⟩) ∨ (x = .ret ∧ ¬ L = M ∧ rvsK s [.tmp 4] = some [.bool false])))
      (by
        rintro n _ ⟨i, hi, hall, rfl⟩ P hI hX hR
        by_cases hlt : i < L.length
        · have hlt' : (i : Int) < L.length := by omega
          have hw := wrap_id (n := (i : Int) + 1) (by omega) (by omega)
          have e1 := ixV hS.view hlt
          have e2 := rdV hS.top.view hlt
          have e3 := ixV hT.view (i := i) (by omega)
          have e4 := rdV hT.top.view (i := i) (by omega)
          have e5 := neVe (atV L i) (atV M i)
          have k1 := okRow H.n (atV L i)
          have k2 := okRow H.n (atV M i)
          by_cases he : atV L i = atV M i
          · rw [he] at e5 e2 k1
            simp only [decide_true, Bool.not_true] at e5
            generalize rowVe (atV M i) = ry at *
            simp -implicitDefEqProofs [B45_0, hlt', e1, e2, e3, e4, e5, k1, k2, hw]
            refine hI _ _ _ (n - 1) (by omega) ?_
            refine ⟨i + 1, by omega, fun j hj => ?_, by simp⟩
            by_cases hji : j = i
            · subst hji; exact he
            · exact hall j (by omega)
          · simp only [he, decide_false, Bool.not_false] at e5
            generalize rowVe (atV L i) = rx at *
            generalize rowVe (atV M i) = ry at *
            simp -implicitDefEqProofs [B45_0, hlt', e1, e2, e3, e4, e5, k1, k2, hw]
            refine hR _ ?_
            exact ⟨rfl, .inr ⟨rfl, fun h => he (by rw [h]), by simp⟩⟩
        · have hlt' : ¬ (i : Int) < L.length := by omega
          simp -implicitDefEqProofs [B45_0, hlt']
          refine hX _ _ ?_
          exact ⟨rfl, .inl ⟨rfl, ext_atV hlen (fun j hj => hall j (by omega)), by simp⟩⟩)
      L.length ⟨[(0, .v v), (1, .v w), (12, .v (.int .i64 L.length)), (13, .v (.int .i64 0))], [], H.top⟩ (by simp [hvn, hwn]) ⟨0, by omega, by omega, by simp⟩
    rw [q0] at hH
    simp only [toSt_eq, List.map_cons, List.map_nil, av_v] at f1
    refine okR_eq (call_evK (show T 45 = some (.ir ⟨_, _, _, _, _⟩) from T45) rfl (by simp [hvn, hwn]) ?_)
    rcases q1 with ⟨rfl, hLM, hk⟩ | ⟨rfl, hLM, hk⟩
    · have hk := (hp [] []).trans (congrArg SK.norm hk)
      simp -implicitDefEqProofs [e0, e0', hlen', f1, hk, eq_true hLM, fin_pure]
    · have hk := hr _ _ hk
      simp -implicitDefEqProofs [e0, e0', hlen', f1, hk, hH, hLM, fin_pure]
  · have hlen' : ¬ (L.length : Int) = M.length := by omega
    have hne : ¬ L = M := fun h => hlen (by rw [h])
    refine okR_eq (call_evK (show T 45 = some (.ir ⟨_, _, _, _, _⟩) from T45) rfl (by simp [hvn, hwn]) ?_)
    simp -implicitDefEqProofs [e0, e0', hlen', hne, fin_pure]
end
end Go.Proofs.Ytkahfmgdjoaiiaa
