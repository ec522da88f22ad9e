/- The live question of spans. No condition. -/
import Derived.Test.YtdnnpgmekbnlbaaG05S05D
set_option linter.unusedVariables false
set_option linter.unusedSimpArgs false
namespace Go.Proofs.Ytdnnpgmekbnlbaa
open Go.Wam

attribute [local simp] den_seq den_region den_regionD0 den_regionD1 den_condB condB_bool den_block den_keep den_ret den_skip den_exit sops_cons sops_nil sopsR_cons sopsR_nil goR_eq readOk trace_cons trace_nil Opd.ev evs Go.Wam.look St.put enterA zipI leaveR_ret leaveR_normal rvs RV.ev
  st_guard guardB_bool st_move st_pick pickB_bool st_allocL st_alloc st_boxL st_box st_build st_buildSlice st_load st_store st_nilCheck nilC st_bin st_un st_convI convI st_convS convS st_convB convB st_mkIface st_mkFunc st_mkMap st_mkSlice mkSl st_slice st_fieldAddr fldA st_field fldV st_idx idxS_slice idxS_oslice st_idxArr idxArr st_idxStr idxStr st_idxAgg idxAgg st_extract extA st_call callA_func st_len st_lenStr lenStr st_lenArr st_lenMap st_append st_clear clearV st_maxs st_mins
  load_ptr load_lptr storeA rd wr goOn_normal goOn_exit goOn_ret outBlock_normal outBlock_exit outBlock_ret prune freeL_nil freeL_cons frV_lptr frV_tuple frV_noL fillA allNoL packA unA checkAt ev_load wantedA beq_same beqL_same AV.beq AV.beqL drawCond freshD readsOk isRead undefA optInt optIntO
  strOp aeqF_nil aeqF_cons andA_some i_add i_sub i_mul i_lss i_leq i_gtr i_geq i_quo i_rem i_eql i_neq s_eql s_neq s_lss
  s_leq s_gtr s_geq s_add e_bool n_bool e_nilp n_nilp e_ptr n_ptr e_lptr n_lptr e_agg n_agg
  e_nils n_nils e_slice n_slice e_oslice n_oslice e_eslice n_eslice e_xslice n_xslice e_nilm n_nilm e_map n_map
  e_nilFunc n_nilFunc e_func n_func q_int q_bool q_str q_struct q_ptr0 q_ptrL0 q_ptrR0 q_ptrL1 q_ptrR1 q_slice0
  q_sliceL0 q_sliceR0 q_sliceL1 q_sliceR1 q_sliceL2 q_sliceR2 q_sliceL3 q_sliceR3 q_map0 q_mapL0 q_mapR0 q_func0 q_funcL0 q_funcR0
  okR_some guardB_tuple get_alloc_eq rdAt_alloc_eq set_alloc_eq set_alloc_ne get_alloc_ne rdAt_alloc_ne
theorem less_self (s : List UInt8) : bytesLess s s = false := by
  have := less_total s s
  simp at this
  simpa using this
theorem cNaN (s : List UInt8) (H : AHeap) : call T 82 [.str s] H = some (.bool false, H) := by
  rw [call_at (show T 82 = some (.ir ⟨_, _, _, _, _⟩) from T82)]
  simp -implicitDefEqProofs [fin_pure]
theorem cLess (a b : List UInt8) (H : AHeap) : call T 72 [.str a, .str b] H = some (.bool (bytesLess a b), H) := by
  rw [call_at (show T 72 = some (.ir ⟨_, _, _, _, _⟩) from T72)]
  simp -implicitDefEqProofs [cNaN, fin_pure]
set_option maxRecDepth 8000 in
theorem len64 (H : AHeap) : call T 76 [.int .u64 2] H = some (.int .i64 2, H) := by
  rw [call_at (show T 76 = some (.ir ⟨_, _, _, _, _⟩) from T76)]
  have w0 := wrap_id (n := 2) (by omega) (by omega)
  have w1 : IntKind.u8.wrap 2 = 2 := by decide
  simp -implicitDefEqProofs [fin_pure, w0, w1]
theorem lenU (H : AHeap) : call T 64 [.int .u64 2] H = some (.int .i64 2, H) := by
  rw [call_at (show T 64 = some (.ir ⟨_, _, _, _, _⟩) from T64)]
  simp -implicitDefEqProofs [len64, fin_pure]

section
variable {H : AHeap} {id kc : Nat} {x : List UInt8} {rest : List AV}
theorem insTwo (h : SOwn H id kc [x, x] rest) : ∃ u, call T 66 [.oslice id 0 2 kc 1, .int .i64 0, .int .i64 2] H = some (u, H) := by
  rw [call_at (show T 66 = some (.ir ⟨_, _, _, _, _⟩) from T66)]
  have hT : SOwn H.top id kc [x, x] rest := ⟨h.obj, h.cap, h.fit⟩
  have e0 := hT.own.view.idx .i64 (n := 0) (by omega) (by simp)
  have e1 := hT.own.view.idx .i64 (n := 1) (by omega) (by simp)
  have r0 := hT.own.view.rd (i := 0) (r := sR x) rfl false (k := 1) (f := 0) (by omega) (by omega) (by simp)
  have r1 := hT.own.view.rd (i := 1) (r := sR x) rfl false (k := 1) (f := 0) (by omega) (by omega) (by simp)
  have e4 : rd false 1 0 (sR x) = some (.str x) := rfl
  rw [e4] at r0 r1
  simp at e0 e1 r0 r1
  have hl := less_self x
  have w0 := wrap_id (n := 0) (by omega) (by omega)
  have w1 := wrap_id (n := 1) (by omega) (by omega)
  have w2 := wrap_id (n := 2) (by omega) (by omega)
  simp -implicitDefEqProofs [r0, r1, cLess, hl, den_loop, fin_pure, L66_0, L66_1, w0, w1, w2]
theorem pdqTwo (h : SOwn H id kc [x, x] rest) : ∃ u, call T 63 [.oslice id 0 2 kc 1, .int .i64 0, .int .i64 2, .int .i64 2] H = some (u, H) := by
  rw [call_at (show T 63 = some (.ir ⟨_, _, _, _, _⟩) from T63)]
  obtain ⟨u, hu⟩ := insTwo (H := H.top) ⟨h.obj, h.cap, h.fit⟩
  have w3 := wrap_id (n := 2) (by omega) (by omega)
  simp -implicitDefEqProofs [hu, den_loop, fin_pure, L63_0, w3]
theorem sortTwo (h : SOwn H id kc [x, x] rest) : ∃ u, call T 52 [.oslice id 0 2 kc 1] H = some (u, H) := by
  rw [call_at (show T 52 = some (.ir ⟨_, _, _, _, _⟩) from T52)]
  obtain ⟨u, hu⟩ := pdqTwo (H := H.top) ⟨h.obj, h.cap, h.fit⟩
  have w2 : IntKind.u64.wrap 2 = 2 := by decide
  simp -implicitDefEqProofs [lenU, hu, w2, fin_pure]

theorem compactTwo (hok : H.ok) (h : SOwn H id kc [x, x] rest) : ∃ K rest', call T 53 [.oslice id 0 2 kc 1] H = some (.oslice id 0 1 kc 1, K) ∧ SOwn K id kc [x] rest' ∧ Chg [id] H K := by
  have hT : SOwn H.top id kc [x, x] rest := ⟨h.obj, h.cap, h.fit⟩
  have hc := h.cap
  have hf := h.fit
  have hg := h.obj
  have hid : id < H.n := AHeap.get_lt hg hok.1
  simp only [List.length_cons, List.length_nil] at hc hf
  have r0 := hT.own.view.rd (i := 0) (r := sR x) rfl false (k := 1) (f := 0) (by omega) (by omega) (by simp)
  have r1 := hT.own.view.rd (i := 1) (r := sR x) rfl false (k := 1) (f := 0) (by omega) (by omega) (by simp)
  have e4 : rd false 1 0 (sR x) = some (.str x) := rfl
  rw [e4] at r0 r1
  simp at r0 r1
  have w0 := wrap_id (n := 0) (by omega) (by omega)
  have w1 := wrap_id (n := 1) (by omega) (by omega)
  have s1 : sliceA (.slice 1) (.oslice id 0 2 kc 1) 1 none none = some (.oslice id 1 1 (kc - 1) 1) := by
    simp [sliceA, inB]; omega
  have s2 : sliceA (.slice 1) (.oslice id 0 2 kc 1) 0 (some 1) none = some (.oslice id 0 1 kc 1) := by
    simp [sliceA, inB]; omega
  have hfin := fin_keep (H := H) (K := H.top.set id (.row false 1 ([.str x, .str []] ++ rest))) (v := .oslice id 0 1 kc 1) (.inl (by rw [AHeap.set_low]; split <;> omega))
  refine ⟨(H.top.set id (.row false 1 ([.str x, .str []] ++ rest))).lowered H.low, .str [] :: rest, ?_, ⟨by rw [lowered_get]; exact get_set_same _ _ (by rw [top_get, hg]; rfl), by simp; omega, by simp; omega⟩, (Chg.set H.top id _).lowered hok⟩
  rw [call_at (show T 53 = some (.ir ⟨_, _, _, _, _⟩) from T53)]
  simp only [List.map_cons, List.map_nil, List.cons_append, List.nil_append] at hg hfin
  simp -implicitDefEqProofs [r0, r1, w0, w1, s1, s2, hg, den_loop, clearA, zerosA, hfin, L53_0, L53_1]
end
end Go.Proofs.Ytdnnpgmekbnlbaa
