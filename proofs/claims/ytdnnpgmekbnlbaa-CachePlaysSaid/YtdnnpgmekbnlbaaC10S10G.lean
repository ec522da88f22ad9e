/- A cache drops the least; Add in full. No condition. -/
import Derived.Test.YtdnnpgmekbnlbaaC10S10E
set_option linter.unusedVariables false
set_option linter.unusedSimpArgs false
namespace Go.Proofs.Ytdnnpgmekbnlbaa
open Go.Wam

attribute [local simp] den_seq den_region den_regionD0 den_regionD1 den_condB condB_bool den_block den_keep den_ret den_skip den_exit sops_cons sops_nil sopsR_cons sopsR_nil goR_eq readOk trace_cons trace_nil Opd.ev evs Go.Wam.look St.put enterA zipI leaveR_ret leaveR_normal rvs RV.ev
  st_guard guardB_bool st_move st_pick pickB_bool st_allocL st_alloc st_boxL st_box st_build st_buildSlice st_load st_store st_nilCheck nilC st_bin st_un st_convI convI st_convS convS st_convB convB st_mkIface st_mkFunc st_mkMap st_mkSlice mkSl st_slice st_fieldAddr fldA st_field fldV st_idx idxS_slice idxS_oslice st_idxArr idxArr st_idxStr idxStr st_idxAgg idxAgg st_extract extA st_call callA_func st_len st_lenStr lenStr st_lenArr st_lenMap st_append st_clear clearV st_maxs st_mins
  load_ptr load_lptr storeA rd wr goOn_normal goOn_exit goOn_ret outBlock_normal outBlock_exit outBlock_ret prune freeL_nil freeL_cons frV_lptr frV_tuple frV_noL fillA allNoL packA unA checkAt ev_load wantedA beq_same beqL_same AV.beq AV.beqL drawCond freshD readsOk isRead undefA optInt optIntO
  strOp aeqF_nil aeqF_cons andA_some i_add i_sub i_mul i_lss i_leq i_gtr i_geq i_quo i_rem i_eql i_neq s_eql s_neq s_lss
  s_leq s_gtr s_geq s_add e_bool n_bool e_nilp n_nilp e_ptr n_ptr e_lptr n_lptr e_agg n_agg
  e_nils n_nils e_slice n_slice e_oslice n_oslice e_eslice n_eslice e_xslice n_xslice e_nilm n_nilm e_map n_map
  e_nilFunc n_nilFunc e_func n_func q_int q_bool q_str q_struct q_ptr0 q_ptrL0 q_ptrR0 q_ptrL1 q_ptrR1 q_slice0
  q_sliceL0 q_sliceR0 q_sliceL1 q_sliceR1 q_sliceL2 q_sliceR2 q_sliceL3 q_sliceR3 q_map0 q_mapL0 q_mapR0 q_func0 q_funcL0 q_funcR0
  okR_some guardB_tuple get_alloc_eq rdAt_alloc_eq set_alloc_eq set_alloc_ne get_alloc_ne rdAt_alloc_ne
section
variable {K : AHeap} {c : Nat} {lo : Stp} {L : List Sn} {v : AV} {f t : List UInt8} {a : Stp}
theorem CRep.drop (hok : K.ok) (h : CRep K c lo L v) (h0 : 0 < L.length) (hl : L.length ≤ 1000) :
    ∃ u K' v', call T 42 [.ptr c 0] K = some (u, K') ∧ CRep K' c (maxS lo (atN L (minT L L.length))) (L.eraseIdx (minT L L.length)) v' ∧ Chg (c :: sown v) K K' ∧ (∀ j ∈ sown v', j ∈ sown v) := by
  have hokT := AHeap.ok.top hok.1
  have hT := h.top
  have hk := minT_lt L h0
  have e1 := cMin hT.own.view (by omega) h0
  have e2 := cIdx hT.own.view (by omega) h0
  have hat := atN_get hk
  have e3 := tMax lo (atN L (minT L L.length))
  obtain ⟨v', K1, e4, O1, c1, s1, hvn0, hlow, v'n⟩ := delete (T := T) (k := 58) (sz := 4) (bytes := 48) (zero := [.str [], .str [], .int .i64 0, .int .i64 0]) T58 hokT (by omega) rfl hT.own (i := minT L L.length) (by rw [List.length_map]; exact hk) (by rw [List.length_map]; omega) (by rw [List.length_map]; omega)
  have ok1 := c1.ok hokT
  have cc : c ∉ sown v := fun hc => h.ne c hc rfl
  have clt := h.clt
  have hg1 : K1.get c = some (cObj lo v) := by rw [c1.get c clt cc]; exact h.obj
  have hg2 : (K1.set c (cObj lo v')).get c = some (cObj lo v') := get_set_same _ _ (by rw [hg1]; rfl)
  have c2 := Chg.set K1 c (cObj lo v')
  have ok2 := c2.ok ok1
  have c3 := Chg.set K1 c (cObj (maxS lo (atN L (minT L L.length))) v')
  have hg3 : (K1.set c (cObj (maxS lo (atN L (minT L L.length))) v')).get c = some (cObj (maxS lo (atN L (minT L L.length))) v') := get_set_same _ _ (by rw [hg1]; rfl)
  have ctot : Chg (c :: sown v) K.top (K1.set c (cObj (maxS lo (atN L (minT L L.length))) v')) :=
    ((c1.mono (G := c :: sown v) (fun j hj => by simp [hj])).trans hokT c3 (by simp))
  have hne' : ∀ j ∈ sown v', j ≠ c := fun j hj => by rw [s1] at hj; exact h.ne j hj
  have hr := rdAt_row hT.obj
  have hr2 := rdAt_row hg2
  have hvn := h.own.view.noL
  have hvo := h.vok
  have hvc := O1.view.cells
  have hv'o : v'.okB K1.n = true := own_okB O1 ok1.1 (fun id hid => by
    obtain ⟨_, ⟨hx | ⟨i2, hx⟩, hr⟩ | ⟨i2, kc, rest, hx, _⟩⟩ := h.own
    · exact absurd hx hvn0
    · rw [List.map_eq_nil_iff] at hr; rw [hr] at h0; simp at h0
    · rw [hid, hx] at s1; simp at s1)
  generalize hmx : maxS lo (atN L (minT L L.length)) = mx at *
  have hrow : rowSn (L[minT L L.length]'hk) = [.str (L[minT L L.length]'hk).f, .str (L[minT L L.length]'hk).t, .int .i64 (atN L (minT L L.length)).1, .int .i64 (atN L (minT L L.length)).2] := by rw [hat]; rfl
  rw [hrow] at e1 e2
  generalize (L[minT L L.length]'hk) = x at *
  generalize atN L (minT L L.length) = xa at *
  have hle := minT_lt L h0
  generalize hkk : minT L L.length = k at *
  have hw1 := wrap_id (n := (k : Int) + 1) (by omega) (by omega)
  have hfin := fin_keep (H := K) (K := K1.set c (cObj mx v')) (v := .tuple []) (.inl (by rw [AHeap.set_low]; split <;> omega))
  refine ⟨.tuple [], (K1.set c (cObj mx v')).lowered K.low, v', ?_, ⟨by rw [lowered_get]; exact hg3, ?_, hne', ?_, ?_, fun s hs => h.small s (List.mem_of_mem_eraseIdx hs)⟩, ctot.lowered hok, fun j hj => by rw [s1] at hj; exact hj⟩
  · rw [call_at (show T 42 = some (.ir ⟨_, _, _, _, _⟩) from T42)]
    unfold cObj at *
    simp -implicitDefEqProofs [hr, hr2, hvn, hvo, clt, e1, e2, hw1, e4, v'n, hvc, hg1, e3, hg2, hfin]
  · have := O1.frame (K := (K1.set c (cObj mx v')).lowered K.low) (fun j hj => by rw [lowered_get, get_set_ne _ _ (hne' j hj)])
    rw [List.eraseIdx_eq_take_drop_succ, List.map_append, List.map_take, List.map_drop, ← List.eraseIdx_eq_take_drop_succ]
    exact this
  · exact hv'o
  · have := ctot.le
    simp only [top_n] at this
    exact Nat.lt_of_lt_of_le clt this
end
end Go.Proofs.Ytdnnpgmekbnlbaa
