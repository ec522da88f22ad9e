/- Add, in full. No condition. -/
import Derived.Test.YtdnnpgmekbnlbaaC10S10G
set_option linter.unusedVariables false
set_option linter.unusedSimpArgs false
namespace Go.Proofs.Ytdnnpgmekbnlbaa
open Go.Wam

attribute [local simp] den_seq den_region den_regionD0 den_regionD1 den_condB condB_bool den_block den_keep den_ret den_skip den_exit sops_cons sops_nil sopsR_cons sopsR_nil goR_eq readOk trace_cons trace_nil Opd.ev evs Go.Wam.look St.put enterA zipI leaveR_ret leaveR_normal rvs RV.ev
  st_guard guardB_bool st_move st_pick pickB_bool st_allocL st_alloc st_boxL st_box st_build st_buildSlice st_load st_store st_nilCheck nilC st_bin st_un st_convI convI st_convS convS st_convB convB st_mkIface st_mkFunc st_mkMap st_mkSlice mkSl st_slice st_fieldAddr fldA st_field fldV st_idx idxS_slice idxS_oslice st_idxArr idxArr st_idxStr idxStr st_idxAgg idxAgg st_extract extA st_call callA_func st_len st_lenStr lenStr st_lenArr st_lenMap st_append st_clear clearV st_maxs st_mins
  load_ptr load_lptr storeA rd wr goOn_normal goOn_exit goOn_ret outBlock_normal outBlock_exit outBlock_ret prune freeL_nil freeL_cons frV_lptr frV_tuple frV_noL fillA allNoL packA unA checkAt ev_load wantedA beq_same beqL_same AV.beq AV.beqL drawCond freshD readsOk isRead undefA optInt optIntO
  strOp aeqF_nil aeqF_cons andA_some i_add i_sub i_mul i_lss i_leq i_gtr i_geq i_quo i_rem i_eql i_neq s_eql s_neq s_lss
  s_leq s_gtr s_geq s_add e_bool n_bool e_nilp n_nilp e_ptr n_ptr e_lptr n_lptr e_agg n_agg
  e_nils n_nils e_slice n_slice e_oslice n_oslice e_eslice n_eslice e_xslice n_xslice e_nilm n_nilm e_map n_map
  e_nilFunc n_nilFunc e_func n_func q_int q_bool q_str q_struct q_ptr0 q_ptrL0 q_ptrR0 q_ptrL1 q_ptrR1 q_slice0
  q_sliceL0 q_sliceR0 q_sliceL1 q_sliceR1 q_sliceL2 q_sliceR2 q_sliceL3 q_sliceR3 q_map0 q_mapL0 q_mapR0 q_func0 q_funcL0 q_funcR0
  okR_some guardB_tuple get_alloc_eq rdAt_alloc_eq set_alloc_eq set_alloc_ne get_alloc_ne rdAt_alloc_ne
section
variable {K : AHeap} {c : Nat} {lo : Stp} {L : List Sn} {v : AV} {f t : List UInt8} {a : Stp}
theorem CRep.add_full (hok : K.ok) (h : CRep K c lo L v) (hf : Small f) (ht : Small t) (hw : addW lo f t a = true) (hl : L.length = 16) :
    ∃ K' v', call T 16 [.ptr c 0, .agg [.str f, .str t], .agg [.int .i64 a.1, .int .i64 a.2]] K = some (.int .i64 0, K') ∧ CRep K' c (maxS lo (atN (L ++ [(⟨f, t, a⟩ : Sn)]) (minT (L ++ [(⟨f, t, a⟩ : Sn)]) (L ++ [(⟨f, t, a⟩ : Sn)]).length))) ((L ++ [(⟨f, t, a⟩ : Sn)]).eraseIdx (minT (L ++ [(⟨f, t, a⟩ : Sn)]) (L ++ [(⟨f, t, a⟩ : Sn)]).length)) v' ∧ Chg (c :: sown v) K K' ∧ (∀ j ∈ sown v', j ∈ sown v ∨ K.n ≤ j) := by
  have hokT := AHeap.ok.top hok.1
  have hT := h.top
  have r := rdAt_row hT.obj
  have e1 := sRight hf ht K.top
  have e2 := tRight a K.top
  have e3 := tLess lo a K.top
  unfold addW at hw
  simp only [Bool.and_eq_true] at hw
  rw [hw.1] at e1
  rw [hw.2.1] at e2
  rw [hw.2.2] at e3
  have cT := Chg.alloc K.top (.row false 4 (rowSn ⟨f, t, a⟩))
  have okT := cT.ok hokT
  have htmp : View (K.top.alloc (.row false 4 (rowSn ⟨f, t, a⟩))) 4 (.slice K.n 0 1 1) [rowSn ⟨f, t, a⟩] :=
    ⟨by simp [AV.sl], rfl, by simp [rowSn], fun _ => ⟨false, 4, _, get_alloc_same _ _, by simp [rowSn], by simp [rowSn]⟩⟩
  obtain ⟨v', K2, ha, hO2, c2, n2, _⟩ := (hT.own.new hokT.1 cT).append (bytes := 48) okT htmp (by simp) (by omega) (by rw [List.length_map]; simp; omega)
  have ok2 := c2.ok okT
  have cc : c ∉ sown v := fun hc => h.ne c hc rfl
  have clt : c < K.n := h.clt
  have hg2 : K2.get c = some (cObj lo v) := by rw [c2.get c (by simp; omega) cc, cT.get c clt (by simp)]; exact h.obj
  have c3 := Chg.set K2 c (cObj lo v')
  have c03 : Chg (c :: sown v) K.top (K2.set c (cObj lo v')) := (((cT.mono (G := c :: sown v) (by simp)).trans hokT c2 (fun j hj => .inl (by simp [hj]))).trans hokT c3 (by simp))
  have hvn := h.own.view.noL
  have hvn' := hO2.view.noL
  have hvc := hO2.view.cells
  have hl2 := hO2.view.lenS
  rw [List.length_append, List.length_map] at hl2
  have hne' : ∀ j ∈ sown v', j ≠ c := fun j hj => by
    rcases n2 j hj with e | e
    · exact h.ne j e
    · simp only [AHeap.alloc_n, top_n] at e; omega
  have hg3 : (K2.set c (cObj lo v')).get c = some (cObj lo v') := get_set_same _ _ (by rw [hg2]; rfl)
  have r3 := rdAt_row hg3
  have hv'o : v'.okB K2.n = true := own_okB hO2 ok2.1 (fun id hid => by have := own_sid hO2 (by simp); rw [hid] at this; cases this)
  have hlen17 : (L ++ [(⟨f, t, a⟩ : Sn)]).length = 17 := by rw [List.length_append, hl]; rfl
  have ok3 := c3.ok ok2
  have h3 : CRep (K2.set c (cObj lo v')) c lo (L ++ [(⟨f, t, a⟩ : Sn)]) v' := by
    refine ⟨hg3, ?_, hne', hv'o, ?_, fun s hs => ?_⟩
    · have := hO2.frame (K := K2.set c (cObj lo v')) (fun j hj => get_set_ne _ _ (hne' j hj))
      rw [List.map_append]; exact this
    · have := c03.le
      simp only [top_n] at this
      exact Nat.lt_of_lt_of_le clt this
    · rcases List.mem_append.1 hs with hs | hs
      · exact h.small s hs
      · simp at hs; subst hs; exact ⟨hf, ht⟩
  obtain ⟨u, K4, v4, e4, r4, c4, s4⟩ := h3.drop ok3 (by omega) (by omega)
  have c04 : Chg (c :: sown v) K.top K4 := c03.trans hokT c4 (fun j hj => by
    rcases List.mem_cons.1 hj with rfl | hj
    · exact .inl (by simp)
    · rcases n2 j hj with e | e
      · exact .inl (by simp [e])
      · simp only [AHeap.alloc_n, top_n] at e; exact .inr (by simp; omega))
  have hlow4 : K4.low < K.n := by
    have := c4.lo
    have : (K2.set c (cObj lo v')).low ≤ c := by rw [AHeap.set_low]; split <;> omega
    omega
  have hfin := fin_keep (H := K) (K := K4) (v := .int .i64 0) (.inl hlow4)
  refine ⟨K4.lowered K.low, v4, ?_, ⟨r4.obj, r4.own.frame fun _ _ => rfl, r4.ne, r4.vok, r4.clt, r4.small⟩, c04.lowered hok, fun j hj => ?_⟩
  · have hlt : (16 : Int) < (L.length : Int) + 1 := by omega
    have hlen : (((L.length + [rowSn ⟨f, t, a⟩].length : Nat)) : Int) = (L.length : Int) + 1 := by simp
    rw [hlen] at hl2
    have hvo := h.vok
    rw [call_at (show T 16 = some (.ir ⟨_, _, _, _, _⟩) from T16)]
    clear r4 c4 c04 h3 hlen17 hl
    unfold cObj at *
    simp only [rowSn] at ha
    simp -implicitDefEqProofs [r, e1, e2, e3, hvn, hvo, ha, hvn', hvc, hg2, r3, hl2, hlt, clt, e4, hfin]
  · rcases n2 j (s4 j hj) with e | e
    · exact .inl e
    · simp only [AHeap.alloc_n, top_n] at e; exact .inr (by omega)

/-- The state behind Add. -/
def addS (lo : Stp) (L : List Sn) (f t : List UInt8) (a : Stp) : Stp × List Sn :=
  if addW lo f t a = true then
    (if (L ++ [(⟨f, t, a⟩ : Sn)]).length ≤ 16 then (lo, L ++ [(⟨f, t, a⟩ : Sn)]) else (maxS lo (atN (L ++ [(⟨f, t, a⟩ : Sn)]) (minT (L ++ [(⟨f, t, a⟩ : Sn)]) (L ++ [(⟨f, t, a⟩ : Sn)]).length)), (L ++ [(⟨f, t, a⟩ : Sn)]).eraseIdx (minT (L ++ [(⟨f, t, a⟩ : Sn)]) (L ++ [(⟨f, t, a⟩ : Sn)]).length)))
  else (lo, L)
theorem addW_E {lo : Stp} {f t : List UInt8} {a : Stp} (h : addW lo f t a = true) : addE f t a = 0 := by
  unfold addW at h
  simp only [Bool.and_eq_true] at h
  unfold addE
  rw [if_pos h.1, if_pos h.2.1]
theorem CRep.add (hok : K.ok) (h : CRep K c lo L v) (hf : Small f) (ht : Small t) (hl : L.length ≤ 16) :
    ∃ K' v', call T 16 [.ptr c 0, .agg [.str f, .str t], .agg [.int .i64 a.1, .int .i64 a.2]] K = some (.int .i64 (addE f t a), K') ∧ CRep K' c (addS lo L f t a).1 (addS lo L f t a).2 v' ∧ Chg (c :: sown v) K K' ∧ (∀ j ∈ sown v', j ∈ sown v ∨ K.n ≤ j) := by
  unfold addS
  cases hw : addW lo f t a with
  | true =>
    rw [if_pos rfl, addW_E hw]
    by_cases h16 : L.length < 16
    · rw [if_pos (by rw [List.length_append]; have : [(⟨f, t, a⟩ : Sn)].length = 1 := rfl; omega)]
      exact h.add_room hok hf ht hw h16
    · rw [if_neg (by rw [List.length_append]; have : [(⟨f, t, a⟩ : Sn)].length = 1 := rfl; omega)]
      exact h.add_full hok hf ht hw (by omega)
  | false =>
    rw [if_neg (by simp)]
    exact ⟨K, v, h.add_no hf ht hw, h, .refl _ _, fun j hj => .inl hj⟩
theorem addS_len (hl : L.length ≤ 16) : (addS lo L f t a).2.length ≤ 16 := by
  unfold addS
  split
  · split
    · assumption
    · have hk := minT_lt (L ++ [(⟨f, t, a⟩ : Sn)]) (k := (L ++ [(⟨f, t, a⟩ : Sn)]).length) (by simp)
      simp only
      rw [List.length_eraseIdx_of_lt hk, List.length_append]
      have : [(⟨f, t, a⟩ : Sn)].length = 1 := rfl
      omega
  · exact hl
end
end Go.Proofs.Ytdnnpgmekbnlbaa
