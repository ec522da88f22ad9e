/- The document's cache: Raise. No condition. -/
import Derived.Test.YtdnnpgmekbnlbaaC10S10Q
set_option linter.unusedVariables false
set_option linter.unusedSimpArgs false
namespace Go.Proofs.Ytdnnpgmekbnlbaa
open Go.Wam

attribute [local simp] den_seq den_region den_regionD0 den_regionD1 den_condB condB_bool den_block den_keep den_ret den_skip den_exit sops_cons sops_nil sopsR_cons sopsR_nil goR_eq readOk trace_cons trace_nil Opd.ev evs Go.Wam.look St.put enterA zipI leaveR_ret leaveR_normal rvs RV.ev
  st_guard guardB_bool st_move st_pick pickB_bool st_allocL st_alloc st_boxL st_box st_build st_buildSlice st_load st_store st_nilCheck nilC st_bin st_un st_convI convI st_convS convS st_convB convB st_mkIface st_mkFunc st_mkMap st_mkSlice mkSl st_slice st_fieldAddr fldA st_field fldV st_idx idxS_slice idxS_oslice st_idxArr idxArr st_idxStr idxStr st_idxAgg idxAgg st_extract extA st_call callA_func st_len st_lenStr lenStr st_lenArr st_lenMap st_append st_clear clearV st_maxs st_mins
  load_ptr load_lptr storeA rd wr goOn_normal goOn_exit goOn_ret outBlock_normal outBlock_exit outBlock_ret prune freeL_nil freeL_cons frV_lptr frV_tuple frV_noL fillA allNoL packA unA checkAt ev_load wantedA beq_same beqL_same AV.beq AV.beqL drawCond freshD readsOk isRead undefA optInt optIntO
  strOp aeqF_nil aeqF_cons andA_some i_add i_sub i_mul i_lss i_leq i_gtr i_geq i_quo i_rem i_eql i_neq s_eql s_neq s_lss
  s_leq s_gtr s_geq s_add e_bool n_bool e_nilp n_nilp e_ptr n_ptr e_lptr n_lptr e_agg n_agg
  e_nils n_nils e_slice n_slice e_oslice n_oslice e_eslice n_eslice e_xslice n_xslice e_nilm n_nilm e_map n_map
  e_nilFunc n_nilFunc e_func n_func q_int q_bool q_str q_struct q_ptr0 q_ptrL0 q_ptrR0 q_ptrL1 q_ptrR1 q_slice0
  q_sliceL0 q_sliceR0 q_sliceL1 q_sliceR1 q_sliceL2 q_sliceR2 q_sliceL3 q_sliceR3 q_map0 q_mapL0 q_mapR0 q_func0 q_funcL0 q_funcR0
  okR_some guardB_tuple get_alloc_eq rdAt_alloc_eq set_alloc_eq set_alloc_ne get_alloc_ne rdAt_alloc_ne
section
variable {K : AHeap} {c : Nat} {lo : Stp} {L : List Sn} {v : AV} {f t : List UInt8} {a : Stp}
theorem rraise_loop (hok : K.ok) (h : CRep K c lo L v) (hl : L.length ≤ 1000000) :
    ∃ z s', den T (.loop L26_0) ⟨[(0, .ptr c 0), (6, .nils), (7, .int .i64 0)], [], K⟩ = some (z, s') ∧
      z = .exit 0 ∧ ∃ rv, Go.Wam.look 0 s'.env = some (.ptr c 0) ∧ Go.Wam.look 6 s'.env = some rv ∧ s'.loc = [] ∧ Own s'.H 4 rv ((L.filter (fun s => ltS lo s.a)).map rowSn) ∧ Chg [] K s'.H ∧ (∀ j ∈ sown rv, K.n ≤ j) ∧ rv.okB s'.H.n = true := by
  refine loop_inv (I := fun q st => ∃ (i : Nat) (K' : AHeap) (rv : AV), i + q = L.length ∧ st = ⟨[(0, .ptr c 0), (6, rv), (7, .int .i64 i)], [], K'⟩ ∧ Own K' 4 rv (((L.take i).filter (fun s => ltS lo s.a)).map rowSn) ∧ Chg [] K K' ∧ (∀ j ∈ sown rv, K.n ≤ j) ∧ rv.okB K'.n = true) _ ?_ L.length _ ⟨0, K, .nils, by omega, by simp [prS], .nil _ _, .refl _ _, by simp, by simp⟩
  rintro q _ ⟨i, K', rv, hi, rfl, hR2, hC, hN, hro⟩ P hI hX hR
  have h' := h.chg hok.1 hC (by simp) (fun _ _ => by simp)
  have ok' := hC.ok hok
  have hO := h'.own.view
  have hvn := hO.noL
  have hvo := h'.vok
  have hrn := hR2.view.noL
  have e0 := hO.lenS
  rw [List.length_map] at e0
  have r := rdAt_row h'.obj
  by_cases hlt : i < L.length
  · have hw := wrap_id (n := (i : Int) + 1) (by omega) (by omega)
    have e1 := hO.idx .i64 (n := i) (by omega) (by rw [List.length_map]; omega)
    have e2 := hO.rd (i := i) (r := rowSn L[i]) (by rw [List.getElem?_map, List.getElem?_eq_getElem hlt]; rfl) true (k := 2) (f := 2) (by omega) (by omega) (by simp)
    have e2' := hO.rd (i := i) (r := rowSn L[i]) (by rw [List.getElem?_map, List.getElem?_eq_getElem hlt]; rfl) true (k := 4) (f := 0) (by omega) (by omega) (by simp)
    rw [show rd true 2 2 (rowSn L[i]) = some (.agg [.int .i64 L[i].a.1, .int .i64 L[i].a.2]) from rfl] at e2
    rw [eSn] at e2'
    simp only [Int.toNat_natCast, Nat.add_zero] at e1 e2 e2'
    have e3 := tLess' lo L[i].a K'
    have ht : (L.take (i + 1)).filter (fun s => ltS lo s.a) = (L.take i).filter (fun s => ltS lo s.a) ++ (if ltS lo L[i].a = true then [L[i]] else []) := by
      rw [List.take_succ_eq_append_getElem hlt, List.filter_append]
      cases hb : ltS lo L[i].a <;> simp [hb]
    have hfl : ((L.take i).filter (fun s => ltS lo s.a)).length ≤ i := Nat.le_trans (List.length_filter_le _ _) (by rw [List.length_take]; omega)
    generalize hx : L[i] = x at *
    cases hb : ltS lo x.a with
    | true =>
      rw [hb] at e3
      rw [hb, if_pos rfl] at ht
      have cT := Chg.alloc K' (.row false 4 (rowSn x))
      have htmp : View (K'.alloc (.row false 4 (rowSn x))) 4 (.slice K'.n 0 1 1) [rowSn x] :=
        ⟨by simp [AV.sl], rfl, by simp [rowSn], fun _ => ⟨false, 4, _, get_alloc_same _ _, by simp [rowSn], by simp [rowSn]⟩⟩
      obtain ⟨rv', K2, ha, hO2, c2, n2, _⟩ := (hR2.new ok'.1 cT).append (bytes := 48) (cT.ok ok') htmp (by simp) (by omega) (by rw [List.length_map]; simp; omega)
      have hrn' := hO2.view.noL
      have ok2 := c2.ok (cT.ok ok')
      have hro2 : rv'.okB K2.n = true := own_okB hO2 ok2.1 (fun id hid => by have := own_sid hO2 (by simp); rw [hid] at this; cases this)
      simp only [rowSn] at ha
      simp -implicitDefEqProofs [r, e0, hlt, e1, e2, e2', e3, hvn, hvo, hrn, ha, hrn', hw]
      refine hI _ _ _ (q - 1) (by omega) ?_
      refine ⟨i + 1, K2, rv', by omega, by simp, by rw [ht, List.map_append]; exact hO2, (hC.trans hok cT (by simp)).trans hok c2 (fun j hj => .inr (hN j hj)), fun j hj => ?_, hro2⟩
      rcases n2 j hj with e | e
      · exact hN j e
      · have := hC.le; simp only [AHeap.alloc_n] at e; omega
    | false =>
      rw [hb] at e3
      rw [hb, if_neg (by simp), List.append_nil] at ht
      simp -implicitDefEqProofs [r, e0, hlt, e1, e2, e3, hvn, hvo, hrn, hw]
      refine hI _ _ _ (q - 1) (by omega) ?_
      exact ⟨i + 1, K', rv, by omega, by simp, by rw [ht]; exact hR2, hC, hN, hro⟩
  · have hil : i = L.length := by omega
    rw [hil, List.take_length] at hR2
    simp -implicitDefEqProofs [r, e0, hlt, hvn]
    refine hX _ _ ?_
    exact ⟨rfl, rv, by simp, by simp, rfl, hR2, hC, hN, hro⟩
theorem CRep.raise' (hok : K.ok) (h : CRep K c lo L v) (hl : L.length ≤ 1000000) :
    ∃ K' v', call T 26 [.ptr c 0, .agg [.int .i64 a.1, .int .i64 a.2]] K = some (.int .i64 (raiseE a), K') ∧ CRep K' c (raiseS lo L a).1 (raiseS lo L a).2 v' ∧ Chg (c :: sown v) K K' ∧ (∀ j ∈ sown v', j ∈ sown v ∨ K.n ≤ j) := by
  have hokT := AHeap.ok.top hok.1
  have hT := h.top
  have clt := h.clt
  have r := rdAt_row hT.obj
  have e1 := tRight' a K.top
  have e2 := tMax' lo a K.top
  unfold raiseE raiseS
  rw [call_at (show T 26 = some (.ir ⟨_, _, _, _, _⟩) from T26)]
  cases hr : rightT a with
  | false =>
    rw [hr] at e1
    simp only [Bool.false_eq_true, if_false]
    refine ⟨K, v, ?_, h, .refl _ _, fun j hj => .inl hj⟩
    simp -implicitDefEqProofs [e1, fin_pure]
  | true =>
    rw [hr] at e1
    simp only [if_true]
    generalize hmx : maxS lo a = mx at *
    have hg0 := h.obj
    have c1 := Chg.set K.top c (cObj mx v)
    have ok1 := c1.ok hokT
    have hg1 : (K.top.set c (cObj mx v)).get c = some (cObj mx v) := get_set_same _ _ (by rw [top_get, hg0]; rfl)
    have h1 : CRep (K.top.set c (cObj mx v)) c mx L v := ⟨hg1, hT.own.frame (fun j hj => get_set_ne _ _ (h.ne j hj)), h.ne, h.vok, clt, h.small⟩
    obtain ⟨z, ⟨e, l2, K2⟩, f1, rfl, rv, q0, q6, ql, O2, c2, n2, hro⟩ := rraise_loop ok1 h1 hl
    simp only at q0 q6 ql O2 c2 n2 hro
    subst ql
    have ok2 := c2.ok ok1
    have hg2 : K2.get c = some (cObj mx v) := by rw [c2.get c (show c < K.n from clt) (by simp)]; exact hg1
    have c3 := Chg.set K2 c (cObj mx rv)
    have hg3 : (K2.set c (cObj mx rv)).get c = some (cObj mx rv) := get_set_same _ _ (by rw [hg2]; rfl)
    have n2' : ∀ j ∈ sown rv, K.n ≤ j := n2
    have hne' : ∀ j ∈ sown rv, j ≠ c := fun j hj => by have := n2' j hj; omega
    have ctot : Chg (c :: sown v) K.top (K2.set c (cObj mx rv)) :=
      (((c1.mono (G := c :: sown v) (by simp)).trans hokT c2 (by simp)).trans hokT c3 (by simp))
    have hfin := fin_keep (H := K) (K := K2.set c (cObj mx rv)) (v := .int .i64 0) (.inl (by rw [AHeap.set_low]; split <;> omega))
    have hrn := O2.view.noL
    have hrc := O2.view.cells
    have hle2 : K.n ≤ K2.n := c2.le
    refine ⟨(K2.set c (cObj mx rv)).lowered K.low, rv, ?_, ⟨by rw [lowered_get]; exact hg3, ?_, hne', hro, show c < K2.n by omega, fun s hs => h.small s (List.mem_filter.1 hs).1⟩, ctot.lowered hok, fun j hj => .inr (n2' j hj)⟩
    · unfold cObj at *
      simp -implicitDefEqProofs [r, e1, e2, hg0, f1, q0, q6, hrn, hrc, hg2, clt, hfin]
    · exact O2.frame (K := (K2.set c (cObj mx rv)).lowered K.low) (fun j hj => by rw [lowered_get, get_set_ne _ _ (hne' j hj)])
end
end Go.Proofs.Ytdnnpgmekbnlbaa
