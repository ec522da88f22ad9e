/- Raise of the cache. No condition. -/
import Derived.Test.YtdnnpgmekbnlbaaC10S10J
set_option linter.unusedVariables false
set_option linter.unusedSimpArgs false
namespace Go.Proofs.Ytdnnpgmekbnlbaa
open Go.Wam

attribute [local simp] den_seq den_region den_regionD0 den_regionD1 den_condB condB_bool den_block den_keep den_ret den_skip den_exit sops_cons sops_nil sopsR_cons sopsR_nil goR_eq readOk trace_cons trace_nil Opd.ev evs Go.Wam.look St.put enterA zipI leaveR_ret leaveR_normal rvs RV.ev
  st_guard guardB_bool st_move st_pick pickB_bool st_allocL st_alloc st_boxL st_box st_build st_buildSlice st_load st_store st_nilCheck nilC st_bin st_un st_convI convI st_convS convS st_convB convB st_mkIface st_mkFunc st_mkMap st_mkSlice mkSl st_slice st_fieldAddr fldA st_field fldV st_idx idxS_slice idxS_oslice st_idxArr idxArr st_idxStr idxStr st_idxAgg idxAgg st_extract extA st_call callA_func st_len st_lenStr lenStr st_lenArr st_lenMap st_append st_clear clearV st_maxs st_mins
  load_ptr load_lptr storeA rd wr goOn_normal goOn_exit goOn_ret outBlock_normal outBlock_exit outBlock_ret prune freeL_nil freeL_cons frV_lptr frV_tuple frV_noL fillA allNoL packA unA checkAt ev_load wantedA beq_same beqL_same AV.beq AV.beqL drawCond freshD readsOk isRead undefA optInt optIntO
  strOp aeqF_nil aeqF_cons andA_some i_add i_sub i_mul i_lss i_leq i_gtr i_geq i_quo i_rem i_eql i_neq s_eql s_neq s_lss
  s_leq s_gtr s_geq s_add e_bool n_bool e_nilp n_nilp e_ptr n_ptr e_lptr n_lptr e_agg n_agg
  e_nils n_nils e_slice n_slice e_oslice n_oslice e_eslice n_eslice e_xslice n_xslice e_nilm n_nilm e_map n_map
  e_nilFunc n_nilFunc e_func n_func q_int q_bool q_str q_struct q_ptr0 q_ptrL0 q_ptrR0 q_ptrL1 q_ptrR1 q_slice0
  q_sliceL0 q_sliceR0 q_sliceL1 q_sliceR1 q_sliceL2 q_sliceR2 q_sliceL3 q_sliceR3 q_map0 q_mapL0 q_mapR0 q_func0 q_funcL0 q_funcR0
  okR_some guardB_tuple get_alloc_eq rdAt_alloc_eq set_alloc_eq set_alloc_ne get_alloc_ne rdAt_alloc_ne
section
variable {K : AHeap} {c : Nat} {lo : Stp} {L : List Sn} {v : AV} {f t : List UInt8} {a : Stp}
def raiseE (a : Stp) : Int := if rightT a = true then 0 else 31
def raiseS (lo : Stp) (L : List Sn) (a : Stp) : Stp × List Sn := if rightT a = true then (maxS lo a, L.filter (fun s => ltS (maxS lo a) s.a)) else (lo, L)
theorem cRaise1 {b : Nat} (hb : K.get b = some (.row false 1 [.ptr c 0])) (hc : K.get c = some (cObj lo v)) (hcl : c < K.n) (s : Sn) :
    call T 44 ([] ++ (.agg (rowSn s) :: [.ptr b 0])) K = some (.bool (!ltS lo s.a), K) := by
  rw [List.nil_append, call_at (show T 44 = some (.ir ⟨_, _, _, _, _⟩) from T44)]
  have r1 := rdAt_row (H := K.top) (show K.top.get b = _ from hb)
  have r2 := rdAt_row (H := K.top) (show K.top.get c = _ from hc)
  have e1 := tLess lo s.a K.top
  simp only [rowSn]
  simp -implicitDefEqProofs [r1, r2, e1, hcl, fin_pure]
theorem CRep.raise (hok : K.ok) (h : CRep K c lo L v) (hl : L.length < 1000000) :
    ∃ K' v', call T 22 [.ptr c 0, .agg [.int .i64 a.1, .int .i64 a.2]] K = some (.int .i64 (raiseE a), K') ∧ CRep K' c (raiseS lo L a).1 (raiseS lo L a).2 v' ∧ Chg (c :: sown v) K K' ∧ (∀ j ∈ sown v', j ∈ sown v ∨ K.n ≤ j) := by
  have hokT := AHeap.ok.top hok.1
  have hT := h.top
  have clt := h.clt
  have cA := Chg.alloc K.top (.row false 1 [.ptr c 0])
  have okA := cA.ok hokT
  have hA := hT.chg hokT.1 cA (by simp) (fun _ _ => by simp)
  have rb := rdAt_row (get_alloc_same K.top (.row false 1 [.ptr c 0]))
  have rc := rdAt_row hA.obj
  have e1 := tRight a (K.top.alloc (.row false 1 [.ptr c 0]))
  have e2 := tMax lo a (K.top.alloc (.row false 1 [.ptr c 0]))
  unfold raiseE raiseS
  cases hr : rightT a with
  | false =>
    rw [hr] at e1
    simp only [Bool.false_eq_true, if_false]
    have hfin := fin_drop' (H := K) (K := K.top.alloc (.row false 1 [.ptr c 0])) (v := .int .i64 31) (by simp) (by simp)
    refine ⟨K, v, ?_, h, .refl _ _, fun j hj => .inl hj⟩
    rw [call_at (show T 22 = some (.ir ⟨_, _, _, _, _⟩) from T22)]
    simp only [top_n] at rb
    simp -implicitDefEqProofs [rb, e1, hfin]
  | true =>
    rw [hr] at e1
    simp only [if_true]
    generalize hmx : maxS lo a = mx at *
    have hgA := hA.obj
    have c1 := Chg.set (K.top.alloc (.row false 1 [.ptr c 0])) c (cObj mx v)
    have ok1 := c1.ok okA
    have hg1 : ((K.top.alloc (.row false 1 [.ptr c 0])).set c (cObj mx v)).get c = some (cObj mx v) := get_set_same _ _ (by rw [hgA]; rfl)
    have hb1 : ((K.top.alloc (.row false 1 [.ptr c 0])).set c (cObj mx v)).get K.n = some (.row false 1 [.ptr c 0]) := by rw [get_set_ne _ _ (by omega)]; exact get_alloc_same K.top _
    have hO1 : Own ((K.top.alloc (.row false 1 [.ptr c 0])).set c (cObj mx v)) 4 v (L.map rowSn) := hA.own.frame (fun j hj => get_set_ne _ _ (h.ne j hj))
    have hvlt := h.own.lt hok.1
    have cc : c ∉ sown v := fun hc => h.ne c hc rfl
    have hbn : K.n ∉ sown v := fun hc => by have := hvlt _ hc; omega
    have hn1 : ((K.top.alloc (.row false 1 [.ptr c 0])).set c (cObj mx v)).n = K.n + 1 := rfl
    obtain ⟨v', K2, e3, O2, c2, s2, v2n, v2o⟩ := nDeleteFunc (g := 44) (fs := []) (cap := [.ptr K.n 0]) (p := fun s => !ltS mx s.a) ok1 hO1 hl
      (fun Kx hC s hs => cRaise1 (by rw [hC.get K.n (by simp only [top_n]; omega) hbn]; exact hb1) (by rw [hC.get c (by simp only [top_n]; omega) cc]; exact hg1) (by have := hC.le; simp only [top_n] at this; omega) s)
      (fun s hs => cRaise1 (K := ((K.top.alloc (.row false 1 [.ptr c 0])).set c (cObj mx v)).top.top) (lo := mx) (v := v) hb1 hg1 (show c < K.n + 1 by omega) s)
      (okB_sl h.own.view.sl h.vok (by omega))
    rw [show L.filter (fun s => !(fun s => !ltS mx s.a) s) = L.filter (fun s => ltS mx s.a) by simp] at O2
    have ok2 := c2.ok ok1
    have hg2 : K2.get c = some (cObj mx v) := by rw [c2.get c (by omega) cc]; exact hg1
    have hb2 : K2.get K.n = some (.row false 1 [.ptr c 0]) := by rw [c2.get K.n (by omega) hbn]; exact hb1
    have c3 := Chg.set K2 c (cObj mx v')
    have hg3 : (K2.set c (cObj mx v')).get c = some (cObj mx v') := get_set_same _ _ (by rw [hg2]; rfl)
    have ctot : Chg (c :: sown v) K.top (K2.set c (cObj mx v')) :=
      ((((cA.mono (G := c :: sown v) (by simp)).trans hokT c1 (by simp)).trans hokT c2 (fun j hj => .inl (by simp [hj]))).trans hokT c3 (by simp))
    have hne' : ∀ j ∈ sown v', j ≠ c := fun j hj => by rw [s2] at hj; exact h.ne j hj
    have hfin := fin_keep (H := K) (K := K2.set c (cObj mx v')) (v := .int .i64 0) (.inl (by rw [AHeap.set_low]; split <;> omega))
    have hvn := h.own.view.noL
    have hvo := okB_sl h.own.view.sl h.vok (show K.n ≤ K.n + 1 by omega)
    have hvc := O2.view.cells
    have rb1 := rdAt_row hb1
    have rc1 := rdAt_row hg1
    have rb2 := rdAt_row hb2
    have clt1 : c < K.n + 1 := by omega
    have hle2 : K.n + 1 ≤ K2.n := c2.le
    have clt2 : c < K2.n := by omega
    refine ⟨(K2.set c (cObj mx v')).lowered K.low, v', ?_, ⟨by rw [lowered_get]; exact hg3, ?_, hne', v2o, clt2, fun s hs => h.small s (List.mem_filter.1 hs).1⟩, ctot.lowered hok, fun j hj => by rw [s2] at hj; exact .inl hj⟩
    · rw [call_at (show T 22 = some (.ir ⟨_, _, _, _, _⟩) from T22)]
      simp only [top_n] at rb
      unfold cObj at *
      simp -implicitDefEqProofs [rb, rc, e1, e2, hgA, rb1, rc1, clt, clt1, clt2, hvn, hvo, e3, v2n, v2o, hvc, rb2, hg2, hfin]
    · exact O2.frame (K := (K2.set c (cObj mx v')).lowered K.low) (fun j hj => by rw [lowered_get, get_set_ne _ _ (hne' j hj)])
end
end Go.Proofs.Ytdnnpgmekbnlbaa
