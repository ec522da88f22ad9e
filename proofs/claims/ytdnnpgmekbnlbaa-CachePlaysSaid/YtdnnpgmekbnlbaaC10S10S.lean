/- The document's cache: Add. No condition. -/
import Derived.Test.YtdnnpgmekbnlbaaC10S10R
set_option linter.unusedVariables false
set_option linter.unusedSimpArgs false
namespace Go.Proofs.Ytdnnpgmekbnlbaa
open Go.Wam

attribute [local simp] den_seq den_region den_regionD0 den_regionD1 den_condB condB_bool den_block den_keep den_ret den_skip den_exit sops_cons sops_nil sopsR_cons sopsR_nil goR_eq readOk trace_cons trace_nil Opd.ev evs Go.Wam.look St.put enterA zipI leaveR_ret leaveR_normal rvs RV.ev
  st_guard guardB_bool st_move st_pick pickB_bool st_allocL st_alloc st_boxL st_box st_build st_buildSlice st_load st_store st_nilCheck nilC st_bin st_un st_convI convI st_convS convS st_convB convB st_mkIface st_mkFunc st_mkMap st_mkSlice mkSl st_slice st_fieldAddr fldA st_field fldV st_idx idxS_slice idxS_oslice st_idxArr idxArr st_idxStr idxStr st_idxAgg idxAgg st_extract extA st_call callA_func st_len st_lenStr lenStr st_lenArr st_lenMap st_append st_clear clearV st_maxs st_mins
  load_ptr load_lptr storeA rd wr goOn_normal goOn_exit goOn_ret outBlock_normal outBlock_exit outBlock_ret prune freeL_nil freeL_cons frV_lptr frV_tuple frV_noL fillA allNoL packA unA checkAt ev_load wantedA beq_same beqL_same AV.beq AV.beqL drawCond freshD readsOk isRead undefA optInt optIntO
  strOp aeqF_nil aeqF_cons andA_some i_add i_sub i_mul i_lss i_leq i_gtr i_geq i_quo i_rem i_eql i_neq s_eql s_neq s_lss
  s_leq s_gtr s_geq s_add e_bool n_bool e_nilp n_nilp e_ptr n_ptr e_lptr n_lptr e_agg n_agg
  e_nils n_nils e_slice n_slice e_oslice n_oslice e_eslice n_eslice e_xslice n_xslice e_nilm n_nilm e_map n_map
  e_nilFunc n_nilFunc e_func n_func q_int q_bool q_str q_struct q_ptr0 q_ptrL0 q_ptrR0 q_ptrL1 q_ptrR1 q_slice0
  q_sliceL0 q_sliceR0 q_sliceL1 q_sliceR1 q_sliceL2 q_sliceR2 q_sliceL3 q_sliceR3 q_map0 q_mapL0 q_mapR0 q_func0 q_funcL0 q_funcR0
  okR_some guardB_tuple get_alloc_eq rdAt_alloc_eq set_alloc_eq set_alloc_ne get_alloc_ne rdAt_alloc_ne
section
variable {K : AHeap} {c : Nat} {lo : Stp} {L : List Sn} {v : AV} {f t : List UInt8} {a : Stp}
theorem rmin_loop (h : CRep K c lo L v) (hl : L.length ≤ 1000000) (h0 : 0 < L.length) :
    ∃ z s', den T (.loop L25_0) ⟨[(0, .ptr c 0), (10, .int .i64 0), (11, .int .i64 1)], [], K⟩ = some (z, s') ∧
      z = .exit 0 ∧ s'.H = K ∧ s'.loc = [] ∧ Go.Wam.look 0 s'.env = some (.ptr c 0) ∧ Go.Wam.look 10 s'.env = some (.int .i64 (minT L L.length)) := by
  refine loop_inv (I := fun q st => ∃ i : Nat, i + q = L.length ∧ 1 ≤ i ∧ st = ⟨[(0, .ptr c 0), (10, .int .i64 (minT L i)), (11, .int .i64 i)], [], K⟩) _ ?_ (L.length - 1) _ ⟨1, by omega, Nat.le_refl _, by simp [prS, minT]⟩
  rintro q _ ⟨i, hi, hi1, rfl⟩ P hI hX hR
  have hO := h.own.view
  have hvn := hO.noL
  have hvo := h.vok
  have e0 := hO.lenS
  rw [List.length_map] at e0
  have r := rdAt_row h.obj
  by_cases hlt : i < L.length
  · have hw := wrap_id (n := (i : Int) + 1) (by omega) (by omega)
    have hk := minT_lt L (k := i) (by omega)
    have hkl : minT L i < L.length := by omega
    have e1 := hO.idx .i64 (n := i) (by omega) (by rw [List.length_map]; omega)
    have e2 := hO.rd (i := i) (r := rowSn L[i]) (by rw [List.getElem?_map, List.getElem?_eq_getElem hlt]; rfl) true (k := 2) (f := 2) (by omega) (by omega) (by simp)
    have e3 := hO.idx .i64 (n := minT L i) (by omega) (by rw [List.length_map]; omega)
    have e4 := hO.rd (i := minT L i) (r := rowSn (L[minT L i]'hkl)) (by rw [List.getElem?_map, List.getElem?_eq_getElem hkl]; rfl) true (k := 2) (f := 2) (by omega) (by omega) (by simp)
    have r2 : ∀ s : Sn, rd true 2 2 (rowSn s) = some (.agg [.int .i64 s.a.1, .int .i64 s.a.2]) := fun _ => rfl
    rw [r2, ← atN_get] at e2 e4
    simp only [Int.toNat_natCast] at e1 e2 e3 e4
    have e5 := tLess' (atN L i) (atN L (minT L i)) K
    have hsu : minT L (i + 1) = if ltS (atN L i) (atN L (minT L i)) = true then i else minT L i := by rw [minT, if_neg (by omega)]
    generalize hm : minT L i = m at *
    generalize atN L i = x at *
    generalize atN L m = y at *
    cases hb : ltS x y with
    | true =>
      rw [hb] at e5
      rw [hb, if_pos rfl] at hsu
      simp -implicitDefEqProofs [r, e0, hlt, e1, e2, e3, e4, e5, hvn, hvo, hw]
      refine hI _ _ _ (q - 1) (by omega) ?_
      exact ⟨i + 1, by omega, by omega, by simp [hsu]⟩
    | false =>
      rw [hb] at e5
      rw [hb, if_neg (by simp)] at hsu
      simp -implicitDefEqProofs [r, e0, hlt, e1, e2, e3, e4, e5, hvn, hvo, hw]
      refine hI _ _ _ (q - 1) (by omega) ?_
      exact ⟨i + 1, by omega, by omega, by simp [hsu]⟩
  · have hil : i = L.length := by omega
    subst hil
    simp -implicitDefEqProofs [r, e0, hvn, Nat.lt_irrefl]
    refine hX _ _ ?_
    exact ⟨rfl, rfl, rfl, by simp, by simp⟩
theorem CRep.add_no' (h : CRep K c lo L v) (hf : Small f) (ht : Small t) (hw : addW lo f t a = false) : call T 25 [.ptr c 0, .agg [.str f, .str t], .agg [.int .i64 a.1, .int .i64 a.2]] K = some (.int .i64 (addE f t a), K) := by
  rw [call_at (show T 25 = some (.ir ⟨_, _, _, _, _⟩) from T25)]
  have r := rdAt_row h.top.obj
  have e1 := rRight hf ht K.top
  have e2 := tRight' a K.top
  have e3 := tLess' lo a K.top
  unfold addW at hw
  unfold addE
  cases h1 : rightB f t with
  | false => rw [h1] at e1; simp -implicitDefEqProofs [e1, e2, fin_pure]
  | true =>
    cases h2 : rightT a with
    | false => rw [h1] at e1; rw [h2] at e2; simp -implicitDefEqProofs [e1, e2, fin_pure]
    | true =>
      rw [h1, h2] at hw
      simp only [Bool.true_and] at hw
      rw [h1] at e1
      rw [h2] at e2
      rw [hw] at e3
      simp -implicitDefEqProofs [r, e1, e2, e3, fin_pure]
end
end Go.Proofs.Ytdnnpgmekbnlbaa
