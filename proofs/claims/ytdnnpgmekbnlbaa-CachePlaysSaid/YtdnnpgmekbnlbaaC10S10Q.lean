/- The document's cache: Most, Raise. No condition. -/
import Derived.Test.YtdnnpgmekbnlbaaC10S10P
set_option linter.unusedVariables false
set_option linter.unusedSimpArgs false
namespace Go.Proofs.Ytdnnpgmekbnlbaa
open Go.Wam

attribute [local simp] den_seq den_region den_regionD0 den_regionD1 den_condB condB_bool den_block den_keep den_ret den_skip den_exit sops_cons sops_nil sopsR_cons sopsR_nil goR_eq readOk trace_cons trace_nil Opd.ev evs Go.Wam.look St.put enterA zipI leaveR_ret leaveR_normal rvs RV.ev
  st_guard guardB_bool st_move st_pick pickB_bool st_allocL st_alloc st_boxL st_box st_build st_buildSlice st_load st_store st_nilCheck nilC st_bin st_un st_convI convI st_convS convS st_convB convB st_mkIface st_mkFunc st_mkMap st_mkSlice mkSl st_slice st_fieldAddr fldA st_field fldV st_idx idxS_slice idxS_oslice st_idxArr idxArr st_idxStr idxStr st_idxAgg idxAgg st_extract extA st_call callA_func st_len st_lenStr lenStr st_lenArr st_lenMap st_append st_clear clearV st_maxs st_mins
  load_ptr load_lptr storeA rd wr goOn_normal goOn_exit goOn_ret outBlock_normal outBlock_exit outBlock_ret prune freeL_nil freeL_cons frV_lptr frV_tuple frV_noL fillA allNoL packA unA checkAt ev_load wantedA beq_same beqL_same AV.beq AV.beqL drawCond freshD readsOk isRead undefA optInt optIntO
  strOp aeqF_nil aeqF_cons andA_some i_add i_sub i_mul i_lss i_leq i_gtr i_geq i_quo i_rem i_eql i_neq s_eql s_neq s_lss
  s_leq s_gtr s_geq s_add e_bool n_bool e_nilp n_nilp e_ptr n_ptr e_lptr n_lptr e_agg n_agg
  e_nils n_nils e_slice n_slice e_oslice n_oslice e_eslice n_eslice e_xslice n_xslice e_nilm n_nilm e_map n_map
  e_nilFunc n_nilFunc e_func n_func q_int q_bool q_str q_struct q_ptr0 q_ptrL0 q_ptrR0 q_ptrL1 q_ptrR1 q_slice0
  q_sliceL0 q_sliceR0 q_sliceL1 q_sliceR1 q_sliceL2 q_sliceR2 q_sliceL3 q_sliceR3 q_map0 q_mapL0 q_mapR0 q_func0 q_funcL0 q_funcR0
  okR_some guardB_tuple get_alloc_eq rdAt_alloc_eq set_alloc_eq set_alloc_ne get_alloc_ne rdAt_alloc_ne
section
variable {K : AHeap} {c : Nat} {lo : Stp} {L : List Sn} {v : AV} {f t : List UInt8} {a : Stp}
theorem rmost_loop (h : CRep K c lo L v) (hf : Small f) (ht : Small t) (hl : L.length ≤ 1000000) :
    ∃ z s', den T (.loop L27_0) ⟨[(0, .ptr c 0), (3, .lptr 3 0), (4, .lptr 4 0), (6, .lptr 6 0), (7, .int .i64 0)], [(3, [.str f, .str t]), (4, [.int .i64 0, .int .i64 0]), (6, [.int .i64 lo.1, .int .i64 lo.2])], K⟩ = some (z, s') ∧
      z = .exit 0 ∧ s'.H = K ∧ Go.Wam.look 4 s'.env = some (.lptr 4 0) ∧ Go.Wam.look 6 s'.env = some (.lptr 6 0) ∧ Go.Wam.look 4 s'.loc = some [.int .i64 0, .int .i64 0] ∧ Go.Wam.look 6 s'.loc = some [.int .i64 (mostF lo L f t).1, .int .i64 (mostF lo L f t).2] := by
  refine loop_inv (I := fun q st => ∃ i : Nat, i + q = L.length ∧ st = ⟨[(0, .ptr c 0), (3, .lptr 3 0), (4, .lptr 4 0), (6, .lptr 6 0), (7, .int .i64 i)], [(3, [.str f, .str t]), (4, [.int .i64 0, .int .i64 0]), (6, [.int .i64 (mostF lo (L.take i) f t).1, .int .i64 (mostF lo (L.take i) f t).2])], K⟩) _ ?_ L.length _ ⟨0, by omega, by simp [prS, mostF]⟩
  rintro q _ ⟨i, hi, rfl⟩ P hI hX hR
  have hO := h.own.view
  have hvn := hO.noL
  have hvo := h.vok
  have e0 := hO.lenS
  rw [List.length_map] at e0
  have r := rdAt_row h.obj
  by_cases hlt : i < L.length
  · have hw := wrap_id (n := (i : Int) + 1) (by omega) (by omega)
    have e1 := hO.idx .i64 (n := i) (by omega) (by rw [List.length_map]; omega)
    have e2 := hO.rd (i := i) (r := rowSn L[i]) (by rw [List.getElem?_map, List.getElem?_eq_getElem hlt]; rfl) true (k := 2) (f := 0) (by omega) (by omega) (by simp)
    have e2' := hO.rd (i := i) (r := rowSn L[i]) (by rw [List.getElem?_map, List.getElem?_eq_getElem hlt]; rfl) true (k := 2) (f := 2) (by omega) (by omega) (by simp)
    rw [show rd true 2 0 (rowSn L[i]) = some (.agg [.str L[i].f, .str L[i].t]) from rfl] at e2
    rw [show rd true 2 2 (rowSn L[i]) = some (.agg [.int .i64 L[i].a.1, .int .i64 L[i].a.2]) from rfl] at e2'
    simp only [Int.toNat_natCast, Nat.add_zero] at e1 e2 e2'
    obtain ⟨h1, h2⟩ := h.small L[i] (List.getElem_mem hlt)
    have e3 := rMeet h1 h2 hf ht K
    have e4 := tMax' (mostF lo (L.take i) f t) L[i].a K
    have hsn := mostF_snoc lo (L.take i) L[i] f t
    rw [← List.take_succ_eq_append_getElem hlt] at hsn
    generalize mostF lo (L.take i) f t = out at *
    generalize hx : L[i] = x at *
    cases hm : meetB x.f x.t f t with
    | true =>
      rw [hm] at e3
      rw [hm, if_pos rfl] at hsn
      simp -implicitDefEqProofs [r, e0, hlt, e1, e2, e2', e3, e4, hvn, hvo, hw]
      refine hI _ _ _ (q - 1) (by omega) ?_
      exact ⟨i + 1, by omega, by simp [hsn]⟩
    | false =>
      rw [hm] at e3
      rw [hm, if_neg (by simp)] at hsn
      simp -implicitDefEqProofs [r, e0, hlt, e1, e2, e3, hvn, hvo, hw]
      refine hI _ _ _ (q - 1) (by omega) ?_
      exact ⟨i + 1, by omega, by simp [hsn]⟩
  · have hil : i = L.length := by omega
    subst hil
    rw [List.take_length]
    simp -implicitDefEqProofs [r, e0, hvn, Nat.lt_irrefl]
    refine hX _ _ ?_
    exact ⟨rfl, rfl, by simp, by simp, by simp, by simp⟩
theorem rMost (h : CRep K c lo L v) (hf : Small f) (ht : Small t) (hl : L.length ≤ 1000000) :
    call T 27 [.ptr c 0, .agg [.str f, .str t]] K = some (.agg [.int .i64 (mostR lo L f t).1, .int .i64 (mostR lo L f t).2], K) := by
  rw [call_at (show T 27 = some (.ir ⟨_, _, _, _, _⟩) from T27)]
  have r := rdAt_row h.top.obj
  have e1 := rRight hf ht K.top
  unfold mostR
  cases hr : rightB f t with
  | true =>
    rw [hr] at e1
    rw [if_pos rfl]
    obtain ⟨z, ⟨e, l2, K2⟩, f1, rfl, hK, g4, g5, q4, q5⟩ := rmost_loop h.top hf ht hl
    simp only at hK g4 g5 q4 q5
    subst hK
    generalize mostF lo L f t = out at *
    simp -implicitDefEqProofs [r, e1, f1, g4, g5, q4, q5, fin_pure]
  | false =>
    rw [hr] at e1
    simp only [Bool.false_eq_true, if_false]
    simp -implicitDefEqProofs [e1, fin_pure]
end
end Go.Proofs.Ytdnnpgmekbnlbaa
