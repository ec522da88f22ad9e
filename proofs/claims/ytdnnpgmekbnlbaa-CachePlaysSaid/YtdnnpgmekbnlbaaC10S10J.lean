/- Raise. No condition. -/
import Derived.Test.YtdnnpgmekbnlbaaC10S10I
set_option linter.unusedVariables false
set_option linter.unusedSimpArgs false
namespace Go.Proofs.Ytdnnpgmekbnlbaa
open Go.Wam

attribute [local simp] den_seq den_region den_regionD0 den_regionD1 den_condB condB_bool den_block den_keep den_ret den_skip den_exit sops_cons sops_nil sopsR_cons sopsR_nil goR_eq readOk trace_cons trace_nil Opd.ev evs Go.Wam.look St.put enterA zipI leaveR_ret leaveR_normal rvs RV.ev
  st_guard guardB_bool st_move st_pick pickB_bool st_allocL st_alloc st_boxL st_box st_build st_buildSlice st_load st_store st_nilCheck nilC st_bin st_un st_convI convI st_convS convS st_convB convB st_mkIface st_mkFunc st_mkMap st_mkSlice mkSl st_slice st_fieldAddr fldA st_field fldV st_idx idxS_slice idxS_oslice st_idxArr idxArr st_idxStr idxStr st_idxAgg idxAgg st_extract extA st_call callA_func st_len st_lenStr lenStr st_lenArr st_lenMap st_append st_clear clearV st_maxs st_mins
  load_ptr load_lptr storeA rd wr goOn_normal goOn_exit goOn_ret outBlock_normal outBlock_exit outBlock_ret prune freeL_nil freeL_cons frV_lptr frV_tuple frV_noL fillA allNoL packA unA checkAt ev_load wantedA beq_same beqL_same AV.beq AV.beqL drawCond freshD readsOk isRead undefA optInt optIntO
  strOp aeqF_nil aeqF_cons andA_some i_add i_sub i_mul i_lss i_leq i_gtr i_geq i_quo i_rem i_eql i_neq s_eql s_neq s_lss
  s_leq s_gtr s_geq s_add e_bool n_bool e_nilp n_nilp e_ptr n_ptr e_lptr n_lptr e_agg n_agg
  e_nils n_nils e_slice n_slice e_oslice n_oslice e_eslice n_eslice e_xslice n_xslice e_nilm n_nilm e_map n_map
  e_nilFunc n_nilFunc e_func n_func q_int q_bool q_str q_struct q_ptr0 q_ptrL0 q_ptrR0 q_ptrL1 q_ptrR1 q_slice0
  q_sliceL0 q_sliceR0 q_sliceL1 q_sliceR1 q_sliceL2 q_sliceR2 q_sliceL3 q_sliceR3 q_map0 q_mapL0 q_mapR0 q_func0 q_funcL0 q_funcR0
  okR_some guardB_tuple get_alloc_eq rdAt_alloc_eq set_alloc_eq set_alloc_ne get_alloc_ne rdAt_alloc_ne
section
variable {H K : AHeap} {id kc : Nat} {l : List Sn} {rest : List AV} {p : Sn → Bool} {g : FuncId} {fs cap : List AV}
def zSn : List AV := [.str [], .str [], .int .i64 0, .int .i64 0]
theorem zsn_len (n : Nat) : (zerosA zSn n).length = n * 4 := by
  induction n with
  | zero => rfl
  | succ n ih => rw [zerosA, List.length_append, ih]; show 4 + n * 4 = _; omega
theorem dfn_no (l : List Sn) (p : Sn → Bool) (h : l.findIdx? p = none) : l.filter (fun s => !p s) = l := by
  rw [List.findIdx?_eq_none_iff] at h
  exact List.filter_eq_self.2 fun s hs => by simp [h s hs]
theorem nDeleteFunc {v : AV} (hok : H.ok) (hO : Own H 4 v (l.map rowSn)) (hl : l.length < 1000000)
    (hp : ∀ K, Chg (sown v) H.top K → ∀ s ∈ l, call T g (fs ++ (.agg (rowSn s) :: cap)) K = some (.bool (p s), K)) (hp0 : ∀ s ∈ l, call T g (fs ++ (.agg (rowSn s) :: cap)) H.top.top = some (.bool (p s), H.top.top)) (hvo : v.okB H.n = true) :
    ∃ v' K, call T 43 [v, .func (.func g) fs cap] H = some (v', K) ∧ Own K 4 v' ((l.filter (fun s => !p s)).map rowSn) ∧ Chg (sown v) H K ∧ sown v' = sown v ∧ v'.noL = true ∧ v'.okB K.n = true := by
  have hokT := AHeap.ok.top hok.1
  have hvn := hO.view.noL
  have e1 := indexFunc (T := T) (k := 59) (agg := true) (p := fun r => match r with | [.str f, .str t, .int .i64 a, .int .i64 b] => p ⟨f, t, (a, b)⟩ | _ => false) (g := g) (fs := fs) (cap := cap) T59 (by omega) (fun h => (by cases h)) hO.view.top (by rw [List.length_map]; omega)
    (fun r hr => by obtain ⟨s, hs, rfl⟩ := List.mem_map.1 hr; exact hp0 s hs) (fun r hr => by obtain ⟨s, hs, rfl⟩ := List.mem_map.1 hr; rfl)
  have e2 : idxB (fun r => match r with | [.str f, .str t, .int .i64 a, .int .i64 b] => p ⟨f, t, (a, b)⟩ | _ => false) (l.map rowSn) = (match l.findIdx? p with | some i => (i : Int) | none => -1) := by
    unfold idxB
    rw [List.findIdx?_map]
    rfl
  rw [e2] at e1
  rw [call_at (show T 43 = some (.ir ⟨_, _, _, _, _⟩) from T43)]
  cases hf : l.findIdx? p with
  | none =>
    rw [hf] at e1
    simp only at e1
    refine ⟨v, H, ?_, by rw [dfn_no l p hf]; exact hO, .refl _ _, rfl, hvn, hvo⟩
    simp -implicitDefEqProofs [e1, hvn, fin_pure, hvo]
  | some i =>
    rw [hf] at e1
    simp only at e1
    obtain ⟨hi, hpi, hpj⟩ := List.findIdx?_eq_some_iff_getElem.1 hf
    obtain ⟨_, ⟨_, hr⟩ | ⟨id, kc, rest, rfl, hk, hkr, hg⟩⟩ := hO
    · rw [List.map_eq_nil_iff] at hr; subst hr; simp at hi
    rw [List.length_map] at *
    have hS : NOwn H.top id kc l rest := ⟨hg, hk, hkr⟩
    have h0 : (l.take (i + 1)).filter (fun s => !p s) = l.take i := by
      rw [List.take_succ_eq_append_getElem hi, List.filter_append]
      simp only [List.filter_cons, hpi, List.filter_nil, Bool.not_true, Bool.false_eq_true, if_false, List.append_nil]
      refine List.filter_eq_self.2 fun s hs => ?_
      obtain ⟨j, hj, rfl⟩ := List.mem_iff_getElem.1 hs
      rw [List.length_take] at hj
      rw [List.getElem_take]
      have := hpj j (by omega)
      simp at this ⊢; exact this
    obtain ⟨z, ⟨e, lo, K⟩, f1, rfl, l', q1, q2, q3, q4, q5, q6, hSK, hC⟩ := dfn_loop (p := p) (g := g) (fs := fs) (cap := cap) hokT hS hl hp hi h0
    simp only at q4 q5 q6 hSK hC
    subst q6
    generalize hF : l.filter (fun s => !p s) = F at *
    have hw := wrap_id (n := (i : Int) + 1) (by omega) (by omega)
    have hkc := hSK.cap
    have hfit := hSK.fit
    have hg2 := hSK.obj
    have hid : id < H.n := AHeap.get_lt hg hok.1
    have s1 : sliceA (.slice 4) (.oslice id 0 l.length kc 4) F.length none none = some (.oslice id (F.length * 4) (l.length - F.length) (kc - F.length) 4) := by
      simp [sliceA, inB]; omega
    have s2 : sliceA (.slice 4) (.oslice id 0 l.length kc 4) 0 (some F.length) none = some (.oslice id 0 F.length kc 4) := by
      simp [sliceA, inB]; omega
    have hn0 : ¬ l.length - F.length = 0 := by omega
    have hfc : F.length * 4 + (l.length - F.length) * 4 ≤ (flt l' ++ rest).length := by rw [List.length_append, flt_len]; omega
    have hwr : wr (F.length * 4) (zerosA zSn (l.length - F.length)) (flt l' ++ rest) = flt F ++ (zerosA zSn (l.length - F.length) ++ rest) := by
      have e := flt_len l'
      unfold wr
      rw [zsn_len, List.take_append_of_le_length (by omega), flt_take l' (by omega), q3, show F.length * 4 + (l.length - F.length) * 4 = (flt l').length by omega, List.drop_left]
    unfold wr at hwr
    have hfin := fin_keep (H := H) (K := K.set id (.row false 4 (flt F ++ (zerosA zSn (l.length - F.length) ++ rest)))) (v := .oslice id 0 F.length kc 4) (.inl (by rw [AHeap.set_low]; split <;> omega))
    have hzl := zsn_len (l.length - F.length)
    unfold zSn at *
    generalize hz : zerosA [.str [], .str [], .int .i64 0, .int .i64 0] (l.length - F.length) = zs at *
    refine ⟨.oslice id 0 F.length kc 4, (K.set id (.row false 4 (flt F ++ (zs ++ rest)))).lowered H.low, ?_, ?_, (hC.trans hokT (Chg.set _ _ _) (by simp)).lowered hok, rfl, rfl, by rw [AV.okB]; exact decide_eq_true (by have := hC.le; simp only [top_n] at this; show id < K.n; omega)⟩
    · generalize hc : flt l' ++ rest = cells at *
      simp -implicitDefEqProofs [e1, hw, f1, q4, q5, s1, s2, clearA, hn0, hg2, hfc, hz, hwr, hfin]
    · have := NOwn.own (K := (K.set id (.row false 4 (flt F ++ (zs ++ rest)))).lowered H.low) (id := id) (kc := kc) (L := F) (rest := zs ++ rest) ⟨by rw [lowered_get]; exact get_set_same _ _ (by rw [hg2]; rfl), by omega, by rw [List.length_append]; omega⟩
      exact this
end
end Go.Proofs.Ytdnnpgmekbnlbaa
