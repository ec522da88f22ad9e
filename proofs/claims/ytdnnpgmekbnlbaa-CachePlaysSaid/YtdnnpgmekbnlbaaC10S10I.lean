/- What is left of the reads when some are deleted; Raise. No condition. -/
import Derived.Test.YtdnnpgmekbnlbaaC10S10H
set_option linter.unusedVariables false
set_option linter.unusedSimpArgs false
namespace Go.Proofs.Ytdnnpgmekbnlbaa
open Go.Wam

attribute [local simp] den_seq den_region den_regionD0 den_regionD1 den_condB condB_bool den_block den_keep den_ret den_skip den_exit sops_cons sops_nil sopsR_cons sopsR_nil goR_eq readOk trace_cons trace_nil Opd.ev evs Go.Wam.look St.put enterA zipI leaveR_ret leaveR_normal rvs RV.ev
  st_guard guardB_bool st_move st_pick pickB_bool st_allocL st_alloc st_boxL st_box st_build st_buildSlice st_load st_store st_nilCheck nilC st_bin st_un st_convI convI st_convS convS st_convB convB st_mkIface st_mkFunc st_mkMap st_mkSlice mkSl st_slice st_fieldAddr fldA st_field fldV st_idx idxS_slice idxS_oslice st_idxArr idxArr st_idxStr idxStr st_idxAgg idxAgg st_extract extA st_call callA_func st_len st_lenStr lenStr st_lenArr st_lenMap st_append st_clear clearV st_maxs st_mins
  load_ptr load_lptr storeA rd wr goOn_normal goOn_exit goOn_ret outBlock_normal outBlock_exit outBlock_ret prune freeL_nil freeL_cons frV_lptr frV_tuple frV_noL fillA allNoL packA unA checkAt ev_load wantedA beq_same beqL_same AV.beq AV.beqL drawCond freshD readsOk isRead undefA optInt optIntO
  strOp aeqF_nil aeqF_cons andA_some i_add i_sub i_mul i_lss i_leq i_gtr i_geq i_quo i_rem i_eql i_neq s_eql s_neq s_lss
  s_leq s_gtr s_geq s_add e_bool n_bool e_nilp n_nilp e_ptr n_ptr e_lptr n_lptr e_agg n_agg
  e_nils n_nils e_slice n_slice e_oslice n_oslice e_eslice n_eslice e_xslice n_xslice e_nilm n_nilm e_map n_map
  e_nilFunc n_nilFunc e_func n_func q_int q_bool q_str q_struct q_ptr0 q_ptrL0 q_ptrR0 q_ptrL1 q_ptrR1 q_slice0
  q_sliceL0 q_sliceR0 q_sliceL1 q_sliceR1 q_sliceL2 q_sliceR2 q_sliceL3 q_sliceR3 q_map0 q_mapL0 q_mapR0 q_func0 q_funcL0 q_funcR0
  okR_some guardB_tuple get_alloc_eq rdAt_alloc_eq set_alloc_eq set_alloc_ne get_alloc_ne rdAt_alloc_ne
theorem sn_len (L : List Sn) : ∀ r ∈ L.map rowSn, r.length = 4 := fun r hr => by obtain ⟨s, _, rfl⟩ := List.mem_map.1 hr; rfl
theorem flat_take {rows : List (List AV)} {sz i : Nat} (he : ∀ r ∈ rows, r.length = sz) (hi : i ≤ rows.length) : rows.flatten.take (i * sz) = (rows.take i).flatten := by
  have hsp : (rows.take i).flatten.length = i * sz := by
    rw [flatten_len (sz := sz) (fun r hr => he r (List.mem_of_mem_take hr)), List.length_take, Nat.min_eq_left (by omega)]
  have hcut : rows.flatten = (rows.take i).flatten ++ (rows.drop i).flatten := by rw [← List.flatten_append, List.take_append_drop]
  rw [hcut, ← hsp, List.take_left]
theorem flat_drop {rows : List (List AV)} {sz i : Nat} (he : ∀ r ∈ rows, r.length = sz) (hi : i ≤ rows.length) : rows.flatten.drop (i * sz) = (rows.drop i).flatten := by
  have hsp : (rows.take i).flatten.length = i * sz := by
    rw [flatten_len (sz := sz) (fun r hr => he r (List.mem_of_mem_take hr)), List.length_take, Nat.min_eq_left (by omega)]
  have hcut : rows.flatten = (rows.take i).flatten ++ (rows.drop i).flatten := by rw [← List.flatten_append, List.take_append_drop]
  rw [hcut, ← hsp, List.drop_left]
def flt (L : List Sn) : List AV := (L.map rowSn).flatten
theorem flt_len (L : List Sn) : (flt L).length = L.length * 4 := by unfold flt; rw [flatten_len (sn_len L), List.length_map]
theorem flt_append (L M : List Sn) : flt (L ++ M) = flt L ++ flt M := by unfold flt; rw [List.map_append, List.flatten_append]
theorem flt_take (L : List Sn) {i : Nat} (hi : i ≤ L.length) : (flt L).take (i * 4) = flt (L.take i) := by
  unfold flt; rw [flat_take (sn_len L) (by rw [List.length_map]; exact hi), List.map_take]
theorem flt_drop (L : List Sn) {i : Nat} (hi : i ≤ L.length) : (flt L).drop (i * 4) = flt (L.drop i) := by
  unfold flt; rw [flat_drop (sn_len L) (by rw [List.length_map]; exact hi), List.map_drop]
structure NOwn (K : AHeap) (id kc : Nat) (L : List Sn) (rest : List AV) : Prop where
  obj : K.get id = some (.row false 4 (flt L ++ rest))
  cap : L.length ≤ kc
  fit : kc * 4 ≤ L.length * 4 + rest.length
theorem NOwn.own {K : AHeap} {id kc : Nat} {L : List Sn} {rest : List AV} (h : NOwn K id kc L rest) : Own K 4 (.oslice id 0 L.length kc 4) (L.map rowSn) := by
  have e : (L.map rowSn).length = L.length := List.length_map ..
  exact ⟨sn_len L, .inr ⟨id, kc, rest, by rw [e], by rw [e]; exact h.cap, by rw [e]; exact h.fit, h.obj⟩⟩
theorem sn_wr (L : List Sn) (rest : List AV) {i : Nat} (x : Sn) (hi : i < L.length) : wr (i * 4) (rowSn x) (flt L ++ rest) = flt (L.set i x) ++ rest := by
  have e1 := flt_len L
  have e2 : L.set i x = L.take i ++ (x :: L.drop (i + 1)) := by rw [List.set_eq_take_append_cons_drop, if_pos hi]
  have h4 : (rowSn x).length = 4 := rfl
  have e3 : i * 4 + 4 = (i + 1) * 4 := by omega
  unfold wr
  rw [h4, e3, List.take_append_of_le_length (by omega), List.drop_append_of_le_length (by omega), flt_take L (by omega), flt_drop L (by omega), e2, flt_append]
  show flt (L.take i) ++ (rowSn x ++ (flt (L.drop (i + 1)) ++ rest)) = flt (L.take i) ++ (rowSn x ++ flt (L.drop (i + 1))) ++ rest
  simp only [List.append_assoc]
theorem NOwn.store {K : AHeap} {id kc : Nat} {L : List Sn} {rest : List AV} (h : NOwn K id kc L rest) {i : Nat} (x : Sn) (hi : i < L.length) :
    NOwn (K.set id (.row false 4 (flt (L.set i x) ++ rest))) id kc (L.set i x) rest :=
  ⟨get_set_same _ _ (by rw [h.obj]; rfl), by rw [List.length_set]; exact h.cap, by rw [List.length_set]; exact h.fit⟩
section
variable {H K : AHeap} {id kc : Nat} {l : List Sn} {rest : List AV} {p : Sn → Bool} {g : FuncId} {fs cap : List AV}
theorem dfn_loop {i0 : Nat} (hok : H.ok) (hS : NOwn H id kc l rest) (hl : l.length < 1000000)
    (hp : ∀ K, Chg [id] H K → ∀ s ∈ l, call T g (fs ++ (.agg (rowSn s) :: cap)) K = some (.bool (p s), K))
    (hi : i0 < l.length) (h0 : (l.take (i0 + 1)).filter (fun s => !p s) = l.take i0) :
    ∃ z s', den T (.loop L43_0) ⟨[(0, .oslice id 0 l.length kc 4), (1, .func (.func g) fs cap), (5, .int .i64 i0), (6, .int .i64 ((i0 : Int) + 1))], [], H⟩ = some (z, s') ∧
      z = .exit 0 ∧ ∃ l', l'.length = l.length ∧ (l.filter (fun s => !p s)).length < l.length ∧ l'.take (l.filter (fun s => !p s)).length = l.filter (fun s => !p s) ∧ Go.Wam.look 0 s'.env = some (.oslice id 0 l.length kc 4) ∧ Go.Wam.look 5 s'.env = some (.int .i64 (l.filter (fun s => !p s)).length) ∧ s'.loc = [] ∧ NOwn s'.H id kc l' rest ∧ Chg [id] H s'.H := by
  refine loop_inv (I := fun m st => ∃ (j : Nat) (l' : List Sn) (K : AHeap), j + m = l.length ∧ st = ⟨[(0, .oslice id 0 l.length kc 4), (1, .func (.func g) fs cap), (5, .int .i64 ((l.take j).filter (fun s => !p s)).length), (6, .int .i64 j)], [], K⟩ ∧ l'.length = l.length ∧ ((l.take j).filter (fun s => !p s)).length < j ∧ l'.take ((l.take j).filter (fun s => !p s)).length = (l.take j).filter (fun s => !p s) ∧ l'.drop j = l.drop j ∧ NOwn K id kc l' rest ∧ Chg [id] H K) _ ?_ (l.length - (i0 + 1)) _ ⟨i0 + 1, l, H, by omega, ?_, rfl, ?_, ?_, rfl, hS, .refl _ _⟩
  rotate_left
  · rw [h0, List.length_take, Nat.min_eq_left (by omega)]; simp [prS]
  · rw [h0, List.length_take]; omega
  · rw [h0, List.length_take, Nat.min_eq_left (by omega)]
  rintro m _ ⟨j, l', K, hj, rfl, hl', hq, ht, hd, hSK, hC⟩ P hI hX hR
  have hO := hSK.own
  rw [hl'] at hO
  have e0 := hO.view.lenS
  rw [List.length_map, hl'] at e0
  have hsu : ∀ h : j < l.length, (l.take (j + 1)).filter (fun s => !p s) = (l.take j).filter (fun s => !p s) ++ (if p l[j] = true then [] else [l[j]]) := fun h => by
    rw [List.take_succ_eq_append_getElem h, List.filter_append]
    cases hpj : p l[j] <;> simp [hpj]
  generalize hF : (l.take j).filter (fun s => !p s) = F at *
  by_cases hlt : j < l.length
  · have hw := wrap_id (n := (j : Int) + 1) (by omega) (by omega)
    have hjl : l'[j]'(by omega) = l[j] := by
      have := congrArg (fun x => x[0]?) hd
      simp only [List.getElem?_drop, Nat.add_zero] at this
      rw [List.getElem?_eq_getElem (by omega), List.getElem?_eq_getElem hlt] at this
      exact Option.some.inj this
    have e1 := hO.view.idx .i64 (n := j) (by omega) (by rw [List.length_map]; omega)
    have e2 := hO.view.rd (i := j) (r := rowSn l[j]) (by rw [List.getElem?_map, List.getElem?_eq_getElem (by omega), hjl]; rfl) true (k := 4) (f := 0) (by omega) (by omega) (by simp)
    rw [eSn] at e2
    simp only [Int.toNat_natCast, Nat.add_zero, sid_oslice, soff_oslice, Nat.zero_add] at e1 e2
    have e3 := hp K hC l[j] (List.getElem_mem hlt)
    have hsu := hsu hlt
    by_cases h2 : p l[j] = true
    · rw [if_pos h2, List.append_nil] at hsu
      rw [h2] at e3
      simp only [rowSn] at e3
      simp -implicitDefEqProofs [e0, hlt, e1, e2, e3, hw]
      refine hI _ _ _ (m - 1) (by omega) ?_
      refine ⟨j + 1, l', K, by omega, by simp [hsu], hl', by rw [hsu]; omega, by rw [hsu]; exact ht, ?_, hSK, hC⟩
      rw [← List.drop_drop, ← List.drop_drop, hd]
    · have h3 : p l[j] = false := by simpa using h2
      rw [if_neg h2] at hsu
      rw [h3] at e3
      have hw2 := wrap_id (n := (F.length : Int) + 1) (by omega) (by omega)
      have e5 := hO.view.idx .i64 (n := F.length) (by omega) (by rw [List.length_map]; omega)
      have hg := hSK.obj
      have hwr : (flt l' ++ rest).take (F.length * 4) ++ (.str l[j].f :: .str l[j].t :: .int .i64 l[j].a.1 :: .int .i64 l[j].a.2 :: (flt l' ++ rest).drop (F.length * 4 + 4)) = flt (l'.set F.length l[j]) ++ rest := by
        have := sn_wr l' rest l[j] (i := F.length) (by omega)
        unfold wr at this
        exact this
      have hfit : F.length * 4 + 4 ≤ (flt l' ++ rest).length := by rw [List.length_append, flt_len]; omega
      have hst := hSK.store l[j] (i := F.length) (by omega)
      have hset : l'.set F.length l[j] = l'.take F.length ++ (l[j] :: l'.drop (F.length + 1)) := by rw [List.set_eq_take_append_cons_drop, if_pos (by omega)]
      generalize hc : flt l' ++ rest = cells at *
      simp only [Int.toNat_natCast, sid_oslice, soff_oslice, Nat.zero_add] at e5
      simp only [rowSn] at e3
      simp -implicitDefEqProofs [e0, hlt, e1, e2, e3, e5, hg, hfit, hwr, hw, hw2]
      refine hI _ _ _ (m - 1) (by omega) ?_
      have h11 : [l[j]].length = 1 := rfl
      refine ⟨j + 1, l'.set F.length l[j], _, by omega, by simp [hsu], by simp [hl'], by rw [hsu, List.length_append]; omega, ?_, ?_, hst, hC.trans hok (Chg.set _ _ _) (by simp)⟩
      · rw [hsu, hset, ht, List.length_append, h11, List.take_append, List.take_of_length_le (by omega), Nat.add_sub_cancel_left]
        rfl
      · rw [List.drop_set_of_lt (by omega), ← List.drop_drop, ← List.drop_drop, hd]
  · have hjl : j = l.length := by omega
    rw [hjl, List.take_length] at hF
    simp -implicitDefEqProofs [e0, hlt]
    refine hX _ _ ?_
    exact ⟨rfl, l', hl', by rw [hF]; omega, by rw [hF]; exact ht, by simp, by rw [hF]; simp, rfl, hSK, hC⟩
end
end Go.Proofs.Ytdnnpgmekbnlbaa
