/- The document's cache: Add writes. No condition. -/
import Derived.Test.YtdnnpgmekbnlbaaC10S10S
set_option linter.unusedVariables false
set_option linter.unusedSimpArgs false
namespace Go.Proofs.Ytdnnpgmekbnlbaa
open Go.Wam

attribute [local simp] den_seq den_region den_regionD0 den_regionD1 den_condB condB_bool den_block den_keep den_ret den_skip den_exit sops_cons sops_nil sopsR_cons sopsR_nil goR_eq readOk trace_cons trace_nil Opd.ev evs Go.Wam.look St.put enterA zipI leaveR_ret leaveR_normal rvs RV.ev
  st_guard guardB_bool st_move st_pick pickB_bool st_allocL st_alloc st_boxL st_box st_build st_buildSlice st_load st_store st_nilCheck nilC st_bin st_un st_convI convI st_convS convS st_convB convB st_mkIface st_mkFunc st_mkMap st_mkSlice mkSl st_slice st_fieldAddr fldA st_field fldV st_idx idxS_slice idxS_oslice st_idxArr idxArr st_idxStr idxStr st_idxAgg idxAgg st_extract extA st_call callA_func st_len st_lenStr lenStr st_lenArr st_lenMap st_append st_clear clearV st_maxs st_mins
  load_ptr load_lptr storeA rd wr goOn_normal goOn_exit goOn_ret outBlock_normal outBlock_exit outBlock_ret prune freeL_nil freeL_cons frV_lptr frV_tuple frV_noL fillA allNoL packA unA checkAt ev_load wantedA beq_same beqL_same AV.beq AV.beqL drawCond freshD readsOk isRead undefA optInt optIntO
  strOp aeqF_nil aeqF_cons andA_some i_add i_sub i_mul i_lss i_leq i_gtr i_geq i_quo i_rem i_eql i_neq s_eql s_neq s_lss
  s_leq s_gtr s_geq s_add e_bool n_bool e_nilp n_nilp e_ptr n_ptr e_lptr n_lptr e_agg n_agg
  e_nils n_nils e_slice n_slice e_oslice n_oslice e_eslice n_eslice e_xslice n_xslice e_nilm n_nilm e_map n_map
  e_nilFunc n_nilFunc e_func n_func q_int q_bool q_str q_struct q_ptr0 q_ptrL0 q_ptrR0 q_ptrL1 q_ptrR1 q_slice0
  q_sliceL0 q_sliceR0 q_sliceL1 q_sliceR1 q_sliceL2 q_sliceR2 q_sliceL3 q_sliceR3 q_map0 q_mapL0 q_mapR0 q_func0 q_funcL0 q_funcR0
  okR_some guardB_tuple get_alloc_eq rdAt_alloc_eq set_alloc_eq set_alloc_ne get_alloc_ne rdAt_alloc_ne
theorem map_erase_sn (M : List Sn) (k : Nat) : (M.map rowSn).take k ++ (M.map rowSn).drop (k + 1) = (M.eraseIdx k).map rowSn := by
  rw [List.eraseIdx_eq_take_drop_succ, List.map_append, List.map_take, List.map_drop]
section
variable {K : AHeap} {c : Nat} {lo : Stp} {L : List Sn} {v : AV} {f t : List UInt8} {a : Stp}
theorem CRep.add_yes' (hok : K.ok) (h : CRep K c lo L v) (hf : Small f) (ht : Small t) (hw : addW lo f t a = true) (hl : L.length ≤ 16) :
    ∃ K' v', call T 25 [.ptr c 0, .agg [.str f, .str t], .agg [.int .i64 a.1, .int .i64 a.2]] K = some (.int .i64 0, K') ∧ CRep K' c (addS lo L f t a).1 (addS lo L f t a).2 v' ∧ Chg (c :: sown v) K K' ∧ (∀ j ∈ sown v', j ∈ sown v ∨ K.n ≤ j) := by
  have hokT := AHeap.ok.top hok.1
  have hT := h.top
  have clt := h.clt
  have r := rdAt_row hT.obj
  have e1 := rRight hf ht K.top
  have e2 := tRight' a K.top
  have e3 := tLess' lo a K.top
  have hws := hw
  unfold addW at hw
  simp only [Bool.and_eq_true] at hw
  rw [hw.1] at e1
  rw [hw.2.1] at e2
  rw [hw.2.2] at e3
  have hvn := h.own.view.noL
  have hvo := h.vok
  -- the list, copied, and one more
  have cA := Chg.alloc K.top (.row false 4 [])
  have okA := cA.ok hokT
  obtain ⟨w1, K1, a1, O1, c1, n1, _, w1n⟩ := (Own.lit (K.top.alloc (.row false 4 [])) 4 K.n).append' (bytes := 48) okA (hT.own.view.new hokT.1 cA) (by omega) (by rw [List.length_map]; simp; omega)
  have ok1 := c1.ok okA
  rw [sown_slice] at c1 n1
  rw [List.nil_append] at O1
  have c01 : Chg [] K.top K1 := cA.trans hokT c1 (by simp)
  have n1' : ∀ j ∈ sown w1, K.n ≤ j := fun j hj => by rcases n1 j hj with h | h; cases h; simp only [AHeap.alloc_n, top_n] at h; omega
  have cT := Chg.alloc K1 (.row false 4 (rowSn ⟨f, t, a⟩))
  have okT := cT.ok ok1
  have htmp : View (K1.alloc (.row false 4 (rowSn ⟨f, t, a⟩))) 4 (.slice K1.n 0 1 1) [rowSn ⟨f, t, a⟩] :=
    ⟨by simp [AV.sl], rfl, by simp [rowSn], fun _ => ⟨false, 4, _, get_alloc_same _ _, by simp [rowSn], by simp [rowSn]⟩⟩
  obtain ⟨w2, K2, a2, O2, c2, n2, _⟩ := (O1.new ok1.1 cT).append (bytes := 48) okT htmp (by simp) (by omega) (by rw [List.length_map]; simp; omega)
  have ok2 := c2.ok okT
  have c02 : Chg [] K.top K2 := (c01.trans hokT cT (by simp)).trans hokT c2 (fun j hj => .inr (n1' j hj))
  have n2' : ∀ j ∈ sown w2, K.n ≤ j := fun j hj => by
    rcases n2 j hj with e | e
    · exact n1' j e
    · have := c01.le; simp only [AHeap.alloc_n, top_n] at *; omega
  have O2' : Own K2 4 w2 ((L ++ [(⟨f, t, a⟩ : Sn)]).map rowSn) := by rw [List.map_append]; exact O2
  have hg2 : K2.get c = some (cObj lo v) := by rw [c02.get c clt (by simp)]; exact h.obj
  have hne2 : ∀ j ∈ sown w2, j ≠ c := fun j hj => by have := n2' j hj; omega
  have hw2o : w2.okB K2.n = true := own_okB O2 ok2.1 (fun id hid => by have := own_sid O2 (by simp); rw [hid] at this; cases this)
  have hle2 : K.n ≤ K2.n := c02.le
  have hsm : ∀ s ∈ L ++ [(⟨f, t, a⟩ : Sn)], SmallN s := fun s hs => by
    rcases List.mem_append.1 hs with hs | hs
    · exact h.small s hs
    · simp at hs; subst hs; exact ⟨hf, ht⟩
  have rep : ∀ mx : Stp, CRep (K2.set c (cObj mx w2)) c mx (L ++ [⟨f, t, a⟩]) w2 := fun mx =>
    ⟨get_set_same _ _ (by rw [hg2]; rfl), O2'.frame (fun j hj => get_set_ne _ _ (hne2 j hj)), hne2, hw2o, show c < K2.n by omega, hsm⟩
  have c03 : ∀ mx : Stp, Chg (c :: sown v) K.top (K2.set c (cObj mx w2)) := fun mx => ((c02.mono (G := c :: sown v) (by simp)).trans hokT (Chg.set K2 c (cObj mx w2)) (by simp))
  have rA := rdAt_row (hT.chg hokT.1 cA (by simp) (fun _ _ => by simp)).obj
  have r1 := rdAt_row (hT.chg hokT.1 c01 (by simp) (fun _ _ => by simp)).obj
  have r2 := rdAt_row hg2
  have hvo1 := okB_sl h.own.view.sl h.vok (show K.n ≤ K.n + 1 by omega)
  have clt1 : c < K.n + 1 := by omega
  have w2n := O2.view.noL
  have w2c := O2.view.cells
  have r3 := rdAt_row (rep lo).obj
  have hl2 := (rep lo).own.view.lenS
  rw [List.length_map] at hl2
  have hlow : ∀ mx : Stp, (K2.set c (cObj mx w2)).low ≤ c := fun mx => by rw [AHeap.set_low]; split <;> omega
  have hlen : (L ++ [(⟨f, t, a⟩ : Sn)]).length = L.length + 1 := by rw [List.length_append]; rfl
  unfold addS
  rw [if_pos hws]
  rw [call_at (show T 25 = some (.ir ⟨_, _, _, _, _⟩) from T25)]
  by_cases h16 : (L ++ [(⟨f, t, a⟩ : Sn)]).length ≤ 16
  · rw [if_pos h16]
    have hfin := fin_keep (H := K) (K := K2.set c (cObj lo w2)) (v := .int .i64 0) (.inl (by have := hlow lo; omega))
    refine ⟨(K2.set c (cObj lo w2)).lowered K.low, w2, ?_, ⟨(rep lo).obj, (rep lo).own.frame fun _ _ => rfl, hne2, hw2o, show c < K2.n by omega, hsm⟩, (c03 lo).lowered hok, fun j hj => .inr (n2' j hj)⟩
    have h16' : (((L ++ [(⟨f, t, a⟩ : Sn)]).length : Nat) : Int) ≤ 16 := by omega
    generalize (L ++ [(⟨f, t, a⟩ : Sn)]).length = n at *
    unfold cObj at *
    simp only [rowSn] at a2
    simp -implicitDefEqProofs [r, rA, r1, r2, hvo1, clt1, e1, e2, e3, hvn, hvo, a1, w1n, a2, w2n, w2c, hg2, clt, r3, hl2, h16, h16', hfin]
  · rw [if_neg h16]
    have hk := minT_lt (L ++ [(⟨f, t, a⟩ : Sn)]) (k := (L ++ [(⟨f, t, a⟩ : Sn)]).length) (by omega)
    have ok3 : (K2.set c (cObj lo w2)).ok := (c03 lo).ok hokT
    obtain ⟨z, ⟨e, l2, K3⟩, f1, rfl, hK3, ql, q0, q10⟩ := rmin_loop (rep lo) (by omega) (by omega)
    simp only at hK3 ql q0 q10
    subst hK3 ql
    have hkk := minT_lt (L ++ [(⟨f, t, a⟩ : Sn)]) (k := (L ++ [(⟨f, t, a⟩ : Sn)]).length) (by omega)
    have hat := atN_get hk
    generalize hkd : minT (L ++ [(⟨f, t, a⟩ : Sn)]) (L ++ [(⟨f, t, a⟩ : Sn)]).length = k at *
    have e4 := tMax' lo (atN (L ++ [(⟨f, t, a⟩ : Sn)]) k) (K2.set c (cObj lo w2))
    have i1 := (rep lo).own.view.idx .i64 (n := k) (by omega) (by rw [List.length_map]; omega)
    have i2 := (rep lo).own.view.rd (i := k) (r := rowSn ((L ++ [(⟨f, t, a⟩ : Sn)])[k]'hk)) (by rw [List.getElem?_map, List.getElem?_eq_getElem hk]; rfl) true (k := 2) (f := 2) (by omega) (by omega) (by simp)
    rw [show ∀ s : Sn, rd true 2 2 (rowSn s) = some (.agg [.int .i64 s.a.1, .int .i64 s.a.2]) from fun _ => rfl, ← hat] at i2
    simp only [Int.toNat_natCast] at i1 i2
    simp only
    generalize hmx : maxS lo (atN (L ++ [(⟨f, t, a⟩ : Sn)]) k) = mx at *
    have repM := rep mx
    have c4 := c03 mx
    have ok4 := c4.ok hokT
    have n4 : (K2.set c (cObj mx w2)).n = K2.n := rfl
    have r4 := rdAt_row repM.obj
    -- the ones that stay
    have cB := Chg.alloc (K2.set c (cObj mx w2)) (.row false 4 [])
    have okB' := cB.ok ok4
    have hB := repM.chg ok4.1 cB (by simp) (fun _ _ => by simp)
    obtain ⟨u1, s1, v1⟩ := own_takev hB.own (i := k) (by rw [List.length_map]; exact hk)
    obtain ⟨w5, K5, a5, O5, c5, n5, _, w5n⟩ := (Own.lit ((K2.set c (cObj mx w2)).alloc (.row false 4 [])) 4 K2.n).append' (bytes := 48) okB' v1 (by omega) (by rw [List.length_take, List.length_map]; simp; omega)
    have ok5 := c5.ok okB'
    rw [sown_slice] at c5 n5
    rw [List.nil_append] at O5
    have c45 : Chg [] (K2.set c (cObj mx w2)) K5 := cB.trans ok4 c5 (by simp)
    have n5' : ∀ j ∈ sown w5, K2.n ≤ j := fun j hj => by rcases n5 j hj with h | h; cases h; simp only [AHeap.alloc_n] at h; omega
    have h5 := repM.chg ok4.1 c45 (by simp) (fun _ _ => by simp)
    obtain ⟨u2, s2, v2, _⟩ := own_dropv h5.own (i := k) (by rw [List.length_map]; exact hk)
    obtain ⟨w6, K6, a6, O6, c6, n6, _, w6n⟩ := O5.append' (bytes := 48) ok5 v2 (by omega) (by rw [List.length_take, List.length_drop, List.length_map]; omega)
    have ok6 := c6.ok ok5
    have c46 : Chg [] (K2.set c (cObj mx w2)) K6 := c45.trans ok4 c6 (fun j hj => .inr (n5' j hj))
    have n6' : ∀ j ∈ sown w6, K.n ≤ j := fun j hj => by
      rcases n6 j hj with e | e
      · have := n5' j e; omega
      · have := c45.le; omega
    rw [map_erase_sn] at O6
    have hg6 : K6.get c = some (cObj mx w2) := by rw [c46.get c (show c < K2.n by omega) (by simp)]; exact repM.obj
    have hne6 : ∀ j ∈ sown w6, j ≠ c := fun j hj => by have := n6' j hj; omega
    have hpos : 0 < ((L ++ [(⟨f, t, a⟩ : Sn)]).eraseIdx k).length := by rw [List.length_eraseIdx_of_lt hk]; omega
    have hw6o : w6.okB K6.n = true := own_okB O6 ok6.1 (fun id hid => by have := own_sid O6 (by rw [List.length_map]; exact hpos); rw [hid] at this; cases this)
    have ctot : Chg (c :: sown v) K.top (K6.set c (cObj mx w6)) := (c4.trans hokT c46 (by simp)).trans hokT (Chg.set K6 c (cObj mx w6)) (by simp)
    have hfin := fin_keep (H := K) (K := K6.set c (cObj mx w6)) (v := .int .i64 0) (.inl (by rw [AHeap.set_low]; split <;> omega))
    have hle6 : K2.n ≤ K6.n := c46.le
    refine ⟨(K6.set c (cObj mx w6)).lowered K.low, w6, ?_, ⟨by rw [lowered_get]; exact get_set_same _ _ (by rw [hg6]; rfl), O6.frame (K := (K6.set c (cObj mx w6)).lowered K.low) (fun j hj => by rw [lowered_get, get_set_ne _ _ (hne6 j hj)]), hne6, hw6o, show c < K6.n by omega, fun s hs => hsm s (List.mem_of_mem_eraseIdx hs)⟩, ctot.lowered hok, fun j hj => .inr (n6' j hj)⟩
    have h16' : ¬ (((L ++ [(⟨f, t, a⟩ : Sn)]).length : Nat) : Int) ≤ 16 := by omega
    have hw1 := wrap_id (n := (k : Int) + 1) (by omega) (by omega)
    have h01 : (0 : Int) ≤ (k : Int) + 1 := by omega
    have h02 : ((k : Int) + 1).toNat = k + 1 := by omega
    have rB := rdAt_row hB.obj
    have r5 := rdAt_row h5.obj
    have u1n := v1.noL
    have u2n := v2.noL
    have w6c := O6.view.cells
    have clt2 : c < K2.n := by omega
    have hg3 := (rep lo).obj
    have hg4 := repM.obj
    clear hat
    generalize atN (L ++ [(⟨f, t, a⟩ : Sn)]) k = xa at *
    generalize (L ++ [(⟨f, t, a⟩ : Sn)]).length = n at *
    unfold cObj at *
    simp only [rowSn] at a2
    simp -implicitDefEqProofs [r, rA, r1, r2, hvo1, clt1, clt2, e1, e2, e3, hvn, hvo, a1, w1n, a2, w2n, w2c, hw2o, hg2, clt, r3, hl2, h16, h16', f1, q0, q10, hg3, hg4, i1, i2, e4, r4, rB, s1, u1n, a5, w5n, hw1, h01, h02, r5, s2, u2n, a6, w6n, w6c, hg6, hfin]
end
end Go.Proofs.Ytdnnpgmekbnlbaa
