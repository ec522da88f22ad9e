/- CacheMost, walked. No condition. -/
import Derived.Test.YtdnnpgmekbnlbaaC10S10M
set_option linter.unusedVariables false
set_option linter.unusedSimpArgs false
namespace Go.Proofs.Ytdnnpgmekbnlbaa
open Go.Wam

attribute [local simp] den_seq den_region den_regionD0 den_regionD1 den_condB condB_bool den_block den_keep den_ret den_skip den_exit sops_cons sops_nil sopsR_cons sopsR_nil goR_eq readOk trace_cons trace_nil Opd.ev evs Go.Wam.look St.put enterA zipI leaveR_ret leaveR_normal rvs RV.ev
  st_guard guardB_bool st_move st_pick pickB_bool st_allocL st_alloc st_boxL st_box st_build st_buildSlice st_load st_store st_nilCheck nilC st_bin st_un st_convI convI st_convS convS st_convB convB st_mkIface st_mkFunc st_mkMap st_mkSlice mkSl st_slice st_fieldAddr fldA st_field fldV st_idx idxS_slice idxS_oslice st_idxArr idxArr st_idxStr idxStr st_idxAgg idxAgg st_extract extA st_call callA_func st_len st_lenStr lenStr st_lenArr st_lenMap st_append st_clear clearV st_maxs st_mins
  load_ptr load_lptr storeA rd wr goOn_normal goOn_exit goOn_ret outBlock_normal outBlock_exit outBlock_ret prune freeL_nil freeL_cons frV_lptr frV_tuple frV_noL fillA allNoL packA unA checkAt ev_load wantedA beq_same beqL_same AV.beq AV.beqL drawCond freshD readsOk isRead undefA optInt optIntO
  strOp aeqF_nil aeqF_cons andA_some i_add i_sub i_mul i_lss i_leq i_gtr i_geq i_quo i_rem i_eql i_neq s_eql s_neq s_lss
  s_leq s_gtr s_geq s_add e_bool n_bool e_nilp n_nilp e_ptr n_ptr e_lptr n_lptr e_agg n_agg
  e_nils n_nils e_slice n_slice e_oslice n_oslice e_eslice n_eslice e_xslice n_xslice e_nilm n_nilm e_map n_map
  e_nilFunc n_nilFunc e_func n_func q_int q_bool q_str q_struct q_ptr0 q_ptrL0 q_ptrR0 q_ptrL1 q_ptrR1 q_slice0
  q_sliceL0 q_sliceR0 q_sliceL1 q_sliceR1 q_sliceL2 q_sliceR2 q_sliceL3 q_sliceR3 q_map0 q_mapL0 q_mapR0 q_func0 q_funcL0 q_funcR0
  okR_some guardB_tuple get_alloc_eq rdAt_alloc_eq set_alloc_eq set_alloc_ne get_alloc_ne rdAt_alloc_ne
def rowSt (a : Stp) : List AV := [.int .i64 a.1, .int .i64 a.2]
section
variable {H K : AHeap} {c i : Nat} {lo was least : Stp} {L : List Sn} {v sv av : AV} {f t : List UInt8} {a : Stp} {all : List Stp}
theorem known_loop {now : Stp} (hA : View K 2 av (all.map rowSt)) (hl : all.length ≤ 1000000) (hin : now ∈ all) :
    ∃ z s', den T (.loop L4_0) ⟨[(1, sv), (5, .lptr 5 0), (8, .ptr c 0), (9, .lptr 9 0), (10, .lptr 10 0), (11, av), (12, .int .i64 i), (16, .lptr 16 0), (17, .bool false), (18, .int .i64 0)], [(5, [.str f, .str t]), (9, rowSt was), (10, rowSt least), (16, rowSt now)], K⟩ = some (z, s') ∧
      z = .exit 2 ∧ s'.H = K ∧ Go.Wam.look 1 s'.env = some sv ∧ Go.Wam.look 5 s'.env = some (.lptr 5 0) ∧ Go.Wam.look 8 s'.env = some (.ptr c 0) ∧ Go.Wam.look 9 s'.env = some (.lptr 9 0) ∧ Go.Wam.look 10 s'.env = some (.lptr 10 0) ∧ Go.Wam.look 11 s'.env = some av ∧ Go.Wam.look 12 s'.env = some (.int .i64 i) ∧ Go.Wam.look 16 s'.env = some (.lptr 16 0) ∧ Go.Wam.look 17 s'.env = some (.bool true) ∧
        Go.Wam.look 5 s'.loc = some [.str f, .str t] ∧ Go.Wam.look 9 s'.loc = some (rowSt was) ∧ Go.Wam.look 10 s'.loc = some (rowSt least) ∧ Go.Wam.look 16 s'.loc = some (rowSt now) := by
  have hfin : all.any (fun x => decide (x = now)) = true := List.any_eq_true.2 ⟨now, hin, by simp⟩
  refine loop_inv (I := fun q st => ∃ k : Nat, k + q = all.length ∧ st = ⟨[(1, sv), (5, .lptr 5 0), (8, .ptr c 0), (9, .lptr 9 0), (10, .lptr 10 0), (11, av), (12, .int .i64 i), (16, .lptr 16 0), (17, .bool ((all.take k).any (fun x => decide (x = now)))), (18, .int .i64 k)], [(5, [.str f, .str t]), (9, rowSt was), (10, rowSt least), (16, rowSt now)], K⟩) _ ?_ all.length _ ⟨0, by omega, by simp [prS, rowSt]⟩
  rintro q _ ⟨k, hk, rfl⟩ P hI hX hR
  have e0 := hA.lenS
  rw [List.length_map] at e0
  have hvn := hA.noL
  by_cases hlt : k < all.length
  · have hw := wrap_id (n := (k : Int) + 1) (by omega) (by omega)
    have e1 := hA.idx .i64 (n := k) (by omega) (by rw [List.length_map]; omega)
    have e2 := hA.rd (i := k) (r := rowSt all[k]) (by rw [List.getElem?_map, List.getElem?_eq_getElem hlt]; rfl) true (k := 2) (f := 0) (by omega) (by omega) (by simp)
    rw [show rd true 2 0 (rowSt all[k]) = some (.agg [.int .i64 all[k].1, .int .i64 all[k].2]) from rfl] at e2
    simp only [Int.toNat_natCast, Nat.add_zero] at e1 e2
    have ht : (all.take (k + 1)).any (fun x => decide (x = now)) = ((all.take k).any (fun x => decide (x = now)) || decide (all[k] = now)) := by rw [List.take_succ_eq_append_getElem hlt, List.any_append]; simp
    generalize (all.take k).any (fun x => decide (x = now)) = b at *
    generalize all[k] = y at *
    cases b with
    | true =>
      simp -implicitDefEqProofs [rowSt, e0, hlt, hvn, hw]
      refine hI _ _ _ (q - 1) (by omega) ?_
      exact ⟨k + 1, by omega, by rw [ht]; simp [rowSt]⟩
    | false =>
      have hd : decide (y = now) = (decide (y.1 = now.1) && decide (y.2 = now.2)) := by
        rw [Bool.eq_iff_iff]; simp [Prod.ext_iff]
      rw [Bool.false_or, hd] at ht
      simp -implicitDefEqProofs [rowSt, e0, hlt, e1, e2, hvn, hw]
      refine hI _ _ _ (q - 1) (by omega) ?_
      exact ⟨k + 1, by omega, by rw [ht]; simp [rowSt]⟩
  · have hkl : k = all.length := by omega
    subst hkl
    rw [List.take_length, hfin]
    simp -implicitDefEqProofs [rowSt, e0, hvn]
    refine hX _ _ ?_
    exact ⟨rfl, rfl, by simp, by simp, by simp, by simp, by simp, by simp, by simp, by simp, by simp, by simp, by simp [rowSt], by simp [rowSt], by simp [rowSt]⟩

structure MInv (H K : AHeap) (c : Nat) (lo : Stp) (L : List Sn) (v : AV) (all : List Stp) (av : AV) (was least : Stp) (f t : List UInt8) (i : Nat) : Prop where
  rep : CRep K c lo L v
  ok : K.ok
  chg : Chg [] H K
  hc : H.n ≤ c
  hv : ∀ j ∈ sown v, H.n ≤ j
  own : Own K 2 av (all.map rowSt)
  hav : ∀ j ∈ sown av, H.n ≤ j ∧ j ∉ sown v ∧ j ≠ c
  len : L.length ≤ 16
  alen : all.length ≤ i + 1
  known : Known all lo L
  wasle : ltS (mostF lo L f t) was = false
  leastle : ltS (mostF lo L f t) least = false

/-- Behind a call that has changed the cache. -/
theorem MInv.step (hok : H.ok) (V : MInv H K c lo L v all av was least f t i) {K1 : AHeap} {lo1 : Stp} {L1 : List Sn} {v1 : AV} {least1 : Stp} (r1 : CRep K1 c lo1 L1 v1) (c1 : Chg (c :: sown v) K K1) (n1 : ∀ j ∈ sown v1, j ∈ sown v ∨ K.n ≤ j) (hl : L1.length ≤ 16) (ho : Over lo L lo1 L1) (hk : Known all lo1 L1) (hle : ltS (mostF lo1 L1 f t) least1 = false) :
    MInv H K1 c lo1 L1 v1 all av was least1 f t (i + 1) where
  rep := r1
  ok := c1.ok V.ok
  chg := V.chg.trans hok c1 (fun j hj => by
    rcases List.mem_cons.1 hj with rfl | hj
    · exact .inr V.hc
    · exact .inr (V.hv j hj))
  hc := V.hc
  hv := fun j hj => by
    rcases n1 j hj with e | e
    · exact V.hv j e
    · have := V.chg.le; omega
  own := V.own.chg V.ok.1 c1 (fun j hj hj2 => by
    rcases List.mem_cons.1 hj2 with rfl | hj2
    · exact (V.hav _ hj).2.2 rfl
    · exact (V.hav j hj).2.1 hj2)
  hav := fun j hj => ⟨(V.hav j hj).1, fun hj2 => by
    rcases n1 j hj2 with e | e
    · exact (V.hav j hj).2.1 e
    · have := V.own.lt V.ok.1 j hj; omega, (V.hav j hj).2.2⟩
  len := hl
  alen := by have := V.alen; omega
  known := hk
  wasle := le_tr V.wasle (over_most ho)
  leastle := hle

theorem MInv.step2 (hok : H.ok) (V : MInv H K c lo L v all av was least f t i) (hi : i ≤ 200) {K1 : AHeap} {lo1 : Stp} {L1 : List Sn} {v1 : AV} {least1 : Stp} (r1 : CRep K1 c lo1 L1 v1) (c1 : Chg (c :: sown v) K K1) (n1 : ∀ j ∈ sown v1, j ∈ sown v ∨ K.n ≤ j) (hl : L1.length ≤ 16) (ho : Over lo L lo1 L1) (hk : Known (all ++ [a]) lo1 L1) (hle : ltS (mostF lo1 L1 f t) least1 = false) :
    ∃ av' K2, appendA (K1.alloc (.row false 2 [.int .i64 a.1, .int .i64 a.2])) 2 16 av (.slice K1.n 0 1 1) = some (av', K2) ∧ av'.noL = true ∧ MInv H K2 c lo1 L1 v1 (all ++ [a]) av' was least1 f t (i + 1) := by
  have ok1 := c1.ok V.ok
  have hO1 : Own K1 2 av (all.map rowSt) := V.own.chg V.ok.1 c1 (fun j hj hj2 => by
    rcases List.mem_cons.1 hj2 with rfl | hj2
    · exact (V.hav _ hj).2.2 rfl
    · exact (V.hav j hj).2.1 hj2)
  have hC1 : Chg [] H K1 := V.chg.trans hok c1 (fun j hj => by
    rcases List.mem_cons.1 hj with rfl | hj
    · exact .inr V.hc
    · exact .inr (V.hv j hj))
  have hv1 : ∀ j ∈ sown v1, H.n ≤ j := fun j hj => by
    rcases n1 j hj with e | e
    · exact V.hv j e
    · have := V.chg.le; omega
  have hd1 : ∀ j ∈ sown av, H.n ≤ j ∧ j ∉ sown v1 ∧ j ≠ c := fun j hj => ⟨(V.hav j hj).1, fun hj2 => by
    rcases n1 j hj2 with e | e
    · exact (V.hav j hj).2.1 e
    · have := V.own.lt V.ok.1 j hj; omega, (V.hav j hj).2.2⟩
  have cT := Chg.alloc K1 (.row false 2 [.int .i64 a.1, .int .i64 a.2])
  have okT := cT.ok ok1
  have htmp : View (K1.alloc (.row false 2 [.int .i64 a.1, .int .i64 a.2])) 2 (.slice K1.n 0 1 1) [rowSt a] :=
    ⟨by simp [AV.sl], rfl, by simp [rowSt], fun _ => ⟨false, 2, _, get_alloc_same _ _, by simp, by simp [rowSt]⟩⟩
  have hal := V.alen
  obtain ⟨av', K2, ha, hO2, c2, n2, _⟩ := (hO1.new ok1.1 cT).append (bytes := 16) okT htmp (by simp) (by omega) (by rw [List.length_map]; simp; omega)
  refine ⟨av', K2, ha, hO2.view.noL, ⟨(r1.chg ok1.1 cT (by simp) (fun _ _ => by simp)).chg okT.1 c2 (fun hc => (hd1 c hc).2.2 rfl) (fun j hj hj2 => (hd1 j hj2).2.1 hj), c2.ok okT, (hC1.trans hok cT (by simp)).trans hok c2 (fun j hj => .inr (hd1 j hj).1), V.hc, hv1, by rw [List.map_append]; exact hO2, fun j hj => ?_, hl, by rw [List.length_append]; have : [a].length = 1 := rfl; omega, hk, le_tr V.wasle (over_most ho), hle⟩⟩
  rcases n2 j hj with e | e
  · exact hd1 j e
  · simp only [AHeap.alloc_n] at e
    refine ⟨by have := hC1.le; omega, fun hj2 => ?_, by have := r1.clt; omega⟩
    have := r1.own.lt ok1.1 j hj2; omega
end
end Go.Proofs.Ytdnnpgmekbnlbaa
