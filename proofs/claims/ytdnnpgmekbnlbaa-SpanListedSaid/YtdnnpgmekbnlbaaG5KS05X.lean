/- The document's Keys, whole; SpanKeys. No condition. -/
import Derived.Test.YtdnnpgmekbnlbaaG5KS05W
import Derived.Test.YtdnnpgmekbnlbaaG5KS05Q
set_option linter.unusedVariables false
set_option linter.unusedSimpArgs false
namespace Go.Proofs.Ytdnnpgmekbnlbaa
open Go.Wam

attribute [local simp] den_seq den_region den_regionD0 den_regionD1 den_condB condB_bool den_block den_keep den_ret den_skip den_exit sops_cons sops_nil sopsR_cons sopsR_nil goR_eq readOk trace_cons trace_nil Opd.ev evs Go.Wam.look St.put enterA zipI leaveR_ret leaveR_normal rvs RV.ev
  st_guard guardB_bool st_move st_pick pickB_bool st_allocL st_alloc st_boxL st_box st_build st_buildSlice st_load st_store st_nilCheck nilC st_bin st_un st_convI convI st_convS convS st_convB convB st_mkIface st_mkFunc st_mkMap st_mkSlice mkSl st_slice st_fieldAddr fldA st_field fldV st_idx idxS_slice idxS_oslice st_idxArr idxArr st_idxStr idxStr st_idxAgg idxAgg st_extract extA st_call callA_func st_len st_lenStr lenStr st_lenArr st_lenMap st_append st_clear clearV st_maxs st_mins
  load_ptr load_lptr storeA rd wr goOn_normal goOn_exit goOn_ret outBlock_normal outBlock_exit outBlock_ret prune freeL_nil freeL_cons frV_lptr frV_tuple frV_noL fillA allNoL packA unA checkAt ev_load wantedA beq_same beqL_same AV.beq AV.beqL drawCond freshD readsOk isRead undefA optInt optIntO
  strOp aeqF_nil aeqF_cons andA_some i_add i_sub i_mul i_lss i_leq i_gtr i_geq i_quo i_rem i_eql i_neq s_eql s_neq s_lss
  s_leq s_gtr s_geq s_add e_bool n_bool e_nilp n_nilp e_ptr n_ptr e_lptr n_lptr e_agg n_agg
  e_nils n_nils e_slice n_slice e_oslice n_oslice e_eslice n_eslice e_xslice n_xslice e_nilm n_nilm e_map n_map
  e_nilFunc n_nilFunc e_func n_func q_int q_bool q_str q_struct q_ptr0 q_ptrL0 q_ptrR0 q_ptrL1 q_ptrR1 q_slice0
  q_sliceL0 q_sliceR0 q_sliceL1 q_sliceR1 q_sliceL2 q_sliceR2 q_sliceL3 q_sliceR3 q_map0 q_mapL0 q_mapR0 q_func0 q_funcL0 q_funcR0
  okR_some guardB_tuple get_alloc_eq rdAt_alloc_eq set_alloc_eq set_alloc_ne get_alloc_ne rdAt_alloc_ne
section
variable {H : AHeap} {lv ov : AV} {l o : List (List UInt8)} {f t : List UInt8} {i : Nat} {b : Bool}
theorem rk_out (hok : H.ok) (hf : Small f) (ht : Small t) (hsm : ∀ s ∈ l, Small s) (hV : View H 1 lv (l.map sR)) (hl : l.length ≤ 1000) :
    ∃ z s', den T (.loop L39_1) ⟨[(1, lv), (2, .lptr 2 0), (5, .nils), (6, .int .i64 0)], [(2, [.str f, .str t])], H⟩ = some (z, s') ∧
      z = .exit 0 ∧ ∃ o ov, Go.Wam.look 5 s'.env = some ov ∧ KeysOf f t l o ∧ Own s'.H 1 ov (o.map sR) ∧ Chg [] H s'.H ∧ (∀ j ∈ sown ov, H.n ≤ j) ∧ o.length ≤ l.length := by
  refine loop_inv (I := fun m st => ∃ (i : Nat) (o : List (List UInt8)) (ov : AV) (K : AHeap), i + m = l.length ∧ st = ⟨[(1, lv), (2, .lptr 2 0), (5, ov), (6, .int .i64 i)], [(2, [.str f, .str t])], K⟩ ∧ KeysOf f t (l.take i) o ∧ o.length ≤ i ∧ Own K 1 ov (o.map sR) ∧ Chg [] H K ∧ (∀ j ∈ sown ov, H.n ≤ j)) _ ?_ l.length _ ⟨0, [], .nils, H, by omega, by simp [prS], ⟨List.Pairwise.nil, fun s => by simp⟩, Nat.le_refl _, .nil _ _, .refl _ _, by simp⟩
  rintro m _ ⟨i, o, ov, K, hi, rfl, hK, hlen, hO, hC, hN⟩ P hI hX hR
  have hVK := hV.new hok.1 hC
  have hokK := hC.ok hok
  have e0 := hVK.lenS
  rw [List.length_map] at e0
  have e00 := hO.view.lenS
  rw [List.length_map] at e00
  have hvn := hVK.noL
  have hon := hO.view.noL
  by_cases hlt : i < l.length
  · have hw := wrap_id (n := (i : Int) + 1) (by omega) (by omega)
    have r4 : ∀ s, rd false 1 0 (sR s) = some (.str s) := fun _ => rfl
    have e1 := hVK.idx .i64 (n := i) (by omega) (by rw [List.length_map]; omega)
    have e2 := hVK.rd (i := i) (r := sR l[i]) (by rw [List.getElem?_map, List.getElem?_eq_getElem hlt]; rfl) false (k := 1) (f := 0) (by omega) (by omega) (by simp)
    rw [r4] at e2
    simp only [Int.toNat_natCast, Nat.add_zero, Nat.mul_one] at e1 e2
    have e3 := rHas hf ht (hsm l[i] (List.getElem_mem hlt)) K
    obtain ⟨z, ⟨e, lo, K2⟩, f1, rfl, k, hk, hk1, hk2, hKH, g1, g2, g5, g6, g7, g8, gl⟩ := rk_in (f := f) (t := t) (b := hasB f t l[i]) hVK hO.view hlt (by omega) (by omega)
    simp only at hKH g1 g2 g5 g6 g7 g8 gl
    subst hKH
    have hins := keys_ins hlt hK hk hk1 hk2
    by_cases hc : hasB f t l[i] = true ∧ ∀ g : k < o.length, o[k] ≠ l[i]
    · rw [if_pos hc] at hins
      obtain ⟨hh, hne⟩ := hc
      rw [hh] at e3 f1 g7
      -- next
      have cA := Chg.alloc K2 (.row false 1 [])
      have okA := cA.ok hokK
      have hOA := hO.new hokK.1 cA
      have hol : (o.map sR).length = o.length := List.length_map ..
      obtain ⟨u1, s1, v1⟩ := own_headv hOA (i := k) (by rw [hol]; exact hk)
      obtain ⟨w1, K3, a1, O1, c1, n1, _, w1n⟩ := (Own.lit (K2.alloc (.row false 1 [])) 1 K2.n).append' (bytes := 16) okA v1 (by omega) (by rw [List.length_take, hol]; simp; omega)
      have ok1 := c1.ok okA
      rw [sown_slice] at c1 n1
      rw [List.nil_append] at O1
      have c01 : Chg [] K2 K3 := cA.trans hokK c1 (by simp)
      have n1' : ∀ j ∈ sown w1, K2.n ≤ j := fun j hj => by rcases n1 j hj with h | h; cases h; simp only [AHeap.alloc_n] at h; omega
      have e4 := (hVK.new hokK.1 c01).rd (i := i) (r := sR l[i]) (by rw [List.getElem?_map, List.getElem?_eq_getElem hlt]; rfl) false (k := 1) (f := 0) (by omega) (by omega) (by simp)
      rw [r4] at e4
      simp only [Nat.add_zero, Nat.mul_one] at e4
      have cT := Chg.alloc K3 (.row false 1 [.str l[i]])
      have okT := cT.ok ok1
      have htmp : View (K3.alloc (.row false 1 [.str l[i]])) 1 (.slice K3.n 0 1 1) [sR l[i]] :=
        ⟨by simp [AV.sl], rfl, by simp [sR], fun _ => ⟨false, 1, _, get_alloc_same _ _, by simp, by simp [sR]⟩⟩
      obtain ⟨w2, K4, a2, O2, c2, n2, _, w2n⟩ := (O1.new ok1.1 cT).append' (bytes := 16) okT htmp (by omega) (by rw [List.length_take, hol]; simp; omega)
      have ok2 := c2.ok okT
      have c02 : Chg [] K2 K4 := (c01.trans hokK cT (by simp)).trans hokK c2 (fun j hj => .inr (n1' j hj))
      have n2' : ∀ j ∈ sown w2, K2.n ≤ j := fun j hj => by
        rcases n2 j hj with h | h
        · exact n1' j h
        · have := c01.le; simp only [AHeap.alloc_n] at h; omega
      have hO4 := hO.new hokK.1 c02
      obtain ⟨u2, s2, v2⟩ := own_cutv hO4 (i := k) (by rw [hol]; exact hk)
      obtain ⟨w3, K5, a3, O3, c3, n3, _, w3n⟩ := O2.append' (bytes := 16) ok2 v2 (by omega) (by rw [List.length_append, List.length_take, List.length_drop, hol, List.length_singleton]; omega)
      have c03 : Chg [] K2 K5 := c02.trans hokK c3 (fun j hj => .inr (n2' j hj))
      have n3' : ∀ j ∈ sown w3, H.n ≤ j := fun j hj => by
        have := hC.le
        rcases n3 j hj with h | h
        · have := n2' j h; omega
        · have := c02.le; omega
      rw [show (o.map sR).take k ++ [sR l[i]] ++ (o.map sR).drop k = (o.take k ++ ([l[i]] ++ o.drop k)).map sR by simp [List.map_take, List.map_drop]] at O3
      have hu1n := v1.noL
      have hu2n := v2.noL
      have hfin : KeysOf f t (l.take (i + 1)) (o.take k ++ ([l[i]] ++ o.drop k)) := hins
      have hlen2 : (o.take k ++ ([l[i]] ++ o.drop k)).length ≤ i + 1 := by
        rw [List.length_append, List.length_append, List.length_take, List.length_drop, List.length_singleton]; omega
      have next : ∀ (e : List (Nat × AV)) (lo : List (Nat × List AV)), prune [1, 2, 5, 6] e = [(1, lv), (2, .lptr 2 0), (5, w3), (6, .int .i64 ((i : Int) + 1))] → prune [2] lo = [(2, [.str f, .str t])] → P (.normal, ⟨e, lo, K5⟩) := fun e lo he hlo => by
        refine hI _ _ _ (m - 1) (by omega) ⟨i + 1, _, w3, K5, by omega, ?_, hfin, hlen2, O3, hC.trans hok c03 (by simp), n3'⟩
        rw [he, hlo]; simp
      generalize hx : l[i] = x at *
      clear hx hins hfin hlen2 O3 hI
      by_cases hko : k = o.length
      · subst hko
        simp -implicitDefEqProofs [e0, hlt, hvn, hon, e1, e2, e3, f1, g1, g2, g5, g6, g7, g8, gl, e00, e4, s1, hu1n, a1, w1n, a2, w2n, s2, hu2n, a3, w3n, hw]
        refine next _ _ ?_ ?_
        · simp [g1, g2, g6]
        · simp [gl]
      · have hkl : k < o.length := by omega
        have hko' : ¬ (k : Int) = o.length := by omega
        have i1 := hO.view.idx .i64 (n := k) (by omega) (by rw [List.length_map]; omega)
        have i2 := hO.view.rd (i := k) (r := sR o[k]) (by rw [List.getElem?_map, List.getElem?_eq_getElem hkl]; rfl) false (k := 1) (f := 0) (by omega) (by omega) (by simp)
        rw [r4] at i2
        simp only [Int.toNat_natCast, Nat.add_zero, Nat.mul_one] at i1 i2
        have hne2 := hne hkl
        generalize o[k] = y at *
        simp -implicitDefEqProofs [e0, hlt, hvn, hon, e1, e2, e3, f1, g1, g2, g5, g6, g7, g8, gl, e00, hko, hko', i1, i2, hne2, e4, s1, hu1n, a1, w1n, a2, w2n, s2, hu2n, a3, w3n, hw]
        refine next _ _ ?_ ?_
        · simp [g1, g2, g6]
        · simp [gl]
    · rw [if_neg hc] at hins
      have next : ∀ (e : List (Nat × AV)) (lo : List (Nat × List AV)), prune [1, 2, 5, 6] e = [(1, lv), (2, .lptr 2 0), (5, ov), (6, .int .i64 ((i : Int) + 1))] → prune [2] lo = [(2, [.str f, .str t])] → P (.normal, ⟨e, lo, K2⟩) := fun e lo he hlo => by
        refine hI _ _ _ (m - 1) (by omega) ⟨i + 1, o, ov, K2, by omega, ?_, hins, by omega, hO, hC, hN⟩
        rw [he, hlo]; simp
      clear hI
      by_cases hh : hasB f t l[i] = true
      · have ⟨g, hg⟩ : ∃ g : k < o.length, o[k] = l[i] := Classical.byContradiction fun hn => hc ⟨hh, fun g hh => hn ⟨g, hh⟩⟩
        have hko : ¬ k = o.length := by omega
        have hko' : ¬ (k : Int) = o.length := by omega
        have i1 := hO.view.idx .i64 (n := k) (by omega) (by rw [List.length_map]; omega)
        have i2 := hO.view.rd (i := k) (r := sR o[k]) (by rw [List.getElem?_map, List.getElem?_eq_getElem g]; rfl) false (k := 1) (f := 0) (by omega) (by omega) (by simp)
        rw [r4, hg] at i2
        simp only [Int.toNat_natCast, Nat.add_zero, Nat.mul_one] at i1 i2
        rw [hh] at e3 f1 g7
        generalize hx : l[i] = x at *
        clear hx
        simp -implicitDefEqProofs [e0, hlt, hvn, hon, e1, e2, e3, f1, g1, g2, g5, g6, g7, g8, gl, e00, hko, hko', i1, i2, hw]
        refine next _ _ ?_ ?_
        · simp [g1, g2, g5, g6]
        · simp [gl]
      · have hh' : hasB f t l[i] = false := by simpa using hh
        rw [hh'] at e3 f1 g7
        generalize hx : l[i] = x at *
        clear hx
        simp -implicitDefEqProofs [e0, hlt, hvn, hon, e1, e2, e3, f1, g1, g2, g5, g6, g7, g8, gl, e00, hw]
        refine next _ _ ?_ ?_
        · simp [g1, g2, g5, g6]
        · simp [gl]
  · have hil : i = l.length := by omega
    rw [hil, List.take_length] at hK
    simp -implicitDefEqProofs [e0, hlt, hvn]
    refine hX _ _ ?_
    exact ⟨rfl, o, ov, by simp, hK, hO, hC, hN, by omega⟩

theorem rKeys (hok : H.ok) (hf : Small f) (ht : Small t) (hsm : ∀ s ∈ l, Small s) (hV : View H 1 lv (l.map sR)) (hl : l.length ≤ 1000) :
    ∃ o ov K, call T 39 [.agg [.str f, .str t], lv] H = some (ov, K) ∧ KeysOf f t l o ∧ Own K 1 ov (o.map sR) ∧ Chg [] H K ∧ (∀ j ∈ sown ov, H.n ≤ j) ∧ o.length ≤ l.length := by
  obtain ⟨z, ⟨e, lo, K⟩, f1, rfl, o, ov, h5, hK, hO, hC, hN, hlo⟩ := rk_out (H := H.top) (AHeap.ok.top hok.1) hf ht hsm hV.top hl
  simp only at h5 hO hC hN
  have hon := hO.view.noL
  have hvn := hV.noL
  refine ⟨o, ov, Go.Wam.fin H ov K, ?_, hK, hO.fin (hO.okB hN), hC.fin hok ov, hN, hlo⟩
  rw [call_at (show T 39 = some (.ir ⟨_, _, _, _, _⟩) from T39)]
  simp -implicitDefEqProofs [f1, h5, hon, hvn]

/-- Two lists of texts that are one. -/
theorem rsame_loop {a c : AV} (ha : View H 1 a (l.map sR)) (hb : View H 1 c (l.map sR)) (hlen : l.length ≤ 1000000) :
    ∃ z s', den T (.loop L38_0) ⟨[(0, a), (1, c), (5, .int .i64 0)], [], H⟩ = some (z, s') ∧ s'.H = H ∧ z = .exit 0 := by
  refine loop_inv (I := fun q st => ∃ i : Nat, i + q = l.length ∧ st = ⟨[(0, a), (1, c), (5, .int .i64 i)], [], H⟩) _ ?_ l.length _ ⟨0, by omega, by simp [prS]⟩
  rintro q _ ⟨i, hi, rfl⟩ P hI hX hR
  have e0 := ha.lenS
  rw [List.length_map] at e0
  have han := ha.noL
  have hbn := hb.noL
  by_cases hlt : i < l.length
  · have hw := wrap_id (n := (i : Int) + 1) (by omega) (by omega)
    have r4 : ∀ s, rd false 1 0 (sR s) = some (.str s) := fun _ => rfl
    have e1 := ha.idx .i64 (n := i) (by omega) (by rw [List.length_map]; omega)
    have e2 := ha.rd (i := i) (r := sR l[i]) (by rw [List.getElem?_map, List.getElem?_eq_getElem hlt]; rfl) false (k := 1) (f := 0) (by omega) (by omega) (by simp)
    have e3 := hb.idx .i64 (n := i) (by omega) (by rw [List.length_map]; omega)
    have e4 := hb.rd (i := i) (r := sR l[i]) (by rw [List.getElem?_map, List.getElem?_eq_getElem hlt]; rfl) false (k := 1) (f := 0) (by omega) (by omega) (by simp)
    rw [r4] at e2 e4
    simp only [Int.toNat_natCast, Nat.add_zero, Nat.mul_one] at e1 e2 e3 e4
    generalize l[i] = x at *
    simp -implicitDefEqProofs [e0, hlt, han, hbn, e1, e2, e3, e4, hw]
    refine hI _ _ _ (q - 1) (by omega) ?_
    exact ⟨i + 1, by omega, by simp⟩
  · simp -implicitDefEqProofs [e0, hlt]
    refine hX _ _ ?_
    exact ⟨rfl, rfl⟩
theorem rSame {a c : AV} (ha : View H 1 a (l.map sR)) (hb : View H 1 c (l.map sR)) (hlen : l.length ≤ 1000000) : call T 38 [a, c] H = some (.bool true, H) := by
  rw [call_at (show T 38 = some (.ir ⟨_, _, _, _, _⟩) from T38)]
  obtain ⟨z, ⟨e, lo, K⟩, f, hK, rfl⟩ := rsame_loop ha.top hb.top hlen
  simp only at hK
  subst hK
  have e0 := ha.lenS
  have e1 := hb.lenS
  rw [List.length_map] at e0 e1
  have han := ha.noL
  have hbn := hb.noL
  simp -implicitDefEqProofs [e0, e1, han, hbn, f, fin_pure]
end
end Go.Proofs.Ytdnnpgmekbnlbaa
