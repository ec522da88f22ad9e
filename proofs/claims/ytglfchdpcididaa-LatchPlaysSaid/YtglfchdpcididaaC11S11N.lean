/- What Drop of the document's latches does. No condition. -/
import Derived.Test.YtglfchdpcididaaC11S11M
set_option linter.unusedVariables false
set_option linter.unusedSimpArgs false
namespace Go.Proofs.Ytglfchdpcididaa
open Go.Wam

attribute [local simp] den_seq den_region den_regionD0 den_regionD1 den_condB condB_bool den_block den_keep den_ret den_skip den_exit sops_cons sops_nil sopsR_cons sopsR_nil goR_eq readOk trace_cons trace_nil Opd.ev evs Go.Wam.look St.put enterA zipI leaveR_ret leaveR_normal rvs RV.ev
  st_guard guardB_bool st_move st_pick pickB_bool st_allocL st_alloc st_boxL st_box st_build st_buildSlice st_load st_store st_nilCheck nilC st_bin st_un st_convI convI st_convS convS st_convB convB st_mkIface st_mkFunc st_mkMap st_mkSlice mkSl st_slice st_fieldAddr fldA st_field fldV st_idx idxS_slice idxS_oslice st_idxArr idxArr st_idxStr idxStr st_idxAgg idxAgg st_extract extA st_call callA_func st_len st_lenStr lenStr st_lenArr st_lenMap st_append st_clear clearV st_maxs st_mins
  load_ptr load_lptr storeA rd wr goOn_normal goOn_exit goOn_ret outBlock_normal outBlock_exit outBlock_ret prune freeL_nil freeL_cons frV_lptr frV_tuple frV_noL fillA allNoL packA unA checkAt ev_load wantedA beq_same beqL_same AV.beq AV.beqL drawCond freshD readsOk isRead undefA optInt optIntO
  strOp aeqF_nil aeqF_cons andA_some i_add i_sub i_mul i_lss i_leq i_gtr i_geq i_quo i_rem i_eql i_neq s_eql s_neq s_lss
  s_leq s_gtr s_geq s_add e_bool n_bool e_nilp n_nilp e_ptr n_ptr e_lptr n_lptr e_agg n_agg
  e_nils n_nils e_slice n_slice e_oslice n_oslice e_eslice n_eslice e_xslice n_xslice e_nilm n_nilm e_map n_map
  e_nilFunc n_nilFunc e_func n_func q_int q_bool q_str q_struct q_ptr0 q_ptrL0 q_ptrR0 q_ptrL1 q_ptrR1 q_slice0
  q_sliceL0 q_sliceR0 q_sliceL1 q_sliceR1 q_sliceL2 q_sliceR2 q_sliceL3 q_sliceR3 q_map0 q_mapL0 q_mapR0 q_func0 q_funcL0 q_funcR0
  okR_some guardB_tuple get_alloc_eq rdAt_alloc_eq set_alloc_eq set_alloc_ne get_alloc_ne rdAt_alloc_ne
def atRow (L : List Cl) (j : Nat) : List AV := [.bool (decide (aheadC L j = 0))]
def wasL (L : List Cl) (i k : Nat) : List (List AV) := ((List.range k).eraseIdx i).map (atRow L)
theorem wasL_succ (L : List Cl) (i k : Nat) : wasL L i (k + 1) = if k = i then wasL L i k else wasL L i k ++ [atRow L k] := by
  unfold wasL
  by_cases h : k = i
  · subst h
    rw [if_pos rfl, List.range_succ, List.eraseIdx_append_of_length_le (by simp), List.eraseIdx_of_length_le (l := List.range k) (by simp)]
    simp
  · rw [if_neg h, List.range_succ]
    by_cases h2 : i < k
    · rw [List.eraseIdx_append_of_lt_length (by simpa using h2)]
      simp
    · rw [List.eraseIdx_of_length_le (by simp; omega), List.eraseIdx_of_length_le (by simp; omega)]
      simp
theorem wasL_len (L : List Cl) {i : Nat} (hi : i < L.length) : (wasL L i L.length).length = L.length - 1 := by
  unfold wasL
  rw [List.length_map, List.length_eraseIdx_of_lt (by simpa using hi)]
  simp
theorem wasL_get (L : List Cl) {i k : Nat} (hk : k + 1 < L.length) : (wasL L i L.length)[k]? = some (atRow L (if k < i then k else k + 1)) := by
  unfold wasL
  rw [List.getElem?_map, List.getElem?_eraseIdx]
  by_cases h : k < i
  · rw [if_pos h, if_pos h, List.getElem?_range (by omega)]; rfl
  · rw [if_neg h, if_neg h, List.getElem?_range (by omega)]; rfl

theorem map_erase (ps : List ClIn) (i : Nat) : (ps.eraseIdx i).map (·.c) = (ps.map (·.c)).eraseIdx i := by
  rw [List.eraseIdx_eq_take_drop_succ, List.eraseIdx_eq_take_drop_succ, List.map_append, List.map_take, List.map_drop]
theorem append_okB {H K : AHeap} {sz bytes : Nat} {v x v' : AV} {rows more : List (List AV)} (h : Own H sz v rows) (hx : View H sz x more) (ok : K.wf) (ha : appendA H sz bytes v x = some (v', K)) (h2 : Own K sz v' (rows ++ more)) (hv : v.okB H.n = true) : v'.okB K.n = true := by
  by_cases hm : 0 < (rows ++ more).length
  · exact own_okB h2 ok (fun id hid => by have := own_sid h2 hm; rw [hid] at this; cases this)
  · simp only [List.length_append] at hm
    have h1 : rows = [] := List.length_eq_zero_iff.1 (by omega)
    have h3 : more = [] := List.length_eq_zero_iff.1 (by omega)
    subst h1 h3
    have hf := hx.first
    obtain ⟨he, ⟨rfl | ⟨id, rfl⟩, _⟩ | ⟨id, kc, rest, rfl, hk, hkr, hg⟩⟩ := h <;> simp [appendA, hf] at ha <;> obtain ⟨rfl, rfl⟩ := ha <;> exact hv

section
variable {H K : AHeap} {m : Nat} {ps : List ClIn} {F G : List Nat} {v : AV}
theorem rdrop_loop0 {i : Nat} (hok : H.ok) (h : RefX H m ps F v) :
    ∃ z s', den T (.loop L39_0) ⟨[(0, .ptr m 0), (6, .int .i64 i), (7, .nils), (8, .int .i64 0)], [], H⟩ = some (z, s') ∧
      z = .exit 0 ∧ ∃ was, Go.Wam.look 0 s'.env = some (.ptr m 0) ∧ Go.Wam.look 6 s'.env = some (.int .i64 i) ∧ Go.Wam.look 7 s'.env = some was ∧ s'.loc = [] ∧ Own s'.H 1 was (wasL (ps.map (·.c)) i ps.length) ∧ Chg [] H s'.H ∧ (∀ j ∈ sown was, H.n ≤ j) := by
  have hmany := h.many
  refine loop_inv (I := fun q st => ∃ (k : Nat) (K : AHeap) (was : AV), k + q = ps.length ∧ st = ⟨[(0, .ptr m 0), (6, .int .i64 i), (7, was), (8, .int .i64 k)], [], K⟩ ∧ Own K 1 was (wasL (ps.map (·.c)) i k) ∧ Chg [] H K ∧ (∀ j ∈ sown was, H.n ≤ j)) _ ?_ ps.length _ ⟨0, H, .nils, by omega, by simp [prS], .nil _ _, .refl _ _, by simp⟩
  rintro q _ ⟨k, K, was, hk, rfl, hO, hC, hN⟩ P hI hX hR
  have hK := h.chg hok.1 hC (fun _ _ => by simp)
  have hokK := hC.ok hok
  have e0 := hK.view.lenS
  rw [List.length_map] at e0
  have hvn := hK.view.noL
  have hon := hO.view.noL
  have r0 := rdAt_row hK.obj
  by_cases hlt : k < ps.length
  · have hw := wrap_id (n := (k : Int) + 1) (by omega) (by omega)
    have e1 := hK.at hlt
    have hs := wasL_succ (ps.map (·.c)) i k
    by_cases h2 : k = i
    · subst h2
      rw [if_pos rfl] at hs
      simp -implicitDefEqProofs [r0, e0, hlt, hvn, e1, hon, hw]
      refine hI _ _ _ (q - 1) (by omega) ?_
      exact ⟨k + 1, K, was, by omega, by simp, by rw [hs]; exact hO, hC, hN⟩
    · rw [if_neg h2] at hs
      have h3 : ¬ (k : Int) = i := by omega
      have cT := Chg.alloc K (.row false 1 [.bool (decide (aheadC (ps.map (·.c)) k = 0))])
      have htmp : View (K.alloc (.row false 1 [.bool (decide (aheadC (ps.map (·.c)) k = 0))])) 1 (.slice K.n 0 1 1) [atRow (ps.map (·.c)) k] :=
        ⟨by simp [AV.sl], rfl, by simp [atRow], fun _ => ⟨false, 1, _, get_alloc_same _ _, by simp, by simp [atRow]⟩⟩
      have hlw : (wasL (ps.map (·.c)) i k).length ≤ k := by
        unfold wasL
        rw [List.length_map]
        exact Nat.le_trans (List.length_eraseIdx_le _ _) (by simp)
      obtain ⟨v', K2, ha, hO2, hC2, hN2, _⟩ := (hO.new hokK.1 cT).append (bytes := 1) (cT.ok hokK) htmp (by simp) (by omega) (by simp; omega)
      have hv'n := hO2.view.noL
      simp -implicitDefEqProofs [r0, e0, hlt, hvn, e1, hon, hw, h3, ha, hv'n]
      refine hI _ _ _ (q - 1) (by omega) ?_
      refine ⟨k + 1, K2, v', by omega, by simp, by rw [hs]; exact hO2, (hC.trans hok cT (by simp)).trans hok hC2 (fun j hj => .inr (hN j hj)), fun j hj => ?_⟩
      rcases hN2 j hj with h | h
      · exact hN j h
      · have := hC.le; simp only [AHeap.alloc_n] at h; omega
  · have hil : k = ps.length := by omega
    rw [hil] at hO
    simp -implicitDefEqProofs [r0, e0, hlt, hvn]
    refine hX _ _ ?_
    exact ⟨rfl, was, by simp, by simp, by simp, rfl, hO, hC, hN⟩

/-- Whom the claim at i held up, of the first k that stay. -/
theorem freed_step (L : List Cl) {i k : Nat} (hi : i < L.length) (hk : k + 1 < L.length) {a : Cl} (ha : (L.eraseIdx i)[k]? = some a) :
    freedTo L L[i] i (k + 1 - i) = freedTo L L[i] i (k - i) ++ (if decide (aheadC (L.eraseIdx i) k = 0) && !decide (aheadC L (if k < i then k else k + 1) = 0) then [a] else []) := by
  by_cases h : k < i
  · rw [if_pos h, aheadC_erase_lt hi h, show k + 1 - i = 0 by omega, show k - i = 0 by omega]
    cases decide (aheadC L k = 0) <;> simp
  · rw [if_neg h]
    rw [List.getElem?_eraseIdx, if_neg h] at ha
    have e := aheadC_erase_ge (L := L) hi (show i ≤ k by omega) hk
    obtain ⟨hj1, hj2⟩ := List.getElem?_eq_some_iff.1 ha
    rw [hj2] at e
    rw [show k + 1 - i = (k - i) + 1 by omega, freedTo_succ L L[i] i (k - i) a (by rw [show i + 1 + (k - i) = k + 1 by omega]; exact ha), show i + 1 + (k - i) = k + 1 by omega]
    congr 1
    rw [e]
    by_cases hc : collC a L[i] = true
    · rw [if_pos hc]
      by_cases h0 : aheadC (L.eraseIdx i) k = 0
      · simp [h0, hc]
      · simp [h0, hc]
    · rw [if_neg hc]
      by_cases h0 : aheadC (L.eraseIdx i) k = 0
      · simp [h0, hc]
      · simp [h0, hc]

theorem rdrop_loop1 {i : Nat} {was : AV} {L : List Cl} (hok : H.ok) (h : RefX H m ps F v) (hi : i < L.length) (hL : ps.map (·.c) = L.eraseIdx i) (hW : View H 1 was (wasL L i L.length)) :
    ∃ z s', den T (.loop L39_1) ⟨[(0, .ptr m 0), (7, was), (11, .nils), (12, .int .i64 0)], [], H⟩ = some (z, s') ∧
      z = .exit 2 ∧ ∃ out, Go.Wam.look 11 s'.env = some out ∧ Own s'.H 1 out ((freedTo L L[i] i (L.length - (i + 1))).map numRow) ∧ Chg [] H s'.H ∧ (∀ j ∈ sown out, H.n ≤ j) := by
  have hmany := h.many
  have hpl : ps.length = L.length - 1 := by rw [← List.length_map (f := fun p : ClIn => p.c), hL, List.length_eraseIdx_of_lt hi]
  refine loop_inv (I := fun q st => ∃ (k : Nat) (K : AHeap) (out : AV), k + q = ps.length ∧ st = ⟨[(0, .ptr m 0), (7, was), (11, out), (12, .int .i64 k)], [], K⟩ ∧ Own K 1 out ((freedTo L L[i] i (k - i)).map numRow) ∧ Chg [] H K ∧ (∀ j ∈ sown out, H.n ≤ j)) _ ?_ ps.length _ ⟨0, H, .nils, by omega, by simp [prS], by rw [show 0 - i = 0 by omega]; exact .nil _ _, .refl _ _, by simp⟩
  rintro q _ ⟨k, K, out, hk, rfl, hO, hC, hN⟩ P hI hX hR
  have hK := h.chg hok.1 hC (fun _ _ => by simp)
  have hWK := hW.new hok.1 hC
  have hokK := hC.ok hok
  have e0 := hK.view.lenS
  rw [List.length_map] at e0
  have hvn := hK.view.noL
  have hwn := hWK.noL
  have hon := hO.view.noL
  have r0 := rdAt_row hK.obj
  by_cases hlt : k < ps.length
  · have hw := wrap_id (n := (k : Int) + 1) (by omega) (by omega)
    have e1 := hK.at hlt
    have hwl := wasL_len L hi
    have e2 := hWK.idx .i64 (n := k) (by omega) (by rw [hwl]; omega)
    have e3 := hWK.rd (wasL_get L (i := i) (k := k) (by omega)) false (k := 1) (f := 0) (by omega) (by omega) (by simp)
    have e4 : rd false 1 0 (atRow L (if k < i then k else k + 1)) = some (.bool (decide (aheadC L (if k < i then k else k + 1) = 0))) := rfl
    rw [e4] at e3
    have e5 := hK.view.idx .i64 (n := k) (by omega) (by rw [List.length_map]; omega)
    have e6 := hK.view.rd (i := k) (r := rowRef ps[k]) (by rw [List.getElem?_map, List.getElem?_eq_getElem hlt]; rfl) false (k := 1) (f := 0) (by omega) (by omega) (by simp)
    have e7 : rd false 1 0 (rowRef ps[k]) = some (.int .i64 ps[k].c.n) := rfl
    rw [e7] at e6
    simp only [Int.toNat_natCast, Nat.add_zero, Nat.mul_one] at e2 e3 e5 e6
    have hs := freed_step L hi (k := k) (a := ps[k].c) (by omega) (by rw [← hL, List.getElem?_map, List.getElem?_eq_getElem hlt]; rfl)
    rw [hL] at e1
    generalize decide (aheadC (L.eraseIdx i) k = 0) = b1 at *
    generalize decide (aheadC L (if k < i then k else k + 1) = 0) = b2 at *
    by_cases hb : (b1 && !b2) = true
    · simp only [Bool.and_eq_true, Bool.not_eq_true'] at hb
      obtain ⟨rfl, rfl⟩ := hb
      rw [if_pos (by rfl)] at hs
      have cT := Chg.alloc K (.row false 1 [.int .i64 ps[k].c.n])
      have htmp : View (K.alloc (.row false 1 [.int .i64 ps[k].c.n])) 1 (.slice K.n 0 1 1) [numRow ps[k].c] :=
        ⟨by simp [AV.sl], rfl, by simp [numRow], fun _ => ⟨false, 1, _, get_alloc_same _ _, by simp, by simp [numRow]⟩⟩
      have hfl : (freedTo L L[i] i (k - i)).length ≤ k := by
        unfold freedTo
        refine Nat.le_trans (List.length_filterMap_le _ _) ?_
        simp
      obtain ⟨v', K2, ha, hO2, hC2, hN2, _⟩ := (hO.new hokK.1 cT).append (bytes := 8) (cT.ok hokK) htmp (by simp) (by omega) (by simp; omega)
      have hv'n := hO2.view.noL
      simp -implicitDefEqProofs [r0, e0, hlt, hvn, e1, e2, e3, e5, e6, hwn, hon, hw, ha, hv'n]
      refine hI _ _ _ (q - 1) (by omega) ?_
      refine ⟨k + 1, K2, v', by omega, by simp, by rw [hs, List.map_append]; exact hO2, (hC.trans hok cT (by simp)).trans hok hC2 (fun j hj => .inr (hN j hj)), fun j hj => ?_⟩
      rcases hN2 j hj with h | h
      · exact hN j h
      · have := hC.le; simp only [AHeap.alloc_n] at h; omega
    · rw [if_neg hb, List.append_nil] at hs
      cases b1 with
      | false =>
        simp -implicitDefEqProofs [r0, e0, hlt, hvn, e1, e2, e3, e5, e6, hwn, hon, hw]
        refine hI _ _ _ (q - 1) (by omega) ?_
        exact ⟨k + 1, K, out, by omega, by simp, by rw [hs]; exact hO, hC, hN⟩
      | true =>
        have : b2 = true := by cases b2 <;> simp at hb ⊢
        subst this
        simp -implicitDefEqProofs [r0, e0, hlt, hvn, e1, e2, e3, e5, e6, hwn, hon, hw]
        refine hI _ _ _ (q - 1) (by omega) ?_
        exact ⟨k + 1, K, out, by omega, by simp, by rw [hs]; exact hO, hC, hN⟩
  · rw [show k - i = L.length - (i + 1) by omega] at hO
    simp -implicitDefEqProofs [r0, e0, hlt, hvn]
    refine hX _ _ ?_
    exact ⟨rfl, out, by simp, hO, hC, hN⟩

theorem RefX.drop_no {n : Int} (h : RefX H m ps F v) (hn : dropI (ps.map (·.c)) n = none) : call T 39 [.ptr m 0, .int .i64 n] H = some (.tuple [.nils, .int .i64 111], H) := by
  rw [call_at (show T 39 = some (.ir ⟨_, _, _, _, _⟩) from T39)]
  have e1 := h.top.find n
  unfold findI at e1
  unfold dropI at hn
  rw [hn] at e1
  simp -implicitDefEqProofs [e1, fin_pure]

theorem RefY.drop {n : Int} {i : Nat} (hok : H.ok) (h : RefY H m ps F v) (hn : dropI (ps.map (·.c)) n = some i) :
    ∃ out K F', call T 39 [.ptr m 0, .int .i64 n] H = some (.tuple [out, .int .i64 0], K) ∧ RefRep2 K m ((ps.map (·.c)).eraseIdx i) F' ∧ Chg [m] H K ∧ (∀ j ∈ F', j ∈ F ∨ H.n ≤ j) ∧
      Own K 1 out ((freedTo (ps.map (·.c)) ((ps.map (·.c))[i]'(dropI_lt hn)) i ((ps.map (·.c)).length - (i + 1))).map numRow) ∧ (∀ j ∈ sown out, H.n ≤ j) := by
  have hi := dropI_lt hn
  have hi' : i < ps.length := by simpa using hi
  have hmany := h.x.many
  have hokT := AHeap.ok.top hok.1
  have hT := h.top
  have e1 := hT.x.find n
  have hn' := hn
  unfold findI at e1
  unfold dropI at hn'
  rw [hn'] at e1
  simp only at e1
  -- who was at the front
  obtain ⟨z, ⟨e, lo, K1⟩, f1, rfl, was, g0, g6, g7, gl, hOw, c1, hNw⟩ := rdrop_loop0 (i := i) hokT hT.x
  simp only at g0 g6 g7 gl hOw c1 hNw
  subst gl
  have ok1 := c1.ok hokT
  have h1 := hT.chg hokT.1 c1 (fun _ _ => by simp)
  -- the claims that stay
  have cA := Chg.alloc K1 (.row false 3 [])
  have okA := cA.ok ok1
  have hA := h1.chg ok1.1 cA (fun _ _ => by simp)
  have hrl : (ps.map rowRef).length = ps.length := List.length_map ..
  obtain ⟨u1, s1, v1⟩ := own_takev hA.own (i := i) (by rw [hrl]; exact hi')
  obtain ⟨w1, K2, a1, O1, c2, n1, _, w1n⟩ := (Own.lit (K1.alloc (.row false 3 [])) 3 K1.n).append' (bytes := 40) okA v1 (by omega) (by rw [List.length_take, hrl]; simp; omega)
  have ok2 := c2.ok okA
  rw [sown_slice] at c2 n1
  have hwo1 : w1.okB K2.n = true := append_okB (Own.lit (K1.alloc (.row false 3 [])) 3 K1.n) v1 ok2.1 a1 O1 (by rw [AV.okB]; exact decide_eq_true (by simp))
  rw [List.nil_append] at O1
  have n1' : ∀ j ∈ sown w1, K1.n ≤ j := fun j hj => by rcases n1 j hj with h | h; cases h; simp only [AHeap.alloc_n] at h; omega
  have hB := hA.chg okA.1 c2 (fun _ _ => by simp)
  obtain ⟨u2, s2, v2, v2s⟩ := own_dropv hB.own (i := i) (by rw [hrl]; exact hi')
  obtain ⟨w2, K3, a2, O2, c3, n2, _, w2n⟩ := O1.append' (bytes := 40) ok2 v2 (by omega) (by rw [List.length_take, List.length_drop, hrl]; omega)
  have ok3 := c3.ok ok2
  have c12 : Chg [] K1 K2 := cA.trans ok1 c2 (by simp)
  have c13 : Chg [] K1 K3 := c12.trans ok1 c3 (fun j hj => .inr (n1' j hj))
  have n2' : ∀ j ∈ sown w2, K1.n ≤ j := fun j hj => by
    rcases n2 j hj with h | h
    · exact n1' j h
    · have := c12.le; omega
  have c03 : Chg [] H.top K3 := c1.trans hokT c13 (by simp)
  rw [show (ps.map rowRef).take i ++ (ps.map rowRef).drop (i + 1) = (ps.eraseIdx i).map rowRef by rw [List.eraseIdx_eq_take_drop_succ, List.map_append, List.map_take, List.map_drop]] at O2
  have hle1 : H.n ≤ K1.n := c1.le
  have hwo : w2.okB K3.n = true := append_okB O1 v2 ok3.1 a2 (by rw [show (ps.map rowRef).take i ++ (ps.map rowRef).drop (i + 1) = (ps.eraseIdx i).map rowRef by rw [List.eraseIdx_eq_take_drop_succ, List.map_append, List.map_take, List.map_drop]]; exact O2) hwo1
  obtain ⟨cP, lowP, F', hY, hF'⟩ := hT.put hokT c03 ok3 O2 hwo (fun j hj => by have := n2' j hj; simp only [top_n]; omega) (fun p hp => hT.old hokT c03 p (List.mem_of_mem_eraseIdx hp)) (Nat.le_trans (List.length_eraseIdx_le _ _) hmany)
  have hmlt := h.x.lt m h.x.mF
  have hg3 : K3.get m = some (.row false 1 [v]) := by rw [c03.get m hmlt (by simp)]; exact h.x.obj
  have okP := cP.ok hokT
  have cS := Chg.set K3 m (.row false 1 [w2])
  have hWs : View (K3.set m (.row false 1 [w2])) 1 was (wasL (ps.map (·.c)) i (ps.map (·.c)).length) := by
    rw [List.length_map]
    exact (hOw.view.new ok1.1 c13).chg ok3.1 cS (fun hr => by
      have := own_sid hOw hr
      have := hNw (sid was) (by rw [this]; simp)
      simp only [top_n] at this
      simp; omega)
  obtain ⟨z2, ⟨e2, lo2, K4⟩, f2, rfl, out, q11, hO, c4, hN⟩ := rdrop_loop1 okP hY.x hi (map_erase ps i) hWs
  simp only at q11 hO c4 hN
  have hfin := fin_keep (H := H) (K := K4) (v := .tuple [out, .int .i64 0]) (.inl (by have := c4.lo; omega))
  have hon := hO.view.noL
  refine ⟨out, K4.lowered H.low, F', ?_, ⟨_, w2, (map_erase ps i).symm, (hY.chg okP.1 c4 (fun _ _ => by simp)).lowered _⟩, (cP.trans hokT c4 (by simp)).lowered hok, hF', hO.frame (fun _ _ => rfl), fun j hj => by have := hN j hj; have := cP.le; simp only [top_n] at *; omega⟩
  have hvn := h.x.view.noL
  have hwasn := hOw.view.noL
  have hcw := O2.view.cells
  have r1 := rdAt_row h1.x.obj
  have r2 := rdAt_row hA.x.obj
  have r3 := rdAt_row hB.x.obj
  have hu1n := v1.noL
  have hu2n := v2.noL
  have h01 : (0 : Int) ≤ (i : Int) + 1 := by omega
  have h02 : ((i : Int) + 1).toNat = i + 1 := by omega
  have h03 : ¬ (i : Int) < 0 := by omega
  have hw1 := wrap_id (n := (i : Int) + 1) (by omega) (by omega)
  rw [call_at (show T 39 = some (.ir ⟨_, _, _, _, _⟩) from T39)]
  simp -implicitDefEqProofs [e1, h01, h02, h03, hw1, f1, g0, g6, g7, r1, r2, r3, hvn, hwasn, s1, hu1n, a1, w1n, s2, hu2n, a2, w2n, hcw, hg3, f2, q11, hon, hfin]
end
end Go.Proofs.Ytglfchdpcididaa
