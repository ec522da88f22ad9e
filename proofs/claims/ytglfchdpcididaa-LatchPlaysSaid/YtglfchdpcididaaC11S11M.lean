/- What the document's latches do. No condition. -/
import Derived.Test.YtglfchdpcididaaC11S11L
set_option linter.unusedVariables false
set_option linter.unusedSimpArgs false
namespace Go.Proofs.Ytglfchdpcididaa
open Go.Wam

attribute [local simp] den_seq den_region den_regionD0 den_regionD1 den_condB condB_bool den_block den_keep den_ret den_skip den_exit sops_cons sops_nil sopsR_cons sopsR_nil goR_eq readOk trace_cons trace_nil Opd.ev evs Go.Wam.look St.put enterA zipI leaveR_ret leaveR_normal rvs RV.ev
  st_guard guardB_bool st_move st_pick pickB_bool st_allocL st_alloc st_boxL st_box st_build st_buildSlice st_load st_store st_nilCheck nilC st_bin st_un st_convI convI st_convS convS st_convB convB st_mkIface st_mkFunc st_mkMap st_mkSlice mkSl st_slice st_fieldAddr fldA st_field fldV st_idx idxS_slice idxS_oslice st_idxArr idxArr st_idxStr idxStr st_idxAgg idxAgg st_extract extA st_call callA_func st_len st_lenStr lenStr st_lenArr st_lenMap st_append st_clear clearV st_maxs st_mins
  load_ptr load_lptr storeA rd wr goOn_normal goOn_exit goOn_ret outBlock_normal outBlock_exit outBlock_ret prune freeL_nil freeL_cons frV_lptr frV_tuple frV_noL fillA allNoL packA unA checkAt ev_load wantedA beq_same beqL_same AV.beq AV.beqL drawCond freshD readsOk isRead undefA optInt optIntO
  strOp aeqF_nil aeqF_cons andA_some i_add i_sub i_mul i_lss i_leq i_gtr i_geq i_quo i_rem i_eql i_neq s_eql s_neq s_lss
  s_leq s_gtr s_geq s_add e_bool n_bool e_nilp n_nilp e_ptr n_ptr e_lptr n_lptr e_agg n_agg
  e_nils n_nils e_slice n_slice e_oslice n_oslice e_eslice n_eslice e_xslice n_xslice e_nilm n_nilm e_map n_map
  e_nilFunc n_nilFunc e_func n_func q_int q_bool q_str q_struct q_ptr0 q_ptrL0 q_ptrR0 q_ptrL1 q_ptrR1 q_slice0
  q_sliceL0 q_sliceR0 q_sliceL1 q_sliceR1 q_sliceL2 q_sliceR2 q_sliceL3 q_sliceR3 q_map0 q_mapL0 q_mapR0 q_func0 q_funcL0 q_funcR0
  okR_some guardB_tuple get_alloc_eq rdAt_alloc_eq set_alloc_eq set_alloc_ne get_alloc_ne rdAt_alloc_ne
section
variable {H K : AHeap} {m : Nat} {ps : List ClIn} {F G : List Nat} {v : AV}
theorem rclaims_loop (hok : H.ok) (h : RefX H m ps F v) :
    ∃ z s', den T (.loop L42_0) ⟨[(0, .ptr m 0), (3, .nils), (4, .int .i64 0)], [], H⟩ = some (z, s') ∧
      z = .exit 0 ∧ ∃ out, Go.Wam.look 3 s'.env = some out ∧ Own s'.H 1 out ((ps.map (·.c)).map numRow) ∧ Chg [] H s'.H ∧ (∀ i ∈ sown out, H.n ≤ i) := by
  have hmany := h.many
  refine loop_inv (I := fun q st => ∃ (i : Nat) (K : AHeap) (out : AV), i + q = ps.length ∧ st = ⟨[(0, .ptr m 0), (3, out), (4, .int .i64 i)], [], K⟩ ∧ Own K 1 out (((ps.take i).map (·.c)).map numRow) ∧ Chg [] H K ∧ (∀ i ∈ sown out, H.n ≤ i)) _ ?_ ps.length _ ⟨0, H, .nils, by omega, by simp [prS], .nil _ _, .refl _ _, by simp⟩
  rintro q _ ⟨i, K, out, hi, rfl, hO, hC, hN⟩ P hI hX hR
  have hK := h.chg hok.1 hC (fun _ _ => by simp)
  have hokK := hC.ok hok
  have e0 := hK.view.lenS
  rw [List.length_map] at e0
  have hvn := hK.view.noL
  have hon := hO.view.noL
  have r0 := rdAt_row hK.obj
  by_cases hlt : i < ps.length
  · have hw := wrap_id (n := (i : Int) + 1) (by omega) (by omega)
    have e1 := hK.view.idx .i64 (n := i) (by omega) (by rw [List.length_map]; omega)
    have e2 := hK.view.rd (i := i) (r := rowRef ps[i]) (by rw [List.getElem?_map, List.getElem?_eq_getElem hlt]; rfl) false (k := 1) (f := 0) (by omega) (by omega) (by simp)
    have e3 : rd false 1 0 (rowRef ps[i]) = some (.int .i64 ps[i].c.n) := rfl
    rw [e3] at e2
    simp only [Int.toNat_natCast, Nat.add_zero] at e1 e2
    have cT := Chg.alloc K (.row false 1 [.int .i64 ps[i].c.n])
    have htmp : View (K.alloc (.row false 1 [.int .i64 ps[i].c.n])) 1 (.slice K.n 0 1 1) [numRow ps[i].c] :=
      ⟨by simp [AV.sl], rfl, by simp [numRow], fun _ => ⟨false, 1, _, get_alloc_same _ _, by simp, by simp [numRow]⟩⟩
    obtain ⟨v', K2, ha, hO2, hC2, hN2, _⟩ := (hO.new hokK.1 cT).append (bytes := 8) (cT.ok hokK) htmp (by simp) (by omega) (by simp; omega)
    have hv'n := hO2.view.noL
    simp -implicitDefEqProofs [r0, e0, hlt, hvn, hon, e1, e2, ha, hv'n, hw]
    refine hI _ _ _ (q - 1) (by omega) ?_
    refine ⟨i + 1, K2, v', by omega, by simp, ?_, (hC.trans hok cT (by simp)).trans hok hC2 (fun j hj => .inr (hN j hj)), fun j hj => ?_⟩
    · rw [List.take_succ_eq_append_getElem hlt, List.map_append, List.map_append]; exact hO2
    · rcases hN2 j hj with h | h
      · exact hN j h
      · have := hC.le; simp only [AHeap.alloc_n] at h; omega
  · have hil : i = ps.length := by omega
    rw [hil, List.take_length] at hO
    simp -implicitDefEqProofs [r0, e0, hlt, hvn]
    refine hX _ _ ?_
    exact ⟨rfl, out, by simp, hO, hC, hN⟩

theorem RefX.claims (hok : H.ok) (h : RefX H m ps F v) : ∃ out K, call T 42 [.ptr m 0] H = some (out, K) ∧ Own K 1 out ((ps.map (·.c)).map numRow) ∧ Chg [] H K ∧ (∀ i ∈ sown out, H.n ≤ i) := by
  obtain ⟨z, ⟨e, lo, K⟩, f, rfl, out, h3, hO, hC, hN⟩ := rclaims_loop (AHeap.ok.top hok.1) h.top
  simp only at h3 hO hC hN
  have hon := hO.view.noL
  refine ⟨out, Go.Wam.fin H out K, ?_, hO.fin (hO.okB hN), hC.fin hok out, hN⟩
  rw [call_at (show T 42 = some (.ir ⟨_, _, _, _, _⟩) from T42)]
  simp -implicitDefEqProofs [f, h3, hon]

/-- Two lists of numbers that are one. -/
theorem same_loop {a b : AV} {l : List Cl} (ha : View H 1 a (l.map numRow)) (hb : View H 1 b (l.map numRow)) (hlen : l.length ≤ 1000000) :
    ∃ z s', den T (.loop L40_0) ⟨[(0, a), (1, b), (5, .int .i64 0)], [], H⟩ = some (z, s') ∧ s'.H = H ∧ z = .exit 0 := by
  refine loop_inv (I := fun q st => ∃ i : Nat, i + q = l.length ∧ st = ⟨[(0, a), (1, b), (5, .int .i64 i)], [], H⟩) _ ?_ l.length _ ⟨0, by omega, by simp [prS]⟩
  rintro q _ ⟨i, hi, rfl⟩ P hI hX hR
  have e0 := ha.lenS
  rw [List.length_map] at e0
  have han := ha.noL
  have hbn := hb.noL
  by_cases hlt : i < l.length
  · have hw := wrap_id (n := (i : Int) + 1) (by omega) (by omega)
    have e1 := ha.idx .i64 (n := i) (by omega) (by rw [List.length_map]; omega)
    have e2 := ha.rd (i := i) (r := numRow l[i]) (by rw [List.getElem?_map, List.getElem?_eq_getElem hlt]; rfl) false (k := 1) (f := 0) (by omega) (by omega) (by simp)
    have e3 := hb.idx .i64 (n := i) (by omega) (by rw [List.length_map]; omega)
    have e4 := hb.rd (i := i) (r := numRow l[i]) (by rw [List.getElem?_map, List.getElem?_eq_getElem hlt]; rfl) false (k := 1) (f := 0) (by omega) (by omega) (by simp)
    have e5 : rd false 1 0 (numRow l[i]) = some (.int .i64 l[i].n) := rfl
    rw [e5] at e2 e4
    simp only [Int.toNat_natCast, Nat.add_zero, Nat.mul_one] at e1 e2 e3 e4
    simp -implicitDefEqProofs [e0, hlt, han, hbn, e1, e2, e3, e4, hw]
    refine hI _ _ _ (q - 1) (by omega) ?_
    exact ⟨i + 1, by omega, by simp⟩
  · simp -implicitDefEqProofs [e0, hlt]
    refine hX _ _ ?_
    exact ⟨rfl, rfl⟩
theorem rSame {a b : AV} {l : List Cl} (ha : View H 1 a (l.map numRow)) (hb : View H 1 b (l.map numRow)) (hlen : l.length ≤ 1000000) : call T 40 [a, b] H = some (.bool true, H) := by
  rw [call_at (show T 40 = some (.ir ⟨_, _, _, _, _⟩) from T40)]
  obtain ⟨z, ⟨e, lo, K⟩, f, hK, rfl⟩ := same_loop ha.top hb.top hlen
  simp only at hK
  subst hK
  have e0 := ha.lenS
  have e1 := hb.lenS
  rw [List.length_map] at e0 e1
  have han := ha.noL
  have hbn := hb.noL
  simp -implicitDefEqProofs [e0, e1, han, hbn, f, fin_pure]

/-! ## Claim -/
theorem rclaim_loop {x : List Sp} {xv : AV} (hx : Sps H xv x) (n w : AV) (hl : x.length ≤ 9223372036854775806) :
    ∃ z s', den T (.loop L38_0) ⟨[(0, .ptr m 0), (1, n), (2, xv), (3, w), (10, .int .i64 0)], [], H⟩ = some (z, s') ∧ s'.H = H ∧
      ((x.any (fun s => !rightS2 s) = false ∧ z = .exit 0 ∧ Go.Wam.look 0 s'.env = some (.ptr m 0) ∧ Go.Wam.look 1 s'.env = some n ∧ Go.Wam.look 2 s'.env = some xv ∧ Go.Wam.look 3 s'.env = some w ∧ s'.loc = []) ∨
       (x.any (fun s => !rightS2 s) = true ∧ z = .ret ∧ Go.Wam.look 8 s'.env = some (.bool false) ∧ Go.Wam.look 9 s'.env = some (.int .i64 51))) := by
  refine loop_inv (I := fun q st => ∃ i : Nat, i + q = x.length ∧ st = ⟨[(0, .ptr m 0), (1, n), (2, xv), (3, w), (10, .int .i64 i)], [], H⟩ ∧ (x.take i).any (fun s => !rightS2 s) = false) _ ?_ x.length _ ⟨0, by omega, by simp [prS], by simp⟩
  rintro q _ ⟨i, hi, rfl, hall⟩ P hI hX hR
  have e0 := hx.view.lenS
  rw [List.length_map] at e0
  have hxn := hx.view.noL
  by_cases hlt : i < x.length
  · have hw := wrap_id (n := (i : Int) + 1) (by omega) (by omega)
    have e1 := hx.view.idx .i64 (n := i) (by omega) (by rw [List.length_map]; omega)
    have e2 := hx.view.rd (i := i) (r := rowSp x[i]) (by rw [List.getElem?_map, List.getElem?_eq_getElem hlt]; rfl) true (k := 2) (f := 0) (by omega) (by omega) (by simp)
    have r1 : rd true 2 0 (rowSp x[i]) = some (.agg [.str x[i].1, .str x[i].2]) := rfl
    rw [r1] at e2
    have hs := hx.small x[i] (List.getElem_mem hlt)
    have e3 := rRight hs.1 hs.2 H
    have r2 : rightB x[i].1 x[i].2 = rightS2 x[i] := rfl
    rw [r2] at e3
    simp only [Int.toNat_natCast, Nat.add_zero] at e1 e2
    have ht2 : (x.take (i + 1)).any (fun s => !rightS2 s) = ((x.take i).any (fun s => !rightS2 s) || !rightS2 x[i]) := by rw [List.take_succ_eq_append_getElem hlt, List.any_append]; simp
    rw [hall, Bool.false_or] at ht2
    generalize rightS2 x[i] = b at *
    cases b with
    | true =>
      simp -implicitDefEqProofs [e0, hlt, hxn, e1, e2, e3, hw]
      refine hI _ _ _ (q - 1) (by omega) ?_
      exact ⟨i + 1, by omega, by simp, ht2⟩
    | false =>
      simp -implicitDefEqProofs [e0, hlt, hxn, e1, e2, e3]
      refine hR _ ?_
      refine ⟨rfl, .inr ⟨?_, rfl, by simp, by simp⟩⟩
      obtain ⟨z, hz, hz2⟩ := List.any_eq_true.1 ht2
      exact List.any_eq_true.2 ⟨z, List.mem_of_mem_take hz, hz2⟩
  · have hil : i = x.length := by omega
    rw [hil, List.take_length] at hall
    simp -implicitDefEqProofs [e0, hlt]
    refine hX _ _ ?_
    exact ⟨rfl, .inl ⟨hall, rfl, by simp, by simp, by simp, by simp, rfl⟩⟩

theorem RefX.claim_no {x : List Sp} {xv : AV} {n : Int} {w : Bool} (h : RefX H m ps F v) (hx : Sps H xv x) (hl : x.length ≤ 9223372036854775806) (he : claimE (ps.map (·.c)) n x ≠ 0) :
    call T 38 [.ptr m 0, .int .i64 n, xv, .bool w] H = some (.tuple [.bool false, .int .i64 (claimE (ps.map (·.c)) n x)], H) := by
  have e1 := h.top.find n
  have e2 := findI_any (ps.map (·.c)) n
  have e3 := hx.view.lenS
  rw [List.length_map] at e3
  have hxn := hx.view.noL
  by_cases h1 : (ps.map (·.c)).any (fun a => decide (a.n = n)) = true
  · simp only [h1, eq_iff_iff, iff_true] at e2
    have hval : claimE (ps.map (·.c)) n x = 111 := by rw [claimE, if_pos h1]
    rw [hval, call_at (show T 38 = some (.ir ⟨_, _, _, _, _⟩) from T38)]
    simp -implicitDefEqProofs [e1, e2, fin_pure, hxn]
  · rw [eq_iff_iff] at e2
    have e2' : ¬ 0 ≤ findI (ps.map (·.c)) n := fun h => h1 (e2.1 h)
    have hval : claimE (ps.map (·.c)) n x = 51 := by
      rcases reads_claimE2 (ps.map (·.c)) n x with h | h | h
      · unfold claimE at h; rw [if_neg h1] at h; split at h <;> cases h
      · exact h
      · exact absurd h he
    have h51 := hval
    unfold claimE at h51
    rw [if_neg h1] at h51
    split at h51
    · rename_i hc
      rw [hval, call_at (show T 38 = some (.ir ⟨_, _, _, _, _⟩) from T38)]
      obtain ⟨z, ⟨e, lo, K⟩, f, hK, ⟨hb, rfl, g0, g1, g2, g3, gl⟩ | ⟨hb, rfl, g8, g9⟩⟩ := rclaim_loop (m := m) hx.top (.int .i64 n) (.bool w) hl
      · simp only at hK g0 g1 g2 g3 gl
        subst hK gl
        by_cases h2 : x.length = 0
        · have h2' : (x.length : Int) = 0 := by omega
          rw [h2'] at e3
          simp -implicitDefEqProofs [e1, e2', e3, hxn, f, g0, g1, g2, g3, fin_pure]
        · have h3 : 20 < x.length := by
            rcases hc with h | h | h
            · exact absurd h h2
            · exact h
            · rw [hb] at h; cases h
          have h3' : (20 : Int) < x.length := by omega
          have h4 : ¬ (x.length : Int) < 1 := by omega
          generalize (x.length : Int) = len at *
          simp -implicitDefEqProofs [e1, e2', e3, hxn, f, g0, g1, g2, g3, h3', h4, fin_pure]
      · simp only at hK g8 g9
        subst hK
        simp -implicitDefEqProofs [e1, e2', hxn, f, g8, g9, fin_pure]
    · cases h51
end

/-- One's own list, cut ahead of a place. -/
theorem own_takev {H : AHeap} {v : AV} {rows : List (List AV)} {sz i : Nat} (h : Own H sz v rows) (hi : i < rows.length) :
    ∃ u, sliceA (.slice sz) v 0 (some i) none = some u ∧ View H sz u (rows.take i) := by
  obtain ⟨he, ⟨_, rfl⟩ | ⟨id, kc, rest, rfl, hk, hkr, hg⟩⟩ := h
  · simp at hi
  have hin : inB rows.length kc 0 (some i) none = true := by simp [inB]; omega
  have hfl : rows.flatten.length = rows.length * sz := flatten_len he
  have hsp : (rows.take i).flatten.length = i * sz := by
    rw [flatten_len (sz := sz) (fun r hr => he r (List.mem_of_mem_take hr)), List.length_take, Nat.min_eq_left (by omega)]
  have hcut : rows.flatten = (rows.take i).flatten ++ (rows.drop i).flatten := by rw [← List.flatten_append, List.take_append_drop]
  have hle : i * sz ≤ rows.length * sz := Nat.mul_le_mul_right _ (by omega)
  refine ⟨.oslice id 0 i kc sz, by simp [sliceA, hin]; omega, ?_, by simp; omega, fun r hr => he r (List.mem_of_mem_take hr), fun _ => ⟨false, sz, _, hg, ?_, ?_⟩⟩
  · simp [AV.sl]; omega
  · rw [soff_oslice, List.length_take, Nat.min_eq_left (by omega), List.length_append, hfl]; omega
  · rw [soff_oslice, List.drop_zero, List.length_take, Nat.min_eq_left (by omega), hcut, List.append_assoc, ← hsp, List.take_left]

theorem own_okB {K : AHeap} {sz : Nat} {v : AV} {rows : List (List AV)} (h : Own K sz v rows) (hw : K.wf) (hl : ∀ id, v = .slice id 0 0 0 → id < K.n) : v.okB K.n = true := by
  have hlt := h.lt hw
  obtain ⟨_, ⟨rfl | ⟨id, rfl⟩, _⟩ | ⟨id, kc, rest, rfl, _⟩⟩ := h
  · simp
  · rw [AV.okB]; exact decide_eq_true (hl id rfl)
  · rw [AV.okB]; exact decide_eq_true (hlt id (by simp))
theorem own_sid {K : AHeap} {sz : Nat} {v : AV} {rows : List (List AV)} (h : Own K sz v rows) (hr : 0 < rows.length) : sown v = [sid v] := by
  obtain ⟨_, ⟨_, rfl⟩ | ⟨id, kc, rest, rfl, _⟩⟩ := h
  · simp at hr
  · rfl

structure RefY (H : AHeap) (m : Nat) (ps : List ClIn) (F : List Nat) (v : AV) : Prop where
  x : RefX H m ps F v
  own : Own H 3 v (ps.map rowRef)
  sub : ∀ i ∈ sown v, i ∈ F ∧ i ≠ m
theorem RefY.chg {H K : AHeap} {m : Nat} {ps : List ClIn} {F G : List Nat} {v : AV} (hw : H.wf) (h : RefY H m ps F v) (c : Chg G H K) (hf : ∀ i ∈ F, i ∉ G) : RefY K m ps F v :=
  ⟨h.x.chg hw c hf, h.own.chg hw c (fun i hi => hf _ (h.sub i hi).1), h.sub⟩
theorem RefY.top {H : AHeap} {m : Nat} {ps : List ClIn} {F : List Nat} {v : AV} (h : RefY H m ps F v) : RefY H.top m ps F v := ⟨h.x.top, h.own.frame fun _ _ => rfl, h.sub⟩
/-- The document's latches: what they have, where. -/
def RefRep2 (H : AHeap) (m : Nat) (L : List Cl) (F : List Nat) : Prop := ∃ ps v, L = ps.map (·.c) ∧ RefY H m ps F v
theorem RefRep2.chg {H K : AHeap} {m : Nat} {L : List Cl} {F G : List Nat} (hw : H.wf) (h : RefRep2 H m L F) (c : Chg G H K) (hf : ∀ i ∈ F, i ∉ G) : RefRep2 K m L F := by
  obtain ⟨ps, v, h1, h2⟩ := h; exact ⟨ps, v, h1, h2.chg hw c hf⟩
theorem RefRep2.empty {H : AHeap} (hok : H.ok) : RefRep2 (H.alloc (.row false 1 [.nils])) H.n [] [H.n] :=
  ⟨[], .nils, rfl, ⟨get_alloc_same _ _, ⟨rfl, rfl, fun r hr => (by cases hr), fun h => (by simp at h)⟩, by simp, fun p hp => (by cases hp), fun h => (by simp at h), by simp, by simp, by simp⟩, .nil _ _, by simp⟩

section
variable {H K : AHeap} {m : Nat} {ps : List ClIn} {F G : List Nat} {v : AV}
/-- A new list stands in the place of the old one. -/
theorem RefY.put {K1 : AHeap} {w : AV} {qs : List ClIn} (hok : H.ok) (h : RefY H m ps F v) (c1 : Chg [] H K1) (ok1 : K1.ok) (hO : Own K1 3 w (qs.map rowRef)) (hwo : w.okB K1.n = true)
    (hn : ∀ i ∈ sown w, H.n ≤ i) (hq : ∀ p ∈ qs, Sps K1 p.xv p.c.x ∧ p.xv.okB K1.n = true ∧ (0 < p.c.x.length → sid p.xv ≠ m ∧ (sid p.xv ∈ F ∨ H.n ≤ sid p.xv))) (hlen : qs.length ≤ 1000000) :
    Chg [m] H (K1.set m (.row false 1 [w])) ∧ (K1.set m (.row false 1 [w])).low ≤ m ∧ ∃ F', RefY (K1.set m (.row false 1 [w])) m qs F' w ∧ (∀ i ∈ F', i ∈ F ∨ H.n ≤ i) := by
  have hm := h.x.lt m h.x.mF
  have hg : K1.get m = some (.row false 1 [v]) := by rw [c1.get m hm (by simp)]; exact h.x.obj
  have c2 := Chg.set K1 m (.row false 1 [w])
  have hne : ∀ i ∈ sown w, i ≠ m := fun i hi => by have := hn i hi; omega
  refine ⟨(c1.mono (by simp)).trans hok c2 (by simp), by rw [AHeap.set_low]; split <;> omega, m :: (sown w ++ (qs.filter fun p => decide (0 < p.c.x.length)).map fun p => sid p.xv), ⟨⟨get_set_same _ _ (by rw [hg]; rfl), hO.view.frame (fun hr => get_set_ne _ _ ?_), hwo, fun p hp => ?_, fun hr => ?_, by simp, fun i hi => ?_, hlen⟩, hO.frame (fun i hi => get_set_ne _ _ (hne i hi)), fun i hi => ⟨by simp [hi], hne i hi⟩⟩, fun i hi => ?_⟩
  · have := own_sid hO hr
    exact hne _ (by rw [this]; simp)
  · obtain ⟨h1, h2, h3⟩ := hq p hp
    refine ⟨h1.chg ok1.1 c2 (fun hr => by simp; exact (h3 hr).1), h2, fun hr => ⟨?_, (h3 hr).1⟩⟩
    simp only [List.mem_cons, List.mem_append, List.mem_map, List.mem_filter, decide_eq_true_eq]
    exact .inr (.inr ⟨p, ⟨hp, hr⟩, rfl⟩)
  · have := own_sid hO (by simpa using hr)
    exact ⟨by rw [this]; simp, hne _ (by rw [this]; simp)⟩
  · simp only [List.mem_cons, List.mem_append, List.mem_map, List.mem_filter, decide_eq_true_eq] at hi
    simp only [AHeap.set_n]
    rcases hi with rfl | hi | ⟨p, ⟨hp, hr⟩, rfl⟩
    · have := c1.le; omega
    · exact hO.lt ok1.1 i hi
    · exact (hq p hp).1.view.lt ok1.1 (by simpa using hr)
  · simp only [List.mem_cons, List.mem_append, List.mem_map, List.mem_filter, decide_eq_true_eq] at hi
    rcases hi with rfl | hi | ⟨p, ⟨hp, hr⟩, rfl⟩
    · exact .inl h.x.mF
    · exact .inr (hn i hi)
    · exact ((hq p hp).2.2 hr).2

theorem RefY.old (hok : H.ok) (h : RefY H m ps F v) {K1 : AHeap} (c1 : Chg [] H K1) : ∀ p ∈ ps, Sps K1 p.xv p.c.x ∧ p.xv.okB K1.n = true ∧ (0 < p.c.x.length → sid p.xv ≠ m ∧ (sid p.xv ∈ F ∨ H.n ≤ sid p.xv)) := fun p hp => by
  obtain ⟨h1, h2, h3⟩ := h.x.each p hp
  exact ⟨h1.chg hok.1 c1 (by simp), okB_sl h1.view.sl h2 c1.le, fun hr => ⟨(h3 hr).2, .inl (h3 hr).1⟩⟩

theorem RefY.lowered (h : RefY H m ps F v) (l : Nat) : RefY (H.lowered l) m ps F v :=
  ⟨⟨h.x.obj, h.x.view.frame fun _ => rfl, h.x.vok, fun p hp => ⟨⟨(h.x.each p hp).1.view.frame fun _ => rfl, (h.x.each p hp).1.small, (h.x.each p hp).1.len⟩, (h.x.each p hp).2⟩, h.x.vF, h.x.mF, h.x.lt, h.x.many⟩, h.own.frame fun _ _ => rfl, h.sub⟩

theorem RefY.claim {x : List Sp} {xv : AV} {n : Int} {w : Bool} (hok : H.ok) (h : RefY H m ps F v) (hx : Sps H xv x) (he : claimE (ps.map (·.c)) n x = 0) (hlen : ps.length < 1000) :
    ∃ K F', call T 38 [.ptr m 0, .int .i64 n, xv, .bool w] H = some (.tuple [.bool (decide ((ps.map (·.c)).countP (collC ⟨n, x, w⟩) = 0)), .int .i64 0], K) ∧ RefRep2 K m (ps.map (·.c) ++ [⟨n, x, w⟩]) F' ∧ Chg [m] H K ∧ (∀ i ∈ F', i ∈ F ∨ H.n ≤ i) := by
  obtain ⟨q1, q2, q3, q4⟩ := claimE_ok he
  have hokT := AHeap.ok.top hok.1
  have hT := h.top
  have e1 := hT.x.find n
  have e2 := findI_any (ps.map (·.c)) n
  rw [q1, eq_iff_iff] at e2
  have e2' : ¬ 0 ≤ findI (ps.map (·.c)) n := fun h => by have := e2.1 h; simp at this
  have e3 := hx.view.lenS
  rw [List.length_map] at e3
  have hxn := hx.view.noL
  have hvn := h.x.view.noL
  obtain ⟨z, ⟨e, lo, K⟩, f, hK, ⟨hb, rfl, g0, g1, g2, g3, gl⟩ | ⟨hb, rfl, g8, g9⟩⟩ := rclaim_loop (m := m) hx.top (.int .i64 n) (.bool w) (by omega)
  case inr => rw [hb] at q4; cases q4
  simp only at hK g0 g1 g2 g3 gl
  subst hK gl
  have l1 : ¬ (x.length : Int) < 1 := by omega
  have l2 : ¬ (20 : Int) < x.length := by omega
  -- the old claims, copied
  have cA := Chg.alloc H.top (.row false 3 [])
  have okA := cA.ok hokT
  have hA := hT.chg hokT.1 cA (fun _ _ => by simp)
  obtain ⟨w1, K1, a1, O1, c1, n1, _, w1n⟩ := (Own.lit (H.top.alloc (.row false 3 [])) 3 H.n).append' (bytes := 40) okA hA.x.view (by omega) (by rw [List.length_map]; simp; omega)
  have ok1 := c1.ok okA
  rw [sown_slice] at c1 n1
  have c01 : Chg [] H.top K1 := cA.trans hokT c1 (by simp)
  have n1' : ∀ i ∈ sown w1, H.n ≤ i := fun i hi => by rcases n1 i hi with h | h; cases h; simp only [AHeap.alloc_n, top_n] at h; omega
  -- the spans, copied
  have cB := Chg.alloc K1 (.row false 2 [])
  have okB := cB.ok ok1
  have hxB := ((hx.top.chg (show H.top.wf from hok.1) c01 (by simp)).chg ok1.1 cB (by simp))
  obtain ⟨xv', K2, a2, O2, c2, n2, _, xv'n⟩ := (Own.lit (K1.alloc (.row false 2 [])) 2 K1.n).append' (bytes := 32) okB hxB.view (by omega) (by rw [List.length_map]; simp; omega)
  have ok2 := c2.ok okB
  rw [sown_slice] at c2 n2
  simp only [List.nil_append] at O1 O2
  have c12 : Chg [] K1 K2 := cB.trans ok1 c2 (by simp)
  have c02 : Chg [] H.top K2 := c01.trans hokT c12 (by simp)
  have O1' := O1.new ok1.1 c12
  -- the new claim
  have cC := Chg.alloc K2 (.row false 3 (rowCl ⟨n, x, w⟩ xv'))
  have okC := cC.ok ok2
  have htmp : View (K2.alloc (.row false 3 (rowCl ⟨n, x, w⟩ xv'))) 3 (.slice K2.n 0 1 1) [rowCl ⟨n, x, w⟩ xv'] :=
    ⟨by simp [AV.sl], rfl, by simp [rowCl], fun _ => ⟨false, 3, _, get_alloc_same _ _, by simp [rowCl], by simp [rowCl]⟩⟩
  obtain ⟨w3, K3, a3, O3, c3, n3, _⟩ := (O1'.new ok2.1 cC).append (bytes := 40) okC htmp (by simp) (by omega) (by rw [List.length_map]; simp; omega)
  have ok3 := c3.ok okC
  have c03 : Chg [] H.top K3 := (c02.trans hokT cC (by simp)).trans hokT c3 (fun i hi => .inr (n1' i hi))
  have O3' : Own K3 3 w3 ((ps ++ [(⟨⟨n, x, w⟩, xv'⟩ : ClIn)]).map rowRef) := by rw [List.map_append]; exact O3
  have n3' : ∀ i ∈ sown w3, H.top.n ≤ i := fun i hi => by
    rcases n3 i hi with h | h
    · exact n1' i h
    · have := c02.le; simp only [AHeap.alloc_n, top_n] at *; omega
  have hxr : 0 < (x.map rowSp).length := by rw [List.length_map]; omega
  have sx := own_sid O2 hxr
  have sxn : K1.n ≤ sid xv' := by
    rcases n2 (sid xv') (by rw [sx]; simp) with h | h
    · cases h
    · simp only [AHeap.alloc_n] at h; omega
  have cK23 : Chg (sown w1) K2 K3 := (cC.mono (by simp)).trans ok2 c3 (fun i hi => .inl hi)
  have sxw : sid xv' ∉ sown w1 := fun hi => by have := O1.lt ok1.1 _ hi; omega
  have sxlt : sid xv' < K2.n := O2.lt ok2.1 _ (by rw [sx]; simp)
  have hSx : Sps K3 xv' x := ⟨(O2.view.chg ok2.1 cK23 fun _ => sxw), hx.small, hx.len⟩
  have hxo : xv'.okB K3.n = true := okB_sl O2.view.sl (own_okB O2 ok2.1 (fun id hid => by rw [hid] at sx; cases sx)) cK23.le
  have hwo : w3.okB K3.n = true := own_okB O3 ok3.1 (fun id hid => by have := own_sid O3 (by simp); rw [hid] at this; cases this)
  have hmlt := h.x.lt m h.x.mF
  obtain ⟨cP, lowP, F', hY, hF'⟩ := hT.put hokT c03 ok3 O3' hwo n3' (fun p hp => by
    rcases List.mem_append.1 hp with hp | hp
    · exact hT.old hokT c03 p hp
    · simp at hp
      subst hp
      have := c01.le
      simp only [top_n] at *
      exact ⟨hSx, hxo, fun _ => ⟨by omega, .inr (by omega)⟩⟩) (by simp; omega)
  have hg3 : K3.get m = some (.row false 1 [v]) := by rw [c03.get m hmlt (by simp)]; exact h.x.obj
  have hat := hY.x.at (i := ps.length) (by simp)
  have hlast := aheadC_last (ps.map (·.c)) ⟨n, x, w⟩
  rw [List.length_map] at hlast
  rw [show (ps ++ [(⟨⟨n, x, w⟩, xv'⟩ : ClIn)]).map (·.c) = ps.map (·.c) ++ [⟨n, x, w⟩] by simp, hlast] at hat
  generalize (ps.map (·.c)).countP (collC ⟨n, x, w⟩) = cnt at *
  have hfin := fin_keep (H := H) (K := K3.set m (.row false 1 [w3])) (v := .tuple [.bool (decide (cnt = 0)), .int .i64 0]) (.inl (by omega))
  refine ⟨(K3.set m (.row false 1 [w3])).lowered H.low, F', ?_, ⟨_, w3, by simp, hY.lowered _⟩, cP.lowered hok, hF'⟩
  have hl3 := hY.x.view.lenS
  rw [List.length_map] at hl3
  have hcx := O2.view.cells
  have hcw := O3.view.cells
  have hw3n := O3.view.noL
  have hx'n := O2.view.noL
  have r1 := rdAt_row hA.x.obj
  have hA2 : (K3.set m (.row false 1 [w3])).get m = some (.row false 1 [w3]) := get_set_same _ _ (by rw [hg3]; rfl)
  have r2 := rdAt_row hA2
  have hw5 := wrap_id (n := (ps.length : Int)) (by omega) (by omega)
  have hl4 : (((ps ++ [(⟨⟨n, x, w⟩, xv'⟩ : ClIn)]).length : Nat) : Int) = (ps.length : Int) + 1 := by simp
  rw [hl4] at hl3
  simp only [rowCl] at a3
  rw [call_at (show T 38 = some (.ir ⟨_, _, _, _, _⟩) from T38)]
  generalize (x.length : Int) = xlen at *
  simp -implicitDefEqProofs [e1, e2', e3, hxn, f, g0, g1, g2, g3, l1, l2, r1, hvn, a1, w1n, a2, hx'n, hcx, a3, hw3n, hcw, hg3, r2, hl3, hw5, hat, hfin]
end
end Go.Proofs.Ytglfchdpcididaa
