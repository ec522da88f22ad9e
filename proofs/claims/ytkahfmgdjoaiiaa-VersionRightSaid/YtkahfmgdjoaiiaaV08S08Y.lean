/- An act; VersionStays. No condition. -/
import Derived.Test.YtkahfmgdjoaiiaaV08S08W
set_option linter.unusedVariables false
set_option linter.unusedSimpArgs false
namespace Go.Proofs.Ytkahfmgdjoaiiaa
open Go.Wam

attribute [local simp] seqK_normal seqK_exit seqK_ret blockK_normal blockK_exit blockK_ret condO_bool evK_skip evK_exit evK_ret evK_keep evK_cond evK_block evK_seq_seq evK_seq_cond evK_seq_block evK_seq_loop evK_seq_skip evK_seq_keep evK_seq_exit evK_seq_ret prK_eq toSt_eq av_l av_v valS_v valT_v valS_u av_u valO_tmp
  nl_eq nl_none nl_if nlR_eq boxC_eq stL_eq storeP_ptr loadP_ptr fldP_ptr idxP_ptr inN_int callN_func strV_str fillC_nil fillC_cons pickV_bool guardK_bool kB_eq chk_some ifaceV_eq funcV_eq natV_int notL_noL leaveK_ret leaveK_normal rvsK_nil rvsK_cons rvK_tmp rvC_l rvC_v rvK_cell enterK_eq ok_l ok_v ok_u norm_eq norm_l norm_v norm_u
  Go.Wam.look zipI prune packA rd undefA allNoL convI convS lenStr lenMap extA fldV idxStr idxAgg idxS_slice idxS_oslice unA beq_same beqL_same AV.beq AV.beqL sliceV nilC clearW
  strOp aeqF_nil aeqF_cons andA_some i_add i_sub i_mul i_lss i_leq i_gtr i_geq i_quo i_rem i_eql i_neq s_eql s_neq s_lss
  s_leq s_gtr s_geq s_add e_bool n_bool e_nilp n_nilp e_ptr n_ptr e_lptr n_lptr e_agg n_agg
  e_nils n_nils e_slice n_slice e_oslice n_oslice e_eslice n_eslice e_xslice n_xslice e_nilm n_nilm e_map n_map
  e_nilFunc n_nilFunc e_func n_func q_int q_bool q_str q_struct q_ptr0 q_ptrL0 q_ptrR0 q_ptrL1 q_ptrR1 q_slice0
  q_sliceL0 q_sliceR0 q_sliceL1 q_sliceR1 q_sliceL2 q_sliceR2 q_sliceL3 q_sliceR3 q_map0 q_mapL0 q_mapR0 q_func0 q_funcL0 q_funcR0
  okR_some get_alloc_eq rdAt_alloc_eq set_alloc_eq set_alloc_ne get_alloc_ne rdAt_alloc_ne
attribute [local congr] bind_cg guardK_cg kB_cg condO_cg evK_cg
theorem right_plus {L : List Ve} {x : Ve} (h : rightA (L.map Ve.at_) = true) (h1 : rightT x.at_ = true) (h2 : L = [] ∨ ltS (lastS L) x.at_ = true) : rightA ((L ++ [x]).map Ve.at_) = true := by
  rw [map_append_at]; exact right_more h h1 h2
structure Ac where
  k : Int
  id : Int
  ep : Int
  i : It
  com : Bool
  s : Stp
def rowAc (a : Ac) : List AV := .int .i64 a.k :: .int .i64 a.id :: .int .i64 a.ep :: (celIt a.i ++ [.bool a.com, .int .i64 a.s.1, .int .i64 a.s.2])
def doesC (c : Ch) (a : Ac) : Ch :=
  if a.k = 1 then (if (writeC c a.i).2.2.2 = 0 then (writeC c a.i).1 else c)
  else if a.k = 2 then (if (resolveC c a.id a.ep a.com a.s).2 = 0 then (resolveC c a.id a.ep a.com a.s).1 else c) else c
def atA (A : List Ac) (k : Nat) : Ac := (A[k]?).getD ⟨0, 0, 0, zIt, false, (0, 0)⟩
theorem atA_get {A : List Ac} {k : Nat} (h : k < A.length) : A[k]? = some (atA A k) := by unfold atA; rw [List.getElem?_eq_getElem h]; rfl
theorem ac_cells {H : AHeap} {l : List AV} (h : IsC H acSh l) : ∃ a : Ac, l = rowAc a := by
  obtain ⟨a, b, rfl, ⟨n1, rfl, _⟩, e, f, rfl, ⟨n2, rfl, _⟩, g, h, rfl, ⟨n3, rfl, _⟩, p, q, rfl, hi, p', q', rfl, ⟨b1, rfl⟩, p'', q'', rfl, h2, rfl⟩ := h
  obtain ⟨i, rfl⟩ := it_cells hi
  obtain ⟨s, rfl⟩ := st_cells h2
  exact ⟨⟨n1, n2, n3, i, b1, s⟩, by simp [rowAc, celIt]⟩
theorem as_cells {H : AHeap} {l : List AV} (hw : H.wf) (h : IsC H (.slice 16 144 acSh) l) : ∃ (v : AV) (A : List Ac), l = [v] ∧ SV H 16 v (A.map rowAc) := by
  obtain ⟨v, rows, rfl, hs, hb, _, hr⟩ := h
  obtain ⟨A, rfl⟩ := rows_of (fun l h => ac_cells h) hr
  exact ⟨v, A, rfl, hs.sv hw⟩
theorem okB_agg {n : Nat} {v : AV} {c : Ch} (h : (AV.agg (celCh v c)).okB n = true) : v.okB n = true := okB_head h
section
variable {H : AHeap} {v w u : AV} {a b c : Ch} {A : List Ac}
theorem eAc (a : Ac) : rd true 16 0 (rowAc a) = some (.agg (rowAc a)) := rfl
theorem rdA (hV : View H 16 u (A.map rowAc)) {i : Nat} (h : i < A.length) : H.rdAt (sid u) true 16 (soff u + i * 16) = some (.agg (rowAc (atA A i))) := by
  have := hV.rd (i := i) (r := rowAc (atA A i)) (by rw [List.getElem?_map, atA_get h]; rfl) true (k := 16) (f := 0) (by omega) (by omega) (by simp)
  rw [Nat.add_zero, eAc] at this; exact this
theorem ixA (hV : View H 16 u (A.map rowAc)) {i : Nat} (h : i < A.length) : idxS 16 u (.int .i64 i) = some (.ptr (sid u) (soff u + i * 16)) := by
  have := hV.idx .i64 (n := i) (by omega) (by rw [List.length_map]; omega)
  simpa using this
theorem lnA (hV : View H 16 u (A.map rowAc)) : lenS u = some (.int .i64 A.length) := by have := hV.lenS; rw [List.length_map] at this; exact this
theorem okAc (n : Nat) (a : Ac) : (AV.agg (rowAc a)).okB n = true := by simp [rowAc, celIt]
set_option maxHeartbeats 4000000 in
theorem vDoes (hok : H.ok) (hS : SV H 5 v (c.L.map rowVe)) (hl : c.L.length < 1000000000000) (a : Ac) :
    ∃ v' K, call T 21 [.agg (rowAc a), .agg (celCh v c)] H = some (.agg (celCh v' (doesC c a)), K) ∧ SV K 5 v' ((doesC c a).L.map rowVe) ∧ Chg [] H K ∧ ((v' = v ∧ doesC c a = c) ∨ (0 < (doesC c a).L.length → H.n ≤ sid v')) := by
  have hokT := AHeap.ok.top hok.1
  have hvn := hS.view.noL
  have hvc := hS.view.cells
  have hv1 := hS.view.one
  have hvo := hS.ok
  have call_w : ∀ {P : AV × AHeap → Prop}, _ → OkR (call T 21 [.agg (rowAc a), .agg (celCh v c)] H) P := fun {P} h => call_evK (show T 21 = some (.ir ⟨_, _, _, _, _⟩) from T21) rfl (by simp [celCh, rowAc, celIt, hvn]) h
  have okc : (AV.agg (celCh v c)).okB H.n = true := by simp [celCh, celIt, hvo, hv1]
  obtain ⟨k, id, ep, i, com, s⟩ := a
  unfold doesC
  simp only
  by_cases h1 : k = 1
  · rw [if_pos h1]
    obtain ⟨v1, K1, e1, m1⟩ := vWrite hokT hS.top (by omega) i
    have n1 := m1.sv.view.noL
    have c1 := m1.sv.view.cells
    have o1 := m1.sv.view.one
    by_cases h0 : (writeC c i).2.2.2 = 0
    · rw [if_pos h0]
      have mm := NewL.fin (w := .agg (celCh v1 (writeC c i).1)) hok m1 okB_agg
      refine ⟨v1, Go.Wam.fin H (.agg (celCh v1 (writeC c i).1)) K1, okR_eq (call_w ?_), mm.sv, mm.chg, .inr fun h => mm.new (by rw [List.length_map]; exact h)⟩
      generalize writeC c i = q at *
      obtain ⟨y1, y2, y3, y4⟩ := q
      simp only at h0
      subst h0
      simp only [outW, celCh, celIt, celMt, rowAc] at *
      simp -implicitDefEqProofs [e1, n1, c1, o1, hvn, hvc, hv1, eq_true h1]
    · rw [if_neg h0]
      have hfin : Go.Wam.fin H (.agg (celCh v c)) K1 = H := fin_drop' (by rw [m1.chg.low_eq]; simp) okc
      refine ⟨v, H, okR_eq (call_w ?_), hS, .refl _ _, .inl ⟨rfl, rfl⟩⟩
      generalize writeC c i = q at *
      simp only [outW, celCh, celIt, celMt, rowAc] at *
      simp -implicitDefEqProofs [e1, n1, c1, o1, hvn, hvc, hv1, eq_true h1, h0, hfin]
  rw [if_neg h1]
  by_cases h2 : k = 2
  · rw [if_pos h2]
    obtain ⟨v1, K1, e1, m1⟩ := vResolve hokT hS.top (by omega) id ep com s
    have n1 := m1.sv.view.noL
    have c1 := m1.sv.view.cells
    have o1 := m1.sv.view.one
    by_cases h0 : (resolveC c id ep com s).2 = 0
    · rw [if_pos h0]
      have mm := NewL.fin (w := .agg (celCh v1 (resolveC c id ep com s).1)) hok m1 okB_agg
      refine ⟨v1, Go.Wam.fin H (.agg (celCh v1 (resolveC c id ep com s).1)) K1, okR_eq (call_w ?_), mm.sv, mm.chg, .inr fun h => mm.new (by rw [List.length_map]; exact h)⟩
      generalize resolveC c id ep com s = q at *
      obtain ⟨y1, y2⟩ := q
      simp only at h0
      subst h0
      simp only [outV, celCh, celIt, celMt, rowAc] at *
      simp -implicitDefEqProofs [e1, n1, c1, o1, hvn, hvc, hv1, eq_true h2, eq_false h1]
    · rw [if_neg h0]
      have hfin : Go.Wam.fin H (.agg (celCh v c)) K1 = H := fin_drop' (by rw [m1.chg.low_eq]; simp) okc
      refine ⟨v, H, okR_eq (call_w ?_), hS, .refl _ _, .inl ⟨rfl, rfl⟩⟩
      generalize resolveC c id ep com s = q at *
      simp only [outV, celCh, celIt, celMt, rowAc] at *
      simp -implicitDefEqProofs [e1, n1, c1, o1, hvn, hvc, hv1, eq_true h2, eq_false h1, h0, hfin]
  rw [if_neg h2]
  have hfin : Go.Wam.fin H (.agg (celCh v c)) H.top = H := fin_drop' (by simp) okc
  refine ⟨v, H, okR_eq (call_w ?_), hS, .refl _ _, .inl ⟨rfl, rfl⟩⟩
  simp only [outV, celCh, celIt, celMt, rowAc] at *
  simp -implicitDefEqProofs [hvn, hvc, hv1, h1, h2, hfin]
end
end Go.Proofs.Ytkahfmgdjoaiiaa
