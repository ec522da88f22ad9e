/- VersionTells, VersionReads, VersionWrites. No condition. -/
import Derived.Test.YtkahfmgdjoaiiaaV08S08S
set_option linter.unusedVariables false
set_option linter.unusedSimpArgs false
namespace Go.Proofs.Ytkahfmgdjoaiiaa
open Go.Wam

attribute [local simp] seqK_normal seqK_exit seqK_ret blockK_normal blockK_exit blockK_ret condO_bool evK_skip evK_exit evK_ret evK_keep evK_cond evK_block evK_seq_seq evK_seq_cond evK_seq_block evK_seq_loop evK_seq_skip evK_seq_keep evK_seq_exit evK_seq_ret prK_eq toSt_eq av_l av_v valS_v valT_v valS_u av_u valO_tmp
  nl_eq nl_none nl_if nlR_eq boxC_eq stL_eq storeP_ptr loadP_ptr fldP_ptr idxP_ptr inN_int callN_func strV_str fillC_nil fillC_cons pickV_bool guardK_bool kB_eq chk_some ifaceV_eq funcV_eq natV_int notL_noL leaveK_ret leaveK_normal rvsK_nil rvsK_cons rvK_tmp rvC_l rvC_v rvK_cell enterK_eq ok_l ok_v ok_u norm_eq norm_l norm_v norm_u
  Go.Wam.look zipI prune packA rd undefA allNoL convI convS lenStr lenMap extA fldV idxStr idxAgg idxS_slice idxS_oslice unA beq_same beqL_same AV.beq AV.beqL sliceV nilC clearW
  strOp aeqF_nil aeqF_cons andA_some i_add i_sub i_mul i_lss i_leq i_gtr i_geq i_quo i_rem i_eql i_neq s_eql s_neq s_lss
  s_leq s_gtr s_geq s_add e_bool n_bool e_nilp n_nilp e_ptr n_ptr e_lptr n_lptr e_agg n_agg
  e_nils n_nils e_slice n_slice e_oslice n_oslice e_eslice n_eslice e_xslice n_xslice e_nilm n_nilm e_map n_map
  e_nilFunc n_nilFunc e_func n_func q_int q_bool q_str q_struct q_ptr0 q_ptrL0 q_ptrR0 q_ptrL1 q_ptrR1 q_slice0
  q_sliceL0 q_sliceR0 q_sliceL1 q_sliceR1 q_sliceL2 q_sliceR2 q_sliceL3 q_sliceR3 q_map0 q_mapL0 q_mapR0 q_func0 q_funcL0 q_funcR0
  okR_some get_alloc_eq rdAt_alloc_eq set_alloc_eq set_alloc_ne get_alloc_ne rdAt_alloc_ne
attribute [local congr] bind_cg guardK_cg kB_cg condO_cg evK_cg
section
variable {H : AHeap} {v w : AV} {a b c : Ch}
theorem sameC_self (a : Ch) : sameC a a = true := (sameC_iff a a).2 rfl
theorem nTells (hok : H.ok) (hS : SV H 5 v (a.L.map rowVe)) (hT : SV H 5 w (b.L.map rowVe)) :
    call T 10 [.agg (celCh v a), .agg (celCh w b)] H = some (.bool true, H) := by
  have hokT := AHeap.ok.top hok.1
  have hvn := hS.view.noL
  have hvc := hS.view.cells
  have hwn := hT.view.noL
  have hwc := hT.view.cells
  have hv1 := hS.view.one
  have hw1 := hT.view.one
  have e0 := vAlive hokT
  have l1 := lenV hS.view
  have l2 := lenV hT.view
  refine okR_eq (call_evK (show T 10 = some (.ir ⟨_, _, _, _, _⟩) from T10) rfl rfl ?_)
  by_cases h1 : (a.L.length : Int) > 60
  · unfold celCh celIt at *
    simp -implicitDefEqProofs [e0, l1, l2, hvn, hvc, hwn, hwc, h1, fin_pure]
  by_cases h2 : (b.L.length : Int) > 60
  · unfold celCh celIt at *
    simp -implicitDefEqProofs [e0, l1, l2, hvn, hvc, hwn, hwc, h1, h2, fin_pure]
  have e1 := vRight hokT hS.top (by omega)
  have e2 := rRight hS.top (by omega)
  have e3 := vSame hS.top hT.top (by omega) (by omega)
  have e4 := rSame hS.top hT.top (by omega) (by omega)
  have e5 := vSame hS.top hS.top (a := a) (b := a) (by omega) (by omega)
  rw [sameC_self] at e5
  have o1 := hS.ok
  have o2 := hT.ok
  generalize sameC a b = g1 at *
  generalize rightC a = g2 at *
  unfold celCh celIt at *
  simp -implicitDefEqProofs [e0, e1, e2, e3, e4, e5, l1, l2, hvn, hvc, hwn, hwc, h1, h2, fin_pure, o1, o2, hv1, hw1]
theorem fitC_iff (c : Ch) : fitC c = true ↔ c.L.length ≤ 60 ∧ rightC c = true := by simp [fitC]
theorem nReads (hok : H.ok) (hS : SV H 5 v (c.L.map rowVe)) (p q : Stp) (id ep seq : Int) :
    call T 6 [.agg (celCh v c), .agg [.int .i64 p.1, .int .i64 p.2, .int .i64 q.1, .int .i64 q.2], .agg [.int .i64 id, .int .i64 ep, .int .i64 seq]] H = some (.bool true, H) := by
  have hokT := AHeap.ok.top hok.1
  have hvn := hS.view.noL
  have hvc := hS.view.cells
  have hv1 := hS.view.one
  have hvo := hS.ok
  have e0 := vAlive hokT
  have e9 := vFits hS.top
  refine okR_eq (call_evK (show T 6 = some (.ir ⟨_, _, _, _, _⟩) from T6) rfl rfl ?_)
  cases hf : fitC c with
  | false =>
    rw [hf] at e9
    unfold celCh celIt at *
    simp -implicitDefEqProofs [e0, e9, hvn, hvc, hv1, fin_pure]
  | true =>
    rw [hf] at e9
    rw [fitC_iff] at hf
    have hr := rightC_L hf.2
    obtain ⟨L, op, ⟨⟨mid, mep, manc, mw, mg⟩, sq, iat, ival, igone⟩⟩ := c
    simp only at *
    have e1 := vRead hS.top (by omega) op mid mep manc mw mg sq iat ival igone p q id ep
    have e2 := rRead hS.top (by omega) hr op mid mep manc mw mg sq iat ival igone p q id ep
    have e3 := vRefresh (c := ⟨L, op, ⟨⟨mid, mep, manc, mw, mg⟩, sq, iat, ival, igone⟩⟩) hS.top (by simp only; omega) id p q
    have e4 := rRefresh (c := ⟨L, op, ⟨⟨mid, mep, manc, mw, mg⟩, sq, iat, ival, igone⟩⟩) hS.top (by simp only; omega) hr id p q
    have e5 := vQuery (c := ⟨L, op, ⟨⟨mid, mep, manc, mw, mg⟩, sq, iat, ival, igone⟩⟩) hS.top id ep seq p
    have e6 := rQuery (c := ⟨L, op, ⟨⟨mid, mep, manc, mw, mg⟩, sq, iat, ival, igone⟩⟩) hS.top id ep seq p
    generalize readC _ p q id ep = r1 at *
    generalize refreshC _ id p q = r2 at *
    generalize queryC _ id ep seq p = r3 at *
    simp only [outR, celCh, celIt, celMt, rowVe] at *
    simp -implicitDefEqProofs [e0, e1, e2, e3, e4, e5, e6, e9, hvn, hvc, hv1, hvo, fin_pure]
theorem writeC_len (c : Ch) (i : It) : (writeC c i).1.L.length ≤ c.L.length := by
  unfold writeC
  repeat (split; · simp [zCh])
  simp [zCh]
theorem resolveC_len (c : Ch) (id ep : Int) (commit : Bool) (s : Stp) : (resolveC c id ep commit s).1.L.length ≤ c.L.length + 1 := by
  unfold resolveC
  split
  · simp
  split
  · split <;> simp [zCh]
  · simp
theorem nWrites (hok : H.ok) (hS : SV H 5 v (c.L.map rowVe)) (k id ep : Int) (i : It) (commit : Bool) (s : Stp) :
    call T 3 [.agg (celCh v c), .agg (.int .i64 k :: .int .i64 id :: .int .i64 ep :: (celIt i ++ [.bool commit, .int .i64 s.1, .int .i64 s.2]))] H = some (.bool true, H) := by
  have hokT := AHeap.ok.top hok.1
  have hvn := hS.view.noL
  have hvc := hS.view.cells
  have hv1 := hS.view.one
  have e0 := vAlive hokT
  have e9 := vFits hS.top
  refine okR_eq (call_evK (show T 3 = some (.ir ⟨_, _, _, _, _⟩) from T3) rfl rfl ?_)
  cases hf : fitC c with
  | false =>
    rw [hf] at e9
    unfold celCh celIt at *
    simp -implicitDefEqProofs [e0, e9, hvn, hvc, hv1, fin_pure]
  | true =>
    rw [hf] at e9
    rw [fitC_iff] at hf
    obtain ⟨v1, K1, e1, m1⟩ := rCopy hokT hS.top (by omega) (.bool c.op :: celIt c.i) rfl
    have ok1 := m1.chg.ok hokT
    have s1 := hS.top.new hokT.1 m1.chg
    obtain ⟨v2, K2, e2, m2⟩ := vWrite ok1 s1 (by omega) i
    have ok2 := m2.chg.ok ok1
    have s2 := s1.new ok1.1 m2.chg
    obtain ⟨v3, K3, e3, m3⟩ := rWrite ok2 s2 (by omega) i
    have ok3 := m3.chg.ok ok2
    have s3 := s2.new ok2.1 m3.chg
    obtain ⟨v4, K4, e4, m4⟩ := vResolve ok3 s3 (by omega) id ep commit s
    have ok4 := m4.chg.ok ok3
    have s4 := s3.new ok3.1 m4.chg
    obtain ⟨v5, K5, e5, m5⟩ := rResolve ok4 s4 (by omega) id ep commit s
    have ok5 := m5.chg.ok ok4
    have s5 := s4.new ok4.1 m5.chg
    have a2 := (((m2.sv.new ok2.1 m3.chg).new ok3.1 m4.chg).new ok4.1 m5.chg)
    have a3 := ((m3.sv.new ok3.1 m4.chg).new ok4.1 m5.chg)
    have a4 := m4.sv.new ok4.1 m5.chg
    have a1 := ((((m1.sv.new ok1.1 m2.chg).new ok2.1 m3.chg).new ok3.1 m4.chg).new ok4.1 m5.chg)
    have w1 := writeC_len c i
    have w2 := resolveC_len c id ep commit s
    have e0 := vAlive ok5
    have f1 := rSame a2 a3 (by omega) (by omega)
    have f2 := rSame a4 m5.sv (by omega) (by omega)
    have f3 := rSame (a := c) (b := c) s5 a1 (by omega) (by omega)
    rw [sameC_self] at f1 f2 f3
    have n1 := m1.sv.view.noL
    have n2 := m2.sv.view.noL
    have n3 := m3.sv.view.noL
    have n4 := m4.sv.view.noL
    have n5 := m5.sv.view.noL
    have c1 := m1.sv.view.cells
    have c2 := m2.sv.view.cells
    have c3 := m3.sv.view.cells
    have c4 := m4.sv.view.cells
    have c5 := m5.sv.view.cells
    have hfin : Go.Wam.fin H (.bool true) K5 = H := fin_drop' (by rw [m5.chg.low_eq, m4.chg.low_eq, m3.chg.low_eq, m2.chg.low_eq, m1.chg.low_eq]; simp) (by simp)
    clear w1 w2 ok1 ok2 ok3 ok4 ok5
    generalize resolveC c id ep commit s = q1 at *
    generalize writeC c i = q2 at *
    simp only [outW, outV, celCh, celIt, celMt, rowVe] at *
    simp -implicitDefEqProofs [e0, e1, e2, e3, e4, e5, e9, f1, f2, f3, n1, n2, n3, n4, n5, c1, c2, c3, c4, c5, hvn, hvc, hv1, hfin]
end
theorem law_of {f : FuncId} {args : List AV} {H : AHeap} (h : call T f args H = some (.bool true, H)) : ∃ K, call T f args H = some (.bool true, K) := ⟨H, h⟩
theorem lawTells : Law T 10 [chSh, chSh] := by
  intro H ls hw hl ha
  obtain ⟨x, y, rfl, hx, hy⟩ := args2 ha
  obtain ⟨v, c, rfl, hv, _⟩ := ch_cells hw hx
  obtain ⟨w, d, rfl, hv', _⟩ := ch_cells hw hy
  exact law_of (nTells ⟨hw, by omega⟩ hv hv')
theorem lawReads : Law T 6 [chSh, .pair stSh (.pair stSh .unit), .pair (.int .i64) (.pair (.int .i64) (.pair (.int .i64) .unit))] := by
  intro H ls hw hl ha
  obtain ⟨x, y, z, rfl, hx, hy, hz⟩ := args3 ha
  obtain ⟨v, c, rfl, hv, _⟩ := ch_cells hw hx
  obtain ⟨a, b, rfl, h1, e, f, rfl, h2, rfl⟩ := hy
  obtain ⟨p, rfl⟩ := st_cells h1
  obtain ⟨q, rfl⟩ := st_cells h2
  obtain ⟨a, b, rfl, ⟨n1, rfl, _⟩, e, f, rfl, ⟨n2, rfl, _⟩, g, h, rfl, ⟨n3, rfl, _⟩, rfl⟩ := hz
  exact law_of (nReads ⟨hw, by omega⟩ hv p q n1 n2 n3)
theorem lawWrites : Law T 3 [chSh, acSh] := by
  intro H ls hw hl ha
  obtain ⟨x, y, rfl, hx, hy⟩ := args2 ha
  obtain ⟨v, c, rfl, hv, _⟩ := ch_cells hw hx
  obtain ⟨a, b, rfl, ⟨n1, rfl, _⟩, e, f, rfl, ⟨n2, rfl, _⟩, g, h, rfl, ⟨n3, rfl, _⟩, p, q, rfl, hi, p', q', rfl, ⟨b1, rfl⟩, p'', q'', rfl, h2, rfl⟩ := hy
  obtain ⟨i, rfl⟩ := it_cells hi
  obtain ⟨s, rfl⟩ := st_cells h2
  exact law_of (nWrites ⟨hw, by omega⟩ hv n1 n2 n3 i b1 s)
end Go.Proofs.Ytkahfmgdjoaiiaa
