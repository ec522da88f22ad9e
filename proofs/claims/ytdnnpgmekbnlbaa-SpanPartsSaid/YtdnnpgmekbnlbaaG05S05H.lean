/- SpanTells, SpanBoth, SpanParts, SpanMeets. No condition. -/
import Derived.Test.YtdnnpgmekbnlbaaG05S05G
import Derived.Test.YtdnnpgmekbnlbaaG05S05Q
set_option linter.unusedVariables false
set_option linter.unusedSimpArgs false
namespace Go.Proofs.Ytdnnpgmekbnlbaa
open Go.Wam

attribute [local simp] den_seq den_region den_regionD0 den_regionD1 den_condB condB_bool den_block den_keep den_ret den_skip den_exit sops_cons sops_nil sopsR_cons sopsR_nil goR_eq readOk trace_cons trace_nil Opd.ev evs Go.Wam.look St.put enterA zipI leaveR_ret leaveR_normal rvs RV.ev
  st_guard guardB_bool st_move st_pick pickB_bool st_allocL st_alloc st_boxL st_box st_build st_buildSlice st_load st_store st_nilCheck nilC st_bin st_un st_convI convI st_convS convS st_convB convB st_mkIface st_mkFunc st_mkMap st_mkSlice mkSl st_slice st_fieldAddr fldA st_field fldV st_idx idxS_slice idxS_oslice st_idxArr idxArr st_idxStr idxStr st_idxAgg idxAgg st_extract extA st_call callA_func st_len st_lenStr lenStr st_lenArr st_lenMap st_append st_clear clearV st_maxs st_mins
  load_ptr load_lptr storeA rd wr goOn_normal goOn_exit goOn_ret outBlock_normal outBlock_exit outBlock_ret prune freeL_nil freeL_cons frV_lptr frV_tuple frV_noL fillA allNoL packA unA checkAt ev_load wantedA beq_same beqL_same AV.beq AV.beqL drawCond freshD readsOk isRead undefA optInt optIntO
  strOp aeqF_nil aeqF_cons andA_some i_add i_sub i_mul i_lss i_leq i_gtr i_geq i_quo i_rem i_eql i_neq s_eql s_neq s_lss
  s_leq s_gtr s_geq s_add e_bool n_bool e_nilp n_nilp e_ptr n_ptr e_lptr n_lptr e_agg n_agg
  e_nils n_nils e_slice n_slice e_oslice n_oslice e_eslice n_eslice e_xslice n_xslice e_nilm n_nilm e_map n_map
  e_nilFunc n_nilFunc e_func n_func q_int q_bool q_str q_struct q_ptr0 q_ptrL0 q_ptrR0 q_ptrL1 q_ptrR1 q_slice0
  q_sliceL0 q_sliceR0 q_sliceL1 q_sliceR1 q_sliceL2 q_sliceR2 q_sliceL3 q_sliceR3 q_map0 q_mapL0 q_mapR0 q_func0 q_funcL0 q_funcR0
  okR_some guardB_tuple get_alloc_eq rdAt_alloc_eq set_alloc_eq set_alloc_ne get_alloc_ne rdAt_alloc_ne
theorem small_of {s : List UInt8} (h : Txt s) : Small s := by have := h.len; unfold Small; omega
theorem fit_txt {f t : List UInt8} (h : fitB f t = true) : Txt f ∧ Txt t := by
  unfold fitB at h
  simp only [Bool.and_eq_true, decide_eq_true_eq] at h
  exact ⟨⟨h.1⟩, ⟨h.2⟩⟩
section
variable {H : AHeap} {f t f' t' k a : List UInt8}
theorem nTells (hok : H.ok) : OkR (call T 7 [.agg [.str f, .str t], .agg [.str f', .str t'], .str k] H) fun r => r.1 = .bool true := by
  rw [call_at (show T 7 = some (.ir ⟨_, _, _, _, _⟩) from T7)]
  have hokT := AHeap.ok.top hok.1
  have e1 := sFits f t H.top
  have e2 := sFits f' t' H.top
  have ea := sAlive hokT
  by_cases h1 : fitB f t = true
  · by_cases h2 : fitB f' t' = true
    · by_cases h3 : k.length ≤ 200
      · obtain ⟨tf, tt⟩ := fit_txt h1
        obtain ⟨tf', tt'⟩ := fit_txt h2
        have tk : Txt k := ⟨h3⟩
        have sf := small_of tf
        have st := small_of tt
        have sf' := small_of tf'
        have st' := small_of tt'
        have sk := small_of tk
        have h4 : ¬ (200 : Int) < k.length := by omega
        have c1 := sClip sf st sf' st' H.top
        have c2 := rClip sf st sf' st' H.top
        have g1 := sKey sk H.top
        have g2 := rKey sk H.top
        have g3 := sRight sf st H.top
        have g4 := rRight sf st H.top
        have g5 := sHas sf st sk H.top
        have g6 := rHas sf st sk H.top
        have g7 := sMeet sf st sf' st' H.top
        have g8 := rMeet sf st sf' st' H.top
        generalize (clipB f t f' t').1.1 = u1 at *
        generalize (clipB f t f' t').1.2 = u2 at *
        generalize (clipB f t f' t').2 = u3 at *
        simp -implicitDefEqProofs [e1, e2, h1, h2, h4, ea, c1, c2, g1, g2, g3, g4, g5, g6, g7, g8]
      · have h4 : (200 : Int) < k.length := by omega
        simp -implicitDefEqProofs [e1, e2, h1, h2, h4, ea]
    · simp -implicitDefEqProofs [e1, e2, h1, h2, ea]
  · simp -implicitDefEqProofs [e1, e2, h1, ea]
set_option maxHeartbeats 2000000 in
theorem nBoth (hok : H.ok) : OkR (call T 9 [.agg [.str f, .str t], .agg [.str f', .str t'], .str k] H) fun r => r.1 = .bool true := by
  rw [call_at (show T 9 = some (.ir ⟨_, _, _, _, _⟩) from T9)]
  have hokT := AHeap.ok.top hok.1
  have e1 := sFits f t H.top
  have e2 := sFits f' t' H.top
  have ea := sAlive hokT
  by_cases h1 : fitB f t = true
  · by_cases h2 : fitB f' t' = true
    · by_cases h3 : k.length ≤ 200
      · obtain ⟨tf, tt⟩ := fit_txt h1
        obtain ⟨tf', tt'⟩ := fit_txt h2
        have tk : Txt k := ⟨h3⟩
        have sf := small_of tf
        have st := small_of tt
        have sf' := small_of tf'
        have st' := small_of tt'
        have sk := small_of tk
        have h4 : ¬ (200 : Int) < k.length := by omega
        have c1 := sClip sf st sf' st' H.top
        have c2 := sClip sf' st' sf st H.top
        rw [clip_comm tf' tt' tf tt] at c2
        have g1 := sKey sk H.top
        have g2 := sAll H.top
        have g3 := sHas (small_of txt_A) (small_of txt_Z) sk H.top
        rw [← all_key tk] at g3
        have g5 := sHas sf st sk H.top
        have g6 := sHas sf' st' sk H.top
        have g7 := sMeet sf st sf' st' H.top
        have g8 := sMeet sf' st' sf st H.top
        rw [← meet_comm tf tt tf' tt'] at g8
        have l1 := clip_has tf tt tf' tt' tk
        have l2 := clip_is tf tt tf' tt'
        cases hm : meetB f t f' t' with
        | false =>
          have hc := clip_no hm
          rw [hc] at c1 c2 l1
          rw [hm] at g7 g8
          have g9 := sHas (small_of txt_nil) (small_of txt_nil) sk H.top
          rw [l1] at g9
          cases hq : hasB f t k <;> cases hq2 : hasB f' t' k <;> rw [hq, hq2] at g9 <;> rw [hq] at g5 <;> rw [hq2] at g6 <;>
            simp -implicitDefEqProofs [e1, e2, h1, h2, h4, ea, c1, c2, g1, g2, g3, g5, g6, g7, g8, g9]
        | true =>
          obtain ⟨g, u, hc, tg, tu, hr, hc2, m1, m2, hg, hh1, hh2⟩ := clip_right tf tt tf' tt' hm
          have sg := small_of tg
          have su := small_of tu
          rw [hc] at c1 c2 l1
          rw [hm] at g7 g8
          have g9 := sHas sg su sk H.top
          rw [l1] at g9
          have c3 := sClip sg su sf st H.top
          rw [hc2] at c3
          have g10 := sRight sg su H.top
          rw [hr] at g10
          have g11 := sHas sf st sg H.top
          have g12 := sHas sf' st' sg H.top
          rw [hh1] at g11
          rw [hh2] at g12
          have hmx : foldA max2A (.str f) [.str f'] = some (.str g) := by rw [hg]; rfl
          clear hg
          cases hq : hasB f t k <;> cases hq2 : hasB f' t' k <;> rw [hq, hq2] at g9 <;> rw [hq] at g5 <;> rw [hq2] at g6 <;>
            simp -implicitDefEqProofs [e1, e2, h1, h2, h4, ea, c1, c2, c3, g1, g2, g3, g5, g6, g7, g8, g9, g10, g11, g12, hmx]
      · have h4 : (200 : Int) < k.length := by omega
        simp -implicitDefEqProofs [e1, e2, h1, h2, h4, ea]
    · simp -implicitDefEqProofs [e1, e2, h1, h2, ea]
  · simp -implicitDefEqProofs [e1, e2, h1, ea]
set_option maxHeartbeats 2000000 in
theorem nMeets (hok : H.ok) : OkR (call T 11 [.agg [.str f, .str t], .agg [.str f', .str t'], .str k] H) fun r => r.1 = .bool true := by
  rw [call_at (show T 11 = some (.ir ⟨_, _, _, _, _⟩) from T11)]
  have hokT := AHeap.ok.top hok.1
  have e1 := sFits f t H.top
  have e2 := sFits f' t' H.top
  have ea := sAlive hokT
  by_cases h1 : fitB f t = true
  · by_cases h2 : fitB f' t' = true
    · by_cases h3 : k.length ≤ 200
      · obtain ⟨tf, tt⟩ := fit_txt h1
        obtain ⟨tf', tt'⟩ := fit_txt h2
        have tk : Txt k := ⟨h3⟩
        have sf := small_of tf
        have st := small_of tt
        have sf' := small_of tf'
        have st' := small_of tt'
        have sk := small_of tk
        have h4 : ¬ (200 : Int) < k.length := by omega
        obtain ⟨l1, l2, l3⟩ := meets tf tt tk
        have c1 := sClip sf st sf' st' H.top
        have g1 := sRight sf st H.top
        have g2 := sAll H.top
        have g3 := sMeet sk (small_of txt_nil) sf st H.top
        have g4 := sMeet sf st sf st H.top
        have g5 := sMeet sf st (small_of txt_A) (small_of txt_Z) H.top
        have g6 := sHas sf st sk H.top
        rw [l1] at g3
        rw [l2] at g4
        rw [l3] at g5
        cases hm : meetB f t f' t' with
        | false =>
          rw [clip_no hm] at c1
          generalize hasB f t k = q1 at *
          generalize rightB f t = q2 at *
          simp -implicitDefEqProofs [e1, e2, h1, h2, h4, ea, c1, g1, g2, g3, g4, g5, g6]
        | true =>
          obtain ⟨g, u, hc, tg, tu, hr, hc2, m1, m2, _⟩ := clip_right tf tt tf' tt' hm
          have g7 := sMeet (small_of tg) (small_of tu) sf st H.top
          have g8 := sMeet (small_of tg) (small_of tu) sf' st' H.top
          rw [m1] at g7
          rw [m2] at g8
          rw [hc] at c1
          generalize hasB f t k = q1 at *
          generalize rightB f t = q2 at *
          simp -implicitDefEqProofs [e1, e2, h1, h2, h4, ea, c1, g1, g2, g3, g4, g5, g6, g7, g8]
      · have h4 : (200 : Int) < k.length := by omega
        simp -implicitDefEqProofs [e1, e2, h1, h2, h4, ea]
    · simp -implicitDefEqProofs [e1, e2, h1, h2, ea]
  · simp -implicitDefEqProofs [e1, e2, h1, ea]
theorem nParts (hok : H.ok) : OkR (call T 10 [.agg [.str f, .str t], .str a, .str k] H) fun r => r.1 = .bool true := by
  rw [call_at (show T 10 = some (.ir ⟨_, _, _, _, _⟩) from T10)]
  have hokT := AHeap.ok.top hok.1
  have e1 := sFits f t H.top
  have ea := sAlive hokT
  by_cases h1 : fitB f t = true
  · by_cases h2 : a.length ≤ 200
    · have h2' : ¬ (200 : Int) < a.length := by omega
      by_cases h3 : k.length ≤ 200
      · have h3' : ¬ (200 : Int) < k.length := by omega
        obtain ⟨tf, tt⟩ := fit_txt h1
        have ta : Txt a := ⟨h2⟩
        have tk : Txt k := ⟨h3⟩
        have sf := small_of tf
        have st := small_of tt
        have sa := small_of ta
        have sk := small_of tk
        have g1 := sHas sf st sa H.top
        by_cases h4 : t = []
        · subst h4; simp -implicitDefEqProofs [e1, h1, h2', h3', ea]
        · by_cases h5 : hasB f t a = true
          · by_cases h6 : a = f
            · subst h6; simp -implicitDefEqProofs [e1, h1, h2', h3', h4, h5, g1, ea]
            · obtain ⟨l1, l2, l3, l4, l5, l6⟩ := parts tf tt ta tk h4 h5 h6
              have g2 := sHas sf sa sk H.top
              have g3 := sHas sa st sk H.top
              have g4 := sHas sf st sk H.top
              have g5 := sRight sf sa H.top
              have g6 := sRight sa st H.top
              have g7 := sMeet sf sa sa st H.top
              have c1 := sClip sf sa sf st H.top
              rw [l1] at g5
              rw [l2] at g6
              rw [l3] at g7
              rw [l4] at g4
              rw [l6] at c1
              rw [h5] at g1
              clear l1 l2 l3 l4 l6
              generalize hasB f a k = q1 at *
              generalize hasB a t k = q2 at *
              cases q1 <;> cases q2 <;> first | (simp at l5; done) | simp -implicitDefEqProofs [e1, h1, h2', h3', h4, h6, ea, g1, g2, g3, g4, g5, g6, g7, c1]
          · have h5' : hasB f t a = false := by simpa using h5
            rw [h5'] at g1
            simp -implicitDefEqProofs [e1, h1, h2', h3', h4, g1, ea]
      · have h3' : (200 : Int) < k.length := by omega
        simp -implicitDefEqProofs [e1, h1, h2', h3', ea]
    · have h2' : (200 : Int) < a.length := by omega
      simp -implicitDefEqProofs [e1, h1, h2', ea]
  · simp -implicitDefEqProofs [e1, h1, ea]
end
theorem law_of {f : FuncId} {args : List AV} {H : AHeap} (h : OkR (call T f args H) fun r => r.1 = .bool true) : ∃ K, call T f args H = some (.bool true, K) := by
  obtain ⟨⟨v, K⟩, e, h⟩ := h
  simp only at h
  subst h
  exact ⟨K, e⟩
def spSh : Sh := .pair .str (.pair .str .unit)
theorem sp_cells {H : AHeap} {l : List AV} (h : IsC H spSh l) : ∃ f t, l = [.str f, .str t] := by
  obtain ⟨a, b, rfl, ⟨f, rfl, _⟩, c, d, rfl, ⟨t, rfl, _⟩, rfl⟩ := h
  exact ⟨f, t, rfl⟩
theorem lawTells : Law T 7 [spSh, spSh, .str] := by
  intro H ls hw hl ha
  obtain ⟨x, y, z, rfl, hx, hy, ⟨k, rfl, _⟩⟩ := args3 ha
  obtain ⟨f, t, rfl⟩ := sp_cells hx
  obtain ⟨f', t', rfl⟩ := sp_cells hy
  exact law_of (nTells ⟨hw, by omega⟩)
theorem lawBoth : Law T 9 [spSh, spSh, .str] := by
  intro H ls hw hl ha
  obtain ⟨x, y, z, rfl, hx, hy, ⟨k, rfl, _⟩⟩ := args3 ha
  obtain ⟨f, t, rfl⟩ := sp_cells hx
  obtain ⟨f', t', rfl⟩ := sp_cells hy
  exact law_of (nBoth ⟨hw, by omega⟩)
theorem lawMeets : Law T 11 [spSh, spSh, .str] := by
  intro H ls hw hl ha
  obtain ⟨x, y, z, rfl, hx, hy, ⟨k, rfl, _⟩⟩ := args3 ha
  obtain ⟨f, t, rfl⟩ := sp_cells hx
  obtain ⟨f', t', rfl⟩ := sp_cells hy
  exact law_of (nMeets ⟨hw, by omega⟩)
theorem lawParts : Law T 10 [spSh, .str, .str] := by
  intro H ls hw hl ha
  obtain ⟨x, y, z, rfl, hx, ⟨a, rfl, _⟩, ⟨k, rfl, _⟩⟩ := args3 ha
  obtain ⟨f, t, rfl⟩ := sp_cells hx
  exact law_of (nParts ⟨hw, by omega⟩)
end Go.Proofs.Ytdnnpgmekbnlbaa
