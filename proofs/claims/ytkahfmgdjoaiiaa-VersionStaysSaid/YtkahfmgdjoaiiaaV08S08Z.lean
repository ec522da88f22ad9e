/- VersionStays. No condition. -/
import Derived.Test.YtkahfmgdjoaiiaaV08S08Y
set_option linter.unusedVariables false
set_option linter.unusedSimpArgs false
namespace Go.Proofs.Ytkahfmgdjoaiiaa
open Go.Wam

attribute [local simp] seqK_normal seqK_exit seqK_ret blockK_normal blockK_exit blockK_ret condO_bool evK_skip evK_exit evK_ret evK_keep evK_cond evK_block evK_seq_seq evK_seq_cond evK_seq_block evK_seq_loop evK_seq_skip evK_seq_keep evK_seq_exit evK_seq_ret prK_eq toSt_eq av_l av_v valS_v valT_v valS_u av_u valO_tmp
  nl_eq nl_none nl_if nlR_eq boxC_eq stL_eq storeP_ptr loadP_ptr fldP_ptr idxP_ptr inN_int callN_func strV_str fillC_nil fillC_cons pickV_bool guardK_bool kB_eq chk_some ifaceV_eq funcV_eq natV_int notL_noL leaveK_ret leaveK_normal rvsK_nil rvsK_cons rvK_tmp rvC_l rvC_v rvK_cell enterK_eq ok_l ok_v ok_u norm_eq norm_l norm_v norm_u
  Go.Wam.look zipI prune packA rd undefA allNoL convI convS lenStr lenMap extA fldV idxStr idxAgg idxS_slice idxS_oslice unA beq_same beqL_same AV.beq AV.beqL sliceV nilC clearW
  strOp aeqF_nil aeqF_cons andA_some i_add i_sub i_mul i_lss i_leq i_gtr i_geq i_quo i_rem i_eql i_neq s_eql s_neq s_lss
  s_leq s_gtr s_geq s_add e_bool n_bool e_nilp n_nilp e_ptr n_ptr e_lptr n_lptr e_agg n_agg
  e_nils n_nils e_slice n_slice e_oslice n_oslice e_eslice n_eslice e_xslice n_xslice e_nilm n_nilm e_map n_map
  e_nilFunc n_nilFunc e_func n_func q_int q_bool q_str q_struct q_ptr0 q_ptrL0 q_ptrR0 q_ptrL1 q_ptrR1 q_slice0
  q_sliceL0 q_sliceR0 q_sliceL1 q_sliceR1 q_sliceL2 q_sliceR2 q_sliceL3 q_sliceR3 q_map0 q_mapL0 q_mapR0 q_func0 q_funcL0 q_funcR0
  okR_some get_alloc_eq rdAt_alloc_eq set_alloc_eq set_alloc_ne get_alloc_ne rdAt_alloc_ne
attribute [local congr] bind_cg guardK_cg kB_cg condO_cg evK_cg
structure Still (p : Stp) (x : Ve) (b : Bool) (c : Ch) : Prop where
  right : rightC c = true
  own : c.op = true → ¬ c.i.m.id = -1 ∧ ltS p c.i.at_ = true
  read : readC ⟨c.L, false, zIt⟩ p p (-1) 0 = (x, b, zMt, 0)
theorem Still.reads {p : Stp} {x : Ve} {b : Bool} {c : Ch} (h : Still p x b c) : readC c p p (-1) 0 = (x, b, zMt, 0) := by
  have hr := h.read
  unfold readC at hr ⊢
  have h1 : ownI c (-1) 0 = false := by
    unfold ownI
    cases ho : c.op with
    | false => rfl
    | true => simp [(h.own ho).1]
  have h2 : othI c (-1) p = false := by
    unfold othI
    cases ho : c.op with
    | false => rfl
    | true => simp [not_upto.2 (h.own ho).2]
  have h3 : ownI ⟨c.L, false, zIt⟩ (-1) 0 = false := rfl
  have h4 : othI ⟨c.L, false, zIt⟩ (-1) p = false := rfl
  rw [h3, h4] at hr
  rw [h1, h2]
  exact hr
theorem read_zMt {c : Ch} {a l : Stp} {id ep : Int} (h : (readC c a l id ep).2.2.2 = 0) : (readC c a l id ep).2.2.1 = zMt := by
  unfold readC at h ⊢
  by_cases h1 : ownI c id ep = true
  · rw [if_pos h1] at h ⊢; split <;> rfl
  rw [if_neg h1] at h ⊢
  by_cases h2 : othI c id l = true
  · rw [if_pos h2] at h; cases h
  rw [if_neg h2] at h ⊢
  by_cases h3 : aboveN c.L a < aboveN c.L l
  · rw [if_pos h3] at h; cases h
  rw [if_neg h3] at h ⊢
  split <;> rfl
theorem Still.start {p : Stp} {c : Ch} (hr : rightC c = true) (ho : c.op = false) (h : (readC c p p (-1) 0).2.2.2 = 0) : Still p (readC c p p (-1) 0).1 (readC c p p (-1) 0).2.1 c := by
  refine ⟨hr, fun hh => (by rw [ho] at hh; cases hh), ?_⟩
  have hz := read_zMt h
  have hc : c = ⟨c.L, false, zIt⟩ := by
    have h := rightC_shut hr ho
    obtain ⟨L, op, ci⟩ := c
    simp only at h ho ⊢
    rw [h, ho]
  rw [← hc]
  exact Prod.ext rfl (Prod.ext rfl (Prod.ext hz h))
theorem Still.does {p : Stp} {x : Ve} {b : Bool} {c : Ch} (h : Still p x b c) {a : Ac} (h1 : ltS p a.i.at_ = true) (h2 : ltS p a.s = true) (h3 : ¬ a.i.m.id = -1) : Still p x b (doesC c a) ∧ (doesC c a).L.length ≤ c.L.length + 1 := by
  unfold doesC
  by_cases k1 : a.k = 1
  · rw [if_pos k1]
    by_cases h0 : (writeC c a.i).2.2.2 = 0
    · rw [if_pos h0]
      rcases write_is h.right h0 with ⟨e, _⟩ | ⟨s, e, s1, s2, s3, _⟩
      · rw [e]; exact ⟨h, by simp⟩
      · rw [e]; exact ⟨⟨right_new (rightC_L h.right) s1 s3, fun _ => ⟨h3, lt_upto_trans h1 s2⟩, h.read⟩, by simp⟩
    · rw [if_neg h0]; exact ⟨h, by omega⟩
  rw [if_neg k1]
  by_cases k2 : a.k = 2
  · rw [if_pos k2]
    by_cases h0 : (resolveC c a.id a.ep a.com a.s).2 = 0
    · rw [if_pos h0]
      rcases resolve_is h.right h0 with e | e | ⟨e, _, _, s1, s2⟩
      · rw [e]; exact ⟨h, by simp⟩
      · rw [e]; exact ⟨⟨right_none (rightC_L h.right), fun hh => (by cases hh), h.read⟩, by simp⟩
      · rw [e]
        have hL := rightC_L h.right
        have hr := right_plus (x := ⟨a.s, c.i.val, c.i.gone, a.id⟩) hL s1 s2
        refine ⟨⟨right_none hr, fun hh => (by cases hh), ?_⟩, by simp⟩
        have ha := above_more hr p h2
        have hle := aboveN_le c.L p
        have hread := h.read
        unfold readC at hread ⊢
        have e1 : ∀ M : List Ve, ownI ⟨M, false, zIt⟩ (-1) 0 = false := fun _ => rfl
        have e2 : ∀ M : List Ve, othI ⟨M, false, zIt⟩ (-1) p = false := fun _ => rfl
        rw [e1, e2] at hread ⊢
        simp only at hread ⊢
        rw [ha]
        by_cases hz : aboveN c.L p = 0
        · simp only [hz] at hread ⊢
          simpa using hread
        · rw [atV_append (by omega : aboveN c.L p - 1 < c.L.length)]
          exact hread
    · rw [if_neg h0]; exact ⟨h, by omega⟩
  rw [if_neg k2]
  exact ⟨h, by omega⟩
section
variable {H : AHeap} {v w u : AV} {a b c : Ch} {A : List Ac}
set_option maxHeartbeats 4000000 in
theorem stays_loop (hok : H.ok) (hU : SV H 16 u (A.map rowAc)) (hS : SV H 5 v (c.L.map rowVe)) (hc : c.L.length ≤ 60) {p : Stp} {x : Ve} {b : Bool} (hs : Still p x b c) :
    ∃ y st s', den T (.loop L4_0) (SK.toSt ⟨[(2, .v u), (3, .l 3 0), (4, .l 4 0), (8, .l 8 0), (9, .v (.bool b)), (12, .v (.int .i64 (0 : Nat)))], [(3, celCh v c), (4, [.int .i64 p.1, .int .i64 p.2]), (8, rowVe x)], H⟩) = some (y, st) ∧
      (y = .exit 0 ∧ s'.H.ok ∧ Chg [] H s'.H) ∧ (∀ ks ls, prK ks ls (ofSt st) = (prK ks ls s').norm) ∧ (∀ rs vs, rvsK s' rs = some vs → rvsK (ofSt st) rs = some vs) ∧ (ofSt st).H = s'.H := by
  refine loopK (T := T) (L := L4_0) rfl
    (fun n s1 => ∃ (k : Nat) (vv : AV) (cc : Ch) (K : AHeap), k + n = 60 ∧ cc.L.length ≤ 60 + k ∧ Still p x b cc ∧ SV K 5 vv (cc.L.map rowVe) ∧ K.ok ∧ Chg [] H K ∧ s1 = ⟨[(2, .v u), (3, .l 3 0), (4, .l 4 0), (8, .l 8 0), (9, .v (.bool b)), (12, .v (.int .i64 k))], [(3, celCh vv cc), (4, [.int .i64 p.1, .int .i64 p.2]), (8, rowVe x)], K⟩)
    (fun y s' => y = .exit 0 ∧ s'.H.ok ∧ Chg [] H s'.H)
    ?_ 60 _ (by simp [hU.view.noL]) ⟨0, v, c, H, by omega, by omega, hs, hS, hok, .refl _ _, by simp⟩
  rintro n _ ⟨k, vv, cc, K, hi, hlen, hst, hV, hokK, hcg, rfl⟩ P hI hX hR
  have hUK := hU.new hok.1 hcg
  have hun := hUK.view.noL
  have huo := hUK.ok
  have hu1 := hUK.view.one
  have hvn := hV.view.noL
  have hv1 := hV.view.one
  have hvo := hV.ok
  have hvc := hV.view.cells
  have eln := lnA hUK.view
  by_cases hlt : k < A.length
  · have hlt' : (k : Int) < A.length := by omega
    by_cases h60 : k < 60
    · have h60' : (k : Int) < 60 := by omega
      have hw := wrap_id (n := (k : Int) + 1) (by omega) (by omega)
      have e1 := ixA hUK.view hlt
      have e2 := rdA hUK.view hlt
      have e3 := tLess p (atA A k).i.at_ K
      have e4 := tLess p (atA A k).s K
      by_cases hg : ltS p (atA A k).i.at_ = true ∧ ltS p (atA A k).s = true ∧ ¬ (atA A k).i.m.id = -1
      · obtain ⟨g1, g2, g3⟩ := hg
        rw [g1] at e3
        rw [g2] at e4
        obtain ⟨hst', hlen'⟩ := hst.does g1 g2 g3
        obtain ⟨v1, K1, e5, m1, m2, _⟩ := vDoes hokK hV (by omega) (atA A k)
        have e6 := vRead' m1 (by omega) p p (-1) 0
        rw [hst'.reads] at e6
        have n1 := m1.view.noL
        have c1 := m1.view.cells
        have o1 := m1.view.one
        have okK1 := m2.ok hokK
        have hcg' := hcg.trans hok m2 (by simp)
        generalize doesC cc (atA A k) = dd at *
        generalize atA A k = aa at *
        simp only [rowAc, outR, celCh, celIt, celMt, zMt, rowVe, List.cons_append, List.nil_append] at *
        simp -implicitDefEqProofs [B4_0, eln, hun, huo, hu1, hvn, hv1, hvo, hvc, hlt', h60', hw, e1, e2, e3, e4, e5, e6, n1, c1, o1, g3]
        refine hI _ _ _ (n - 1) (by omega) ?_
        exact ⟨k + 1, v1, dd, K1, by omega, by omega, hst', m1, okK1, hcg', by simp [celCh, celIt]⟩
      · have hg' : (!ltS p (atA A k).i.at_ || (!ltS p (atA A k).s || decide ((atA A k).i.m.id = -1))) = true := by
          cases h1 : ltS p (atA A k).i.at_ with
          | false => rfl
          | true => cases h2 : ltS p (atA A k).s with
            | false => rfl
            | true => simp; exact Decidable.byContradiction fun h => hg ⟨h1, h2, h⟩
        generalize atA A k = aa at *
        cases h1 : ltS p aa.i.at_ with
        | false =>
          rw [h1] at e3
          simp only [rowAc, outR, celCh, celIt, celMt, zMt, rowVe, List.cons_append, List.nil_append] at *
          simp -implicitDefEqProofs [B4_0, eln, hun, huo, hu1, hvn, hv1, hvo, hvc, hlt', h60', hw, e1, e2, e3]
          refine hI _ _ _ (n - 1) (by omega) ?_
          exact ⟨k + 1, vv, cc, K, by omega, by omega, hst, hV, hokK, hcg, by simp [celCh, celIt]⟩
        | true =>
          rw [h1] at e3
          cases h2 : ltS p aa.s with
          | false =>
            rw [h2] at e4
            simp only [rowAc, outR, celCh, celIt, celMt, zMt, rowVe, List.cons_append, List.nil_append] at *
            simp -implicitDefEqProofs [B4_0, eln, hun, huo, hu1, hvn, hv1, hvo, hvc, hlt', h60', hw, e1, e2, e3, e4]
            refine hI _ _ _ (n - 1) (by omega) ?_
            exact ⟨k + 1, vv, cc, K, by omega, by omega, hst, hV, hokK, hcg, by simp [celCh, celIt]⟩
          | true =>
            rw [h2] at e4
            have h3 : aa.i.m.id = -1 := by rw [h1, h2] at hg'; simpa using hg'
            simp only [rowAc, outR, celCh, celIt, celMt, zMt, rowVe, List.cons_append, List.nil_append] at *
            simp -implicitDefEqProofs [B4_0, eln, hun, huo, hu1, hvn, hv1, hvo, hvc, hlt', h60', hw, e1, e2, e3, e4, eq_true h3]
            refine hI _ _ _ (n - 1) (by omega) ?_
            exact ⟨k + 1, vv, cc, K, by omega, by omega, hst, hV, hokK, hcg, by simp [celCh, celIt]⟩
    · have h60' : ¬ (k : Int) < 60 := by omega
      simp -implicitDefEqProofs [B4_0, eln, hun, hlt', h60']
      refine hX _ _ ?_
      exact ⟨rfl, hokK, hcg⟩
  · have hlt' : ¬ (k : Int) < A.length := by omega
    simp -implicitDefEqProofs [B4_0, eln, hun, hlt']
    refine hX _ _ ?_
    exact ⟨rfl, hokK, hcg⟩
set_option maxHeartbeats 4000000 in
theorem nStays (hok : H.ok) (hS : SV H 5 v (c.L.map rowVe)) (hl : c.L.length < 2932031007403) (p : Stp) (hU : SV H 16 u (A.map rowAc)) :
    call T 4 [.agg (celCh v c), .agg [.int .i64 p.1, .int .i64 p.2], u] H = some (.bool true, H) := by
  have hokT := AHeap.ok.top hok.1
  have hvn := hS.view.noL
  have hvc := hS.view.cells
  have hv1 := hS.view.one
  have hun := hU.view.noL
  have hu1 := hU.view.one
  have huc := hU.view.cells
  have e9 := vFits hS.top
  have e0 := vAlive hokT
  have e1 := vRead' hS.top (by omega) p p (-1) 0
  refine okR_eq (call_evK (show T 4 = some (.ir ⟨_, _, _, _, _⟩) from T4) rfl (by simp [celCh, celIt, hvn, hun]) ?_)
  cases hf : fitC c with
  | false =>
    rw [hf] at e9
    generalize readC c p p (-1) 0 = q at *
    simp only [outR, celCh, celIt, celMt, rowVe] at *
    simp -implicitDefEqProofs [e0, e1, e9, hvn, hvc, hv1, hun, hu1, huc, fin_pure]
  | true =>
    rw [hf] at e9
    rw [fitC_iff] at hf
    by_cases h0 : (readC c p p (-1) 0).2.2.2 = 0
    · cases ho : c.op with
      | true =>
        generalize readC c p p (-1) 0 = q at *
        obtain ⟨y1, y2, y3, y4⟩ := q
        simp only at h0
        subst h0
        simp only [outR, celCh, celIt, celMt, rowVe] at *
        simp only [ho] at e1 e9
        simp -implicitDefEqProofs [e0, e1, e9, hvn, hvc, hv1, hun, hu1, huc, fin_pure, ho]
      | false =>
        have hst := Still.start hf.2 ho h0
        have hz := read_zMt h0
        generalize readC c p p (-1) 0 = q at *
        obtain ⟨y1, y2, y3, y4⟩ := q
        simp only at h0 hz hst
        subst h0 hz
        obtain ⟨x, st, s', f1, ⟨rfl, okK, hcg⟩, hp, hr, hH⟩ := stays_loop hokT hU.top hS.top hf.1 hst
        simp only [toSt_eq, List.map_cons, List.map_nil, av_v, av_l, Int.natCast_zero] at f1
        have hk : prK [] [] (ofSt st) = ⟨[], [], s'.H⟩ := (hp [] []).trans rfl
        have e2 := vAlive okK
        have hfin : Go.Wam.fin H (.bool true) s'.H = H := fin_drop' (by rw [hcg.low_eq]; simp) (by simp)
        clear hst hp hr
        simp only [outR, celCh, celIt, celMt, zMt, rowVe] at *
        simp only [ho] at e1 e9 f1
        simp -implicitDefEqProofs [e0, e1, e2, e9, f1, hk, hH, hvn, hvc, hv1, hun, hu1, huc, hfin, ho]
    · generalize readC c p p (-1) 0 = q at *
      simp only [outR, celCh, celIt, celMt, rowVe] at *
      simp -implicitDefEqProofs [e0, e1, e9, hvn, hvc, hv1, hun, hu1, huc, fin_pure, h0]
theorem lawStays : Law T 4 [chSh, stSh, .slice 16 144 acSh] := by
  intro H ls hw hl ha
  obtain ⟨x, y, z, rfl, hx, hy, hz⟩ := args3 ha
  obtain ⟨v, c, rfl, hv, hl'⟩ := ch_cells hw hx
  obtain ⟨p, rfl⟩ := st_cells hy
  obtain ⟨u, A, rfl, hu⟩ := as_cells hw hz
  exact law_of (nStays ⟨hw, by omega⟩ hv hl' p hu)
end
end Go.Proofs.Ytkahfmgdjoaiiaa
