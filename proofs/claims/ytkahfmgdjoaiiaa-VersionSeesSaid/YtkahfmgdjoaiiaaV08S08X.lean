/- VersionSees. No condition. -/
import Derived.Test.YtkahfmgdjoaiiaaV08S08W
set_option linter.unusedVariables false
set_option linter.unusedSimpArgs false
namespace Go.Proofs.Ytkahfmgdjoaiiaa
open Go.Wam

attribute [local simp] seqK_normal seqK_exit seqK_ret blockK_normal blockK_exit blockK_ret condO_bool evK_skip evK_exit evK_ret evK_keep evK_cond evK_block evK_seq_seq evK_seq_cond evK_seq_block evK_seq_loop evK_seq_skip evK_seq_keep evK_seq_exit evK_seq_ret prK_eq toSt_eq av_l av_v valS_v valT_v valS_u av_u valO_tmp
  nl_eq nl_none nl_if nlR_eq boxC_eq stL_eq storeP_ptr loadP_ptr fldP_ptr idxP_ptr inN_int callN_func strV_str fillC_nil fillC_cons pickV_bool guardK_bool kB_eq chk_some ifaceV_eq funcV_eq natV_int notL_noL leaveK_ret leaveK_normal rvsK_nil rvsK_cons rvK_tmp rvC_l rvC_v rvK_cell enterK_eq ok_l ok_v ok_u norm_eq norm_l norm_v norm_u
  Go.Wam.look zipI prune packA rd undefA allNoL convI convS lenStr lenMap extA fldV idxStr idxAgg idxS_slice idxS_oslice unA beq_same beqL_same AV.beq AV.beqL sliceV nilC clearW
  strOp aeqF_nil aeqF_cons andA_some i_add i_sub i_mul i_lss i_leq i_gtr i_geq i_quo i_rem i_eql i_neq s_eql s_neq s_lss
  s_leq s_gtr s_geq s_add e_bool n_bool e_nilp n_nilp e_ptr n_ptr e_lptr n_lptr e_agg n_agg
  e_nils n_nils e_slice n_slice e_oslice n_oslice e_eslice n_eslice e_xslice n_xslice e_nilm n_nilm e_map n_map
  e_nilFunc n_nilFunc e_func n_func q_int q_bool q_str q_struct q_ptr0 q_ptrL0 q_ptrR0 q_ptrL1 q_ptrR1 q_slice0
  q_sliceL0 q_sliceR0 q_sliceL1 q_sliceR1 q_sliceL2 q_sliceR2 q_sliceL3 q_sliceR3 q_map0 q_mapL0 q_mapR0 q_func0 q_funcL0 q_funcR0
  okR_some get_alloc_eq rdAt_alloc_eq set_alloc_eq set_alloc_ne get_alloc_ne rdAt_alloc_ne
attribute [local congr] bind_cg guardK_cg kB_cg condO_cg evK_cg
theorem and3 (m : Int) : ∃ n : Nat, n ≤ 3 ∧ binA .and .none (.int .i64 m) (.int .i64 3) = some (.int .i64 n) := by
  have h : (BitVec.ofInt 64 m &&& BitVec.ofInt 64 3).toNat ≤ 3 := by rw [BitVec.toNat_and]; exact Nat.le_trans Nat.and_le_right (by decide)
  refine ⟨(BitVec.ofInt 64 m &&& BitVec.ofInt 64 3).toNat, h, ?_⟩
  show some (AV.int .i64 (IntKind.wrap .i64 ((BitVec.ofInt 64 m &&& BitVec.ofInt 64 3).toNat))) = _
  rw [wrap_id (by omega) (by omega)]
theorem right_some {L : List Ve} {x : Ve} (h : rightA (L.map Ve.at_) = true) (h1 : rightT x.at_ = true) (h2 : L = [] ∨ ltS (lastS L) x.at_ = true) : rightA ((L ++ [x]).map Ve.at_) = true := by
  rw [map_append_at]; exact right_more h h1 h2
theorem seen_is {L : List Ve} {i : It} {s to : Stp} (hL : rightA (L.map Ve.at_) = true) (hid : ¬ i.m.id < 0) (hg : i.gone = false) (hs : L = [] ∨ ltS (lastS L) s = true) (ht : rightT to = true) (hst : uptoB s to = true) :
    readC ⟨L, true, { i with at_ := s }⟩ (0, 0) (0, 0) i.m.id i.m.ep = (⟨s, i.val, false, i.m.id⟩, true, zMt, 0) ∧
    readC ⟨L, true, { i with at_ := s }⟩ s s (-1) 0 = (zVe, false, i.m, 81) ∧ queryC ⟨L, true, { i with at_ := s }⟩ i.m.id i.m.ep i.seq s = true ∧
    resolveC ⟨L, true, { i with at_ := s }⟩ i.m.id i.m.ep true to = (⟨L ++ [⟨to, i.val, false, i.m.id⟩], false, zIt⟩, 0) ∧
    readC ⟨L ++ [⟨to, i.val, false, i.m.id⟩], false, zIt⟩ to to (-1) 0 = (⟨to, i.val, false, i.m.id⟩, true, zMt, 0) ∧
    resolveC ⟨L, true, { i with at_ := s }⟩ i.m.id i.m.ep false to = (⟨L, false, zIt⟩, 0) := by
  have hne : ¬ i.m.id = -1 := by omega
  have h2 : L = [] ∨ ltS (lastS L) to = true := hs.imp id fun h => lt_upto_trans h hst
  refine ⟨?_, ?_, ?_, ?_, ?_, ?_⟩
  · simp [readC, ownI, hg]
  · simp [readC, ownI, othI, hne, upto_refl]
  · simp [queryC, upto_refl]
  · rw [settled true rfl rfl rfl ht h2]; simp [hg]
  · have hr : rightA ((L ++ [(⟨to, i.val, false, i.m.id⟩ : Ve)]).map Ve.at_) = true := right_some hL ht h2
    have ha : aboveN (L ++ [(⟨to, i.val, false, i.m.id⟩ : Ve)]) to = L.length + 1 := above_end hr
    simp [readC, ownI, othI, ha, atV_last]
  · rw [settled false rfl rfl rfl ht h2]; simp
section
variable {H : AHeap} {v w : AV} {a b c : Ch}
theorem sees_loop (hok : H.ok) (A B C : List AV) (more : Int) (s : Stp) (hs : rightT s = true) :
    ∃ x st s', den T (.loop L9_0) (SK.toSt ⟨[(2, .v (.int .i64 more)), (3, .l 3 0), (4, .l 4 0), (8, .l 8 0), (20, .l 20 0), (21, .v (.int .i64 (0 : Nat)))], [(3, A), (4, B), (8, C), (20, [.int .i64 s.1, .int .i64 s.2])], H⟩) = some (x, st) ∧
      (s'.H = H ∧ ((x = .exit 0 ∧ ∃ to : Stp, rightT to = true ∧ uptoB s to = true ∧ prK [3, 4, 8, 20] [3, 4, 8, 20] s' = ⟨[(3, .l 3 0), (4, .l 4 0), (8, .l 8 0), (20, .l 20 0)], [(3, A), (4, B), (8, C), (20, [.int .i64 to.1, .int .i64 to.2])], H⟩) ∨
        (x = .ret ∧ rvsK s' [.tmp 6] = some [.bool true]))) ∧ (∀ ks ls, prK ks ls (ofSt st) = (prK ks ls s').norm) ∧ (∀ rs vs, rvsK s' rs = some vs → rvsK (ofSt st) rs = some vs) ∧ (ofSt st).H = s'.H := by
  obtain ⟨n3, hn3, en⟩ := and3 more
  have e0 := vAlive hok
  refine loopK (T := T) (L := L9_0) rfl
    (fun n s1 => ∃ (k : Nat) (to : Stp), k + n = n3 ∧ rightT to = true ∧ uptoB s to = true ∧ s1 = ⟨[(2, .v (.int .i64 more)), (3, .l 3 0), (4, .l 4 0), (8, .l 8 0), (20, .l 20 0), (21, .v (.int .i64 k))], [(3, A), (4, B), (8, C), (20, [.int .i64 to.1, .int .i64 to.2])], H⟩)
    (fun x s' => s'.H = H ∧ ((x = .exit 0 ∧ ∃ to : Stp, rightT to = true ∧ uptoB s to = true ∧ prK [3, 4, 8, 20] [3, 4, 8, 20] s' = ⟨[(3, .l 3 0), (4, .l 4 0), (8, .l 8 0), (20, .l 20 0)], [(3, A), (4, B), (8, C), (20, [.int .i64 to.1, .int .i64 to.2])], H⟩) ∨
        (x = .ret ∧ rvsK s' [.tmp 6] = some [.bool true])))
    ?_ n3 _ (by simp) ⟨0, s, by omega, hs, upto_refl s, by simp⟩
  rintro n _ ⟨k, to, hi, h1, h2, rfl⟩ P hI hX hR
  have e1 := tNext to H
  by_cases hlt : k < n3
  · have hlt' : (k : Int) < n3 := by omega
    have hw := wrap_id (n := (k : Int) + 1) (by omega) (by omega)
    by_cases hx : (nextS to).2 = 0
    · have hu := next_up hx
      rw [hx] at e1
      simp -implicitDefEqProofs [B9_0, en, hlt', e1, hw]
      refine hI _ _ _ (n - 1) (by omega) ?_
      exact ⟨k + 1, (nextS to).1, by omega, hu.1, upto_trans h2 (lt_upto hu.2), by simp⟩
    · generalize nextS to = q at *
      simp -implicitDefEqProofs [B9_0, en, hlt', e1, hw, hx, e0]
      refine hR _ ?_
      exact ⟨rfl, .inr ⟨rfl, by simp⟩⟩
  · have hlt' : ¬ (k : Int) < n3 := by omega
    simp -implicitDefEqProofs [B9_0, en, hlt']
    refine hX _ _ ?_
    exact ⟨rfl, .inl ⟨rfl, to, h1, h2, by simp⟩⟩
set_option maxHeartbeats 4000000 in
theorem nSees (hok : H.ok) (hS : SV H 5 v (c.L.map rowVe)) (hl : c.L.length < 2932031007403) (i : It) (more : Int) :
    call T 9 [.agg (celCh v c), .agg (celIt i), .int .i64 more] H = some (.bool true, H) := by
  have hokT := AHeap.ok.top hok.1
  have hvn := hS.view.noL
  have hvc := hS.view.cells
  have hv1 := hS.view.one
  have e9 := vFits hS.top
  obtain ⟨v1, K1, e1, m1⟩ := vWrite hokT hS.top hl i
  have ok1 := m1.chg.ok hokT
  have n1 := m1.sv.view.noL
  have c1 := m1.sv.view.cells
  refine okR_eq (call_evK (show T 9 = some (.ir ⟨_, _, _, _, _⟩) from T9) rfl rfl ?_)
  have e0 := vAlive ok1
  have l1 : K1.low = H.n := by rw [m1.chg.low_eq]; simp
  have hfin1 : Go.Wam.fin H (.bool true) K1 = H := fin_drop' (by omega) (by simp)
  by_cases hc : fitC c = true ∧ (writeC c i).2.2.2 = 0 ∧ i.gone = false ∧ c.op = false ∧ ¬ i.m.id < 0
  · obtain ⟨hf, h0, hg, ho, hid⟩ := hc
    rw [hf] at e9
    rw [fitC_iff] at hf
    have hL := rightC_L hf.2
    rcases write_is hf.2 h0 with hx | ⟨s, hx, h2, h3, h4, _⟩
    · exact absurd hx.2.1 (by simp [ho])
    rw [hx] at e1 m1
    obtain ⟨x, st, s', f1, ⟨q0, q1⟩, hp, hr, hH⟩ := sees_loop ok1 (celCh v c) (celIt i) (celCh v1 ⟨c.L, true, { i with at_ := s }⟩) more s h2
    rw [q0] at hH
    simp only [toSt_eq, List.map_cons, List.map_nil, av_v, av_l, Int.natCast_zero] at f1
    obtain ⟨r1, r2, r3, _⟩ := seen_is (to := s) hL hid hg h4 h2 (upto_refl s)
    have e2 := vRead' (c := ⟨c.L, true, { i with at_ := s }⟩) m1.sv (by simp only; omega) (0, 0) (0, 0) i.m.id i.m.ep
    have e3 := vRead' (c := ⟨c.L, true, { i with at_ := s }⟩) m1.sv (by simp only; omega) s s (-1) 0
    have e4 := vQuery (c := ⟨c.L, true, { i with at_ := s }⟩) m1.sv i.m.id i.m.ep i.seq s
    rw [r1] at e2
    rw [r2] at e3
    rw [r3] at e4
    have hid' : decide (i.m.id < 0) = false := decide_eq_false hid
    rcases q1 with ⟨rfl, to, ht, hst, hk⟩ | ⟨rfl, hk⟩
    · have hk := (hp [3, 4, 8, 20] [3, 4, 8, 20]).trans (congrArg SK.norm hk)
      obtain ⟨_, _, _, r4, r5, r6⟩ := seen_is hL hid hg h4 ht hst
      obtain ⟨v2, K2, e5, m2⟩ := vResolve (c := ⟨c.L, true, { i with at_ := s }⟩) ok1 m1.sv (by simp only; omega) i.m.id i.m.ep true to
      rw [r4] at e5 m2
      have ok2 := m2.chg.ok ok1
      have e6 := vRead' (c := ⟨c.L ++ [⟨to, i.val, false, i.m.id⟩], false, zIt⟩) m2.sv (by simp; omega) to to (-1) 0
      rw [r5] at e6
      obtain ⟨v3, K3, e7, m3⟩ := vResolve (c := ⟨c.L, true, { i with at_ := s }⟩) ok2 (m1.sv.new ok1.1 m2.chg) (by simp only; omega) i.m.id i.m.ep false to
      rw [r6] at e7 m3
      have ok3 := m3.chg.ok ok2
      have hcz : c = ⟨c.L, false, zIt⟩ := by
        have h := rightC_shut hf.2 ho
        obtain ⟨L, op, ci⟩ := c
        simp only at h ho ⊢
        rw [h, ho]
      have sH := ((hS.top.new hokT.1 m1.chg).new ok1.1 m2.chg).new ok2.1 m3.chg
      have e8 := vSame (a := ⟨c.L, false, zIt⟩) (b := c) m3.sv sH (by simp only; omega) (by omega)
      rw [(sameC_iff _ _).2 hcz.symm] at e8
      have e10 := vAlive ok3
      have n2 := m2.sv.view.noL
      have c2 := m2.sv.view.cells
      have n3 := m3.sv.view.noL
      have c3 := m3.sv.view.cells
      have hfin3 : Go.Wam.fin H (.bool true) K3 = H := fin_drop' (by rw [m3.chg.low_eq, m2.chg.low_eq]; omega) (by simp)
      clear hcz hx r1 r2 r3 r4 r5 r6
      simp only [outR, outW, outV, celCh, celIt, celMt, zMt, zVe, zIt, rowVe] at *
      simp only [hg, ho] at e1 e2 e3 e4 e5 e6 e7 e8 e9 hk f1
      simp -implicitDefEqProofs [e1, e2, e3, e4, e5, e6, e7, e8, e9, e10, f1, hk, hH, n1, c1, n2, c2, n3, c3, hvn, hvc, hv1, hfin3, hg, ho, hid']
    · have hk := hr _ _ hk
      clear hx r1 r2 r3
      simp only [outR, outW, outV, celCh, celIt, celMt, zMt, zVe, zIt, rowVe] at *
      simp only [hg, ho] at e1 e2 e3 e4 e9 f1
      simp -implicitDefEqProofs [e1, e2, e3, e4, e9, f1, hk, hH, n1, c1, hvn, hvc, hv1, hfin1, hg, ho, hid']
  · have hc' : fitC c = true → (writeC c i).2.2.2 = 0 → i.gone = false → c.op = false → ¬ i.m.id < 0 → False := fun a b c d e => hc ⟨a, b, c, d, e⟩
    cases hf : fitC c with
    | false =>
      rw [hf] at e9
      generalize writeC c i = q2 at *
      simp only [outW, outV, celCh, celIt, celMt, rowVe] at *
      simp -implicitDefEqProofs [e0, e1, e9, n1, c1, hvn, hvc, hv1, hfin1]
    | true =>
      rw [hf] at e9
      by_cases h0 : (writeC c i).2.2.2 = 0
      · generalize writeC c i = q2 at *
        obtain ⟨y1, y2, y3, y4⟩ := q2
        simp only at h0
        subst h0
        obtain ⟨im, iseq, iat, ival, ig⟩ := i
        obtain ⟨L, op, ci⟩ := c
        cases ig with
        | true =>
          simp only [outW, outV, celCh, celIt, celMt, rowVe] at *
          simp -implicitDefEqProofs [e0, e1, e9, n1, c1, hvn, hvc, hv1, hfin1]
        | false =>
          cases op with
          | true =>
            simp only [outW, outV, celCh, celIt, celMt, rowVe] at *
            simp -implicitDefEqProofs [e0, e1, e9, n1, c1, hvn, hvc, hv1, hfin1]
          | false =>
            have hid : im.id < 0 := Decidable.byContradiction fun h => hc' hf rfl rfl rfl h
            simp only [outW, outV, celCh, celIt, celMt, rowVe] at *
            simp -implicitDefEqProofs [e0, e1, e9, n1, c1, hvn, hvc, hv1, hfin1, eq_true hid]
      · generalize writeC c i = q2 at *
        simp only [outW, outV, celCh, celIt, celMt, rowVe] at *
        simp -implicitDefEqProofs [e0, e1, e9, n1, c1, hvn, hvc, hv1, hfin1, h0]
theorem lawSees : Law T 9 [chSh, itSh, .int .i64] := by
  intro H ls hw hl ha
  obtain ⟨x, y, z, rfl, hx, hy, ⟨b, rfl, _⟩⟩ := args3 ha
  obtain ⟨v, c, rfl, hv, hl'⟩ := ch_cells hw hx
  obtain ⟨i, rfl⟩ := it_cells hy
  exact law_of (nSees ⟨hw, by omega⟩ hv hl' i b)
end
end Go.Proofs.Ytkahfmgdjoaiiaa
