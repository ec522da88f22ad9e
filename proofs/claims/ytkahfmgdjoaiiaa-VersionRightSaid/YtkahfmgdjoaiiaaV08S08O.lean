/- The document's chains: Read. No condition. -/
import Derived.Test.YtkahfmgdjoaiiaaV08S08N
set_option linter.unusedVariables false
set_option linter.unusedSimpArgs false
namespace Go.Proofs.Ytkahfmgdjoaiiaa
open Go.Wam

attribute [local simp] seqK_normal seqK_exit seqK_ret blockK_normal blockK_exit blockK_ret condO_bool evK_skip evK_exit evK_ret evK_keep evK_cond evK_block evK_seq_seq evK_seq_cond evK_seq_block evK_seq_loop evK_seq_skip evK_seq_keep evK_seq_exit evK_seq_ret prK_eq toSt_eq av_l av_v valS_v valT_v valS_u av_u valO_tmp
  nl_eq nl_none nl_if nlR_eq boxC_eq stL_eq storeP_ptr loadP_ptr fldP_ptr idxP_ptr inN_int callN_func strV_str fillC_nil fillC_cons pickV_bool guardK_bool kB_eq chk_some ifaceV_eq funcV_eq natV_int notL_noL leaveK_ret leaveK_normal rvsK_nil rvsK_cons rvK_tmp rvC_l rvC_v rvK_cell enterK_eq ok_l ok_v ok_u norm_eq norm_l norm_v norm_u
  Go.Wam.look zipI prune packA rd undefA allNoL convI convS lenStr lenMap extA fldV idxStr idxAgg idxS_slice idxS_oslice unA beq_same beqL_same AV.beq AV.beqL sliceV nilC clearW
  strOp aeqF_nil aeqF_cons andA_some i_add i_sub i_mul i_lss i_leq i_gtr i_geq i_quo i_rem i_eql i_neq s_eql s_neq s_lss
  s_leq s_gtr s_geq s_add e_bool n_bool e_nilp n_nilp e_ptr n_ptr e_lptr n_lptr e_agg n_agg
  e_nils n_nils e_slice n_slice e_oslice n_oslice e_eslice n_eslice e_xslice n_xslice e_nilm n_nilm e_map n_map
  e_nilFunc n_nilFunc e_func n_func q_int q_bool q_str q_struct q_ptr0 q_ptrL0 q_ptrR0 q_ptrL1 q_ptrR1 q_slice0
  q_sliceL0 q_sliceR0 q_sliceL1 q_sliceR1 q_sliceL2 q_sliceR2 q_sliceL3 q_sliceR3 q_map0 q_mapL0 q_mapR0 q_func0 q_funcL0 q_funcR0
  okR_some get_alloc_eq rdAt_alloc_eq set_alloc_eq set_alloc_ne get_alloc_ne rdAt_alloc_ne
attribute [local congr] bind_cg guardK_cg kB_cg condO_cg evK_cg
section
variable {H : AHeap} {v : AV} {c : Ch} {L : List Ve}
theorem rRead_loop (hS : SV H 5 v (L.map rowVe)) (hl : L.length < 1000000000000) (a l : Stp) (cs : List AV) (hcs : cs.length = 11) (z10 z12 : List AV) :
    ∃ x st s', den T (.loop L23_0) (SK.toSt ⟨[(5, .l 5 0), (6, .l 6 0), (7, .l 7 0), (10, .l 10 0), (12, .l 12 0), (15, .l 15 0), (16, .l 16 0), (17, .v (.bool false)), (18, .v (.bool false)), (19, .v (.int .i64 (0 : Nat)))], [(5, v :: cs), (6, [.int .i64 a.1, .int .i64 a.2]), (7, [.int .i64 l.1, .int .i64 l.2]), (10, z10), (12, z12), (15, rowVe zVe), (16, rowVe zVe)], H⟩) = some (x, st) ∧
      (x = .exit 0 ∧ prK [10, 12, 15, 16, 17, 18] [10, 12, 15, 16] s' = ⟨[(10, .l 10 0), (12, .l 12 0), (15, .l 15 0), (16, .l 16 0), (17, .v (.bool (foldR L a l).2.1)), (18, .v (.bool (foldR L a l).2.2.2))], [(10, z10), (12, z12), (15, rowVe (foldR L a l).1), (16, rowVe (foldR L a l).2.2.1)], H⟩) ∧ (∀ ks ls, prK ks ls (ofSt st) = (prK ks ls s').norm) ∧ (∀ rs vs, rvsK s' rs = some vs → rvsK (ofSt st) rs = some vs) ∧ (ofSt st).H = s'.H := by
  have hvn := hS.view.noL
  have hvo := hS.ok
  have e0 := lenV hS.view
  match cs, hcs with
  | [c1, c2, c3, c4, c5, c6, c7, c8, c9, c10, c11], _ =>
  refine loopK (T := T) (L := L23_0) rfl
    (fun n s => ∃ k : Nat, k + n = L.length ∧ s = ⟨[(5, .l 5 0), (6, .l 6 0), (7, .l 7 0), (10, .l 10 0), (12, .l 12 0), (15, .l 15 0), (16, .l 16 0), (17, .v (.bool (foldR (L.take k) a l).2.1)), (18, .v (.bool (foldR (L.take k) a l).2.2.2)), (19, .v (.int .i64 k))], [(5, [v, c1, c2, c3, c4, c5, c6, c7, c8, c9, c10, c11]), (6, [.int .i64 a.1, .int .i64 a.2]), (7, [.int .i64 l.1, .int .i64 l.2]), (10, z10), (12, z12), (15, rowVe (foldR (L.take k) a l).1), (16, rowVe (foldR (L.take k) a l).2.2.1)], H⟩)
    (fun x s' => x = .exit 0 ∧ prK [10, 12, 15, 16, 17, 18] [10, 12, 15, 16] s' = ⟨[(10, .l 10 0), (12, .l 12 0), (15, .l 15 0), (16, .l 16 0), (17, .v (.bool (foldR L a l).2.1)), (18, .v (.bool (foldR L a l).2.2.2))], [(10, z10), (12, z12), (15, rowVe (foldR L a l).1), (16, rowVe (foldR L a l).2.2.1)], H⟩)
    ?_ L.length _ (by simp) ⟨0, by omega, by simp [foldR]⟩
  rintro n _ ⟨k, hi, rfl⟩ P hI hX hR
  by_cases hlt : k < L.length
  · have hlt' : (k : Int) < L.length := by omega
    have hw := wrap_id (n := (k : Int) + 1) (by omega) (by omega)
    have e1 := ixV hS.view hlt
    have e2 := rdV hS.view hlt
    have e3 := rUpto (atV L k).at_ a H
    have e4 := rUpto (atV L k).at_ l H
    have hf := foldR_take (a := a) (l := l) hlt
    have next : ∀ (q : Ve × Bool × Ve × Bool), foldR (L.take (k + 1)) a l = q → ∀ e lo, prune [5, 6, 7, 10, 12, 15, 16, 17, 18, 19] e = [(5, .l 5 0), (6, .l 6 0), (7, .l 7 0), (10, .l 10 0), (12, .l 12 0), (15, .l 15 0), (16, .l 16 0), (17, .v (.bool q.2.1)), (18, .v (.bool q.2.2.2)), (19, .v (.int .i64 ((k : Int) + 1)))] →
        prune [5, 6, 7, 10, 12, 15, 16] lo = [(5, [v, c1, c2, c3, c4, c5, c6, c7, c8, c9, c10, c11]), (6, [.int .i64 a.1, .int .i64 a.2]), (7, [.int .i64 l.1, .int .i64 l.2]), (10, z10), (12, z12), (15, rowVe q.1), (16, rowVe q.2.2.1)] → P (.normal, ⟨e, lo, H⟩) := fun q hq e lo h1 h2 => hI _ _ _ (n - 1) (by omega) ⟨k + 1, by omega, by rw [h1, h2, hq]; simp⟩
    clear hI hX hR
    unfold stepR at hf
    generalize foldR (L.take k) a l = q at *
    obtain ⟨q1, q2, q3, q4⟩ := q
    simp only at hf
    cases hu : uptoB (atV L k).at_ a with
    | true =>
      rw [hu, if_pos rfl] at hf
      rw [hu] at e3
      unfold rowVe at *
      simp -implicitDefEqProofs [B23_0, hvn, hvo, e0, hlt', e1, e2, e3, hw]
      refine next _ hf _ _ ?_ ?_ <;> simp
    | false =>
      rw [hu, if_neg (by simp)] at hf
      rw [hu] at e3
      cases ht : uptoB (atV L k).at_ l with
      | true =>
        rw [ht, if_pos rfl] at hf
        rw [ht] at e4
        unfold rowVe at *
        simp -implicitDefEqProofs [B23_0, hvn, hvo, e0, hlt', e1, e2, e3, e4, hw]
        refine next _ hf _ _ ?_ ?_ <;> simp
      | false =>
        rw [ht, if_neg (by simp)] at hf
        rw [ht] at e4
        unfold rowVe at *
        simp -implicitDefEqProofs [B23_0, hvn, hvo, e0, hlt', e1, e2, e3, e4, hw]
        refine next _ hf _ _ ?_ ?_ <;> simp
  · have hlt' : ¬ (k : Int) < L.length := by omega
    have : L.take k = L := List.take_of_length_le (by omega)
    rw [this]
    simp -implicitDefEqProofs [B23_0, hvn, hvo, e0, hlt']
    refine hX _ _ ?_
    exact ⟨rfl, by simp⟩
set_option maxHeartbeats 8000000 in
theorem rRead (hS : SV H 5 v (L.map rowVe)) (hl : L.length < 1000000000000) (hr : rightA (L.map Ve.at_) = true) (op : Bool) (mid mep : Int) (manc : List UInt8) (mw mg seq : Int) (iat : Stp) (ival : List UInt8) (igone : Bool) (a l : Stp) (id ep : Int) :
    call T 23 [.agg [v, .bool op, .int .i64 mid, .int .i64 mep, .str manc, .int .i64 mw, .int .i64 mg, .int .i64 seq, .int .i64 iat.1, .int .i64 iat.2, .str ival, .bool igone], .agg [.int .i64 a.1, .int .i64 a.2], .agg [.int .i64 l.1, .int .i64 l.2], .int .i64 id, .int .i64 ep] H = some (outR (readC ⟨L, op, ⟨⟨mid, mep, manc, mw, mg⟩, seq, iat, ival, igone⟩⟩ a l id ep), H) := by
  refine okR_eq (call_evK (show T 23 = some (.ir ⟨_, _, _, _, _⟩) from T23) rfl rfl ?_)
  have hvn := hS.view.noL
  have hvc := hS.view.cells
  have eu := rUpto iat l H.top
  obtain ⟨x, st, s', f1, ⟨rfl, hk⟩, hp, _, _⟩ := rRead_loop hS.top hl a l [.bool op, .int .i64 mid, .int .i64 mep, .str manc, .int .i64 mw, .int .i64 mg, .int .i64 seq, .int .i64 iat.1, .int .i64 iat.2, .str ival, .bool igone] rfl [.int .i64 0, .int .i64 0, .str [], .bool false, .int .i64 0] [.int .i64 0, .int .i64 0, .str [], .int .i64 0, .int .i64 0]
  have hk := (hp [10, 12, 15, 16, 17, 18] [10, 12, 15, 16]).trans (congrArg SK.norm hk)
  have hfold := foldR_all hr a l
  simp only [toSt_eq, List.map_cons, List.map_nil, av_v, av_l, Int.natCast_zero] at f1
  unfold readC ownI othI outR
  generalize foldR L a l = q at *
  obtain ⟨q1, q2, q3, q4⟩ := q
  simp only [Prod.mk.injEq] at hfold
  obtain ⟨g1, g2, g3, g4⟩ := hfold
  simp only at hk
  generalize aboveN L a = k at *
  generalize aboveN L l = n at *
  by_cases h1 : op = true ∧ mid = id ∧ mep = ep
  · obtain ⟨rfl, rfl, rfl⟩ := h1
    cases igone <;> simp -implicitDefEqProofs [hvn, hvc, fin_pure, zVe, zMt, rowVe, celMt]
  by_cases h2 : op = true ∧ ¬ mid = id ∧ uptoB iat l = true
  · obtain ⟨rfl, h2, h3⟩ := h2
    rw [h3] at eu
    simp -implicitDefEqProofs [hvn, hvc, h2, h3, eu, fin_pure, zVe, zMt, rowVe, celMt]
  have ho : ∀ {P : Prop}, (op = false → P) → (op = true → mid = id → ¬ mep = ep → P) → (op = true → ¬ mid = id → uptoB iat l = false → P) → P := fun {P} p1 p2 p3 => by
    cases op with
    | false => exact p1 rfl
    | true =>
      by_cases h4 : mid = id
      · exact p2 rfl h4 fun h => h1 ⟨rfl, h4, h⟩
      · refine p3 rfl h4 ?_
        cases hu : uptoB iat l with | false => rfl | true => exact absurd ⟨rfl, h4, hu⟩ h2
  clear h1 h2
  unfold rowVe at *
  simp only [zVe] at f1
  by_cases h3 : k < n
  · rw [decide_eq_true h3] at g4
    rw [if_pos h3] at g3
    subst g4 g3
    refine ho (fun h => ?_) (fun h h' h'' => ?_) (fun h h' h'' => ?_)
    · subst h; simp -implicitDefEqProofs [hvn, hvc, h3, f1, hk, fin_pure, zVe, zMt, celMt]
    · subst h h'; simp -implicitDefEqProofs [hvn, hvc, h3, h'', f1, hk, fin_pure, zVe, zMt, celMt]
    · subst h
      rw [h''] at eu
      simp -implicitDefEqProofs [hvn, hvc, h3, h', h'', eu, f1, hk, fin_pure, zVe, zMt, celMt]
  rw [decide_eq_false h3] at g4
  subst g4
  by_cases h6 : k = 0
  · have h6' : (k = 0) = True := eq_true h6
    rw [decide_eq_false (by omega)] at g2
    subst g2
    refine ho (fun h => ?_) (fun h h' h'' => ?_) (fun h h' h'' => ?_)
    · subst h; simp -implicitDefEqProofs [hvn, hvc, h3, f1, hk, h6', fin_pure, zVe, zMt, celMt]
    · subst h h'; simp -implicitDefEqProofs [hvn, hvc, h3, h'', f1, hk, h6', fin_pure, zVe, zMt, celMt]
    · subst h
      rw [h''] at eu
      simp -implicitDefEqProofs [hvn, hvc, h3, h', h'', eu, f1, hk, h6', fin_pure, zVe, zMt, celMt]
  · rw [decide_eq_true (by omega)] at g2
    rw [if_pos (by omega)] at g1
    subst g2 g1
    generalize atV L (k - 1) = x at *
    obtain ⟨xat, xval, xgone, xby⟩ := x
    refine ho (fun h => ?_) (fun h h' h'' => ?_) (fun h h' h'' => ?_)
    · subst h; cases xgone <;> simp -implicitDefEqProofs [hvn, hvc, h3, f1, hk, h6, fin_pure, zVe, zMt, celMt]
    · subst h h'; cases xgone <;> simp -implicitDefEqProofs [hvn, hvc, h3, h'', f1, hk, h6, fin_pure, zVe, zMt, celMt]
    · subst h
      rw [h''] at eu
      cases xgone <;> simp -implicitDefEqProofs [hvn, hvc, h3, h', h'', eu, f1, hk, h6, fin_pure, zVe, zMt, celMt]
end
end Go.Proofs.Ytkahfmgdjoaiiaa
