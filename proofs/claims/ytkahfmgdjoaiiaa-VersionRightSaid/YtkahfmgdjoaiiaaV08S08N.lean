/- The document's chains: Right, Refresh. No condition. -/
import Derived.Test.YtkahfmgdjoaiiaaV08S08M
set_option linter.unusedVariables false
set_option linter.unusedSimpArgs false
namespace Go.Proofs.Ytkahfmgdjoaiiaa
open Go.Wam

attribute [local simp] seqK_normal seqK_exit seqK_ret blockK_normal blockK_exit blockK_ret condO_bool evK_skip evK_exit evK_ret evK_keep evK_cond evK_block evK_seq_seq evK_seq_cond evK_seq_block evK_seq_loop evK_seq_skip evK_seq_keep evK_seq_exit evK_seq_ret prK_eq toSt_eq av_l av_v valS_v valT_v valS_u av_u valO_tmp
  nl_eq nl_none nl_if nlR_eq boxC_eq stL_eq storeP_ptr loadP_ptr fldP_ptr idxP_ptr inN_int callN_func strV_str fillC_nil fillC_cons pickV_bool guardK_bool kB_eq chk_some ifaceV_eq funcV_eq natV_int notL_noL leaveK_ret leaveK_normal rvsK_nil rvsK_cons rvK_tmp rvC_l rvC_v rvK_cell enterK_eq ok_l ok_v ok_u norm_eq norm_l norm_v norm_u
  Go.Wam.look zipI prune packA rd undefA allNoL convI convS lenStr lenMap extA fldV idxStr idxAgg idxS_slice idxS_oslice unA beq_same beqL_same AV.beq AV.beqL sliceV nilC clearW
  strOp aeqF_nil aeqF_cons andA_some i_add i_sub i_mul i_lss i_leq i_gtr i_geq i_quo i_rem i_eql i_neq s_eql s_neq s_lss
  s_leq s_gtr s_geq s_add e_bool n_bool e_nilp n_nilp e_ptr n_ptr e_lptr n_lptr e_agg n_agg
  e_nils n_nils e_slice n_slice e_oslice n_oslice e_eslice n_eslice e_xslice n_xslice e_nilm n_nilm e_map n_map
  e_nilFunc n_nilFunc e_func n_func q_int q_bool q_str q_struct q_ptr0 q_ptrL0 q_ptrR0 q_ptrL1 q_ptrR1 q_slice0
  q_sliceL0 q_sliceR0 q_sliceL1 q_sliceR1 q_sliceL2 q_sliceR2 q_sliceL3 q_sliceR3 q_map0 q_mapL0 q_mapR0 q_func0 q_funcL0 q_funcR0
  okR_some get_alloc_eq rdAt_alloc_eq set_alloc_eq set_alloc_ne get_alloc_ne rdAt_alloc_ne
attribute [local congr] bind_cg guardK_cg kB_cg condO_cg evK_cg
section
variable {H : AHeap} {v w : AV} {L M : List Ve} {c : Ch}
theorem rdAtV (hV : View H 5 v (L.map rowVe)) {i : Nat} (h : i < L.length) : H.rdAt (sid v) true 2 (soff v + i * 5) = some (.agg [.int .i64 (atV L i).at_.1, .int .i64 (atV L i).at_.2]) := by
  have := hV.rd (i := i) (r := rowVe (atV L i)) (by rw [List.getElem?_map, atV_get h]; rfl) true (k := 2) (f := 0) (by omega) (by omega) (by simp)
  rw [Nat.add_zero] at this; exact this
theorem lastS_at (L : List Ve) (h : ¬ L = []) : atS (L.map Ve.at_) ((L.map Ve.at_).length - 1) = lastS L := by
  have hp : 0 < L.length := List.length_pos_iff.2 h
  rw [List.length_map, atS_map L (by omega)]; rfl
set_option maxHeartbeats 8000000 in
theorem rRight (hS : SV H 5 v (c.L.map rowVe)) (hl : c.L.length < 1000000000000) :
    call T 30 [.agg (celCh v c)] H = some (.bool (rightC c), H) := by
  have hvn := hS.view.noL
  have hvc := hS.view.cells
  have hvo := hS.ok
  have e0 := lenV hS.view
  refine okR_eq (call_evK (show T 30 = some (.ir ⟨_, _, _, _, _⟩) from T30) rfl rfl ?_)
  obtain ⟨L, op, i⟩ := c
  simp only at hS hl e0
  obtain ⟨x, st, s', f1, ⟨q0, q1⟩, hp, hr, hH⟩ := loopK (T := T) (L := L30_0) rfl
    (fun n s => ∃ k : Nat, k + n = L.length ∧ (∀ j, j < k → okAt (L.map Ve.at_) j = true) ∧ s = ⟨[(1, .l 1 0), (3, .v (.int .i64 k))], [(1, celCh v ⟨L, op, i⟩)], H.top⟩)
    (fun x s => s.H = H.top ∧ ((x = .exit 0 ∧ rightA (L.map Ve.at_) = true ∧ prK [1] [1] s = ⟨[(1, .l 1 0)], [(1, celCh v ⟨L, op, i⟩)], H.top⟩) ∨ (x = .ret ∧ rightA (L.map Ve.at_) = false ∧ rvsK s [.tmp 2] = some [.bool false])))
    (by
      rintro n _ ⟨k, hi, hall, rfl⟩ P hI hX hR
      by_cases hlt : k < L.length
      · have hlt' : (k : Int) < L.length := by omega
        have hw := wrap_id (n := (k : Int) + 1) (by omega) (by omega)
        have e1 := ixV hS.view hlt
        have e2 := rdAtV hS.top.view hlt
        have e3 := tRight' (atV L k).at_ H.top
        have hml : k < (L.map Ve.at_).length := by rw [List.length_map]; exact hlt
        have bad : okAt (L.map Ve.at_) k = false → ∀ s', rvsK s' [.tmp 2] = some [.bool false] → s'.H = H.top → P (.ret, s') := fun h s' h1 h2 => hR _ ⟨h2, .inr ⟨rfl, rightA_not hml h, h1⟩⟩
        have good : okAt (L.map Ve.at_) k = true → ∀ e l, prune [1, 3] e = [(1, .l 1 0), (3, .v (.int .i64 ((k : Int) + 1)))] → prune [1] l = [(1, celCh v ⟨L, op, i⟩)] → P (.normal, ⟨e, l, H.top⟩) := fun h e l h1 h2 => hI _ _ _ (n - 1) (by omega) ⟨k + 1, by omega, fun j hj => by
          by_cases hji : j = k
          · subst hji; exact h
          · exact hall j (by omega), by rw [h1, h2]; simp⟩
        unfold okAt at bad good
        rw [atS_map L hlt] at bad good
        unfold celCh at *
        cases hr : rightT (atV L k).at_ with
        | false =>
          rw [hr] at e3 bad
          simp -implicitDefEqProofs [B30_0, hvn, hvo, e0, hlt', e1, e2, e3, hw]
          refine bad rfl _ ?_ ?_ <;> simp
        | true =>
          rw [hr] at e3 bad good
          by_cases h0 : k = 0
          · have h0' : ¬ 0 < k := by omega
            have good := good (by simp [h0])
            clear h0
            simp -implicitDefEqProofs [B30_0, hvn, hvo, e0, hlt', h0', e1, e2, e3, hw]
            refine good _ _ ?_ ?_ <;> simp
          · have h0' : 0 < k := by omega
            have hw2 := wrap_id (n := (k : Int) - 1) (by omega) (by omega)
            have e4 := ixV hS.view (i := k - 1) (by omega)
            rw [show (((k - 1 : Nat) : Int)) = (k : Int) - 1 by omega] at e4
            have e5 := rdAtV hS.top.view (i := k - 1) (by omega)
            have e6 := tLess' (atV L (k - 1)).at_ (atV L k).at_ H.top
            rw [atS_map L (by omega : k - 1 < L.length)] at bad good
            simp only [h0, decide_false, Bool.false_or, Bool.true_and] at bad good
            cases hq : ltS (atV L (k - 1)).at_ (atV L k).at_ with
            | false =>
              rw [hq] at e6 bad
              simp -implicitDefEqProofs [B30_0, hvn, hvo, e0, hlt', h0, h0', e1, e2, e3, e4, e5, e6, hw, hw2]
              refine bad rfl _ ?_ ?_ <;> simp
            | true =>
              rw [hq] at e6 good
              simp -implicitDefEqProofs [B30_0, hvn, hvo, e0, hlt', h0, h0', e1, e2, e3, e4, e5, e6, hw, hw2]
              refine good rfl _ _ ?_ ?_ <;> simp
      · have hlt' : ¬ (k : Int) < L.length := by omega
        unfold celCh at *
        simp -implicitDefEqProofs [B30_0, hvn, hvo, e0, hlt']
        refine hX _ _ ?_
        exact ⟨rfl, .inl ⟨rfl, rightA_of fun j hj => hall j (by rw [List.length_map] at hj; omega), by simp⟩⟩)
    L.length ⟨[(1, .l 1 0), (3, .v (.int .i64 (0 : Nat)))], [(1, celCh v ⟨L, op, i⟩)], H.top⟩ (by simp) ⟨0, by omega, by omega, by simp⟩
  rw [q0] at hH
  simp only [toSt_eq, List.map_cons, List.map_nil, av_v, av_l, Int.natCast_zero] at f1
  have ez := eqIt i zIt
  have el := rLast hS.top (by omega) (.bool op :: celIt i) rfl
  have er := tRight' i.at_ H.top
  have es := tLess' (lastS L) i.at_ H.top
  unfold rightC atsC
  unfold eIt at ez
  unfold celCh at *
  unfold celIt zIt at *
  rcases q1 with ⟨rfl, hq, hk⟩ | ⟨rfl, hq, hk⟩
  · have hk := (hp [1] [1]).trans (congrArg SK.norm hk)
    cases op with
    | false =>
      simp only [Bool.false_eq_true, if_false, List.append_nil, hq, Bool.true_and, Bool.false_or]
      by_cases hz : i = ⟨⟨0, 0, [], 0, 0⟩, 0, (0, 0), [], false⟩
      · rw [decide_eq_true hz] at ez
        simp -implicitDefEqProofs [-e_agg, hvn, hvc, hvo, f1, hk, ez, eq_true hz, fin_pure]
      · rw [decide_eq_false hz] at ez
        simp -implicitDefEqProofs [-e_agg, hvn, hvc, hvo, f1, hk, ez, hz, fin_pure]
    | true =>
      simp only [if_true, rightA_append, hq, Bool.true_and, Bool.true_or, Bool.and_true]
      by_cases h0 : L = []
      · simp only [h0, if_true, ne_eq, not_true, decide_false] at el
        have : decide (L.map Ve.at_ = []) = true := by rw [h0]; rfl
        rw [this, Bool.true_or, Bool.and_true]
        cases hr : rightT i.at_ <;> rw [hr] at er <;> simp -implicitDefEqProofs [hvn, hvc, hvo, f1, hk, el, er, fin_pure]
      · simp only [h0, if_false, ne_eq, not_false_eq_true, decide_true] at el
        have : decide (L.map Ve.at_ = []) = false := by simp [h0]
        rw [this, Bool.false_or, lastS_at L h0]
        cases hr : rightT i.at_ <;> rw [hr] at er <;> simp -implicitDefEqProofs [hvn, hvc, hvo, f1, hk, el, er, es, fin_pure]
  · have hk := hr _ _ hk
    have hfalse : (rightA (L.map Ve.at_ ++ if op = true then [i.at_] else []) && (op || decide (i = ⟨⟨0, 0, [], 0, 0⟩, 0, (0, 0), [], false⟩))) = false := by
      cases op with
      | false => simp [hq]
      | true => simp only [if_true, rightA_append, hq, Bool.false_and]
    rw [hfalse]
    simp -implicitDefEqProofs [hvn, hvc, hvo, f1, hk, hH, fin_pure]
theorem rRefresh (hS : SV H 5 v (c.L.map rowVe)) (hl : c.L.length < 1000000000000) (hr : rightA (c.L.map Ve.at_) = true) (id : Int) (f t : Stp) :
    call T 24 [.agg (celCh v c), .int .i64 id, .agg [.int .i64 f.1, .int .i64 f.2], .agg [.int .i64 t.1, .int .i64 t.2]] H = some (.tuple [.agg (celMt (refreshC c id f t).1), .int .i64 (refreshC c id f t).2], H) := by
  refine okR_eq (call_evK (show T 24 = some (.ir ⟨_, _, _, _, _⟩) from T24) rfl rfl ?_)
  have eu := rUpto c.i.at_ t H.top
  have hvn := hS.view.noL
  have hvo := hS.ok
  have hv1 := hS.view.one
  have e0 := lenV hS.view
  obtain ⟨L, op, i⟩ := c
  simp only at hS hl e0 eu hr
  have mz : List AV := [.int .i64 0, .int .i64 0, .str [], .int .i64 0, .int .i64 0]
  obtain ⟨x, st, s', f1, ⟨q0, q1⟩, hp, hrr, hH⟩ := loopK (T := T) (L := L24_0) rfl
    (fun n s => ∃ k : Nat, k + n = L.length ∧ (∀ j, j < k → ¬ (uptoB (atV L j).at_ f = false ∧ uptoB (atV L j).at_ t = true)) ∧ s = ⟨[(4, .l 4 0), (6, .l 6 0), (7, .l 7 0), (8, .l 8 0), (10, .v (.int .i64 k))], [(4, celCh v ⟨L, op, i⟩), (6, [.int .i64 f.1, .int .i64 f.2]), (7, [.int .i64 t.1, .int .i64 t.2]), (8, [.int .i64 0, .int .i64 0, .str [], .int .i64 0, .int .i64 0])], H.top⟩)
    (fun x s => s.H = H.top ∧ ((x = .exit 0 ∧ ¬ aboveN L f < aboveN L t ∧ prK [8] [8] s = ⟨[(8, .l 8 0)], [(8, [.int .i64 0, .int .i64 0, .str [], .int .i64 0, .int .i64 0])], H.top⟩) ∨ (x = .ret ∧ aboveN L f < aboveN L t ∧ rvsK s [.cell 8 true 5, .tmp 9] = some [.agg [.int .i64 0, .int .i64 0, .str [], .int .i64 0, .int .i64 0], .int .i64 221])))
    (by
      rintro n _ ⟨k, hi, hall, rfl⟩ P hI hX hR
      by_cases hlt : k < L.length
      · have hlt' : (k : Int) < L.length := by omega
        have hw := wrap_id (n := (k : Int) + 1) (by omega) (by omega)
        have e1 := ixV hS.view hlt
        have e2 := rdAtV hS.top.view hlt
        have e3 := rUpto (atV L k).at_ f H.top
        have e4 := rUpto (atV L k).at_ t H.top
        have good : ¬ (uptoB (atV L k).at_ f = false ∧ uptoB (atV L k).at_ t = true) → ∀ e l, prune [4, 6, 7, 8, 10] e = [(4, .l 4 0), (6, .l 6 0), (7, .l 7 0), (8, .l 8 0), (10, .v (.int .i64 ((k : Int) + 1)))] → prune [4, 6, 7, 8] l = [(4, celCh v ⟨L, op, i⟩), (6, [.int .i64 f.1, .int .i64 f.2]), (7, [.int .i64 t.1, .int .i64 t.2]), (8, [.int .i64 0, .int .i64 0, .str [], .int .i64 0, .int .i64 0])] → P (.normal, ⟨e, l, H.top⟩) := fun h e l h1 h2 => hI _ _ _ (n - 1) (by omega) ⟨k + 1, by omega, fun j hj => by
          by_cases hji : j = k
          · subst hji; exact h
          · exact hall j (by omega), by rw [h1, h2]; simp⟩
        unfold celCh at *
        cases hf : uptoB (atV L k).at_ f with
        | true =>
          rw [hf] at e3 good
          simp -implicitDefEqProofs [B24_0, hvn, hvo, e0, hlt', e1, e2, e3, hw]
          refine good (by simp) _ _ ?_ ?_ <;> simp
        | false =>
          cases ht : uptoB (atV L k).at_ t with
          | true =>
            rw [hf] at e3
            rw [ht] at e4
            simp -implicitDefEqProofs [B24_0, hvn, hvo, e0, hlt', e1, e2, e3, e4, hw]
            refine hR _ ?_
            exact ⟨rfl, .inr ⟨rfl, (between_iff hr f t).1 ⟨k, hlt, hf, ht⟩, by simp⟩⟩
          | false =>
            rw [hf] at e3
            rw [ht] at e4 good
            simp -implicitDefEqProofs [B24_0, hvn, hvo, e0, hlt', e1, e2, e3, e4, hw]
            refine good (by simp) _ _ ?_ ?_ <;> simp
      · have hlt' : ¬ (k : Int) < L.length := by omega
        unfold celCh at *
        simp -implicitDefEqProofs [B24_0, hvn, hvo, e0, hlt']
        refine hX _ _ ?_
        exact ⟨rfl, .inl ⟨rfl, fun h => by obtain ⟨j, h1, h2, h3⟩ := (between_iff hr f t).2 h; exact hall j (by omega) ⟨h2, h3⟩, by simp⟩⟩)
    L.length ⟨[(4, .l 4 0), (6, .l 6 0), (7, .l 7 0), (8, .l 8 0), (10, .v (.int .i64 (0 : Nat)))], [(4, celCh v ⟨L, op, i⟩), (6, [.int .i64 f.1, .int .i64 f.2]), (7, [.int .i64 t.1, .int .i64 t.2]), (8, [.int .i64 0, .int .i64 0, .str [], .int .i64 0, .int .i64 0])], H.top⟩ (by simp) ⟨0, by omega, by omega, by simp⟩
  rw [q0] at hH
  simp only [toSt_eq, List.map_cons, List.map_nil, av_v, av_l, Int.natCast_zero] at f1
  unfold refreshC othI
  unfold celCh at *
  unfold celIt at *
  by_cases h2 : op = true ∧ ¬ i.m.id = id ∧ uptoB i.at_ t = true
  · obtain ⟨rfl, h2, h3⟩ := h2
    rw [h3] at eu
    simp -implicitDefEqProofs [hvn, h2, h3, eu, fin_pure, celMt]
  have ho : ∀ {P : Prop}, (op = false → P) → (op = true → i.m.id = id → P) → (op = true → ¬ i.m.id = id → uptoB i.at_ t = false → P) → P := fun {P} p1 p2 p3 => by
    cases op with
    | false => exact p1 rfl
    | true =>
      by_cases h4 : i.m.id = id
      · exact p2 rfl h4
      · refine p3 rfl h4 ?_
        cases hu : uptoB i.at_ t with | false => rfl | true => exact absurd ⟨rfl, h4, hu⟩ h2
  clear h2
  rcases q1 with ⟨rfl, hq, hk⟩ | ⟨rfl, hq, hk⟩
  · have hk := (hp [8] [8]).trans (congrArg SK.norm hk)
    refine ho (fun h => ?_) (fun h h' => ?_) (fun h h' h'' => ?_)
    · subst h; simp -implicitDefEqProofs [hvn, f1, hk, hq, fin_pure, celMt, zMt]
    · subst h; simp -implicitDefEqProofs [hvn, f1, hk, hq, eq_true h', fin_pure, celMt, zMt]
    · subst h; rw [h''] at eu; simp -implicitDefEqProofs [hvn, f1, hk, eu, hq, h', h'', fin_pure, celMt, zMt]
  · have hk := hrr _ _ hk
    refine ho (fun h => ?_) (fun h h' => ?_) (fun h h' h'' => ?_)
    · subst h; simp -implicitDefEqProofs [hvn, f1, hk, hH, hq, fin_pure, celMt, zMt]
    · subst h; simp -implicitDefEqProofs [hvn, f1, hk, hH, hq, eq_true h', fin_pure, celMt, zMt]
    · subst h; rw [h''] at eu; simp -implicitDefEqProofs [hvn, f1, hk, hH, eu, hq, h', h'', fin_pure, celMt, zMt]
end
end Go.Proofs.Ytkahfmgdjoaiiaa
