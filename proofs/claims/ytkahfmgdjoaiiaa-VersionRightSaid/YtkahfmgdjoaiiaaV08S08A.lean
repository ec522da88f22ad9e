/- VersionRight. No condition. -/
import Derived.Test.YtkahfmgdjoaiiaaV08S08Y
set_option linter.unusedVariables false
set_option linter.unusedSimpArgs false
namespace Go.Proofs.Ytkahfmgdjoaiiaa
open Go.Wam

attribute [local simp] seqK_normal seqK_exit seqK_ret blockK_normal blockK_exit blockK_ret condO_bool evK_skip evK_exit evK_ret evK_keep evK_cond evK_block evK_seq_seq evK_seq_cond evK_seq_block evK_seq_loop evK_seq_skip evK_seq_keep evK_seq_exit evK_seq_ret prK_eq toSt_eq av_l av_v valS_v valT_v valS_u av_u valO_tmp
  nl_eq nl_none nl_if nlR_eq boxC_eq stL_eq storeP_ptr loadP_ptr fldP_ptr idxP_ptr inN_int callN_func strV_str fillC_nil fillC_cons pickV_bool guardK_bool kB_eq chk_some ifaceV_eq funcV_eq natV_int notL_noL leaveK_ret leaveK_normal rvsK_nil rvsK_cons rvK_tmp rvC_l rvC_v rvK_cell enterK_eq ok_l ok_v ok_u norm_eq norm_l norm_v norm_u
  Go.Wam.look zipI prune packA rd undefA allNoL convI convS lenStr lenMap extA fldV idxStr idxAgg idxS_slice idxS_oslice unA beq_same beqL_same AV.beq AV.beqL sliceV nilC clearW
  strOp aeqF_nil aeqF_cons andA_some i_add i_sub i_mul i_lss i_leq i_gtr i_geq i_quo i_rem i_eql i_neq s_eql s_neq s_lss
  s_leq s_gtr s_geq s_add e_bool n_bool e_nilp n_nilp e_ptr n_ptr e_lptr n_lptr e_agg n_agg
  e_nils n_nils e_slice n_slice e_oslice n_oslice e_eslice n_eslice e_xslice n_xslice e_nilm n_nilm e_map n_map
  e_nilFunc n_nilFunc e_func n_func q_int q_bool q_str q_struct q_ptr0 q_ptrL0 q_ptrR0 q_ptrL1 q_ptrR1 q_slice0
  q_sliceL0 q_sliceR0 q_sliceL1 q_sliceR1 q_sliceL2 q_sliceR2 q_sliceL3 q_sliceR3 q_map0 q_mapL0 q_mapR0 q_func0 q_funcL0 q_funcR0
  okR_some get_alloc_eq rdAt_alloc_eq set_alloc_eq set_alloc_ne get_alloc_ne rdAt_alloc_ne
attribute [local congr] bind_cg guardK_cg kB_cg condO_cg evK_cg
theorem does_right {c : Ch} (h : rightC c = true) (a : Ac) : rightC (doesC c a) = true ∧ ((doesC c a).L = c.L ∨ ∃ x, (doesC c a).L = c.L ++ [x] ∧ (doesC c a).op = false ∧ c.op = true ∧ x.by_ = c.i.m.id) := by
  unfold doesC
  by_cases k1 : a.k = 1
  · rw [if_pos k1]
    by_cases h0 : (writeC c a.i).2.2.2 = 0
    · rw [if_pos h0]
      rcases write_is h h0 with ⟨e, _⟩ | ⟨s, e, s1, s2, s3, _⟩
      · rw [e]; exact ⟨h, .inl rfl⟩
      · rw [e]; exact ⟨right_new (rightC_L h) s1 s3, .inl rfl⟩
    · rw [if_neg h0]; exact ⟨h, .inl rfl⟩
  rw [if_neg k1]
  by_cases k2 : a.k = 2
  · rw [if_pos k2]
    by_cases h0 : (resolveC c a.id a.ep a.com a.s).2 = 0
    · rw [if_pos h0]
      rcases resolve_is h h0 with e | e | ⟨e, e1, e2, s1, s2⟩
      · rw [e]; exact ⟨h, .inl rfl⟩
      · rw [e]; exact ⟨right_none (rightC_L h), .inl rfl⟩
      · rw [e]; exact ⟨right_none (right_plus (x := ⟨a.s, c.i.val, c.i.gone, a.id⟩) (rightC_L h) s1 s2), .inr ⟨_, rfl, rfl, e1, e2.symm⟩⟩
    · rw [if_neg h0]; exact ⟨h, .inl rfl⟩
  rw [if_neg k2]
  exact ⟨h, .inl rfl⟩
def rowI (n : Int) : List AV := [.int .i64 n]
section
variable {K : AHeap} {u sv : AV} {S : List Int}
theorem ixI (hV : View K 1 sv (S.map rowI)) {i : Nat} (h : i < S.length) : idxS 1 sv (.int .i64 i) = some (.ptr (sid sv) (soff sv + i)) := by
  have := hV.idx .i64 (n := i) (by omega) (by rw [List.length_map]; omega)
  simpa using this
theorem rdI (hV : View K 1 sv (S.map rowI)) {i : Nat} (h : i < S.length) : K.rdAt (sid sv) false 1 (soff sv + i) = some (.int .i64 (S.getD i 0)) := by
  have e : S[i]? = some (S.getD i 0) := by rw [List.getD_eq_getElem?_getD, List.getElem?_eq_getElem h]; rfl
  have := hV.rd (i := i) (r := rowI (S.getD i 0)) (by rw [List.getElem?_map, e]; rfl) false (k := 1) (f := 0) (by omega) (by omega) (by simp)
  rw [Nat.add_zero, Nat.mul_one] at this
  rw [this]; rfl
theorem lnI (hV : View K 1 sv (S.map rowI)) : lenS sv = some (.int .i64 S.length) := by have := hV.lenS; rw [List.length_map] at this; exact this
end
section
variable {K : AHeap} {v w u sv : AV} {c d : Ch} {S : List Int}
theorem right_loop1 (hu : u.noL = true) (hsv : sv.noL = true) (k : Nat) (hV : SV K 5 v (c.L.map rowVe)) (hW : SV K 5 w (d.L.map rowVe)) (hle : c.L.length ≤ d.L.length) (hl : c.L.length < 1000000) (hpre : ∀ j, j < c.L.length → atV d.L j = atV c.L j) :
    ∃ x st s', den T (.loop L8_1) (SK.toSt ⟨[(0, .v u), (3, .l 3 0), (4, .v sv), (5, .v (.int .i64 k)), (6, .l 6 0), (7, .v (.int .i64 (0 : Nat)))], [(3, celCh w d), (6, celCh v c)], K⟩) = some (x, st) ∧
      (x = .exit 2 ∧ s'.H = K ∧ prK [0, 3, 4, 5, 6] [3, 6] s' = ⟨[(0, .v u), (3, .l 3 0), (4, .v sv), (5, .v (.int .i64 k)), (6, .l 6 0)], [(3, celCh w d), (6, celCh v c)], K⟩) ∧ (∀ ks ls, prK ks ls (ofSt st) = (prK ks ls s').norm) ∧ (∀ rs vs, rvsK s' rs = some vs → rvsK (ofSt st) rs = some vs) ∧ (ofSt st).H = s'.H := by
  have hvn := hV.view.noL
  have hwn := hW.view.noL
  have hvo := hV.ok
  have hwo := hW.ok
  have eln := lenV hV.view
  refine loopK (T := T) (L := L8_1) rfl
    (fun n s1 => ∃ j : Nat, j + n = c.L.length ∧ s1 = ⟨[(0, .v u), (3, .l 3 0), (4, .v sv), (5, .v (.int .i64 k)), (6, .l 6 0), (7, .v (.int .i64 j))], [(3, celCh w d), (6, celCh v c)], K⟩)
    (fun x s' => x = .exit 2 ∧ s'.H = K ∧ prK [0, 3, 4, 5, 6] [3, 6] s' = ⟨[(0, .v u), (3, .l 3 0), (4, .v sv), (5, .v (.int .i64 k)), (6, .l 6 0)], [(3, celCh w d), (6, celCh v c)], K⟩)
    ?_ c.L.length _ (by simp [hu, hsv]) ⟨0, by omega, by simp⟩
  rintro n _ ⟨j, hi, rfl⟩ P hI hX hR
  by_cases hlt : j < c.L.length
  · have hlt' : (j : Int) < c.L.length := by omega
    have hw := wrap_id (n := (j : Int) + 1) (by omega) (by omega)
    have e1 := ixV hV.view hlt
    have e2 := rdV hV.view hlt
    have e3 := ixV hW.view (i := j) (by omega)
    have e4 := rdV hW.view (i := j) (by omega)
    rw [hpre j hlt] at e4
    generalize atV c.L j = y at *
    simp only [celCh, celIt, rowVe] at *
    simp -implicitDefEqProofs [B8_1, hvn, hwn, hvo, hwo, hu, hsv, eln, hlt', hw, e1, e2, e3, e4]
    refine hI _ _ _ (n - 1) (by omega) ?_
    exact ⟨j + 1, by omega, by simp⟩
  · have hlt' : ¬ (j : Int) < c.L.length := by omega
    simp only [celCh, celIt, rowVe] at *
    simp -implicitDefEqProofs [B8_1, hvn, hwn, hvo, hwo, hu, hsv, eln, hlt']
    refine hX _ _ ?_
    exact ⟨rfl, rfl, by simp⟩
theorem any_take {S : List Int} {b : Int} {j : Nat} (h : j < S.length) : (S.take (j + 1)).any (fun x => decide (x = b)) = ((S.take j).any (fun x => decide (x = b)) || decide (S.getD j 0 = b)) := by
  rw [List.take_succ_eq_append_getElem h, List.any_append]
  have e : S.getD j 0 = S[j] := by rw [List.getD_eq_getElem?_getD, List.getElem?_eq_getElem h]; rfl
  rw [e]; simp
theorem right_loop2 (hu : u.noL = true) (k : Nat) (hV : SV K 5 v (c.L.map rowVe)) (hW : SV K 5 w (d.L.map rowVe)) (hI1 : SV K 1 sv (S.map rowI)) (hle : c.L.length < d.L.length) (hl : S.length < 1000000) :
    ∃ x st s', den T (.loop L8_2) (SK.toSt ⟨[(0, .v u), (3, .l 3 0), (4, .v sv), (5, .v (.int .i64 k)), (6, .l 6 0), (8, .v (.bool false)), (9, .v (.int .i64 (0 : Nat)))], [(3, celCh w d), (6, celCh v c)], K⟩) = some (x, st) ∧
      (x = .exit 4 ∧ s'.H = K ∧ prK [0, 3, 4, 5, 6, 8] [3, 6] s' = ⟨[(0, .v u), (3, .l 3 0), (4, .v sv), (5, .v (.int .i64 k)), (6, .l 6 0), (8, .v (.bool (S.any fun x => decide (x = (atV d.L c.L.length).by_))))], [(3, celCh w d), (6, celCh v c)], K⟩) ∧ (∀ ks ls, prK ks ls (ofSt st) = (prK ks ls s').norm) ∧ (∀ rs vs, rvsK s' rs = some vs → rvsK (ofSt st) rs = some vs) ∧ (ofSt st).H = s'.H := by
  have hvn := hV.view.noL
  have hwn := hW.view.noL
  have hvo := hV.ok
  have hwo := hW.ok
  have hso := hI1.ok
  have hsv := hI1.view.noL
  have eln := lenV hV.view
  have elI := lnI hI1.view
  have e3 := ixV hW.view (i := c.L.length) hle
  have e4 := rdByV hW.view (i := c.L.length) hle
  generalize (atV d.L c.L.length).by_ = y at *
  refine loopK (T := T) (L := L8_2) rfl
    (fun n s1 => ∃ j : Nat, j + n = S.length ∧ s1 = ⟨[(0, .v u), (3, .l 3 0), (4, .v sv), (5, .v (.int .i64 k)), (6, .l 6 0), (8, .v (.bool ((S.take j).any fun x => decide (x = y)))), (9, .v (.int .i64 j))], [(3, celCh w d), (6, celCh v c)], K⟩)
    (fun x s' => x = .exit 4 ∧ s'.H = K ∧ prK [0, 3, 4, 5, 6, 8] [3, 6] s' = ⟨[(0, .v u), (3, .l 3 0), (4, .v sv), (5, .v (.int .i64 k)), (6, .l 6 0), (8, .v (.bool (S.any fun x => decide (x = y))))], [(3, celCh w d), (6, celCh v c)], K⟩)
    ?_ S.length _ (by simp [hu, hsv]) ⟨0, by omega, by simp⟩
  rintro n _ ⟨j, hi, rfl⟩ P hI hX hR
  by_cases hlt : j < S.length
  · have hlt' : (j : Int) < S.length := by omega
    have hw := wrap_id (n := (j : Int) + 1) (by omega) (by omega)
    have e1 := ixI hI1.view hlt
    have e2 := rdI hI1.view hlt
    have et := any_take (b := y) hlt
    cases hb : (S.take j).any (fun x => decide (x = y)) with
    | true =>
      rw [hb] at et
      simp only [celCh, celIt, rowVe] at *
      simp -implicitDefEqProofs [B8_2, hvn, hwn, hvo, hwo, hu, hsv, hso, eln, elI, hlt', hw, e1, e2, e3, e4]
      refine hI _ _ _ (n - 1) (by omega) ?_
      exact ⟨j + 1, by omega, by rw [et]; simp⟩
    | false =>
      rw [hb] at et
      generalize S.getD j 0 = z at *
      simp only [celCh, celIt, rowVe] at *
      simp -implicitDefEqProofs [B8_2, hvn, hwn, hvo, hwo, hu, hsv, hso, eln, elI, hlt', hw, e1, e2, e3, e4]
      refine hI _ _ _ (n - 1) (by omega) ?_
      exact ⟨j + 1, by omega, by rw [et]; simp⟩
  · have hlt' : ¬ (j : Int) < S.length := by omega
    have ht : S.take j = S := List.take_of_length_le (by omega)
    rw [ht]
    simp only [celCh, celIt, rowVe] at *
    simp -implicitDefEqProofs [B8_2, hvn, hwn, hvo, hwo, hu, hsv, hso, eln, elI, hlt']
    refine hX _ _ ?_
    exact ⟨rfl, rfl, by simp⟩
structure RightInv (H : AHeap) (k : Nat) (v : AV) (c : Ch) (sv : AV) (S : List Int) (K : AHeap) : Prop where
  len : c.L.length ≤ k
  right : rightC c = true
  cv : SV K 5 v (c.L.map rowVe)
  ok : K.ok
  own : NewO H K 1 sv (S.map rowI)
  apart : 0 < c.L.length → sid v ∉ sown sv
  seen : c.op = true → c.i.m.id ∈ S
  few : S.length ≤ k
set_option maxHeartbeats 8000000 in
theorem right_loop {H : AHeap} {A : List Ac} (hok : H.ok) (hU : SV H 16 u (A.map rowAc)) :
    ∃ y st s', den T (.loop L8_0) (SK.toSt ⟨[(0, .v u), (3, .l 3 0), (4, .v .nils), (5, .v (.int .i64 (0 : Nat)))], [(3, celCh .nils zCh)], H⟩) = some (y, st) ∧
      (y = .exit 0 ∧ s'.H.ok ∧ Chg [] H s'.H) ∧ (∀ ks ls, prK ks ls (ofSt st) = (prK ks ls s').norm) ∧ (∀ rs vs, rvsK s' rs = some vs → rvsK (ofSt st) rs = some vs) ∧ (ofSt st).H = s'.H := by
  refine loopK (T := T) (L := L8_0) rfl
    (fun n s1 => ∃ (k : Nat) (v : AV) (c : Ch) (sv : AV) (S : List Int) (K : AHeap), k + n = 60 ∧ RightInv H k v c sv S K ∧ s1 = ⟨[(0, .v u), (3, .l 3 0), (4, .v sv), (5, .v (.int .i64 k))], [(3, celCh v c)], K⟩)
    (fun y s' => y = .exit 0 ∧ s'.H.ok ∧ Chg [] H s'.H)
    ?_ 60 _ (by simp [hU.view.noL]) ⟨0, .nils, zCh, .nils, [], H, by omega, ⟨by simp [zCh], rfl, .nil _ _, hok, .nil _ _, by simp [zCh], by simp [zCh], by simp⟩, by simp⟩
  rintro n _ ⟨k, v, c, sv, S, K, hi, ⟨hlen, hr, hV, hokK, hO, hap, hseen, hfew⟩, rfl⟩ P hI hX hR
  have hUK := hU.new hok.1 hO.chg
  have hun := hUK.view.noL
  have huo := hUK.ok
  have hu1 := hUK.view.one
  have hvn := hV.view.noL
  have hv1 := hV.view.one
  have hvo := hV.ok
  have hvc := hV.view.cells
  have hsn := hO.sv.view.noL
  have eln := lnA hUK.view
  by_cases hlt : k < A.length
  · have hlt' : (k : Int) < A.length := by omega
    by_cases h60 : k < 60
    · have h60' : (k : Int) < 60 := by omega
      have hw := wrap_id (n := (k : Int) + 1) (by omega) (by omega)
      have e1 := ixA hUK.view hlt
      have e2 := rdA hUK.view hlt
      obtain ⟨w, K1, e5, m1, m2, m3⟩ := vDoes hokK hV (by omega) (atA A k)
      obtain ⟨hr', hL⟩ := does_right hr (atA A k)
      have okK1 := m2.ok hokK
      have V1 := hV.new hokK.1 m2
      have O1 := hO.more hok m2
      have hap1 : 0 < (doesC c (atA A k)).L.length → sid w ∉ sown sv := by
        intro h0
        rcases m3 with ⟨rfl, e⟩ | h3
        · rw [e] at h0; exact hap h0
        · intro hin
          have := hO.own.lt hokK.1 _ hin
          have := h3 h0
          omega
      have hlen1 : c.L.length ≤ (doesC c (atA A k)).L.length ∧ (doesC c (atA A k)).L.length ≤ c.L.length + 1 := by
        rcases hL with e | ⟨x, e, _⟩ <;> rw [e] <;> simp
      have hpre : ∀ j, j < c.L.length → atV (doesC c (atA A k)).L j = atV c.L j := by
        intro j hj
        rcases hL with e | ⟨x, e, _⟩ <;> rw [e]
        exact atV_append hj
      clear m3
      have okA := okAc K.n (atA A k)
      generalize doesC c (atA A k) = d at *
      generalize atA A k = aa at *
      have e6 := vRight okK1 m1 (by omega)
      rw [hr'] at e6
      have wn := m1.view.noL
      have w1 := m1.view.one
      have wo := m1.ok
      have wc := m1.view.cells
      have ew := lenV m1.view
      have ev := lenV V1.view
      obtain ⟨x1, st1, s1, f1, ⟨rfl, q0, q1⟩, hp1, hr1, hH1⟩ := right_loop1 hun hsn k V1 m1 hlen1.1 (by omega) hpre
      simp only [toSt_eq, List.map_cons, List.map_nil, av_v, av_l, Int.natCast_zero] at f1
      have hk1 := (hp1 [0, 3, 4, 5, 6] [3, 6]).trans (congrArg SK.norm q1)
      rw [q0] at hH1
      have ht1 : ¬ ((d.L.length : Int) < c.L.length) := by omega
      have hw2 := wrap_id (n := (c.L.length : Int) + 1) (by omega) (by omega)
      have ht2 : ¬ ((d.L.length : Int) > (c.L.length : Int) + 1) := by omega
      cases hop : d.op with
      | true =>
        have hLe : d.L.length = c.L.length := by
          rcases hL with e | ⟨x, e, e1, _⟩
          · rw [e]
          · rw [hop] at e1; cases e1
        have ht3 : ¬ ((d.L.length : Int) > c.L.length) := by omega
        have ca := Chg.alloc K1 (.row false 1 (rowI d.i.m.id))
        have okA1 := ca.ok okK1
        have O2 := O1.more hok ca
        have hb : ((S.map rowI).length + [rowI d.i.m.id].length) * 8 ≤ 2 ^ 47 := by rw [List.length_map]; simp; omega
        obtain ⟨sv', L, ha, O3, svn⟩ := O2.append (bytes := 8) hok (one_view K1 1 (rowI d.i.m.id) rfl) (by omega) hb
        obtain ⟨sv2, L2, ha2, _, c1, n1, _, _⟩ := O2.own.append' (bytes := 8) okA1 (one_view K1 1 (rowI d.i.m.id) rfl) (by omega) hb
        obtain ⟨rfl, rfl⟩ := Prod.mk.inj (Option.some.inj (ha.symm.trans ha2))
        have okL := c1.ok okA1
        have mA := m1.new okK1.1 ca
        have mL : SV L 5 w (d.L.map rowVe) := ⟨mA.view.chg okA1.1 c1 (fun h => hap1 (by rw [List.length_map] at h; exact h)), okB_sl mA.view.sl mA.ok c1.le⟩
        have hap2 : 0 < d.L.length → sid w ∉ sown sv' := by
          intro h0 hin
          rcases n1 _ hin with h | h
          · exact hap1 h0 h
          · have := m1.view.lt okK1.1 (by rw [List.length_map]; exact h0)
            simp at h
            omega
        simp only [rowAc, rowI, celCh, celIt, rowVe, List.cons_append, List.nil_append] at *
        simp only [hop] at e5 e6 f1 hk1
        simp -implicitDefEqProofs [B8_0, eln, hun, huo, hu1, hvn, hv1, hvo, hvc, hsn, hlt', h60', hw, e1, e2, e5, e6, wn, w1, wo, wc, ew, ev, ht1, hw2, ht2, f1, hk1, hH1, ha, svn, ht3, okA]
        refine hI _ _ _ (n - 1) (by omega) ?_
        refine ⟨k + 1, w, d, sv', S ++ [d.i.m.id], L, by omega, ⟨by omega, hr', mL, okL, by simpa [rowI] using O3, hap2, fun _ => by simp, by simp; omega⟩, ?_⟩
        simp [celCh, celIt, hop]
      | false =>
        rcases hL with hLe | ⟨x, hLe, _, hcop, hby⟩
        · have hLe : d.L.length = c.L.length := by rw [hLe]
          have ht3 : ¬ ((d.L.length : Int) > c.L.length) := by omega
          simp only [rowAc, rowI, celCh, celIt, rowVe, List.cons_append, List.nil_append] at *
          simp only [hop] at e5 e6 f1 hk1
          simp -implicitDefEqProofs [B8_0, eln, hun, huo, hu1, hvn, hv1, hvo, hvc, hsn, hlt', h60', hw, e1, e2, e5, e6, wn, w1, wo, wc, ew, ev, ht1, hw2, ht2, f1, hk1, hH1, ht3, okA]
          refine hI _ _ _ (n - 1) (by omega) ?_
          refine ⟨k + 1, w, d, sv, S, K1, by omega, ⟨by omega, hr', m1, okK1, O1, hap1, fun h => (by rw [hop] at h; cases h), by omega⟩, ?_⟩
          simp [celCh, celIt, hop]
        · have hLn : d.L.length = c.L.length + 1 := by rw [hLe]; simp
          have ht3 : ((d.L.length : Int) > c.L.length) := by omega
          obtain ⟨x2, st2, s2, f2, ⟨rfl, q2, q3⟩, hp2, hr2, hH2⟩ := right_loop2 (S := S) hun k V1 m1 O1.sv (by omega) (by omega)
          simp only [toSt_eq, List.map_cons, List.map_nil, av_v, av_l, Int.natCast_zero] at f2
          have hany : (S.any fun z => decide (z = (atV d.L c.L.length).by_)) = true := by
            rw [List.any_eq_true]
            refine ⟨c.i.m.id, hseen hcop, ?_⟩
            rw [hLe, atV_last, hby]; simp
          rw [hany] at q3
          have hk2 := (hp2 [0, 3, 4, 5, 6, 8] [3, 6]).trans (congrArg SK.norm q3)
          rw [q2] at hH2
          simp only [rowAc, rowI, celCh, celIt, rowVe, List.cons_append, List.nil_append] at *
          simp only [hop, hcop] at e5 e6 f1 hk1 f2 hk2
          simp -implicitDefEqProofs [B8_0, eln, hun, huo, hu1, hvn, hv1, hvo, hvc, hsn, hlt', h60', hw, e1, e2, e5, e6, wn, w1, wo, wc, ew, ev, ht1, hw2, ht2, f1, hk1, hH1, ht3, okA, f2, hk2, hH2, hcop]
          refine hI _ _ _ (n - 1) (by omega) ?_
          refine ⟨k + 1, w, d, sv, S, K1, by omega, ⟨by omega, hr', m1, okK1, O1, hap1, fun h => (by rw [hop] at h; cases h), by omega⟩, ?_⟩
          simp [celCh, celIt, hop]
    · have h60' : ¬ (k : Int) < 60 := by omega
      simp -implicitDefEqProofs [B8_0, eln, hun, hsn, hlt', h60']
      refine hX _ _ ?_
      exact ⟨rfl, hokK, hO.chg⟩
  · have hlt' : ¬ (k : Int) < A.length := by omega
    simp -implicitDefEqProofs [B8_0, eln, hun, hsn, hlt']
    refine hX _ _ ?_
    exact ⟨rfl, hokK, hO.chg⟩
theorem nRight {H : AHeap} {A : List Ac} (hok : H.ok) (hU : SV H 16 u (A.map rowAc)) :
    call T 8 [u] H = some (.bool true, H) := by
  have hokT := AHeap.ok.top hok.1
  have hun := hU.view.noL
  have hu1 := hU.view.one
  have huc := hU.view.cells
  obtain ⟨x, st, s', f1, ⟨rfl, okK, hcg⟩, hp, hr, hH⟩ := right_loop hokT hU.top
  simp only [toSt_eq, List.map_cons, List.map_nil, av_v, av_l, Int.natCast_zero, celCh, celIt, zCh, zIt] at f1
  have hk : prK [] [] (ofSt st) = ⟨[], [], s'.H⟩ := (hp [] []).trans rfl
  have e2 := vAlive okK
  have hfin : Go.Wam.fin H (.bool true) s'.H = H := fin_drop' (by rw [hcg.low_eq]; simp) (by simp)
  refine okR_eq (call_evK (show T 8 = some (.ir ⟨_, _, _, _, _⟩) from T8) rfl (by simp [hun]) ?_)
  simp -implicitDefEqProofs [e2, f1, hk, hH, hun, hu1, huc, hfin]
theorem lawRight : Law T 8 [.slice 16 144 acSh] := by
  intro H ls hw hl ha
  obtain ⟨x, rfl, hx⟩ := args1 ha
  obtain ⟨u, A, rfl, hu⟩ := as_cells hw hx
  exact law_of (nRight ⟨hw, by omega⟩ hu)
end
end Go.Proofs.Ytkahfmgdjoaiiaa
