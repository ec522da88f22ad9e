/- Is a chain right? No condition. -/
import Derived.Test.YtkahfmgdjoaiiaaV08S08J
set_option linter.unusedVariables false
set_option linter.unusedSimpArgs false
namespace Go.Proofs.Ytkahfmgdjoaiiaa
open Go.Wam

attribute [local simp] seqK_normal seqK_exit seqK_ret blockK_normal blockK_exit blockK_ret condO_bool evK_skip evK_exit evK_ret evK_keep evK_cond evK_block evK_seq_seq evK_seq_cond evK_seq_block evK_seq_loop evK_seq_skip evK_seq_keep evK_seq_exit evK_seq_ret prK_eq toSt_eq av_l av_v valS_v valT_v valS_u av_u valO_tmp
  nl_eq nl_none nl_if nlR_eq boxC_eq stL_eq storeP_ptr loadP_ptr fldP_ptr idxP_ptr inN_int callN_func strV_str fillC_nil fillC_cons pickV_bool guardK_bool kB_eq chk_some ifaceV_eq funcV_eq natV_int notL_noL leaveK_ret leaveK_normal rvsK_nil rvsK_cons rvK_tmp rvC_l rvC_v rvK_cell enterK_eq ok_l ok_v ok_u norm_eq norm_l norm_v norm_u
  Go.Wam.look zipI prune packA rd undefA allNoL convI convS lenStr lenMap extA fldV idxStr idxAgg idxS_slice idxS_oslice unA beq_same beqL_same AV.beq AV.beqL sliceV nilC clearW
  strOp aeqF_nil aeqF_cons andA_some i_add i_sub i_mul i_lss i_leq i_gtr i_geq i_quo i_rem i_eql i_neq s_eql s_neq s_lss
  s_leq s_gtr s_geq s_add e_bool n_bool e_nilp n_nilp e_ptr n_ptr e_lptr n_lptr e_agg n_agg
  e_nils n_nils e_slice n_slice e_oslice n_oslice e_eslice n_eslice e_xslice n_xslice e_nilm n_nilm e_map n_map
  e_nilFunc n_nilFunc e_func n_func q_int q_bool q_str q_struct q_ptr0 q_ptrL0 q_ptrR0 q_ptrL1 q_ptrR1 q_slice0
  q_sliceL0 q_sliceR0 q_sliceL1 q_sliceR1 q_sliceL2 q_sliceR2 q_sliceL3 q_sliceR3 q_map0 q_mapL0 q_mapR0 q_func0 q_funcL0 q_funcR0
  okR_some get_alloc_eq rdAt_alloc_eq set_alloc_eq set_alloc_ne get_alloc_ne rdAt_alloc_ne
attribute [local congr] bind_cg guardK_cg kB_cg condO_cg evK_cg
def rowSt (s : Stp) : List AV := [.int .i64 s.1, .int .i64 s.2]
def atS (A : List Stp) (k : Nat) : Stp := (A[k]?).getD (0, 0)
theorem atS_get {A : List Stp} {k : Nat} (h : k < A.length) : A[k]? = some (atS A k) := by unfold atS; rw [List.getElem?_eq_getElem h]; rfl
def okAt (A : List Stp) (j : Nat) : Bool := rightT (atS A j) && (decide (j = 0) || ltS (atS A (j - 1)) (atS A j))
def rightA (A : List Stp) : Bool := (List.range A.length).all (okAt A)
def atsC (c : Ch) : List Stp := c.L.map Ve.at_ ++ (if c.op = true then [c.i.at_] else [])
def rightC (c : Ch) : Bool := rightA (atsC c) && (c.op || decide (c.i = zIt))
theorem rightA_of {A : List Stp} (h : ∀ j, j < A.length → okAt A j = true) : rightA A = true := by
  unfold rightA; rw [List.all_eq_true]; intro j hj; exact h j (List.mem_range.1 hj)
theorem rightA_not {A : List Stp} {j : Nat} (hj : j < A.length) (h : okAt A j = false) : rightA A = false := by
  unfold rightA
  cases hq : (List.range A.length).all (okAt A) with
  | false => rfl
  | true => rw [List.all_eq_true] at hq; rw [hq j (List.mem_range.2 hj)] at h; cases h
section
variable {K : AHeap} {u : AV} {A : List Stp}
theorem ixS (hV : View K 2 u (A.map rowSt)) {i : Nat} (h : i < A.length) : idxS 2 u (.int .i64 i) = some (.ptr (sid u) (soff u + i * 2)) := by
  have := hV.idx .i64 (n := i) (by omega) (by rw [List.length_map]; omega)
  simpa using this
theorem rdS (hV : View K 2 u (A.map rowSt)) {i : Nat} (h : i < A.length) : K.rdAt (sid u) true 2 (soff u + i * 2) = some (.agg [.int .i64 (atS A i).1, .int .i64 (atS A i).2]) := by
  have := hV.rd (i := i) (r := rowSt (atS A i)) (by rw [List.getElem?_map, atS_get h]; rfl) true (k := 2) (f := 0) (by omega) (by omega) (by simp)
  rw [Nat.add_zero] at this; exact this
theorem lnS (hV : View K 2 u (A.map rowSt)) : lenS u = some (.int .i64 A.length) := by have := hV.lenS; rw [List.length_map] at this; exact this
end
section
variable {H : AHeap} {v : AV} {L : List Ve} {cs : List AV}
/-- The stamps of a list, gathered. -/
theorem vRight1 (hok : H.ok) (hS : SV H 5 v (L.map rowVe)) (hl : L.length < 1000000000000) (u0 : AV) (K0 : AHeap) (m0 : NewO H K0 2 u0 []) :
    ∃ x st s', den T (.loop L28_0) (SK.toSt ⟨[(1, .l 1 0), (3, .v u0), (10, .v v), (11, .v (.int .i64 L.length)), (12, .v (.int .i64 0))], [(1, cs)], K0⟩) = some (x, st) ∧
      (x = .exit 0 ∧ ∃ u K, NewO H K 2 u ((L.map Ve.at_).map rowSt) ∧ prK [1, 3] [1] s' = ⟨[(1, .l 1 0), (3, .v u)], [(1, cs)], K⟩) ∧ (∀ ks ls, prK ks ls (ofSt st) = (prK ks ls s').norm) ∧ (∀ rs vs, rvsK s' rs = some vs → rvsK (ofSt st) rs = some vs) ∧ (ofSt st).H = s'.H := by
  have hvn := hS.view.noL
  refine loopK (T := T) (L := L28_0) rfl
    (fun n s => ∃ (i : Nat) (u : AV) (K : AHeap), i + n = L.length ∧ NewO H K 2 u (((L.take i).map Ve.at_).map rowSt) ∧ s = ⟨[(1, .l 1 0), (3, .v u), (10, .v v), (11, .v (.int .i64 L.length)), (12, .v (.int .i64 i))], [(1, cs)], K⟩)
    (fun x s' => x = .exit 0 ∧ ∃ u K, NewO H K 2 u ((L.map Ve.at_).map rowSt) ∧ prK [1, 3] [1] s' = ⟨[(1, .l 1 0), (3, .v u)], [(1, cs)], K⟩)
    ?_ L.length _ (by simp [hvn, m0.sv.view.noL]) ⟨0, u0, K0, by omega, by simpa using m0, by simp⟩
  rintro n _ ⟨i, u, K, hi, m, rfl⟩ P hI hX hR
  have hK := hS.new hok.1 m.chg
  by_cases hlt : i < L.length
  · have hlt' : (i : Int) < L.length := by omega
    have hw := wrap_id (n := (i : Int) + 1) (by omega) (by omega)
    have e1 := ixV hK.view hlt
    have e2 := rdV hK.view hlt
    have m1 := m.more hok (.alloc K (.row false 2 (rowSt (atV L i).at_)))
    obtain ⟨u2, K2, ha, m2, u2n⟩ := m1.append (bytes := 16) hok (one_view K 2 (rowSt (atV L i).at_) rfl) (by omega) (by rw [List.length_map, List.length_map, List.length_take]; simp; omega)
    have un := m.sv.view.noL
    unfold rowVe at e2
    unfold rowSt at ha
    simp -implicitDefEqProofs [B28_0, hlt', e1, e2, ha, u2n, un, hw]
    refine hI _ _ _ (n - 1) (by omega) ?_
    refine ⟨i + 1, u2, K2, by omega, ?_, by simp⟩
    have : (L.take (i + 1)).map Ve.at_ = (L.take i).map Ve.at_ ++ [(atV L i).at_] := by
      rw [List.take_succ_eq_append_getElem hlt, List.map_append, atV_eq hlt]; rfl
    rw [this, List.map_append]
    exact m2
  · have hlt' : ¬ (i : Int) < L.length := by omega
    simp -implicitDefEqProofs [B28_0, hlt']
    refine hX _ _ ?_
    have : L.take i = L := List.take_of_length_le (by omega)
    rw [this] at m
    exact ⟨rfl, u, K, m, by simp⟩
end
section
variable {K : AHeap} {u : AV} {A : List Stp} {cs : List AV}
/-- Whether all are right, and rise. -/
theorem vRight2 (hS : SV K 2 u (A.map rowSt)) (hl : A.length < 2000000000000) :
    ∃ x st s', den T (.loop L28_1) (SK.toSt ⟨[(1, .l 1 0), (3, .v u), (30, .v u), (31, .v (.int .i64 A.length)), (32, .v (.int .i64 0))], [(1, cs)], K⟩) = some (x, st) ∧
      (s'.H = K ∧ ((x = .exit 2 ∧ rightA A = true ∧ prK [1] [1] s' = ⟨[(1, .l 1 0)], [(1, cs)], K⟩) ∨ (x = .ret ∧ rightA A = false ∧ rvsK s' [.tmp 2] = some [.bool false]))) ∧ (∀ ks ls, prK ks ls (ofSt st) = (prK ks ls s').norm) ∧ (∀ rs vs, rvsK s' rs = some vs → rvsK (ofSt st) rs = some vs) ∧ (ofSt st).H = s'.H := by
  have un := hS.view.noL
  refine loopK (T := T) (L := L28_1) rfl
    (fun n s => ∃ (i : Nat), i + n = A.length ∧ (∀ j, j < i → okAt A j = true) ∧ s = ⟨[(1, .l 1 0), (3, .v u), (30, .v u), (31, .v (.int .i64 A.length)), (32, .v (.int .i64 i))], [(1, cs)], K⟩)
    (fun x s' => s'.H = K ∧ ((x = .exit 2 ∧ rightA A = true ∧ prK [1] [1] s' = ⟨[(1, .l 1 0)], [(1, cs)], K⟩) ∨ (x = .ret ∧ rightA A = false ∧ rvsK s' [.tmp 2] = some [.bool false])))
    ?_ A.length _ (by simp [un]) ⟨0, by omega, by omega, by simp⟩
  rintro n _ ⟨i, hi, hall, rfl⟩ P hI hX hR
  by_cases hlt : i < A.length
  · have hlt' : (i : Int) < A.length := by omega
    have hw := wrap_id (n := (i : Int) + 1) (by omega) (by omega)
    have e1 := ixS hS.view hlt
    have e2 := rdS hS.view hlt
    have e3 := tRight (atS A i) K
    have bad : okAt A i = false → ∀ s', rvsK s' [.tmp 2] = some [.bool false] → s'.H = K → P (.ret, s') := fun h s' h1 h2 => hR _ ⟨h2, .inr ⟨rfl, rightA_not hlt h, h1⟩⟩
    have good : okAt A i = true → ∀ e l, prune [1, 3, 30, 31, 32] e = [(1, .l 1 0), (3, .v u), (30, .v u), (31, .v (.int .i64 A.length)), (32, .v (.int .i64 ((i : Int) + 1)))] → prune [1] l = [(1, cs)] → P (.normal, ⟨e, l, K⟩) := fun h e l h1 h2 => hI _ _ _ (n - 1) (by omega) ⟨i + 1, by omega, fun j hj => by
      by_cases hji : j = i
      · subst hji; exact h
      · exact hall j (by omega), by rw [h1, h2]; simp⟩
    unfold okAt at bad good
    cases hr : rightT (atS A i) with
    | false =>
      rw [hr] at e3 bad
      simp -implicitDefEqProofs [B28_1, hlt', e1, e2, e3, un, hw]
      refine bad rfl _ ?_ ?_ <;> simp
    | true =>
      rw [hr] at e3 bad good
      by_cases h0 : i = 0
      · have h0' : ¬ 0 < i := by omega
        have good := good (by simp [h0])
        clear h0
        simp -implicitDefEqProofs [B28_1, hlt', h0', e1, e2, e3, un, hw]
        refine good _ _ ?_ ?_ <;> simp
      · have h0' : 0 < i := by omega
        have hw2 := wrap_id (n := (i : Int) - 1) (by omega) (by omega)
        have e4 := ixS hS.view (i := i - 1) (by omega)
        rw [show (((i - 1 : Nat) : Int)) = (i : Int) - 1 by omega] at e4
        have e5 := rdS hS.view (i := i - 1) (by omega)
        have e6 := tLess (atS A (i - 1)) (atS A i) K
        simp only [h0, decide_false, Bool.false_or, Bool.true_and] at bad good
        cases hq : ltS (atS A (i - 1)) (atS A i) with
        | false =>
          rw [hq] at e6 bad
          simp -implicitDefEqProofs [B28_1, hlt', h0, h0', e1, e2, e3, e4, e5, e6, un, hw, hw2]
          refine bad rfl _ ?_ ?_ <;> simp
        | true =>
          rw [hq] at e6 good
          simp -implicitDefEqProofs [B28_1, hlt', h0, h0', e1, e2, e3, e4, e5, e6, un, hw, hw2]
          refine good rfl _ _ ?_ ?_ <;> simp
  · have hlt' : ¬ (i : Int) < A.length := by omega
    simp -implicitDefEqProofs [B28_1, hlt']
    refine hX _ _ ?_
    exact ⟨rfl, .inl ⟨rfl, rightA_of fun j hj => hall j (by omega), by simp⟩⟩
end
section
variable {H : AHeap} {v : AV} {c : Ch}
set_option maxHeartbeats 8000000 in
theorem vRight (hok : H.ok) (hS : SV H 5 v (c.L.map rowVe)) (hl : c.L.length < 1000000000000) :
    call T 28 [.agg (celCh v c)] H = some (.bool (rightC c), H) := by
  have hokT := AHeap.ok.top hok.1
  have hvn := hS.view.noL
  have hvc := hS.view.cells
  have e0 := lenV hS.view
  refine okR_eq (call_evK (show T 28 = some (.ir ⟨_, _, _, _, _⟩) from T28) rfl rfl ?_)
  have cA := Chg.alloc H.top (.row false 2 [])
  have okA := cA.ok hokT
  have m0 : NewO H.top (H.top.alloc (.row false 2 [])) 2 (.slice H.n 0 0 0) [] := ⟨⟨⟨⟨rfl, rfl, fun r hr => (by cases hr), fun h => (by simp at h)⟩, by simp [AV.okB]⟩, cA, fun h => by simp at h⟩, .lit _ _ _, by simp⟩
  obtain ⟨x1, st1, s1, f1, ⟨rfl, u, K, m, hk1⟩, hp1, _, _⟩ := vRight1 (cs := celCh v c) hokT hS.top hl _ _ m0
  have hk1 := (hp1 [1, 3] [1]).trans (congrArg SK.norm hk1)
  simp only [toSt_eq, List.map_cons, List.map_nil, av_v, av_l] at f1
  have un := m.sv.view.noL
  obtain ⟨L, op, i⟩ := c
  simp only at hS hl e0 m
  have fin2 : ∀ (A : List Stp) (u : AV) (K : AHeap), NewO H.top K 2 u (A.map rowSt) → A = atsC ⟨L, op, i⟩ → A.length < 2000000000000 → ∃ x st s', den T (.loop L28_1) ⟨[(1, .lptr 1 0), (3, u), (30, u), (31, .int .i64 A.length), (32, .int .i64 0)], [(1, celCh v ⟨L, op, i⟩)], K⟩ = some (x, st) ∧ (s'.H = K ∧ ((x = .exit 2 ∧ rightA A = true ∧ prK [1] [1] s' = ⟨[(1, .l 1 0)], [(1, celCh v ⟨L, op, i⟩)], K⟩) ∨ (x = .ret ∧ rightA A = false ∧ rvsK s' [.tmp 2] = some [.bool false]))) ∧ (∀ ks ls, prK ks ls (ofSt st) = (prK ks ls s').norm) ∧ (∀ rs vs, rvsK s' rs = some vs → rvsK (ofSt st) rs = some vs) ∧ (ofSt st).H = s'.H := fun A u K m _ hl => vRight2 (cs := celCh v ⟨L, op, i⟩) m.sv hl
  have hfin : ∀ (b : Bool) (K : AHeap), Chg [] H.top K → Go.Wam.fin H (.bool b) K = H := fun b K c => fin_drop' (by rw [c.low_eq]; simp) (by simp)
  have ez := eqIt i zIt
  unfold rightC
  unfold eIt at ez
  have hl1 : (L.map Ve.at_).length = L.length := List.length_map ..
  cases op with
  | false =>
    have hat : L.map Ve.at_ = atsC ⟨L, false, i⟩ := by simp [atsC]
    obtain ⟨x2, st2, s2, f2, ⟨q0, q1⟩, hp2, hr2, hH2⟩ := fin2 _ u K m hat (by omega)
    rw [q0] at hH2
    rw [← hat]
    have en := lnS m.sv.view
    have hf := hfin
    rw [hl1] at en f2
    unfold celCh celIt zIt at *
    rcases q1 with ⟨rfl, hq, hk⟩ | ⟨rfl, hq, hk⟩
    · have hk := (hp2 [1] [1]).trans (congrArg SK.norm hk)
      rw [hq]
      by_cases hz : i = ⟨⟨0, 0, [], 0, 0⟩, 0, (0, 0), [], false⟩
      · rw [decide_eq_true hz] at ez
        simp -implicitDefEqProofs [-e_agg, hvn, hvc, e0, f1, hk1, un, en, f2, hk, ez, eq_true hz, hf _ _ m.chg]
      · rw [decide_eq_false hz] at ez
        simp -implicitDefEqProofs [-e_agg, hvn, hvc, e0, f1, hk1, un, en, f2, hk, ez, hz, hf _ _ m.chg]
    · have hk := hr2 _ _ hk
      rw [hq]
      simp -implicitDefEqProofs [hvn, hvc, e0, f1, hk1, un, en, f2, hk, hH2, hf _ _ m.chg]
  | true =>
    have m1 := m.more hokT (.alloc K (.row false 2 (rowSt i.at_)))
    obtain ⟨u2, K2, ha, m2, u2n⟩ := m1.append (bytes := 16) hokT (one_view K 2 (rowSt i.at_) rfl) (by omega) (by rw [List.length_map, List.length_map]; simp; omega)
    have hat : L.map Ve.at_ ++ [i.at_] = atsC ⟨L, true, i⟩ := by simp [atsC]
    have m2' : NewO H.top K2 2 u2 ((L.map Ve.at_ ++ [i.at_]).map rowSt) := by rw [List.map_append]; exact m2
    obtain ⟨x2, st2, s2, f2, ⟨q0, q1⟩, hp2, hr2, hH2⟩ := fin2 _ u2 K2 m2' hat (by rw [List.length_append, hl1]; simp; omega)
    rw [q0] at hH2
    rw [← hat]
    have en := lnS m2'.sv.view
    have hf := hfin
    unfold rowSt at ha
    unfold celCh celIt zIt at *
    generalize (L.map Ve.at_ ++ [i.at_]).length = len at *
    rcases q1 with ⟨rfl, hq, hk⟩ | ⟨rfl, hq, hk⟩
    · have hk := (hp2 [1] [1]).trans (congrArg SK.norm hk)
      rw [hq]
      simp -implicitDefEqProofs [-e_agg, hvn, hvc, e0, f1, hk1, un, ha, u2n, en, f2, hk, hf _ _ m2.chg]
    · have hk := hr2 _ _ hk
      rw [hq]
      simp -implicitDefEqProofs [hvn, hvc, e0, f1, hk1, un, ha, u2n, en, f2, hk, hH2, hf _ _ m2.chg]
end
end Go.Proofs.Ytkahfmgdjoaiiaa
