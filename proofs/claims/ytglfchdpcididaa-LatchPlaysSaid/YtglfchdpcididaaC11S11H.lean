/- The statement LatchEnds, in our machine. No condition. -/
import Derived.Test.YtglfchdpcididaaC11S11G
set_option linter.unusedVariables false
set_option linter.unusedSimpArgs false
namespace Go.Proofs.Ytglfchdpcididaa
open Go.Wam

attribute [local simp] den_seq den_region den_regionD0 den_regionD1 den_condB condB_bool den_block den_keep den_ret den_skip den_exit sops_cons sops_nil sopsR_cons sopsR_nil goR_eq readOk trace_cons trace_nil Opd.ev evs Go.Wam.look St.put enterA zipI leaveR_ret leaveR_normal rvs RV.ev
  st_guard guardB_bool st_move st_pick pickB_bool st_allocL st_alloc st_boxL st_box st_build st_buildSlice st_load st_store st_nilCheck nilC st_bin st_un st_convI convI st_convS convS st_convB convB st_mkIface st_mkFunc st_mkMap st_mkSlice mkSl st_slice st_fieldAddr fldA st_field fldV st_idx idxS_slice idxS_oslice st_idxArr idxArr st_idxStr idxStr st_idxAgg idxAgg st_extract extA st_call callA_func st_len st_lenStr lenStr st_lenArr st_lenMap st_append st_clear clearV st_maxs st_mins
  load_ptr load_lptr storeA rd wr goOn_normal goOn_exit goOn_ret outBlock_normal outBlock_exit outBlock_ret prune freeL_nil freeL_cons frV_lptr frV_tuple frV_noL fillA allNoL packA unA checkAt ev_load wantedA beq_same beqL_same AV.beq AV.beqL drawCond freshD readsOk isRead undefA optInt optIntO
  strOp aeqF_nil aeqF_cons andA_some i_add i_sub i_mul i_lss i_leq i_gtr i_geq i_quo i_rem i_eql i_neq s_eql s_neq s_lss
  s_leq s_gtr s_geq s_add e_bool n_bool e_nilp n_nilp e_ptr n_ptr e_lptr n_lptr e_agg n_agg
  e_nils n_nils e_slice n_slice e_oslice n_oslice e_eslice n_eslice e_xslice n_xslice e_nilm n_nilm e_map n_map
  e_nilFunc n_nilFunc e_func n_func q_int q_bool q_str q_struct q_ptr0 q_ptrL0 q_ptrR0 q_ptrL1 q_ptrR1 q_slice0
  q_sliceL0 q_sliceR0 q_sliceL1 q_sliceR1 q_sliceL2 q_sliceR2 q_sliceL3 q_sliceR3 q_map0 q_mapL0 q_mapR0 q_func0 q_funcL0 q_funcR0
  okR_some guardB_tuple get_alloc_eq rdAt_alloc_eq set_alloc_eq set_alloc_ne get_alloc_ne rdAt_alloc_ne
/-! ## Scripts -/
structure ActIn where
  a : Act
  xv : AV
def rowIn (p : ActIn) : List AV := rowAct p.a p.xv
structure Script (H : AHeap) (v : AV) (ps : List ActIn) : Prop where
  view : View H 4 v (ps.map rowIn)
  each : ∀ p ∈ ps, Sps H p.xv p.a.x
theorem script_of {H : AHeap} {v : AV} {rows : List (List AV)} (hv : IsSl H 4 v rows) (h : ∀ r ∈ rows, IsC H act11Sh r) : ∃ ps : List ActIn, Script H v ps := by
  have key : ∀ rows : List (List AV), (∀ r ∈ rows, IsC H act11Sh r) → ∃ ps : List ActIn, rows = ps.map rowIn ∧ ∀ p ∈ ps, Sps H p.xv p.a.x := by
    intro rows
    induction rows with
    | nil => intro _; exact ⟨[], rfl, by simp⟩
    | cons r rows ih =>
      intro h
      obtain ⟨ps, h1, h2⟩ := ih fun r hr => h r (by simp [hr])
      obtain ⟨a, xv, h3, h4⟩ := act_of (h r (by simp))
      exact ⟨⟨a, xv⟩ :: ps, by rw [h1, h3]; rfl, by simp [h4]; exact h2⟩
  obtain ⟨ps, rfl, h2⟩ := key rows h
  exact ⟨ps, hv.view, h2⟩
theorem Script.new {H K : AHeap} {v : AV} {ps : List ActIn} (hw : H.wf) (h : Script H v ps) (c : Chg [] H K) : Script K v ps :=
  ⟨h.view.new hw c, fun p hp => (h.each p hp).chg hw c (by simp)⟩
theorem Script.top {H : AHeap} {v : AV} {ps : List ActIn} (h : Script H v ps) : Script H.top v ps := ⟨h.view.top, fun p hp => (h.each p hp).top⟩

/-- An act, to the claims. -/
def actL (L : List Cl) (a : Act) : List Cl := if fitsB a.x = true then (if a.k = 1 then claimL L a.n a.x a.w else if a.k = 2 then dropL L a.n else L) else L
def runL (L : List Cl) (l : List Act) : List Cl := l.foldl actL L
/-- Claims have numbers of their own. -/
def Own1 (L : List Cl) : Prop := (L.map (·.n)).Nodup
theorem claimL_own {L : List Cl} {n : Int} {x : List Sp} {w : Bool} (h : Own1 L) : Own1 (claimL L n x w) := by
  unfold claimL
  split
  · rename_i he
    obtain ⟨h1, _⟩ := claimE_ok he
    unfold Own1 at *
    rw [List.map_append, List.nodup_append]
    refine ⟨h, by simp, ?_⟩
    intro a ha b hb e
    simp at hb
    subst hb
    obtain ⟨c, hc, rfl⟩ := List.mem_map.1 ha
    have := List.any_eq_false.1 h1 c hc
    simp at this
    exact this e
  · exact h
theorem dropL_own {L : List Cl} {n : Int} (h : Own1 L) : Own1 (dropL L n) := by
  unfold dropL
  split
  · unfold Own1 at *
    rename_i i _
    rw [List.eraseIdx_eq_take_drop_succ, List.map_append, List.map_take, List.map_drop, ← List.eraseIdx_eq_take_drop_succ]
    exact h.eraseIdx i
  · exact h
theorem claimL_len (L : List Cl) (n : Int) (x : List Sp) (w : Bool) : (claimL L n x w).length ≤ L.length + 1 := by unfold claimL; split <;> simp
theorem dropL_len (L : List Cl) (n : Int) : (dropL L n).length ≤ L.length := by
  unfold dropL
  split
  · exact List.length_eraseIdx_le _ _
  · exact Nat.le_refl _
theorem actL_own {L : List Cl} {a : Act} (h : Own1 L) : Own1 (actL L a) := by
  unfold actL
  (repeat' split) <;> first | exact claimL_own h | exact dropL_own h | exact h
theorem actL_len (L : List Cl) (a : Act) : (actL L a).length ≤ L.length + 1 := by
  unfold actL
  have h1 := claimL_len L a.n a.x a.w
  have h2 := dropL_len L a.n
  (repeat' split) <;> omega

/-- Where a claim lies. -/
theorem own_find {L : List Cl} (h : Own1 L) {i : Nat} {a : Cl} (hi : L[i]? = some a) : dropI L a.n = some i := by
  unfold dropI
  rw [List.findIdx?_eq_some_iff_getElem]
  obtain ⟨h1, h2⟩ := List.getElem?_eq_some_iff.1 hi
  refine ⟨h1, by simp [h2], fun j hj => ?_⟩
  simp only [decide_eq_true_eq]
  intro e
  have e2 : (L.map (·.n))[j]'(by simp; omega) = (L.map (·.n))[i]'(by simp; omega) := by simp [e, h2]
  have h' : (L.map (·.n)).Nodup := h
  have := (List.getElem_inj h').1 e2
  omega
theorem own_free {L : List Cl} (h : Own1 L) {i : Nat} {a : Cl} (hi : L[i]? = some a) : freeP L a.n = decide (aheadC L i = 0) := by
  have := own_find h hi
  unfold freeP
  unfold dropI at this
  rw [this]
theorem ahead0 (L : List Cl) : aheadC L 0 = 0 := by unfold aheadC; split <;> simp
/-- The first claim is free. -/
theorem first_free {L : List Cl} (h : Own1 L) {a : Cl} (hi : L[0]? = some a) : freeP L a.n = true := by rw [own_free h hi, ahead0]; rfl
/-- What is told to be free is. -/
theorem freed_free {L : List Cl} (h : Own1 L) {n : Int} {a : Cl} (ha : a ∈ dropF L n) : freeP (dropL L n) a.n = true := by
  unfold dropF at ha
  cases hd : dropI L n with
  | none => rw [hd] at ha; cases ha
  | some i =>
    rw [hd] at ha
    have hi := dropI_lt hd
    simp only [List.getElem?_eq_getElem hi] at ha
    unfold freedTo at ha
    rw [List.mem_filterMap] at ha
    obtain ⟨j, hj, ha⟩ := ha
    rw [List.mem_range'_1] at hj
    have hjL : j < L.length := by omega
    rw [List.getElem?_eq_getElem hjL] at ha
    simp only at ha
    split at ha
    · rename_i hc
      cases ha
      have hown := dropL_own (n := n) h
      have hL : dropL L n = L.eraseIdx i := by unfold dropL; rw [hd]
      rw [hL] at hown ⊢
      have hg : (L.eraseIdx i)[j - 1]? = some L[j] := by
        rw [List.getElem?_eraseIdx, if_neg (by omega), show j - 1 + 1 = j by omega, List.getElem?_eq_getElem hjL]
      rw [own_free hown hg]
      have := aheadC_erase_ge (L := L) (i := i) (k := j - 1) hi (by omega) (by omega)
      simp only [show j - 1 + 1 = j by omega, hc.1, hc.2, if_true] at this
      exact decide_eq_true (by omega)
    · cases ha

section
variable {H K : AHeap} {l : Nat} {v : AV} {ps : List ActIn}
/-- The script is gone through. -/
theorem ends_loop0 (hok : H.ok) (hs : Script H v ps) (u : AV) (hu : u.noL = true) (h : LatIn H K l []) :
    ∃ x s', den T (.loop L10_0) ⟨[(0, v), (1, u), (5, .ptr l 0), (6, .int .i64 0)], [], K⟩ = some (x, s') ∧
      x = .exit 0 ∧ Go.Wam.look 1 s'.env = some u ∧ Go.Wam.look 5 s'.env = some (.ptr l 0) ∧ ∃ L, L.length ≤ 60 ∧ Own1 L ∧ LatIn H s'.H l L := by
  refine loop_inv (I := fun m st => ∃ (i : Nat) (K : AHeap) (L : List Cl), i + m = 60 ∧ st = ⟨[(0, v), (1, u), (5, .ptr l 0), (6, .int .i64 i)], [], K⟩ ∧ L.length ≤ i ∧ Own1 L ∧ LatIn H K l L) _ ?_ 60 _ ⟨0, K, [], by omega, by simp [prS], by simp, by simp [Own1], h⟩
  rintro m _ ⟨i, K, L, hi, rfl, hlen, hown, hL⟩ P hI hX hR
  have hsK := hs.new hok.1 hL.chg
  have e0 := hsK.view.lenS
  rw [List.length_map] at e0
  have hvn := hs.view.noL
  by_cases hlt : i < ps.length
  · by_cases h60 : i < 60
    · have hw := wrap_id (n := (i : Int) + 1) (by omega) (by omega)
      have h60' : (i : Int) < 60 := by omega
      obtain ⟨p, hp⟩ : ∃ p, p = ps[i] := ⟨_, rfl⟩
      have hx := hsK.each p (by rw [hp]; exact List.getElem_mem hlt)
      have e1 := hsK.view.idx .i64 (n := i) (by omega) (by rw [List.length_map]; omega)
      have e2 := hsK.view.rd (i := i) (r := rowIn p) (by rw [List.getElem?_map, List.getElem?_eq_getElem hlt, hp]; rfl) true (k := 4) (f := 0) (by omega) (by omega) (by simp)
      have e3 := sActFits hx
      obtain ⟨⟨k, n, x, w⟩, xv⟩ := p
      have e4 : rd true 4 0 (rowIn ⟨⟨k, n, x, w⟩, xv⟩) = some (.agg (rowIn ⟨⟨k, n, x, w⟩, xv⟩)) := rfl
      rw [e4] at e2
      simp only [Int.toNat_natCast, Nat.add_zero, rowIn, rowAct] at e1 e2 e3
      have hxn := hx.view.noL
      have hxc := hx.view.cells
      simp only at hx e3 hxn hxc
      by_cases hf : fitsB x = true
      · rw [hf] at e3
        by_cases k1 : k = 1
        · subst k1
          obtain ⟨K', e5, h5⟩ := hL.claim (n := n) (w := w) hok hx (by omega)
          have hl5 := claimL_len L n x w
          simp -implicitDefEqProofs [e0, hlt, h60', hvn, hu, e1, e2, e3, hxn, hxc, e5, hw]
          refine hI _ _ _ (m - 1) (by omega) ?_
          exact ⟨i + 1, K', _, by omega, by simp, by omega, claimL_own hown, h5⟩
        · by_cases k2 : k = 2
          · subst k2
            obtain ⟨out, K', e5, h5, hO, _⟩ := hL.drop (n := n) hok (by omega)
            have hon := hO.view.noL
            have hl5 := dropL_len L n
            simp -implicitDefEqProofs [e0, hlt, h60', hvn, hu, e1, e2, e3, hxn, hxc, e5, hw]
            refine hI _ _ _ (m - 1) (by omega) ?_
            exact ⟨i + 1, K', _, by omega, by simp, by omega, dropL_own hown, h5⟩
          · simp -implicitDefEqProofs [e0, hlt, h60', hvn, hu, e1, e2, e3, hxn, hxc, k1, k2, hw]
            refine hI _ _ _ (m - 1) (by omega) ?_
            exact ⟨i + 1, K, L, by omega, by simp, by omega, hown, hL⟩
      · have hf' : fitsB x = false := by simpa using hf
        rw [hf'] at e3
        simp -implicitDefEqProofs [e0, hlt, h60', hvn, hu, e1, e2, e3, hxn, hxc, hw]
        refine hI _ _ _ (m - 1) (by omega) ?_
        exact ⟨i + 1, K, L, by omega, by simp, by omega, hown, hL⟩
    · have h60' : ¬ (i : Int) < 60 := by omega
      simp -implicitDefEqProofs [e0, hlt, h60']
      refine hX _ _ ?_
      exact ⟨rfl, by simp, by simp, L, by omega, hown, hL⟩
  · simp -implicitDefEqProofs [e0, hlt]
    refine hX _ _ ?_
    exact ⟨rfl, by simp, by simp, L, by omega, hown, hL⟩

/-- Who is free is looked for. -/
def freeOf (L : List Cl) : List Cl := L.filter fun a => freeP L a.n
theorem ends_loop1 {L : List Cl} {c u : AV} {n t : Int} (hok : H.ok) (hL : LatIn H K l L) (hc : View K 1 c (L.map numRow)) (hlen : L.length ≤ 60) :
    ∃ x s', den T (.loop L10_1) ⟨[(1, u), (5, .ptr l 0), (9, .int .i64 n), (10, .int .i64 t), (11, .nils), (12, c), (13, .int .i64 0)], [], K⟩ = some (x, s') ∧
      x = .exit 4 ∧ Go.Wam.look 1 s'.env = some u ∧ Go.Wam.look 5 s'.env = some (.ptr l 0) ∧ Go.Wam.look 9 s'.env = some (.int .i64 n) ∧ Go.Wam.look 10 s'.env = some (.int .i64 t) ∧
      ∃ out, Go.Wam.look 11 s'.env = some out ∧ Own s'.H 1 out ((freeOf L).map numRow) ∧ Chg [] K s'.H := by
  refine loop_inv (I := fun m st => ∃ (i : Nat) (K' : AHeap) (out : AV), i + m = L.length ∧ st = ⟨[(1, u), (5, .ptr l 0), (9, .int .i64 n), (10, .int .i64 t), (11, out), (12, c), (13, .int .i64 i)], [], K'⟩ ∧ Own K' 1 out (((L.take i).filter fun a => freeP L a.n).map numRow) ∧ Chg [] K K' ∧ ∀ j ∈ sown out, K.n ≤ j) _ ?_ L.length _ ⟨0, K, .nils, by omega, by simp [prS], .nil _ _, .refl _ _, by simp⟩
  rintro m _ ⟨i, K', out, hi, rfl, hO, hC, hN⟩ P hI hX hR
  have hcK := hc.new hL.ok.1 hC
  have hLK := hL.other hok hC
  have e0 := hcK.lenS
  rw [List.length_map] at e0
  have hon := hO.view.noL
  by_cases hlt : i < L.length
  · have hw := wrap_id (n := (i : Int) + 1) (by omega) (by omega)
    have e1 := hcK.idx .i64 (n := i) (by omega) (by rw [List.length_map]; omega)
    have e2 := hcK.rd (i := i) (r := numRow L[i]) (by rw [List.getElem?_map, List.getElem?_eq_getElem hlt]; rfl) false (k := 1) (f := 0) (by omega) (by omega) (by simp)
    have e3 := hLK.free L[i].n
    have e4 : rd false 1 0 (numRow L[i]) = some (.int .i64 L[i].n) := rfl
    rw [e4] at e2
    simp only [Int.toNat_natCast, Nat.add_zero, Nat.mul_one] at e1 e2
    have ht : (L.take (i + 1)).filter (fun a => freeP L a.n) = (L.take i).filter (fun a => freeP L a.n) ++ (if freeP L L[i].n = true then [L[i]] else []) := by
      rw [List.take_succ_eq_append_getElem hlt, List.filter_append]; simp [List.filter_cons]
    by_cases hf : freeP L L[i].n = true
    · rw [hf] at e3
      rw [if_pos hf] at ht
      have cT := Chg.alloc K' (.row false 1 [.int .i64 L[i].n])
      have htmp : View (K'.alloc (.row false 1 [.int .i64 L[i].n])) 1 (.slice K'.n 0 1 1) [numRow L[i]] :=
        ⟨by simp [AV.sl], rfl, by simp [numRow], fun _ => ⟨false, 1, _, get_alloc_same _ _, by simp, by simp [numRow]⟩⟩
      have hfl : ((L.take i).filter fun a => freeP L a.n).length ≤ 60 := Nat.le_trans (List.length_filter_le _ _) (by rw [List.length_take]; omega)
      obtain ⟨v', K2, ha, hO2, hC2, hN2, _⟩ := (hO.new hLK.ok.1 cT).append (bytes := 8) (cT.ok hLK.ok) htmp (by simp) (by omega) (by rw [List.length_map]; simp; omega)
      have hvn := hO2.view.noL
      simp -implicitDefEqProofs [e0, hlt, e1, e2, e3, hon, ha, hvn, hw]
      refine hI _ _ _ (m - 1) (by omega) ?_
      refine ⟨i + 1, K2, v', by omega, by simp, by rw [ht, List.map_append]; exact hO2, (hC.trans hL.ok cT (by simp)).trans hL.ok hC2 (fun j hj => .inr (hN j hj)), fun j hj => ?_⟩
      rcases hN2 j hj with h | h
      · exact hN j h
      · have := hC.le; simp at h; omega
    · have hf' : freeP L L[i].n = false := by simpa using hf
      rw [hf'] at e3
      rw [if_neg hf, List.append_nil] at ht
      simp -implicitDefEqProofs [e0, hlt, e1, e2, e3, hon, hw]
      refine hI _ _ _ (m - 1) (by omega) ?_
      exact ⟨i + 1, K', out, by omega, by simp, by rw [ht]; exact hO, hC, hN⟩
  · have hiL : i = L.length := by omega
    rw [hiL, List.take_length] at hO
    simp -implicitDefEqProofs [e0, hlt]
    refine hX _ _ ?_
    exact ⟨rfl, by simp, by simp, by simp, by simp, out, by simp, hO, hC⟩

/-- All that were told are free. -/
theorem ends_loop2 {L : List Cl} {fr : List Cl} {x u : AV} {n t : Int} (hL : LatIn H K l L) (hx : View K 1 x (fr.map numRow)) (hfr : ∀ a ∈ fr, freeP L a.n = true) (hlen : fr.length ≤ 60) :
    ∃ y s', den T (.loop L10_2) ⟨[(1, u), (5, .ptr l 0), (9, .int .i64 n), (10, .int .i64 t), (15, x), (17, .int .i64 0)], [], K⟩ = some (y, s') ∧
      y = .exit 6 ∧ Go.Wam.look 1 s'.env = some u ∧ Go.Wam.look 5 s'.env = some (.ptr l 0) ∧ Go.Wam.look 9 s'.env = some (.int .i64 n) ∧ Go.Wam.look 10 s'.env = some (.int .i64 t) ∧ s'.loc = [] ∧ s'.H = K := by
  refine loop_inv (I := fun m st => ∃ (i : Nat), i + m = fr.length ∧ st = ⟨[(1, u), (5, .ptr l 0), (9, .int .i64 n), (10, .int .i64 t), (15, x), (17, .int .i64 i)], [], K⟩) _ ?_ fr.length _ ⟨0, by omega, by simp [prS]⟩
  rintro m _ ⟨i, hi, rfl⟩ P hI hX hR
  have e0 := hx.lenS
  rw [List.length_map] at e0
  have hxn := hx.noL
  by_cases hlt : i < fr.length
  · have hw := wrap_id (n := (i : Int) + 1) (by omega) (by omega)
    have e1 := hx.idx .i64 (n := i) (by omega) (by rw [List.length_map]; omega)
    have e2 := hx.rd (i := i) (r := numRow fr[i]) (by rw [List.getElem?_map, List.getElem?_eq_getElem hlt]; rfl) false (k := 1) (f := 0) (by omega) (by omega) (by simp)
    have e3 := hL.free fr[i].n
    rw [hfr _ (List.getElem_mem hlt)] at e3
    have e4 : rd false 1 0 (numRow fr[i]) = some (.int .i64 fr[i].n) := rfl
    rw [e4] at e2
    simp only [Int.toNat_natCast, Nat.add_zero, Nat.mul_one] at e1 e2
    simp -implicitDefEqProofs [e0, hlt, e1, e2, e3, hxn, hw]
    refine hI _ _ _ (m - 1) (by omega) ?_
    exact ⟨i + 1, by omega, by simp⟩
  · simp -implicitDefEqProofs [e0, hlt]
    refine hX _ _ ?_
    exact ⟨rfl, by simp, by simp, by simp, by simp, rfl, rfl⟩

theorem and1023 (z : Int) : ∃ m : Nat, m ≤ 1023 ∧ binA .and .none (.int .i64 z) (.int .i64 1023) = some (.int .i64 m) := by
  refine ⟨(BitVec.ofInt 64 z &&& BitVec.ofInt 64 1023).toNat, ?_, ?_⟩
  · rw [BitVec.toNat_and]
    exact Nat.le_trans Nat.and_le_right (by decide)
  · have h : (BitVec.ofInt 64 z &&& BitVec.ofInt 64 1023).toNat ≤ 1023 := by
      rw [BitVec.toNat_and]
      exact Nat.le_trans Nat.and_le_right (by decide)
    have := wrap_id (n := ((BitVec.ofInt 64 z &&& BitVec.ofInt 64 1023).toNat : Int)) (by omega) (by omega)
    exact congrArg (fun z => some (AV.int .i64 z)) this

theorem dropL_mem_len {L : List Cl} {a : Cl} (h : Own1 L) (ha : a ∈ L) : dropE L a.n = 0 ∧ (dropL L a.n).length = L.length - 1 := by
  obtain ⟨i, hi, rfl⟩ := List.mem_iff_getElem.1 ha
  have := own_find h (List.getElem?_eq_getElem hi)
  unfold dropE dropL
  rw [this]
  exact ⟨rfl, List.length_eraseIdx_of_lt hi⟩
theorem dropF_len (L : List Cl) (n : Int) : (dropF L n).length ≤ L.length := by
  unfold dropF
  split
  · split
    · unfold freedTo
      refine Nat.le_trans (List.length_filterMap_le _ _) ?_
      simp
    · simp
  · simp

theorem ends_loop3 {L : List Cl} {ord : List Int} {u : AV} {n : Nat} (hok : H.ok) (hu : View H 1 u (ord.map fun z => [.int .i64 z])) (hL : LatIn H K l L) (hown : Own1 L) (hn : L.length = n) (hlen : n ≤ 60) :
    ∃ y s', den T (.loop L10_3) ⟨[(1, u), (5, .ptr l 0), (9, .int .i64 n), (10, .int .i64 0)], [], K⟩ = some (y, s') ∧
      y = .exit 2 ∧ Go.Wam.look 5 s'.env = some (.ptr l 0) ∧ LatIn H s'.H l [] := by
  refine loop_inv (I := fun m st => ∃ (i : Nat) (K : AHeap) (L : List Cl), i + m = n ∧ st = ⟨[(1, u), (5, .ptr l 0), (9, .int .i64 n), (10, .int .i64 i)], [], K⟩ ∧ L.length = m ∧ Own1 L ∧ LatIn H K l L) _ ?_ n _ ⟨0, K, L, by omega, by simp [prS], hn, hown, hL⟩
  clear hn hown hL
  rintro m _ ⟨i, K, L, hi, rfl, hm, hown, hL⟩ P hI hX hR
  by_cases hlt : i < n
  · have hw := wrap_id (n := (i : Int) + 1) (by omega) (by omega)
    have hun := hu.noL
    obtain ⟨c, K1, f1, hL1, hOc, hC1, _⟩ := hL.claims hok (by omega)
    have hcn := hOc.view.noL
    obtain ⟨x, ⟨e, lo, K2⟩, f2, rfl, g1, g5, g9, g10, out, g11, hO, hC2⟩ := ends_loop1 (u := u) (n := n) (t := i) hok hL1 hOc.view (by omega)
    simp only at g1 g5 g9 g10 g11 hO hC2
    have hL2 := hL1.other hok hC2
    have hu2 := hu.new hok.1 hL2.chg
    have hne : L ≠ [] := by intro h; rw [h] at hm; simp at hm; omega
    obtain ⟨a0, L', hL'⟩ : ∃ a L', L = a :: L' := by cases L with | nil => exact absurd rfl hne | cons a L' => exact ⟨a, L', rfl⟩
    have hfr0 : 0 < (freeOf L).length := by
      refine List.length_pos_of_mem (a := a0) ?_
      unfold freeOf
      rw [List.mem_filter]
      exact ⟨by rw [hL']; simp, first_free hown (by rw [hL']; rfl)⟩
    have hfr60 : (freeOf L).length ≤ 60 := Nat.le_trans (List.length_filter_le _ _) (by omega)
    have o0 := hO.view.lenS
    rw [List.length_map] at o0
    have hon := hO.view.noL
    have pick : ∀ k : Nat, k < (freeOf L).length → ∃ a, a ∈ L ∧ idxS 1 out (.int .i64 k) = some (.ptr (sid out) (soff out + k)) ∧ K2.rdAt (sid out) false 1 (soff out + k) = some (.int .i64 a.n) := by
      intro k hk
      have e1 := hO.view.idx .i64 (n := k) (by omega) (by rw [List.length_map]; omega)
      have e2 := hO.view.rd (i := k) (r := numRow (freeOf L)[k]) (by rw [List.getElem?_map, List.getElem?_eq_getElem hk]; rfl) false (k := 1) (f := 0) (by omega) (by omega) (by simp)
      simp only [Int.toNat_natCast, Nat.add_zero, Nat.mul_one] at e1 e2
      exact ⟨(freeOf L)[k], (List.mem_filter.1 (List.getElem_mem hk)).1, e1, e2⟩
    have rest : ∀ k : Nat, k < (freeOf L).length → ∃ a, a ∈ L ∧ idxS 1 out (.int .i64 k) = some (.ptr (sid out) (soff out + k)) ∧ K2.rdAt (sid out) false 1 (soff out + k) = some (.int .i64 a.n) ∧
        ∃ x K3, call T 33 [.ptr l 0, .int .i64 a.n] K2 = some (.tuple [x, .int .i64 0], K3) ∧ x.noL = true ∧ LatIn H K3 l (dropL L a.n) ∧ (dropL L a.n).length = m - 1 ∧ Own1 (dropL L a.n) ∧
          ∃ y s', den T (.loop L10_2) ⟨[(1, u), (5, .ptr l 0), (9, .int .i64 n), (10, .int .i64 i), (15, x), (17, .int .i64 0)], [], K3⟩ = some (y, s') ∧
      y = .exit 6 ∧ Go.Wam.look 1 s'.env = some u ∧ Go.Wam.look 5 s'.env = some (.ptr l 0) ∧ Go.Wam.look 9 s'.env = some (.int .i64 n) ∧ Go.Wam.look 10 s'.env = some (.int .i64 i) ∧ s'.loc = [] ∧ s'.H = K3 := by
      intro k hk
      obtain ⟨a, ha, e1, e2⟩ := pick k hk
      obtain ⟨d1, d2⟩ := dropL_mem_len hown ha
      obtain ⟨x, K3, f3, hL3, hO3, _⟩ := hL2.drop (n := a.n) hok (by omega)
      rw [d1] at f3
      exact ⟨a, ha, e1, e2, x, K3, f3, hO3.view.noL, hL3, by omega, dropL_own hown, ends_loop2 hL3 hO3.view (fun b hb => freed_free hown hb) (Nat.le_trans (dropF_len _ _) (by omega))⟩
    have hne' : ¬ freeOf L = [] := by intro h; rw [h] at hfr0; simp at hfr0
    by_cases ho : i < ord.length
    · have e3 := hu2.idx .i64 (n := i) (by omega) (by rw [List.length_map]; omega)
      have e4 := hu2.rd (i := i) (r := [.int .i64 ord[i]]) (by rw [List.getElem?_map, List.getElem?_eq_getElem ho]; rfl) false (k := 1) (f := 0) (by omega) (by omega) (by simp)
      have e5 := hu2.lenS
      rw [List.length_map] at e5
      simp only [Int.toNat_natCast, Nat.add_zero, Nat.mul_one] at e3 e4
      have e4' : rd false 1 0 [AV.int .i64 ord[i]] = some (.int .i64 ord[i]) := rfl
      rw [e4'] at e4
      obtain ⟨q, hq, e6⟩ := and1023 ord[i]
      have hmod : (q : Int).tmod ((freeOf L).length : Int) = ((q % (freeOf L).length : Nat) : Int) := rfl
      obtain ⟨a, ha, p1, p2, x, K3, f3, hxn, hL3, hl3, ho3, y, ⟨e', lo', K4⟩, f4, rfl, q1, q5, q9, q10, ql, qH⟩ := rest (q % (freeOf L).length) (Nat.mod_lt _ hfr0)
      simp only at q1 q5 q9 q10 ql qH
      subst ql qH
      generalize q % (freeOf L).length = kk at *
      simp -implicitDefEqProofs [hlt, f1, hcn, f2, g1, g5, g9, g10, g11, o0, hne', hon, hun, e5, ho, e3, e4, e6, hmod, p1, p2, f3, hxn, f4, q1, q5, q9, q10, hw]
      refine hI _ _ _ (m - 1) (by omega) ?_
      exact ⟨i + 1, _, _, by omega, by simp, hl3, ho3, hL3⟩
    · have e5 := hu2.lenS
      rw [List.length_map] at e5
      obtain ⟨a, ha, p1, p2, x, K3, f3, hxn, hL3, hl3, ho3, y, ⟨e', lo', K4⟩, f4, rfl, q1, q5, q9, q10, ql, qH⟩ := rest 0 hfr0
      simp only at q1 q5 q9 q10 ql qH
      subst ql qH
      rw [show ((0 : Nat) : Int) = 0 from rfl] at p1
      simp only [Nat.add_zero] at p1 p2
      simp -implicitDefEqProofs [hlt, f1, hcn, f2, g1, g5, g9, g10, g11, o0, hne', hon, hun, e5, ho, p1, p2, f3, hxn, f4, q1, q5, q9, q10, hw]
      refine hI _ _ _ (m - 1) (by omega) ?_
      exact ⟨i + 1, _, _, by omega, by simp, hl3, ho3, hL3⟩
  · have hin : m = 0 := by omega
    have hL0 : L = [] := List.length_eq_zero_iff.1 (by omega)
    subst hL0
    simp -implicitDefEqProofs [hlt]
    refine hX _ _ ?_
    exact ⟨rfl, by simp, hL⟩
end

set_option maxRecDepth 8000 in
theorem nEnds {H : AHeap} (hok : H.ok) {v u : AV} {ps : List ActIn} {ord : List Int} (hs : Script H v ps) (hu : View H 1 u (ord.map fun z => [.int .i64 z])) : OkR (call T 10 [v, u] H) fun r => r.1 = .bool true := by
  rw [call_at (show T 10 = some (.ir ⟨_, _, _, _, _⟩) from T10)]
  have hokT := AHeap.ok.top hok.1
  have e0 := eNew H
  have b0 : LatIn H.top (H.top.alloc (.row false 1 [.nils])) H.n [] := LatIn.new hokT
  have e1 := sAlive b0.ok
  obtain ⟨x, ⟨e, lo, K⟩, f1, rfl, g1, g5, L, hl, hown, hL⟩ := ends_loop0 hokT hs.top u hu.noL b0
  simp only at g1 g5 hL
  obtain ⟨c, K1, f2, hL1, hOc, _⟩ := hL.claims hokT (by omega)
  have f3 := hOc.view.lenS
  rw [List.length_map] at f3
  have hcn := hOc.view.noL
  obtain ⟨y, ⟨e', lo', K2⟩, f4, rfl, q5, hL2⟩ := ends_loop3 (n := L.length) hokT hu.top hL1 hown rfl hl
  simp only at q5 hL2
  obtain ⟨out, K3, f5, _, hO, _⟩ := hL2.claims hokT (by simp)
  have f6 := hO.view.lenS
  have f7 := hO.view.noL
  simp only [List.map_nil, List.length_nil] at f6
  simp -implicitDefEqProofs [e0, e1, f1, g1, g5, f2, f3, hcn, f4, q5, f5, f6, f7]

theorem ints_of {H : AHeap} {v : AV} {rows : List (List AV)} (hv : IsSl H 1 v rows) (h : ∀ r ∈ rows, IsC H (.int .i64) r) : ∃ l : List Int, View H 1 v (l.map fun z => [.int .i64 z]) := by
  have key : ∀ rows : List (List AV), (∀ r ∈ rows, IsC H (.int .i64) r) → ∃ l : List Int, rows = l.map fun z => [.int .i64 z] := by
    intro rows
    induction rows with
    | nil => intro _; exact ⟨[], rfl⟩
    | cons r rows ih =>
      intro h
      obtain ⟨l, rfl⟩ := ih fun r hr => h r (by simp [hr])
      obtain ⟨z, rfl, _⟩ := h r (by simp)
      exact ⟨z :: l, rfl⟩
  obtain ⟨l, rfl⟩ := key rows h
  exact ⟨l, hv.view⟩
theorem lawEnds : Law T 10 [.slice 4 48 act11Sh, .slice 1 8 (.int .i64)] := by
  intro H ls hw hl ha
  obtain ⟨x, y, rfl, ⟨v, rows, rfl, hv, _, _, hc⟩, ⟨u, rows2, rfl, hu, _, _, hc2⟩⟩ := args2 ha
  obtain ⟨ps, hs⟩ := script_of hv hc
  obtain ⟨ord, ho⟩ := ints_of hu hc2
  exact law_of (nEnds ⟨hw, by omega⟩ hs ho)
end Go.Proofs.Ytglfchdpcididaa
