/- Which acts are gone through; the statements LatchNil and LatchOrder, in our machine. No condition. -/
import Derived.Test.YtglfchdpcididaaC11S11E
set_option linter.unusedVariables false
set_option linter.unusedSimpArgs false
namespace Go.Proofs.Ytglfchdpcididaa
open Go.Wam

attribute [local simp] den_seq den_region den_regionD0 den_regionD1 den_condB condB_bool den_block den_keep den_ret den_skip den_exit sops_cons sops_nil sopsR_cons sopsR_nil goR_eq readOk trace_cons trace_nil Opd.ev evs Go.Wam.look St.put enterA zipI leaveR_ret leaveR_normal rvs RV.ev
  st_guard guardB_bool st_move st_pick pickB_bool st_allocL st_alloc st_boxL st_box st_build st_buildSlice st_load st_store st_nilCheck nilC st_bin st_un st_convI convI st_convS convS st_convB convB st_mkIface st_mkFunc st_mkMap st_mkSlice mkSl st_slice st_fieldAddr fldA st_field fldV st_idx idxS_slice idxS_oslice st_idxArr idxArr st_idxStr idxStr st_idxAgg idxAgg st_extract extA st_call callA_func st_len st_lenStr lenStr st_lenArr st_lenMap st_append st_clear clearV st_maxs st_mins
  load_ptr load_lptr storeA rd wr goOn_normal goOn_exit goOn_ret outBlock_normal outBlock_exit outBlock_ret prune freeL_nil freeL_cons frV_lptr frV_tuple frV_noL fillA allNoL packA unA checkAt ev_load wantedA beq_same beqL_same AV.beq AV.beqL drawCond freshD readsOk isRead undefA optInt optIntO
  strOp aeqF_nil aeqF_cons andA_some i_add i_sub i_mul i_lss i_leq i_gtr i_geq i_quo i_rem i_eql i_neq s_eql s_neq s_lss
  s_leq s_gtr s_geq s_add e_bool n_bool e_nilp n_nilp e_ptr n_ptr e_lptr n_lptr e_agg n_agg
  e_nils n_nils e_slice n_slice e_oslice n_oslice e_eslice n_eslice e_xslice n_xslice e_nilm n_nilm e_map n_map
  e_nilFunc n_nilFunc e_func n_func q_int q_bool q_str q_struct q_ptr0 q_ptrL0 q_ptrR0 q_ptrL1 q_ptrR1 q_slice0
  q_sliceL0 q_sliceR0 q_sliceL1 q_sliceR1 q_sliceL2 q_sliceR2 q_sliceL3 q_sliceR3 q_map0 q_mapL0 q_mapR0 q_func0 q_funcL0 q_funcR0
  okR_some guardB_tuple get_alloc_eq rdAt_alloc_eq set_alloc_eq set_alloc_ne get_alloc_ne rdAt_alloc_ne
def fit1 (s : Sp) : Bool := decide (s.1.length ≤ 200) && decide (s.2.length ≤ 200)
theorem sFits (s : Sp) (H : AHeap) : call T 52 [.agg (rowSp s)] H = some (.bool (fit1 s), H) := by
  rw [call_at (show T 52 = some (.ir ⟨_, _, _, _, _⟩) from T52)]
  by_cases h1 : s.1.length ≤ 200
  · have h2 : (s.1.length : Int) ≤ 200 := by omega
    by_cases h3 : s.2.length ≤ 200
    · have h4 : (s.2.length : Int) ≤ 200 := by omega
      simp -implicitDefEqProofs [rowSp, fin_pure, fit1, h1, h2, h3, h4]
    · have h4 : ¬ (s.2.length : Int) ≤ 200 := by omega
      simp -implicitDefEqProofs [rowSp, fin_pure, fit1, h1, h2, h3, h4]
  · have h2 : ¬ (s.1.length : Int) ≤ 200 := by omega
    simp -implicitDefEqProofs [rowSp, fin_pure, fit1, h1, h2]

def fitsB (x : List Sp) : Bool := x.all fit1 && decide (x.length ≤ 30)
structure Act where
  k : Int
  n : Int
  x : List Sp
  w : Bool
def rowAct (a : Act) (xv : AV) : List AV := [.int .i64 a.k, .int .i64 a.n, xv, .bool a.w]

theorem fits_loop {H : AHeap} {xv : AV} {x : List Sp} (hx : Sps H xv x) (k n w : AV) :
    ∃ y s', den T (.loop L31_0) ⟨[(1, .lptr 1 0), (3, .int .i64 0)], [(1, [k, n, xv, w])], H⟩ = some (y, s') ∧ s'.H = H ∧
      ((fitsB x = true ∧ y = .exit 0) ∨ (fitsB x = false ∧ y = .ret ∧ Go.Wam.look 2 s'.env = some (.bool false))) := by
  refine loop_inv (I := fun m st => ∃ i : Nat, i + m = x.length ∧ i ≤ 30 ∧ st = ⟨[(1, .lptr 1 0), (3, .int .i64 i)], [(1, [k, n, xv, w])], H⟩ ∧ (x.take i).all fit1 = true) _ ?_ x.length _ ⟨0, by omega, by omega, by simp [prS], by simp⟩
  rintro m _ ⟨i, hi, hi30, rfl, hall⟩ P hI hX hR
  have hv := hx.view
  have e0 := hv.lenS
  rw [List.length_map] at e0
  by_cases hlt : i < x.length
  · have hw := wrap_id (n := (i : Int) + 1) (by omega) (by omega)
    have e1 := hv.idx .i64 (n := i) (by omega) (by rw [List.length_map]; omega)
    have e2 := hv.rd (i := i) (r := rowSp x[i]) (by rw [List.getElem?_map, List.getElem?_eq_getElem hlt]; rfl) true (k := 2) (f := 0) (by omega) (by omega) (by simp)
    have e3 : rd true 2 0 (rowSp x[i]) = some (.agg (rowSp x[i])) := rfl
    rw [e3] at e2
    have e4 := sFits x[i] H
    simp only [Int.toNat_natCast, Nat.add_zero] at e1 e2
    generalize rowSp x[i] = r at *
    have hm : x[i] ∈ x := List.getElem_mem hlt
    by_cases h1 : fit1 x[i] = true
    · rw [h1] at e4
      by_cases h30 : i = 30
      · have h30' : (i : Int) = 30 := by omega
        have hb : fitsB x = false := by unfold fitsB; rw [decide_eq_false (by omega), Bool.and_false]
        rw [h30'] at e1
        have hlt' : (30 : Int) < x.length := by omega
        simp -implicitDefEqProofs [e0, hlt', h30', e1, e2, e4]
        refine hR _ ?_
        exact ⟨rfl, .inr ⟨hb, rfl, by simp⟩⟩
      · have h30' : ¬ (i : Int) = 30 := by omega
        simp -implicitDefEqProofs [e0, hlt, h30', e1, e2, e4, hw]
        refine hI _ _ _ (m - 1) (by omega) ?_
        exact ⟨i + 1, by omega, by omega, by simp, by rw [List.take_succ_eq_append_getElem hlt, List.all_append, hall]; simp [h1]⟩
    · have h1' : fit1 x[i] = false := by simpa using h1
      rw [h1'] at e4
      have hb : fitsB x = false := by
        unfold fitsB
        rw [show x.all fit1 = false from List.all_eq_false.2 ⟨_, hm, by simp [h1']⟩, Bool.false_and]
      simp -implicitDefEqProofs [e0, hlt, e1, e2, e4]
      refine hR _ ?_
      exact ⟨rfl, .inr ⟨hb, rfl, by simp⟩⟩
  · have hix : i = x.length := by omega
    rw [hix, List.take_length] at hall
    have hb : fitsB x = true := by unfold fitsB; rw [hall, decide_eq_true (by omega)]; rfl
    simp -implicitDefEqProofs [e0, hlt]
    refine hX _ _ ?_
    exact ⟨rfl, .inl ⟨hb, rfl⟩⟩

theorem sActFits {H : AHeap} {a : Act} {xv : AV} (hx : Sps H xv a.x) : call T 31 [.agg (rowAct a xv)] H = some (.bool (fitsB a.x), H) := by
  rw [call_at (show T 31 = some (.ir ⟨_, _, _, _, _⟩) from T31)]
  have hn := hx.view.noL
  have hc := hx.view.cells
  obtain ⟨y, ⟨e, l, K⟩, h, hK, ⟨hb, rfl⟩ | ⟨hb, rfl, h2⟩⟩ := fits_loop hx.top (.int .i64 a.k) (.int .i64 a.n) (.bool a.w)
  · simp only at hK
    subst hK
    simp -implicitDefEqProofs [rowAct, hn, hc, h, hb, fin_pure]
  · simp only at hK h2
    subst hK
    simp -implicitDefEqProofs [rowAct, hn, hc, h, h2, hb, fin_pure]

/-! ## What is handed in -/
def spSh : Sh := .pair .str (.pair .str .unit)
def act11Sh : Sh := .pair (.int .i64) (.pair (.int .i64) (.pair (.slice 2 32 spSh) (.pair .bool .unit)))
theorem sp_rows {H : AHeap} {rows : List (List AV)} (h : ∀ r ∈ rows, IsC H spSh r) : ∃ x : List Sp, rows = x.map rowSp ∧ ∀ s ∈ x, SmallS s := by
  refine ⟨rows.map spOf, ?_, ?_⟩
  · rw [List.map_map]
    conv => lhs; rw [← List.map_id rows]
    refine List.map_congr_left fun r hr => ?_
    obtain ⟨a, b, rfl, ⟨s, rfl, _⟩, c, d, rfl, ⟨t, rfl, _⟩, rfl⟩ := h r hr
    rfl
  · intro s hs
    obtain ⟨r, hr, rfl⟩ := List.mem_map.1 hs
    obtain ⟨a, b, rfl, ⟨s, rfl, h1⟩, c, d, rfl, ⟨t, rfl, h2⟩, rfl⟩ := h r hr
    unfold reachBytes at h1 h2
    exact ⟨by show s.length < _; omega, by show t.length < _; omega⟩
theorem sps_of {H : AHeap} {v : AV} {rows : List (List AV)} (hv : IsSl H 2 v rows) (hb : rows.length * 32 ≤ reachBytes) (h : ∀ r ∈ rows, IsC H spSh r) : ∃ x : List Sp, Sps H v x := by
  obtain ⟨x, rfl, hs⟩ := sp_rows h
  refine ⟨x, hv.view, hs, ?_⟩
  rw [List.length_map] at hb
  unfold reachBytes at hb
  unfold maxL
  omega
theorem act_of {H : AHeap} {l : List AV} (h : IsC H act11Sh l) : ∃ a xv, l = rowAct a xv ∧ Sps H xv a.x := by
  obtain ⟨a, b, rfl, ⟨k, rfl, _⟩, c, d, rfl, ⟨n, rfl, _⟩, e, f, rfl, ⟨v, rows, rfl, hv, hb, _, hr⟩, u, w, rfl, ⟨wr, rfl⟩, rfl⟩ := h
  obtain ⟨x, hx⟩ := sps_of hv hb hr
  exact ⟨⟨k, n, x, wr⟩, v, rfl, hx⟩

theorem law_of {f : FuncId} {args : List AV} {H : AHeap} (h : OkR (call T f args H) fun r => r.1 = .bool true) : ∃ K, call T f args H = some (.bool true, K) := by
  obtain ⟨⟨v, K⟩, e, h⟩ := h
  simp only at h
  subst h
  exact ⟨K, e⟩

/-! ## No latches -/
theorem zClaim (n xv w : AV) (H : AHeap) (hn : n.noL = true) (hx : xv.noL = true) (hw : w.noL = true) : call T 32 [.nilp, n, xv, w] H = some (.tuple [.bool false, .int .i64 1], H) := by
  rw [call_at (show T 32 = some (.ir ⟨_, _, _, _, _⟩) from T32)]
  simp -implicitDefEqProofs [fin_pure, hn, hx, hw]
theorem zDrop (n : AV) (H : AHeap) : call T 33 [.nilp, n] H = some (.tuple [.nils, .int .i64 1], H) := by
  rw [call_at (show T 33 = some (.ir ⟨_, _, _, _, _⟩) from T33)]
  simp -implicitDefEqProofs [fin_pure]
theorem zFree (n : AV) (H : AHeap) : call T 35 [.nilp, n] H = some (.bool false, H) := by
  rw [call_at (show T 35 = some (.ir ⟨_, _, _, _, _⟩) from T35)]
  simp -implicitDefEqProofs [fin_pure]
theorem zClaims (H : AHeap) : call T 41 [.nilp] H = some (.nils, H) := by
  rw [call_at (show T 41 = some (.ir ⟨_, _, _, _, _⟩) from T41)]
  simp -implicitDefEqProofs [fin_pure]

set_option maxRecDepth 8000 in
theorem nNil {H : AHeap} (hok : H.ok) {a : Act} {xv : AV} (hx : Sps H xv a.x) : OkR (call T 11 [.agg (rowAct a xv)] H) fun r => r.1 = .bool true := by
  rw [call_at (show T 11 = some (.ir ⟨_, _, _, _, _⟩) from T11)]
  have e1 := sActFits hx.top
  have e2 := sAlive (AHeap.ok.top hok.1)
  have hn := hx.view.noL
  have hc := hx.view.cells
  have e3 := zClaim (.int .i64 a.n) xv (.bool a.w) H.top rfl hn rfl
  simp only [rowAct] at e1 ⊢
  by_cases h : fitsB a.x = true
  · rw [h] at e1
    simp -implicitDefEqProofs [e1, e2, e3, hn, hc, zDrop, zFree, zClaims]
  · have h' : fitsB a.x = false := by simpa using h
    rw [h'] at e1
    simp -implicitDefEqProofs [e1, e2, hn, hc]

theorem lawNil : Law T 11 [act11Sh] := by
  intro H ls hw hl ha
  obtain ⟨l, rfl, h⟩ := args1 ha
  obtain ⟨a, xv, rfl, hx⟩ := act_of h
  exact law_of (nNil ⟨hw, by omega⟩ hx)
end Go.Proofs.Ytglfchdpcididaa
