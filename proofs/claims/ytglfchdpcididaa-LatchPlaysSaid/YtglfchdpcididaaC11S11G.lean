/- The statement LatchOrder, in our machine. No condition. -/
import Derived.Test.YtglfchdpcididaaC11S11F
set_option linter.unusedVariables false
set_option linter.unusedSimpArgs false
namespace Go.Proofs.Ytglfchdpcididaa
open Go.Wam

attribute [local simp] den_seq den_region den_regionD0 den_regionD1 den_condB condB_bool den_block den_keep den_ret den_skip den_exit sops_cons sops_nil sopsR_cons sopsR_nil goR_eq readOk trace_cons trace_nil Opd.ev evs Go.Wam.look St.put enterA zipI leaveR_ret leaveR_normal rvs RV.ev
  st_guard guardB_bool st_move st_pick pickB_bool st_allocL st_alloc st_boxL st_box st_build st_buildSlice st_load st_store st_nilCheck nilC st_bin st_un st_convI convI st_convS convS st_convB convB st_mkIface st_mkFunc st_mkMap st_mkSlice mkSl st_slice st_fieldAddr fldA st_field fldV st_idx idxS_slice idxS_oslice st_idxArr idxArr st_idxStr idxStr st_idxAgg idxAgg st_extract extA st_call callA_func st_len st_lenStr lenStr st_lenArr st_lenMap st_append st_clear clearV st_maxs st_mins
  load_ptr load_lptr storeA rd wr goOn_normal goOn_exit goOn_ret outBlock_normal outBlock_exit outBlock_ret prune freeL_nil freeL_cons frV_lptr frV_tuple frV_noL fillA allNoL packA unA checkAt ev_load wantedA beq_same beqL_same AV.beq AV.beqL drawCond freshD readsOk isRead undefA optInt optIntO
  strOp aeqF_nil aeqF_cons andA_some i_add i_sub i_mul i_lss i_leq i_gtr i_geq i_quo i_rem i_eql i_neq s_eql s_neq s_lss
  s_leq s_gtr s_geq s_add e_bool n_bool e_nilp n_nilp e_ptr n_ptr e_lptr n_lptr e_agg n_agg
  e_nils n_nils e_slice n_slice e_oslice n_oslice e_eslice n_eslice e_xslice n_xslice e_nilm n_nilm e_map n_map
  e_nilFunc n_nilFunc e_func n_func q_int q_bool q_str q_struct q_ptr0 q_ptrL0 q_ptrR0 q_ptrL1 q_ptrR1 q_slice0
  q_sliceL0 q_sliceR0 q_sliceL1 q_sliceR1 q_sliceL2 q_sliceR2 q_sliceL3 q_sliceR3 q_map0 q_mapL0 q_mapR0 q_func0 q_funcL0 q_funcR0
  okR_some guardB_tuple get_alloc_eq rdAt_alloc_eq set_alloc_eq set_alloc_ne get_alloc_ne rdAt_alloc_ne
/-! ## Claims of one key all of which write -/
def oneC (key : List UInt8) (j : Nat) : Cl := ⟨10 * (j : Int), [(key, [])], true⟩
def manyC (key : List UInt8) (a n : Nat) : List Cl := (List.range' a n).map (oneC key)
theorem one_coll {key : List UInt8} (hk : keyB key = true) (i j : Nat) : collC (oneC key i) (oneC key j) = true := by
  simp [collC, oneC, collB, meetS, meetB, hasB, rightB, hk]
theorem many_get {key : List UInt8} {a n j : Nat} (h : j < n) : (manyC key a n)[j]? = some (oneC key (a + j)) := by
  simp [manyC, List.getElem?_map, List.getElem?_range', h]
theorem many_len (key : List UInt8) (a n : Nat) : (manyC key a n).length = n := by simp [manyC]
theorem many_mem {key : List UInt8} {a n : Nat} {c : Cl} (h : c ∈ manyC key a n) : ∃ j, a ≤ j ∧ j < a + n ∧ c = oneC key j := by
  obtain ⟨j, hj, rfl⟩ := List.mem_map.1 h
  rw [List.mem_range'_1] at hj
  exact ⟨j, hj.1, hj.2, rfl⟩
theorem many_count {key : List UInt8} (hk : keyB key = true) (a n i : Nat) : (manyC key a n).countP (collC (oneC key i)) = n := by
  rw [List.countP_eq_length.2, many_len]
  intro c hc
  obtain ⟨j, _, _, rfl⟩ := many_mem hc
  exact one_coll hk i j
theorem many_ahead {key : List UInt8} (hk : keyB key = true) {a n j : Nat} (h : j < n) : aheadC (manyC key a n) j = j := by
  unfold aheadC
  rw [many_get h]
  have : (manyC key a n).take j = manyC key a j := by
    simp only [manyC, ← List.map_take]
    congr 1
    have e : List.range' a n = List.range' a j ++ List.range' (a + j) (n - j) := by
      rw [List.range'_append_1]; congr 1; omega
    rw [e, List.take_left' (by simp)]
  simp only [this]
  exact many_count hk a j _
theorem many_claim {key : List UInt8} (hk : keyB key = true) (n : Nat) : claimE (manyC key 0 n) (10 * (n : Int)) [(key, [])] = 0 ∧ claimR (manyC key 0 n) (10 * (n : Int)) [(key, [])] true = decide (n = 0) ∧ claimL (manyC key 0 n) (10 * (n : Int)) [(key, [])] true = manyC key 0 (n + 1) := by
  have h1 : ¬ (manyC key 0 n).any (fun c => decide (c.n = 10 * (n : Int))) = true := by
    rw [List.any_eq_true]
    rintro ⟨c, hc, h⟩
    obtain ⟨j, _, hj, rfl⟩ := many_mem hc
    have h2 : 10 * (j : Int) = 10 * (n : Int) := of_decide_eq_true h
    omega
  have h0 : claimE (manyC key 0 n) (10 * (n : Int)) [(key, [])] = 0 := by
    unfold claimE
    rw [if_neg h1, if_neg]
    simp [rightS2, rightB, hk]
  refine ⟨h0, ?_, ?_⟩
  · unfold claimR
    have := many_count hk 0 n n
    unfold oneC at this
    rw [h0, this]; simp
  · unfold claimL
    rw [if_pos h0]
    simp [manyC, List.range'_concat, oneC]
theorem many_dropI {key : List UInt8} {a n : Nat} (h : 0 < n) : dropI (manyC key a n) (10 * (a : Int)) = some 0 := by
  unfold dropI
  obtain ⟨m, rfl⟩ : ∃ m, n = m + 1 := ⟨n - 1, by omega⟩
  rw [show manyC key a (m + 1) = oneC key a :: manyC key (a + 1) m by simp [manyC, List.range'_succ]]
  simp [List.findIdx?_cons, oneC]
theorem many_freed {key : List UInt8} (hk : keyB key = true) (a n : Nat) : freedTo (manyC key a n) (oneC key a) 0 (n - 1) = if 1 < n then [oneC key (a + 1)] else [] := by
  unfold freedTo
  by_cases h : 1 < n
  · obtain ⟨m, rfl⟩ : ∃ m, n = m + 2 := ⟨n - 2, by omega⟩
    rw [if_pos h, show m + 2 - 1 = m + 1 by omega, List.range'_succ, List.filterMap_cons]
    have e1 := many_get (key := key) (a := a) (n := m + 2) (j := 1) (by omega)
    have e2 := many_ahead hk (a := a) (n := m + 2) (j := 1) (by omega)
    simp only [Nat.zero_add, e1, e2, one_coll hk, and_self, if_true]
    congr 1
    rw [List.filterMap_eq_nil_iff]
    intro j hj
    rw [List.mem_range'_1] at hj
    have e3 := many_get (key := key) (a := a) (n := m + 2) (j := j) (by omega)
    have e4 := many_ahead hk (a := a) (n := m + 2) (j := j) (by omega)
    simp only [e3, e4]
    rw [if_neg (by omega)]
  · rw [if_neg h, show n - 1 = 0 by omega]
    rfl
theorem many_drop {key : List UInt8} (hk : keyB key = true) {a n : Nat} (h : 0 < n) : dropE (manyC key a n) (10 * (a : Int)) = 0 ∧ dropL (manyC key a n) (10 * (a : Int)) = manyC key (a + 1) (n - 1) ∧
    (dropF (manyC key a n) (10 * (a : Int))).map numRow = if 1 < n then [[.int .i64 (10 * ((a : Int) + 1))]] else [] := by
  have e := many_dropI (key := key) (a := a) h
  unfold dropE dropL dropF
  rw [e]
  obtain ⟨m, rfl⟩ : ∃ m, n = m + 1 := ⟨n - 1, by omega⟩
  refine ⟨rfl, ?_, ?_⟩
  · rw [show manyC key a (m + 1) = oneC key a :: manyC key (a + 1) m by simp [manyC, List.range'_succ]]
    simp
  · have e1 := many_get (key := key) (a := a) (n := m + 1) (j := 0) (by omega)
    simp only [Nat.add_zero] at e1
    simp only [e1, many_len, Nat.zero_add]
    rw [many_freed hk]
    split
    · simp [numRow, oneC]
    · rfl

section
variable {H K : AHeap} {l : Nat} {key : List UInt8} {n : Nat}
theorem order_loop0 (hok : H.ok) (hs : Small key) (hk : keyB key = true) (hn : n ≤ 40) (h : LatIn H K l []) :
    ∃ x s', den T (.loop L13_0) ⟨[(0, .str key), (1, .int .i64 n), (5, .ptr l 0), (6, .int .i64 0)], [], K⟩ = some (x, s') ∧
      x = .exit 0 ∧ Go.Wam.look 1 s'.env = some (.int .i64 n) ∧ Go.Wam.look 5 s'.env = some (.ptr l 0) ∧ LatIn H s'.H l (manyC key 0 n) := by
  refine loop_inv (I := fun m st => ∃ (i : Nat) (K : AHeap), i + m = n ∧ st = ⟨[(0, .str key), (1, .int .i64 n), (5, .ptr l 0), (6, .int .i64 i)], [], K⟩ ∧ LatIn H K l (manyC key 0 i)) _ ?_ n _ ⟨0, K, by omega, by simp [prS], h⟩
  rintro m _ ⟨i, K, hi, rfl, hL⟩ P hI hX hR
  by_cases hlt : i < n
  · have hw := wrap_id (n := (i : Int) + 1) (by omega) (by omega)
    have hw2 := wrap_id (n := 10 * (i : Int)) (by omega) (by omega)
    have hs2 : SmallS (key, []) := ⟨hs, by simp [Small]⟩
    obtain ⟨c1, c2, c3⟩ := many_claim hk i
    obtain ⟨K', e1, h1⟩ := (hL.other hok (.alloc K (.row false 2 (rowSp (key, []))))).claim (n := 10 * (i : Int)) (w := true) hok (sps_lit hL.ok (key, []) hs2) (by rw [many_len]; omega)
    rw [c1, c2] at e1
    rw [c3] at h1
    simp only [rowSp] at e1
    have hlt' : (i : Int) < n := by omega
    by_cases h0 : i = 0
    · have hz := eq_true h0
      rw [decide_eq_true h0] at e1
      simp -implicitDefEqProofs [hlt, hw2, e1, hw, hz]
      refine hI _ _ _ (m - 1) (by omega) ?_
      exact ⟨i + 1, K', by omega, by simp, h1⟩
    · have hz := h0
      rw [decide_eq_false h0] at e1
      simp -implicitDefEqProofs [hlt, hw2, e1, hw, hz]
      refine hI _ _ _ (m - 1) (by omega) ?_
      exact ⟨i + 1, K', by omega, by simp, h1⟩
  · have hin : i = n := by omega
    subst hin
    simp -implicitDefEqProofs [Nat.lt_irrefl]
    refine hX _ _ ?_
    exact ⟨rfl, by simp, by simp, hL⟩

theorem order_loop1 (hok : H.ok) (hk : keyB key = true) (hn : n ≤ 40) (h : LatIn H K l (manyC key 0 n)) :
    ∃ x s', den T (.loop L13_1) ⟨[(1, .int .i64 n), (5, .ptr l 0), (9, .int .i64 0)], [], K⟩ = some (x, s') ∧
      x = .exit 2 ∧ Go.Wam.look 5 s'.env = some (.ptr l 0) ∧ LatIn H s'.H l [] := by
  refine loop_inv (I := fun m st => ∃ (i : Nat) (K : AHeap), i + m = n ∧ st = ⟨[(1, .int .i64 n), (5, .ptr l 0), (9, .int .i64 i)], [], K⟩ ∧ LatIn H K l (manyC key i m)) _ ?_ n _ ⟨0, K, by omega, by simp [prS], h⟩
  rintro m _ ⟨i, K, hi, rfl, hL⟩ P hI hX hR
  by_cases hlt : i < n
  · have hw := wrap_id (n := (i : Int) + 1) (by omega) (by omega)
    have hw2 := wrap_id (n := 10 * (i : Int)) (by omega) (by omega)
    have hw3 := wrap_id (n := 10 * ((i : Int) + 1)) (by omega) (by omega)
    obtain ⟨out, K', e1, h1, hO, _⟩ := hL.drop (n := 10 * (i : Int)) hok (by rw [many_len]; omega)
    obtain ⟨d1, d2, d3⟩ := many_drop hk (a := i) (n := m) (by omega)
    rw [d1] at e1
    rw [d2] at h1
    rw [d3] at hO
    have hon := hO.view.noL
    have e2 := hO.view.lenS
    by_cases h2 : 1 < m
    · rw [if_pos h2] at hO e2
      have e3 := hO.view.idx .i64 (n := 0) (by omega) (by simp)
      have e4 := hO.view.rd (i := 0) (r := [.int .i64 (10 * ((i : Int) + 1))]) rfl false (k := 1) (f := 0) (by omega) (by omega) (by simp)
      simp only [Int.toNat_zero, Nat.zero_mul, Nat.add_zero, List.length_cons, List.length_nil] at e2 e3 e4
      have h3 : (i : Int) + 1 < n := by omega
      have h4 : ¬ (i : Int) + 1 = n := by omega
      simp -implicitDefEqProofs [hlt, hw2, e1, hw, hw3, hon, h3, h4, e2, e3, e4, rd]
      refine hI _ _ _ (m - 1) (by omega) ?_
      exact ⟨i + 1, K', by omega, by simp, h1⟩
    · rw [if_neg h2] at hO e2
      have h3 : ¬ (i : Int) + 1 < n := by omega
      have h4 : (i : Int) + 1 = n := by omega
      simp only [List.length_nil] at e2
      rw [show ((0 : Nat) : Int) = 0 from rfl] at e2
      have hlt' : (i : Int) < n := by omega
      rw [h4] at hw
      simp -implicitDefEqProofs [hlt', hw2, e1, hw, hon, h4, e2]
      refine hI _ _ _ (m - 1) (by omega) ?_
      exact ⟨i + 1, K', by omega, by simp [h4], h1⟩
  · have hin : m = 0 := by omega
    subst hin
    simp -implicitDefEqProofs [hlt]
    refine hX _ _ ?_
    exact ⟨rfl, by simp, hL⟩
end

theorem eNew (H : AHeap) : call T 29 [] H.top = some (.ptr H.n 0, H.top.alloc (.row false 1 [.nils])) := by
  rcases sNew (H := H.top) with ⟨K, ⟨h, rfl⟩ | h⟩
  · exact h
  · exact absurd (Nat.le_refl _) h
/-- The live question, asked of a heap in a frame. -/
theorem eAlive {H K : AHeap} (h : K.ok) : call T 30 [] K = some (.bool true, K) := sAlive h

set_option maxRecDepth 8000 in
theorem nOrder {H : AHeap} (hok : H.ok) {key : List UInt8} (hs : Small key) (n : Int) : OkR (call T 13 [.str key, .int .i64 n] H) fun r => r.1 = .bool true := by
  rw [call_at (show T 13 = some (.ir ⟨_, _, _, _, _⟩) from T13)]
  have hokT := AHeap.ok.top hok.1
  have e0 := eNew H
  have b0 : LatIn H.top (H.top.alloc (.row false 1 [.nils])) H.n [] := LatIn.new hokT
  have e1 := sAlive b0.ok
  have e2 := rKey hs
  by_cases hk : keyB key = true
  · by_cases h1 : n < 1
    · simp -implicitDefEqProofs [e0, e1, e2, hk, h1]
    · by_cases h2 : 40 < n
      · simp -implicitDefEqProofs [e0, e1, e2, hk, h1, h2]
      · obtain ⟨k, rfl⟩ : ∃ k : Nat, n = k := ⟨n.toNat, by omega⟩
        obtain ⟨x, ⟨e, lo, K⟩, f1, rfl, g1, g5, gL⟩ := order_loop0 hokT hs hk (n := k) (by omega) b0
        simp only at g1 g5 gL
        obtain ⟨x2, ⟨e', lo', K'⟩, f2, rfl, q5, qL⟩ := order_loop1 hokT hk (by omega) gL
        simp only at q5 qL
        obtain ⟨out, K2, f3, _, hO, _⟩ := qL.claims hokT (by simp)
        have f4 := hO.view.lenS
        have f5 := hO.view.noL
        simp only [List.map_nil, List.length_nil] at f4
        simp -implicitDefEqProofs [e0, e1, e2, hk, h1, h2, f1, g1, g5, f2, q5, f3, f4, f5]
  · simp -implicitDefEqProofs [e0, e1, e2, hk]

theorem lawOrder : Law T 13 [.str, .int .i64] := by
  intro H ls hw hl ha
  obtain ⟨x, y, rfl, ⟨s, rfl, h⟩, ⟨n, rfl, _⟩⟩ := args2 ha
  unfold reachBytes at h
  exact law_of (nOrder ⟨hw, by omega⟩ (show s.length < _ by omega) n)
end Go.Proofs.Ytglfchdpcididaa
