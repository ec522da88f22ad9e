/- A cache that is full. No condition. -/
import Derived.Test.YtdnnpgmekbnlbaaC10S10D
set_option linter.unusedVariables false
set_option linter.unusedSimpArgs false
namespace Go.Proofs.Ytdnnpgmekbnlbaa
open Go.Wam

attribute [local simp] den_seq den_region den_regionD0 den_regionD1 den_condB condB_bool den_block den_keep den_ret den_skip den_exit sops_cons sops_nil sopsR_cons sopsR_nil goR_eq readOk trace_cons trace_nil Opd.ev evs Go.Wam.look St.put enterA zipI leaveR_ret leaveR_normal rvs RV.ev
  st_guard guardB_bool st_move st_pick pickB_bool st_allocL st_alloc st_boxL st_box st_build st_buildSlice st_load st_store st_nilCheck nilC st_bin st_un st_convI convI st_convS convS st_convB convB st_mkIface st_mkFunc st_mkMap st_mkSlice mkSl st_slice st_fieldAddr fldA st_field fldV st_idx idxS_slice idxS_oslice st_idxArr idxArr st_idxStr idxStr st_idxAgg idxAgg st_extract extA st_call callA_func st_len st_lenStr lenStr st_lenArr st_lenMap st_append st_clear clearV st_maxs st_mins
  load_ptr load_lptr storeA rd wr goOn_normal goOn_exit goOn_ret outBlock_normal outBlock_exit outBlock_ret prune freeL_nil freeL_cons frV_lptr frV_tuple frV_noL fillA allNoL packA unA checkAt ev_load wantedA beq_same beqL_same AV.beq AV.beqL drawCond freshD readsOk isRead undefA optInt optIntO
  strOp aeqF_nil aeqF_cons andA_some i_add i_sub i_mul i_lss i_leq i_gtr i_geq i_quo i_rem i_eql i_neq s_eql s_neq s_lss
  s_leq s_gtr s_geq s_add e_bool n_bool e_nilp n_nilp e_ptr n_ptr e_lptr n_lptr e_agg n_agg
  e_nils n_nils e_slice n_slice e_oslice n_oslice e_eslice n_eslice e_xslice n_xslice e_nilm n_nilm e_map n_map
  e_nilFunc n_nilFunc e_func n_func q_int q_bool q_str q_struct q_ptr0 q_ptrL0 q_ptrR0 q_ptrL1 q_ptrR1 q_slice0
  q_sliceL0 q_sliceR0 q_sliceL1 q_sliceR1 q_sliceL2 q_sliceR2 q_sliceL3 q_sliceR3 q_map0 q_mapL0 q_mapR0 q_func0 q_funcL0 q_funcR0
  okR_some guardB_tuple get_alloc_eq rdAt_alloc_eq set_alloc_eq set_alloc_ne get_alloc_ne rdAt_alloc_ne
def atN (L : List Sn) (k : Nat) : Stp := match L[k]? with | some s => s.a | none => (0, 0)
theorem atN_get {L : List Sn} {k : Nat} (h : k < L.length) : atN L k = L[k].a := by unfold atN; rw [List.getElem?_eq_getElem h]
/-- Where the first of the least stands, of the first k. -/
def minT (L : List Sn) : Nat → Nat
  | 0 => 0
  | k + 1 => if k = 0 then 0 else if ltS (atN L k) (atN L (minT L k)) = true then k else minT L k
theorem minT_lt (L : List Sn) {k : Nat} (h : 0 < k) : minT L k < k := by
  induction k with
  | zero => omega
  | succ k ih =>
    rw [minT]
    by_cases h0 : k = 0
    · rw [if_pos h0]; omega
    · rw [if_neg h0]
      split
      · omega
      · have := ih (by omega); omega
theorem minT_least (L : List Sn) : ∀ k j, j < k → ltS (atN L j) (atN L (minT L k)) = false
  | 0, j, h => by omega
  | k + 1, j, h => by
    rw [minT]
    by_cases h0 : k = 0
    · rw [if_pos h0]
      have : j = 0 := by omega
      subst this
      unfold ltS; simp
    · rw [if_neg h0]
      by_cases hl : ltS (atN L k) (atN L (minT L k)) = true
      · rw [if_pos hl]
        by_cases hj : j = k
        · subst hj; unfold ltS; simp
        · have := minT_least L k j (by omega)
          unfold ltS at *
          simp only [Bool.or_eq_false_iff, Bool.and_eq_false_iff, decide_eq_false_iff_not, Bool.or_eq_true, Bool.and_eq_true, decide_eq_true_eq] at *
          omega
      · rw [if_neg hl]
        by_cases hj : j = k
        · subst hj; simpa using hl
        · exact minT_least L k j (by omega)
theorem minT_first (L : List Sn) : ∀ k j, j < minT L k → ltS (atN L (minT L k)) (atN L j) = true
  | 0, j, h => by simp [minT] at h
  | k + 1, j, h => by
    rw [minT] at h ⊢
    by_cases h0 : k = 0
    · rw [if_pos h0] at h; omega
    · rw [if_neg h0] at h ⊢
      by_cases hl : ltS (atN L k) (atN L (minT L k)) = true
      · rw [if_pos hl] at h ⊢
        have := minT_least L k j (by omega)
        unfold ltS at *
        simp only [Bool.or_eq_false_iff, Bool.and_eq_false_iff, decide_eq_false_iff_not, Bool.or_eq_true, Bool.and_eq_true, decide_eq_true_eq] at *
        omega
      · rw [if_neg hl] at h ⊢
        exact minT_first L k j h
section
variable {K : AHeap} {c : Nat} {lo : Stp} {L : List Sn} {v : AV} {f t : List UInt8} {a : Stp}
theorem eSn (s : Sn) : rd true 4 0 (rowSn s) = some (.agg [.str s.f, .str s.t, .int .i64 s.a.1, .int .i64 s.a.2]) := rfl
theorem cDrop1 (x y : Sn) (H : AHeap) : call T 56 [.agg [.str x.f, .str x.t, .int .i64 x.a.1, .int .i64 x.a.2], .agg [.str y.f, .str y.t, .int .i64 y.a.1, .int .i64 y.a.2]] H =
    some (.int .i64 (if x.a.1 < y.a.1 then -1 else if y.a.1 < x.a.1 then 1 else if x.a.2 < y.a.2 then -1 else if y.a.2 < x.a.2 then 1 else 0), H) := by
  rw [call_at (show T 56 = some (.ir ⟨_, _, _, _, _⟩) from T56)]
  have e1 := tCompare x.a y.a H.top
  generalize (if x.a.1 < y.a.1 then (-1 : Int) else if y.a.1 < x.a.1 then 1 else if x.a.2 < y.a.2 then -1 else if y.a.2 < x.a.2 then 1 else 0) = n at *
  simp -implicitDefEqProofs [e1, fin_pure]
theorem cmp_lt (x y : Stp) : ((if x.1 < y.1 then (-1 : Int) else if y.1 < x.1 then 1 else if x.2 < y.2 then -1 else if y.2 < x.2 then 1 else 0) < 0) = (ltS x y = true) := by
  unfold ltS
  (repeat' split) <;> simp_all <;> omega
theorem min_loop (hO : View K 4 v (L.map rowSn)) (hl : L.length ≤ 1000000) (h0 : 0 < L.length) :
    ∃ z s', den T (.loop L55_0) ⟨[(0, v), (1, .func (.func 56) [] []), (4, .lptr 4 0), (5, .lptr 5 0), (6, .int .i64 1)], [(4, [.str [], .str [], .int .i64 0, .int .i64 0]), (5, rowSn L[0])], K⟩ = some (z, s') ∧
      z = .exit 0 ∧ s'.H = K ∧ Go.Wam.look 4 s'.env = some (.lptr 4 0) ∧ Go.Wam.look 5 s'.env = some (.lptr 5 0) ∧ Go.Wam.look 4 s'.loc = some [.str [], .str [], .int .i64 0, .int .i64 0] ∧ Go.Wam.look 5 s'.loc = some (rowSn (L[minT L L.length]'(minT_lt L h0))) := by
  refine loop_inv (I := fun q st => ∃ (i : Nat) (x : Sn), i + q = L.length ∧ 1 ≤ i ∧ L[minT L i]? = some x ∧ st = ⟨[(0, v), (1, .func (.func 56) [] []), (4, .lptr 4 0), (5, .lptr 5 0), (6, .int .i64 i)], [(4, [.str [], .str [], .int .i64 0, .int .i64 0]), (5, rowSn x)], K⟩) _ ?_ (L.length - 1) _ ⟨1, L[0], by omega, Nat.le_refl _, by simp [minT, h0], by simp [prS]⟩
  rintro q _ ⟨i, x, hi, hi1, hx, rfl⟩ P hI hX hR
  have hvn := hO.noL
  have e0 := hO.lenS
  rw [List.length_map] at e0
  by_cases hlt : i < L.length
  · have hw := wrap_id (n := (i : Int) + 1) (by omega) (by omega)
    have e1 := hO.idx .i64 (n := i) (by omega) (by rw [List.length_map]; omega)
    have e2 := hO.rd (i := i) (r := rowSn L[i]) (by rw [List.getElem?_map, List.getElem?_eq_getElem hlt]; rfl) true (k := 4) (f := 0) (by omega) (by omega) (by simp)
    rw [eSn] at e2
    simp only [Int.toNat_natCast, Nat.add_zero] at e1 e2
    have e3 := cDrop1 L[i] x K
    have e4 := cmp_lt L[i].a x.a
    have hsu : minT L (i + 1) = if ltS L[i].a x.a = true then i else minT L i := by
      rw [minT, if_neg (by omega), atN_get hlt]
      unfold atN; rw [hx]
    have hgi : L[i]? = some L[i] := List.getElem?_eq_getElem hlt
    generalize (if L[i].a.1 < x.a.1 then (-1 : Int) else if x.a.1 < L[i].a.1 then 1 else if L[i].a.2 < x.a.2 then -1 else if x.a.2 < L[i].a.2 then 1 else 0) = n at *
    generalize L[i] = y at *
    by_cases hl2 : ltS y.a x.a = true
    · rw [if_pos hl2] at hsu
      have h3 : n < 0 := by rw [e4]; exact hl2
      simp -implicitDefEqProofs [rowSn, e0, hlt, e1, e2, e3, h3, hvn, hw]
      refine hI _ _ _ (q - 1) (by omega) ?_
      exact ⟨i + 1, y, by omega, by omega, by rw [hsu]; exact hgi, by simp [rowSn]⟩
    · rw [if_neg hl2] at hsu
      have h3 : ¬ n < 0 := by rw [e4]; exact hl2
      simp -implicitDefEqProofs [rowSn, e0, hlt, e1, e2, e3, h3, hvn, hw]
      refine hI _ _ _ (q - 1) (by omega) ?_
      exact ⟨i + 1, x, by omega, by omega, by rw [hsu]; exact hx, by simp [rowSn]⟩
  · have hil : i = L.length := by omega
    subst hil
    have hx' : L[minT L L.length]'(minT_lt L h0) = x := by
      rw [List.getElem?_eq_getElem (minT_lt L h0)] at hx
      exact Option.some.inj hx
    simp -implicitDefEqProofs [rowSn, e0, hvn]
    refine hX _ _ ?_
    exact ⟨rfl, rfl, by simp, by simp, by simp, by rw [hx']; simp [rowSn]⟩
theorem cMin (hO : View K 4 v (L.map rowSn)) (hl : L.length ≤ 1000000) (h0 : 0 < L.length) :
    call T 55 [v, .func (.func 56) [] []] K = some (.agg (rowSn (L[minT L L.length]'(minT_lt L h0))), K) := by
  rw [call_at (show T 55 = some (.ir ⟨_, _, _, _, _⟩) from T55)]
  obtain ⟨z, ⟨e, l2, K2⟩, f1, rfl, hK, g4, g5, q4, q5⟩ := min_loop hO.top hl h0
  simp only at hK g4 g5 q4 q5
  subst hK
  have hvn := hO.noL
  have e0 := hO.lenS
  rw [List.length_map] at e0
  have e1 := hO.idx .i64 (n := 0) (by omega) (by rw [List.length_map]; omega)
  have e2 := hO.top.rd (i := 0) (r := rowSn L[0]) (by rw [List.getElem?_map, List.getElem?_eq_getElem h0]; rfl) true (k := 4) (f := 0) (by omega) (by omega) (by simp)
  rw [eSn] at e2
  simp only [Int.toNat_zero, Nat.zero_mul, Nat.add_zero] at e1 e2
  have h1 : ¬ (L.length : Int) < 1 := by omega
  have h2 : ¬ L.length < 1 := by omega
  generalize L[minT L L.length]'(minT_lt L h0) = x at *
  simp only [rowSn] at f1 q5
  generalize (L.length : Int) = n at *
  simp -implicitDefEqProofs [rowSn, e0, e1, e2, h1, hvn, f1, g4, g5, q4, q5, fin_pure]
theorem idx_loop (hO : View K 4 v (L.map rowSn)) (hl : L.length ≤ 1000000) {k : Nat} (hk : k < L.length) (hf : ∀ j (h : j < k), ¬ (L[j]'(by omega)).a = L[k].a) :
    ∃ z s', den T (.loop L57_0) ⟨[(0, v), (3, .lptr 3 0), (7, .int .i64 L.length), (8, .int .i64 0)], [(3, rowSn L[k])], K⟩ = some (z, s') ∧
      z = .ret ∧ s'.H = K ∧ Go.Wam.look 4 s'.env = some (.int .i64 k) := by
  refine loop_inv (I := fun q st => ∃ i : Nat, i + q = L.length ∧ i ≤ k ∧ st = ⟨[(0, v), (3, .lptr 3 0), (7, .int .i64 L.length), (8, .int .i64 i)], [(3, rowSn L[k])], K⟩) _ ?_ L.length _ ⟨0, by omega, by omega, by simp [prS]⟩
  rintro q _ ⟨i, hi, hik, rfl⟩ P hI hX hR
  have hvn := hO.noL
  have hlt : i < L.length := by omega
  have hltI : (i : Int) < L.length := by omega
  have hw := wrap_id (n := (i : Int) + 1) (by omega) (by omega)
  have e1 := hO.idx .i64 (n := i) (by omega) (by rw [List.length_map]; omega)
  have e2 := hO.rd (i := i) (r := rowSn L[i]) (by rw [List.getElem?_map, List.getElem?_eq_getElem hlt]; rfl) true (k := 4) (f := 0) (by omega) (by omega) (by simp)
  rw [eSn] at e2
  simp only [Int.toNat_natCast, Nat.add_zero] at e1 e2
  by_cases hk2 : i = k
  · subst hk2
    generalize L[i] = x at *
    simp -implicitDefEqProofs [rowSn, hlt, e1, e2, hvn]
    refine hR _ ?_
    exact ⟨rfl, rfl, by simp⟩
  · have hne := hf i (by omega)
    have hne' : ¬ (L[k].a.1 = L[i].a.1 ∧ L[k].a.2 = L[i].a.2) := fun ⟨h1, h2⟩ => hne (Prod.ext h1.symm h2.symm)
    generalize hy : L[k] = y at *
    generalize L[i] = x at *
    have hcase : (∃ hb : ¬ y.a.1 = x.a.1, True) ∨ (y.a.1 = x.a.1 ∧ ¬ y.a.2 = x.a.2) := by
      by_cases h1 : y.a.1 = x.a.1
      · exact .inr ⟨h1, fun h2 => hne' ⟨h1, h2⟩⟩
      · exact .inl ⟨h1, trivial⟩
    rcases hcase with ⟨h1, _⟩ | ⟨h1, h2⟩
    · simp -implicitDefEqProofs [rowSn, hlt, e1, e2, hvn, h1, hw]
      refine hI _ _ _ (q - 1) (by omega) ?_
      exact ⟨i + 1, by omega, by omega, by simp [rowSn]⟩
    · simp -implicitDefEqProofs [rowSn, hlt, e1, e2, hvn, h2, hw]
      refine hI _ _ _ (q - 1) (by omega) ?_
      exact ⟨i + 1, by omega, by omega, by simp [rowSn]⟩
theorem cIdx (hO : View K 4 v (L.map rowSn)) (hl : L.length ≤ 1000000) (h0 : 0 < L.length) :
    call T 57 [v, .agg (rowSn (L[minT L L.length]'(minT_lt L h0)))] K = some (.int .i64 (minT L L.length), K) := by
  rw [call_at (show T 57 = some (.ir ⟨_, _, _, _, _⟩) from T57)]
  have hk := minT_lt L h0
  obtain ⟨z, ⟨e, l2, K2⟩, f1, rfl, hK, g4⟩ := idx_loop hO.top hl hk (fun j hj e => by
    have := minT_first L L.length j hj
    rw [atN_get hk, atN_get (by omega), e] at this
    unfold ltS at this; simp at this)
  simp only at hK g4
  subst hK
  have hvn := hO.noL
  have e0 := hO.lenS
  rw [List.length_map] at e0
  generalize L[minT L L.length]'(minT_lt L h0) = x at *
  simp only [rowSn] at f1
  simp -implicitDefEqProofs [rowSn, e0, hvn, f1, g4, fin_pure]
end
end Go.Proofs.Ytdnnpgmekbnlbaa
