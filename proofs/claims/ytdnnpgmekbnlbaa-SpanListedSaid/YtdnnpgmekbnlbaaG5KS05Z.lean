/- SpanListed. No condition. -/
import Derived.Test.YtdnnpgmekbnlbaaG5KS05Y
set_option linter.unusedVariables false
set_option linter.unusedSimpArgs false
namespace Go.Proofs.Ytdnnpgmekbnlbaa
open Go.Wam

attribute [local simp] den_seq den_region den_regionD0 den_regionD1 den_condB condB_bool den_block den_keep den_ret den_skip den_exit sops_cons sops_nil sopsR_cons sopsR_nil goR_eq readOk trace_cons trace_nil Opd.ev evs Go.Wam.look St.put enterA zipI leaveR_ret leaveR_normal rvs RV.ev
  st_guard guardB_bool st_move st_pick pickB_bool st_allocL st_alloc st_boxL st_box st_build st_buildSlice st_load st_store st_nilCheck nilC st_bin st_un st_convI convI st_convS convS st_convB convB st_mkIface st_mkFunc st_mkMap st_mkSlice mkSl st_slice st_fieldAddr fldA st_field fldV st_idx idxS_slice idxS_oslice st_idxArr idxArr st_idxStr idxStr st_idxAgg idxAgg st_extract extA st_call callA_func st_len st_lenStr lenStr st_lenArr st_lenMap st_append st_clear clearV st_maxs st_mins
  load_ptr load_lptr storeA rd wr goOn_normal goOn_exit goOn_ret outBlock_normal outBlock_exit outBlock_ret prune freeL_nil freeL_cons frV_lptr frV_tuple frV_noL fillA allNoL packA unA checkAt ev_load wantedA beq_same beqL_same AV.beq AV.beqL drawCond freshD readsOk isRead undefA optInt optIntO
  strOp aeqF_nil aeqF_cons andA_some i_add i_sub i_mul i_lss i_leq i_gtr i_geq i_quo i_rem i_eql i_neq s_eql s_neq s_lss
  s_leq s_gtr s_geq s_add e_bool n_bool e_nilp n_nilp e_ptr n_ptr e_lptr n_lptr e_agg n_agg
  e_nils n_nils e_slice n_slice e_oslice n_oslice e_eslice n_eslice e_xslice n_xslice e_nilm n_nilm e_map n_map
  e_nilFunc n_nilFunc e_func n_func q_int q_bool q_str q_struct q_ptr0 q_ptrL0 q_ptrR0 q_ptrL1 q_ptrR1 q_slice0
  q_sliceL0 q_sliceR0 q_sliceL1 q_sliceR1 q_sliceL2 q_sliceR2 q_sliceL3 q_sliceR3 q_map0 q_mapL0 q_mapR0 q_func0 q_funcL0 q_funcR0
  okR_some guardB_tuple get_alloc_eq rdAt_alloc_eq set_alloc_eq set_alloc_ne get_alloc_ne rdAt_alloc_ne
section
variable {H : AHeap} {lv kv : AV} {l o : List (List UInt8)} {f t : List UInt8}
theorem sl_loop0 (hok : H.ok) (hV : View H 1 lv (l.map sR)) (hl : l.length ≤ 1000000) :
    ∃ z s', den T (.loop L12_0) ⟨[(1, lv), (2, .lptr 2 0), (6, .int .i64 0)], [(2, [.str f, .str t])], H⟩ = some (z, s') ∧
      ((z = .exit 0 ∧ s'.H = H ∧ Go.Wam.look 1 s'.env = some lv ∧ Go.Wam.look 2 s'.env = some (.lptr 2 0) ∧ Go.Wam.look 2 s'.loc = some [.str f, .str t]) ∨ (z = .ret ∧ Go.Wam.look 4 s'.env = some (.bool true))) := by
  refine loop_inv (I := fun q st => ∃ i : Nat, i + q = l.length ∧ st = ⟨[(1, lv), (2, .lptr 2 0), (6, .int .i64 i)], [(2, [.str f, .str t])], H⟩) _ ?_ l.length _ ⟨0, by omega, by simp [prS]⟩
  rintro q _ ⟨i, hi, rfl⟩ P hI hX hR
  have e0 := hV.lenS
  rw [List.length_map] at e0
  have hvn := hV.noL
  have ea := sAlive hok
  by_cases hlt : i < l.length
  · have hw := wrap_id (n := (i : Int) + 1) (by omega) (by omega)
    have r4 : ∀ s, rd false 1 0 (sR s) = some (.str s) := fun _ => rfl
    have e1 := hV.idx .i64 (n := i) (by omega) (by rw [List.length_map]; omega)
    have e2 := hV.rd (i := i) (r := sR l[i]) (by rw [List.getElem?_map, List.getElem?_eq_getElem hlt]; rfl) false (k := 1) (f := 0) (by omega) (by omega) (by simp)
    rw [r4] at e2
    simp only [Int.toNat_natCast, Nat.add_zero, Nat.mul_one] at e1 e2
    by_cases h2 : (200 : Int) < l[i].length
    · simp -implicitDefEqProofs [e0, hlt, hvn, e1, e2, h2, ea]
      refine hR _ ?_
      exact .inr ⟨rfl, by simp⟩
    · simp -implicitDefEqProofs [e0, hlt, hvn, e1, e2, h2, hw]
      refine hI _ _ _ (q - 1) (by omega) ?_
      exact ⟨i + 1, by omega, by simp⟩
  · simp -implicitDefEqProofs [e0, hlt, hvn]
    refine hX _ _ ?_
    exact .inl ⟨rfl, rfl, by simp, by simp, by simp⟩

/-- Is it in the list? -/
theorem sl_loop1 (hV : View H 1 lv (l.map sR)) (hO : View H 1 kv (o.map sR)) (hl : l.length ≤ 1000000) (ho : o.length ≤ 1000000) {i : Nat} (hi : i < o.length) :
    ∃ z s', den T (.loop L12_1) ⟨[(1, lv), (2, .lptr 2 0), (7, kv), (8, .int .i64 i), (9, .bool false), (10, .int .i64 0)], [(2, [.str f, .str t])], H⟩ = some (z, s') ∧
      z = .exit 4 ∧ s'.H = H ∧ Go.Wam.look 1 s'.env = some lv ∧ Go.Wam.look 2 s'.env = some (.lptr 2 0) ∧ Go.Wam.look 7 s'.env = some kv ∧ Go.Wam.look 8 s'.env = some (.int .i64 i) ∧ Go.Wam.look 9 s'.env = some (.bool (l.any (fun s => s == o[i]))) ∧ Go.Wam.look 2 s'.loc = some [.str f, .str t] := by
  refine loop_inv (I := fun q st => ∃ j : Nat, j + q = l.length ∧ st = ⟨[(1, lv), (2, .lptr 2 0), (7, kv), (8, .int .i64 i), (9, .bool ((l.take j).any (fun s => s == o[i]))), (10, .int .i64 j)], [(2, [.str f, .str t])], H⟩) _ ?_ l.length _ ⟨0, by omega, by simp [prS]⟩
  rintro q _ ⟨j, hj, rfl⟩ P hI hX hR
  have e0 := hV.lenS
  rw [List.length_map] at e0
  have hvn := hV.noL
  have hon := hO.noL
  have r4 : ∀ s, rd false 1 0 (sR s) = some (.str s) := fun _ => rfl
  by_cases hlt : j < l.length
  · have hw := wrap_id (n := (j : Int) + 1) (by omega) (by omega)
    have e1 := hV.idx .i64 (n := j) (by omega) (by rw [List.length_map]; omega)
    have e2 := hV.rd (i := j) (r := sR l[j]) (by rw [List.getElem?_map, List.getElem?_eq_getElem hlt]; rfl) false (k := 1) (f := 0) (by omega) (by omega) (by simp)
    have e3 := hO.idx .i64 (n := i) (by omega) (by rw [List.length_map]; omega)
    have e4 := hO.rd (i := i) (r := sR o[i]) (by rw [List.getElem?_map, List.getElem?_eq_getElem hi]; rfl) false (k := 1) (f := 0) (by omega) (by omega) (by simp)
    rw [r4] at e2 e4
    simp only [Int.toNat_natCast, Nat.add_zero, Nat.mul_one] at e1 e2 e3 e4
    have ht : (l.take (j + 1)).any (fun s => s == o[i]) = ((l.take j).any (fun s => s == o[i]) || (l[j] == o[i])) := by rw [List.take_succ_eq_append_getElem hlt, List.any_append]; simp
    generalize (l.take j).any (fun s => s == o[i]) = b at *
    cases b with
    | true =>
      simp -implicitDefEqProofs [e0, hlt, hvn, hon, hw]
      refine hI _ _ _ (q - 1) (by omega) ?_
      exact ⟨j + 1, by omega, by rw [ht]; simp⟩
    | false =>
      rw [Bool.false_or] at ht
      by_cases hxy : l[j] = o[i]
      · have : (l[j] == o[i]) = true := by simpa using hxy
        rw [this] at ht
        rw [hxy] at e2
        generalize o[i] = y at *
        simp -implicitDefEqProofs [e0, hlt, hvn, hon, e1, e2, e3, e4, hw]
        refine hI _ _ _ (q - 1) (by omega) ?_
        exact ⟨j + 1, by omega, by rw [ht]; simp⟩
      · have : (l[j] == o[i]) = false := by simpa using hxy
        rw [this] at ht
        simp -implicitDefEqProofs [e0, hlt, hvn, hon, e1, e2, e3, e4, hxy, hw]
        refine hI _ _ _ (q - 1) (by omega) ?_
        exact ⟨j + 1, by omega, by rw [ht]; simp [hxy]⟩
  · have hjl : j = l.length := by omega
    subst hjl
    rw [List.take_length]
    simp -implicitDefEqProofs [e0, hvn]
    refine hX _ _ ?_
    exact ⟨rfl, rfl, by simp, by simp, by simp, by simp, by simp, by simp⟩

/-- Is it among the keys? -/
theorem sl_loop3 (hV : View H 1 lv (l.map sR)) (hO : View H 1 kv (o.map sR)) (hl : l.length ≤ 1000000) (ho : o.length ≤ 1000000) {j : Nat} (hj : j < l.length) :
    ∃ z s', den T (.loop L12_3) ⟨[(1, lv), (2, .lptr 2 0), (7, kv), (11, .int .i64 j), (12, .bool false), (13, .int .i64 0)], [(2, [.str f, .str t])], H⟩ = some (z, s') ∧
      z = .exit 8 ∧ s'.H = H ∧ Go.Wam.look 1 s'.env = some lv ∧ Go.Wam.look 2 s'.env = some (.lptr 2 0) ∧ Go.Wam.look 7 s'.env = some kv ∧ Go.Wam.look 11 s'.env = some (.int .i64 j) ∧ Go.Wam.look 12 s'.env = some (.bool (o.any (fun s => l[j] == s))) ∧ Go.Wam.look 2 s'.loc = some [.str f, .str t] := by
  refine loop_inv (I := fun q st => ∃ i : Nat, i + q = o.length ∧ st = ⟨[(1, lv), (2, .lptr 2 0), (7, kv), (11, .int .i64 j), (12, .bool ((o.take i).any (fun s => l[j] == s))), (13, .int .i64 i)], [(2, [.str f, .str t])], H⟩) _ ?_ o.length _ ⟨0, by omega, by simp [prS]⟩
  rintro q _ ⟨i, hi, rfl⟩ P hI hX hR
  have e0 := hO.lenS
  rw [List.length_map] at e0
  have hvn := hV.noL
  have hon := hO.noL
  have r4 : ∀ s, rd false 1 0 (sR s) = some (.str s) := fun _ => rfl
  by_cases hlt : i < o.length
  · have hw := wrap_id (n := (i : Int) + 1) (by omega) (by omega)
    have e1 := hV.idx .i64 (n := j) (by omega) (by rw [List.length_map]; omega)
    have e2 := hV.rd (i := j) (r := sR l[j]) (by rw [List.getElem?_map, List.getElem?_eq_getElem hj]; rfl) false (k := 1) (f := 0) (by omega) (by omega) (by simp)
    have e3 := hO.idx .i64 (n := i) (by omega) (by rw [List.length_map]; omega)
    have e4 := hO.rd (i := i) (r := sR o[i]) (by rw [List.getElem?_map, List.getElem?_eq_getElem hlt]; rfl) false (k := 1) (f := 0) (by omega) (by omega) (by simp)
    rw [r4] at e2 e4
    simp only [Int.toNat_natCast, Nat.add_zero, Nat.mul_one] at e1 e2 e3 e4
    have ht : (o.take (i + 1)).any (fun s => l[j] == s) = ((o.take i).any (fun s => l[j] == s) || (l[j] == o[i])) := by rw [List.take_succ_eq_append_getElem hlt, List.any_append]; simp
    generalize (o.take i).any (fun s => l[j] == s) = b at *
    cases b with
    | true =>
      simp -implicitDefEqProofs [e0, hlt, hvn, hon, hw]
      refine hI _ _ _ (q - 1) (by omega) ?_
      exact ⟨i + 1, by omega, by rw [ht]; simp⟩
    | false =>
      rw [Bool.false_or] at ht
      by_cases hxy : l[j] = o[i]
      · have : (l[j] == o[i]) = true := by simpa using hxy
        rw [this] at ht
        rw [hxy] at e2
        generalize o[i] = y at *
        simp -implicitDefEqProofs [e0, hlt, hvn, hon, e1, e2, e3, e4, hw]
        refine hI _ _ _ (q - 1) (by omega) ?_
        exact ⟨i + 1, by omega, by rw [ht]; simp⟩
      · have : (l[j] == o[i]) = false := by simpa using hxy
        rw [this] at ht
        simp -implicitDefEqProofs [e0, hlt, hvn, hon, e1, e2, e3, e4, hxy, hw]
        refine hI _ _ _ (q - 1) (by omega) ?_
        exact ⟨i + 1, by omega, by rw [ht]; simp [hxy]⟩
  · have hil : i = o.length := by omega
    subst hil
    rw [List.take_length]
    simp -implicitDefEqProofs [e0, hon]
    refine hX _ _ ?_
    exact ⟨rfl, rfl, by simp, by simp, by simp, by simp, by simp, by simp⟩

theorem sl_loop2 (hV : View H 1 lv (l.map sR)) (hO : View H 1 kv (o.map sR)) (hl : l.length ≤ 1000000) (ho : o.length ≤ 1000000) (hf : Small f) (ht : Small t) (hsm : ∀ s ∈ l, Small s) (hk : KeysOf f t l o) :
    ∃ z s', den T (.loop L12_2) ⟨[(1, lv), (2, .lptr 2 0), (7, kv), (8, .int .i64 0)], [(2, [.str f, .str t])], H⟩ = some (z, s') ∧
      z = .exit 2 ∧ s'.H = H ∧ Go.Wam.look 1 s'.env = some lv ∧ Go.Wam.look 2 s'.env = some (.lptr 2 0) ∧ Go.Wam.look 7 s'.env = some kv ∧ Go.Wam.look 2 s'.loc = some [.str f, .str t] := by
  refine loop_inv (I := fun q st => ∃ i : Nat, i + q = o.length ∧ st = ⟨[(1, lv), (2, .lptr 2 0), (7, kv), (8, .int .i64 i)], [(2, [.str f, .str t])], H⟩) _ ?_ o.length _ ⟨0, by omega, by simp [prS]⟩
  rintro q _ ⟨i, hi, rfl⟩ P hI hX hR
  have e0 := hO.lenS
  rw [List.length_map] at e0
  have hvn := hV.noL
  have hon := hO.noL
  have r4 : ∀ s, rd false 1 0 (sR s) = some (.str s) := fun _ => rfl
  by_cases hlt : i < o.length
  · have hw := wrap_id (n := (i : Int) + 1) (by omega) (by omega)
    obtain ⟨z, ⟨e, lo, K⟩, f1, rfl, hK, g1, g2, g7, g8, g9, gl⟩ := sl_loop1 (f := f) (t := t) hV hO hl ho hlt
    simp only at hK g1 g2 g7 g8 g9 gl
    subst hK
    have hm := (hk.mem o[i]).1 (List.getElem_mem hlt)
    have hany : l.any (fun s => s == o[i]) = true := List.any_eq_true.2 ⟨o[i], hm.1, by simp⟩
    rw [hany] at g9
    have e3 := hO.idx .i64 (n := i) (by omega) (by rw [List.length_map]; omega)
    have e4 := hO.rd (i := i) (r := sR o[i]) (by rw [List.getElem?_map, List.getElem?_eq_getElem hlt]; rfl) false (k := 1) (f := 0) (by omega) (by omega) (by simp)
    rw [r4] at e4
    simp only [Int.toNat_natCast, Nat.add_zero, Nat.mul_one] at e3 e4
    have e5 := sHas hf ht (hsm _ hm.1) K
    rw [hm.2] at e5
    by_cases h0 : i = 0
    · have h0' : ¬ (0 : Int) < i := by omega
      have h0'' : ¬ 0 < i := by omega
      generalize o[i] = y at *
      simp -implicitDefEqProofs [e0, hlt, hon, f1, g1, g2, g7, g8, g9, gl, e3, e4, e5, h0', h0'', hw]
      refine hI _ _ _ (q - 1) (by omega) ?_
      exact ⟨i + 1, by omega, by simp [g1, g2, g7, gl]⟩
    · have h0' : (0 : Int) < i := by omega
      have h0'' : 0 < i := by omega
      have hj1 : i - 1 < o.length := by omega
      have hw1 := wrap_id (n := (i : Int) - 1) (by omega) (by omega)
      have e6 := hO.idx .i64 (n := (i : Int) - 1) (by omega) (by rw [List.length_map]; omega)
      have e7 := hO.rd (i := i - 1) (r := sR (o[i - 1]'hj1)) (by rw [List.getElem?_map, List.getElem?_eq_getElem hj1]; rfl) false (k := 1) (f := 0) (by omega) (by omega) (by simp)
      rw [r4] at e7
      rw [show ((i : Int) - 1).toNat = i - 1 by omega] at e6
      simp only [Nat.add_zero, Nat.mul_one] at e6 e7
      have hlt2 : bytesLess (o[i - 1]'hj1) o[i] = true := List.pairwise_iff_getElem.1 hk.asc (i - 1) i hj1 hlt (by omega)
      have hb1 := less_asym hlt2
      have hb2 : ¬ o[i] = o[i - 1]'hj1 := fun e => by rw [e, less_irr] at hlt2; cases hlt2
      generalize (o[i - 1]'hj1) = y1 at *
      generalize o[i] = y at *
      simp -implicitDefEqProofs [e0, hlt, hon, f1, g1, g2, g7, g8, g9, gl, e3, e4, e5, h0', h0'', hw1, e6, e7, hb1, hb2, hw]
      refine hI _ _ _ (q - 1) (by omega) ?_
      exact ⟨i + 1, by omega, by simp [g1, g2, g7, gl]⟩
  · simp -implicitDefEqProofs [e0, hlt, hon]
    refine hX _ _ ?_
    exact ⟨rfl, rfl, by simp, by simp, by simp, by simp⟩

theorem sl_loop4 (hV : View H 1 lv (l.map sR)) (hO : View H 1 kv (o.map sR)) (hl : l.length ≤ 1000000) (ho : o.length ≤ 1000000) (hf : Small f) (ht : Small t) (hsm : ∀ s ∈ l, Small s) (hk : KeysOf f t l o) :
    ∃ z s', den T (.loop L12_4) ⟨[(1, lv), (2, .lptr 2 0), (7, kv), (11, .int .i64 0)], [(2, [.str f, .str t])], H⟩ = some (z, s') ∧
      z = .exit 6 ∧ s'.H = H ∧ Go.Wam.look 2 s'.env = some (.lptr 2 0) ∧ Go.Wam.look 7 s'.env = some kv ∧ Go.Wam.look 2 s'.loc = some [.str f, .str t] := by
  refine loop_inv (I := fun q st => ∃ j : Nat, j + q = l.length ∧ st = ⟨[(1, lv), (2, .lptr 2 0), (7, kv), (11, .int .i64 j)], [(2, [.str f, .str t])], H⟩) _ ?_ l.length _ ⟨0, by omega, by simp [prS]⟩
  rintro q _ ⟨j, hj, rfl⟩ P hI hX hR
  have e0 := hV.lenS
  rw [List.length_map] at e0
  have hvn := hV.noL
  have hon := hO.noL
  have r4 : ∀ s, rd false 1 0 (sR s) = some (.str s) := fun _ => rfl
  by_cases hlt : j < l.length
  · have hw := wrap_id (n := (j : Int) + 1) (by omega) (by omega)
    obtain ⟨z, ⟨e, lo, K⟩, f1, rfl, hK, g1, g2, g7, g11, g12, gl⟩ := sl_loop3 (f := f) (t := t) hV hO hl ho hlt
    simp only at hK g1 g2 g7 g11 g12 gl
    subst hK
    have hany : o.any (fun s => l[j] == s) = hasB f t l[j] := by
      rw [Bool.eq_iff_iff, List.any_eq_true]
      constructor
      · rintro ⟨s, hs, he⟩
        have : l[j] = s := by simpa using he
        rw [this]
        exact ((hk.mem s).1 hs).2
      · intro h
        exact ⟨l[j], (hk.mem _).2 ⟨List.getElem_mem hlt, h⟩, by simp⟩
    rw [hany] at g12
    have e3 := hV.idx .i64 (n := j) (by omega) (by rw [List.length_map]; omega)
    have e4 := hV.rd (i := j) (r := sR l[j]) (by rw [List.getElem?_map, List.getElem?_eq_getElem hlt]; rfl) false (k := 1) (f := 0) (by omega) (by omega) (by simp)
    rw [r4] at e4
    simp only [Int.toNat_natCast, Nat.add_zero, Nat.mul_one] at e3 e4
    have e5 := sHas hf ht (hsm _ (List.getElem_mem hlt)) K
    generalize hasB f t l[j] = b at *
    generalize l[j] = y at *
    simp -implicitDefEqProofs [e0, hlt, hvn, f1, g1, g2, g7, g11, g12, gl, e3, e4, e5, hw]
    refine hI _ _ _ (q - 1) (by omega) ?_
    exact ⟨j + 1, by omega, by simp [g1, g2, g7, gl]⟩
  · simp -implicitDefEqProofs [e0, hlt, hvn]
    refine hX _ _ ?_
    exact ⟨rfl, rfl, by simp, by simp, by simp⟩

theorem nListed (hok : H.ok) (hV : View H 1 lv (l.map sR)) (hsm : ∀ s ∈ l, Small s) : OkR (call T 12 [.agg [.str f, .str t], lv] H) fun r => r.1 = .bool true := by
  rw [call_at (show T 12 = some (.ir ⟨_, _, _, _, _⟩) from T12)]
  have hokT := AHeap.ok.top hok.1
  have e1 := sFits f t H.top
  have ea := sAlive hokT
  have e0 := hV.lenS
  rw [List.length_map] at e0
  have hvn := hV.noL
  by_cases h1 : fitB f t = true
  · obtain ⟨tf, tt⟩ := fit_txt h1
    by_cases h2 : l.length ≤ 40
    · have h2' : ¬ (40 : Int) < l.length := by omega
      have h2'' : ¬ 40 < l.length := by omega
      obtain ⟨z, ⟨e, lo, K⟩, f1, ⟨rfl, hK, g1, g2, gl⟩ | ⟨rfl, g4⟩⟩ := sl_loop0 (f := f) (t := t) hokT hV.top (by omega)
      · simp only at hK g1 g2 gl
        subst hK
        obtain ⟨o, x, K2, k2, f2, O2, c2, n2⟩ := sKeysOf (f := f) (t := t) hokT (small_of tf) (small_of tt) hV.top (by omega) hsm
        have ok2 := c2.ok hokT
        have hol : o.length ≤ 1000000 := by
          obtain ⟨o3, y, K3, f3, k3, O3, c3, n3, l3⟩ := rKeys (f := f) (t := t) hokT (small_of tf) (small_of tt) hsm hV.top (by omega)
          rw [k2.unique k3]; omega
        have hsmo : ∀ s ∈ o, Small s := fun s hs => hsm s ((k2.mem s).1 hs).1
        have hV2 := hV.top.new hokT.1 c2
        obtain ⟨z2, ⟨e2, lo2, K3⟩, f3, rfl, hK3, p1, p2, p7, pl⟩ := sl_loop2 hV2 O2.view (by omega) hol (small_of tf) (small_of tt) hsm k2
        simp only at hK3 p1 p2 p7 pl
        subst hK3
        obtain ⟨z3, ⟨e3, lo3, K4⟩, f4, rfl, hK4, r2, r7, rl⟩ := sl_loop4 hV2 O2.view (by omega) hol (small_of tf) (small_of tt) hsm k2
        simp only at hK4 r2 r7 rl
        subst hK4
        have ea2 := sAlive ok2
        obtain ⟨o5, y, K5, k5, f5, O5, c5, n5⟩ := sKeysOf (f := f) (t := t) ok2 (small_of tf) (small_of tt) O2.view (by omega) hsmo
        have ho : o5 = o := k5.unique (keys_self k2)
        subst ho
        have f6 := rSame O5.view (O2.view.new ok2.1 c5) (by omega)
        have hxn := O2.view.noL
        have hyn := O5.view.noL
        simp -implicitDefEqProofs [e1, h1, e0, hvn, h2', h2'', f1, g1, g2, gl, f2, hxn, f3, p1, p2, p7, pl, f4, r2, r7, rl, ea2, f5, hyn, f6]
      · simp only at g4
        simp -implicitDefEqProofs [e1, h1, e0, hvn, h2', h2'', f1, g4]
    · have h2' : (40 : Int) < l.length := by omega
      have h2'' : 40 < l.length := by omega
      simp -implicitDefEqProofs [e1, h1, e0, hvn, h2', h2'', ea]
  · simp -implicitDefEqProofs [e1, h1, hvn, ea]
end
theorem lawListed : Law T 12 [spSh, .slice 1 16 .str] := by
  intro H ls hw hl ha
  obtain ⟨x, y, rfl, hx, ⟨v, rows, rfl, hv, _, _, hc⟩⟩ := args2 ha
  obtain ⟨f, t, rfl⟩ := sp_cells hx
  obtain ⟨l, rfl, hs⟩ := texts_of hc
  exact law_of (nListed ⟨hw, by omega⟩ hv.view hs)
end Go.Proofs.Ytdnnpgmekbnlbaa
