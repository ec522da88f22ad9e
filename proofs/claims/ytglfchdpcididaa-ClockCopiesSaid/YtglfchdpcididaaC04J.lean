/- The statement ClockCopies, in our machine. No condition. -/
import Derived.Test.YtglfchdpcididaaC04H
set_option linter.unusedVariables false
set_option linter.unusedSimpArgs false
namespace Go.Proofs.Ytglfchdpcididaa
open Go.Wam

attribute [local simp] den_seq den_region den_regionD0 den_regionD1 den_condB condB_bool den_block den_keep den_ret den_skip den_exit sops_cons sops_nil sopsR_cons sopsR_nil goR_eq readOk trace_cons trace_nil Opd.ev evs Go.Wam.look St.put enterA zipI leaveR_ret leaveR_normal rvs RV.ev
  st_guard guardB_bool st_move st_pick pickB_bool st_allocL st_alloc st_boxL st_box st_build st_buildSlice st_load st_store st_nilCheck nilC st_bin st_un st_convI convI st_convS convS st_convB convB st_mkIface st_mkFunc st_mkMap st_mkSlice mkSl st_slice st_fieldAddr fldA st_field fldV st_idx idxS_slice idxS_oslice st_idxArr idxArr st_idxStr idxStr st_idxAgg idxAgg st_extract extA st_call callA_func st_len st_lenStr lenStr st_lenArr st_lenMap st_append st_clear clearV st_maxs st_mins
  load_ptr load_lptr storeA rd wr goOn_normal goOn_exit goOn_ret outBlock_normal outBlock_exit outBlock_ret prune freeL_nil freeL_cons frV_lptr frV_tuple frV_noL fillA allNoL packA unA checkAt ev_load wantedA beq_same beqL_same AV.beq AV.beqL drawCond freshD readsOk isRead undefA optInt optIntO
  strOp aeqF_nil aeqF_cons andA_some i_add i_sub i_mul i_lss i_leq i_gtr i_geq i_quo i_rem i_eql i_neq s_eql s_neq s_lss
  s_leq s_gtr s_geq s_add e_bool n_bool e_nilp n_nilp e_ptr n_ptr e_lptr n_lptr e_agg n_agg
  e_nils n_nils e_slice n_slice e_oslice n_oslice e_eslice n_eslice e_xslice n_xslice e_nilm n_nilm e_map n_map
  e_nilFunc n_nilFunc e_func n_func q_int q_bool q_str q_struct q_ptr0 q_ptrL0 q_ptrR0 q_ptrL1 q_ptrR1 q_slice0
  q_sliceL0 q_sliceR0 q_sliceL1 q_sliceR1 q_sliceL2 q_sliceR2 q_sliceL3 q_sliceR3 q_map0 q_mapL0 q_mapR0 q_func0 q_funcL0 q_funcR0
  okR_some guardB_tuple get_alloc_eq rdAt_alloc_eq set_alloc_eq set_alloc_ne get_alloc_ne rdAt_alloc_ne
section
variable {H K : AHeap} {v : AV} {xs : List CA} {c : Nat} {o : Int} {s : CS} {F : List Nat}

theorem loop70 (hok : H.ok) (hv : View H 4 v (xs.map rowA)) (hf : 0 < xs.length → sid v ∉ F) (hF : c ∈ F) (h : ClkAt H K F c o s) (u d la p : AV) :
    ∃ x s', den T (.loop L7_0) ⟨[(1, v), (2, u), (7, .ptr c 0), (9, .int .i64 0)], [], K⟩ = some (x, s') ∧
      x = .exit 0 ∧ Go.Wam.look 2 s'.env = some u ∧ Go.Wam.look 7 s'.env = some (.ptr c 0) ∧ ClkAt H s'.H F c o (runC o s (xs.take 100)) := by
  refine loop_inv (I := fun n st => ∃ (i : Nat) (K : AHeap), i + n = min 100 xs.length ∧ st = ⟨[(1, v), (2, u), (7, .ptr c 0), (9, .int .i64 i)], [], K⟩ ∧ ClkAt H K F c o (runC o s (xs.take i))) _ ?_ (min 100 xs.length) _ ⟨0, K, by omega, by simp [prS], by simpa [runC] using h⟩
  rintro n _ ⟨i, K, hi, rfl, hk⟩ P hI hX hR
  have hvK : View K 4 v (xs.map rowA) := hv.chg hok.1 hk.chg (by simpa using hf)
  by_cases hlt : i < min 100 xs.length
  · have hlt1 : i < xs.length := by omega
    have hlt2 : (i : Int) < 100 := by omega
    have hlt3 : (i : Int) < (xs.map rowA).length := by simpa using hlt1
    have hw := wrap_id (n := (i : Int) + 1) (by omega) (by omega)
    have e0 := hvK.lenS
    have e1 := hvK.idx .i64 (n := i) (by omega) hlt3
    have e2 := hvK.rd (i := i) (r := rowA xs[i]) (by rw [List.getElem?_map, List.getElem?_eq_getElem hlt1]; rfl) true (k := 4) (f := 0) (by omega) (by omega) (by simp)
    obtain ⟨K', e3, hk'⟩ := hk.step hok hF xs[i]
    simp only [Int.toNat_natCast, Nat.add_zero, rowA, List.length_map] at e0 e1 e2 e3
    simp -implicitDefEqProofs [e0, e1, e2, e3, hlt1, hlt2, hw]
    refine hI _ _ _ (n - 1) (by omega) ?_
    refine ⟨i + 1, K', by omega, by simp, ?_⟩
    rw [List.take_succ_eq_append_getElem hlt1, runC_snoc]
    exact hk'
  · have hi' : i = min 100 xs.length := by omega
    have ht : xs.take i = xs.take 100 := by
      rw [hi']
      by_cases h1 : 100 ≤ xs.length
      · rw [Nat.min_eq_left h1]
      · rw [Nat.min_eq_right (by omega), List.take_length, List.take_of_length_le (by omega)]
    have e0 := hvK.lenS
    simp only [List.length_map] at e0
    rw [ht] at hk
    by_cases h1 : (i : Int) < xs.length
    · have h2 : ¬ (i : Int) < 100 := by omega
      have h3 : i < xs.length := by omega
      simp -implicitDefEqProofs [e0, h2, h3]
      refine hX _ _ ?_
      exact ⟨rfl, by simp, by simp, hk⟩
    · have h3 : ¬ i < xs.length := by omega
      simp -implicitDefEqProofs [e0, h3]
      refine hX _ _ ?_
      exact ⟨rfl, by simp, by simp, hk⟩

theorem loop71 (hok : H.ok) (hv : View H 4 v (xs.map rowA)) (hf : 0 < xs.length → sid v ∉ F) (hF : c ∈ F) (h : ClkAt H K F c o s) (u d la p : AV) :
    ∃ x s', den T (.loop L7_1) ⟨[(2, v), (7, u), (10, .ptr c 0), (11, .lptr 11 0), (12, p), (13, .int .i64 0)], [(11, [la, d])], K⟩ = some (x, s') ∧
      x = .exit 2 ∧ Go.Wam.look 2 s'.env = some v ∧ Go.Wam.look 7 s'.env = some u ∧ Go.Wam.look 10 s'.env = some (.ptr c 0) ∧ Go.Wam.look 11 s'.env = some (.lptr 11 0) ∧ Go.Wam.look 12 s'.env = some p ∧ Go.Wam.look 11 s'.loc = some [la, d] ∧ ClkAt H s'.H F c o (runC o s (xs.take 100)) := by
  refine loop_inv (I := fun n st => ∃ (i : Nat) (K : AHeap), i + n = min 100 xs.length ∧ st = ⟨[(2, v), (7, u), (10, .ptr c 0), (11, .lptr 11 0), (12, p), (13, .int .i64 i)], [(11, [la, d])], K⟩ ∧ ClkAt H K F c o (runC o s (xs.take i))) _ ?_ (min 100 xs.length) _ ⟨0, K, by omega, by simp [prS], by simpa [runC] using h⟩
  rintro n _ ⟨i, K, hi, rfl, hk⟩ P hI hX hR
  have hvK : View K 4 v (xs.map rowA) := hv.chg hok.1 hk.chg (by simpa using hf)
  by_cases hlt : i < min 100 xs.length
  · have hlt1 : i < xs.length := by omega
    have hlt2 : (i : Int) < 100 := by omega
    have hlt3 : (i : Int) < (xs.map rowA).length := by simpa using hlt1
    have hw := wrap_id (n := (i : Int) + 1) (by omega) (by omega)
    have e0 := hvK.lenS
    have e1 := hvK.idx .i64 (n := i) (by omega) hlt3
    have e2 := hvK.rd (i := i) (r := rowA xs[i]) (by rw [List.getElem?_map, List.getElem?_eq_getElem hlt1]; rfl) true (k := 4) (f := 0) (by omega) (by omega) (by simp)
    obtain ⟨K', e3, hk'⟩ := hk.step hok hF xs[i]
    simp only [Int.toNat_natCast, Nat.add_zero, rowA, List.length_map] at e0 e1 e2 e3
    simp -implicitDefEqProofs [e0, e1, e2, e3, hlt1, hlt2, hw]
    refine hI _ _ _ (n - 1) (by omega) ?_
    refine ⟨i + 1, K', by omega, by simp, ?_⟩
    rw [List.take_succ_eq_append_getElem hlt1, runC_snoc]
    exact hk'
  · have hi' : i = min 100 xs.length := by omega
    have ht : xs.take i = xs.take 100 := by
      rw [hi']
      by_cases h1 : 100 ≤ xs.length
      · rw [Nat.min_eq_left h1]
      · rw [Nat.min_eq_right (by omega), List.take_length, List.take_of_length_le (by omega)]
    have e0 := hvK.lenS
    simp only [List.length_map] at e0
    rw [ht] at hk
    by_cases h1 : (i : Int) < xs.length
    · have h2 : ¬ (i : Int) < 100 := by omega
      have h3 : i < xs.length := by omega
      simp -implicitDefEqProofs [e0, h2, h3]
      refine hX _ _ ?_
      exact ⟨rfl, by simp, by simp, by simp, by simp, by simp, by simp, hk⟩
    · have h3 : ¬ i < xs.length := by omega
      simp -implicitDefEqProofs [e0, h3]
      refine hX _ _ ?_
      exact ⟨rfl, by simp, by simp, by simp, by simp, by simp, by simp, hk⟩

theorem loop72 (hok : H.ok) (hv : View H 4 v (xs.map rowA)) (hf : 0 < xs.length → sid v ∉ F) (hF : c ∈ F) (h : ClkAt H K F c o s) (u d la p : AV) :
    ∃ x s', den T (.loop L7_2) ⟨[(2, v), (7, .ptr c 0), (10, u), (14, .int .i64 0)], [], K⟩ = some (x, s') ∧
      x = .exit 4 ∧ Go.Wam.look 7 s'.env = some (.ptr c 0) ∧ Go.Wam.look 10 s'.env = some u ∧ ClkAt H s'.H F c o (runC o s (xs.take 100)) := by
  refine loop_inv (I := fun n st => ∃ (i : Nat) (K : AHeap), i + n = min 100 xs.length ∧ st = ⟨[(2, v), (7, .ptr c 0), (10, u), (14, .int .i64 i)], [], K⟩ ∧ ClkAt H K F c o (runC o s (xs.take i))) _ ?_ (min 100 xs.length) _ ⟨0, K, by omega, by simp [prS], by simpa [runC] using h⟩
  rintro n _ ⟨i, K, hi, rfl, hk⟩ P hI hX hR
  have hvK : View K 4 v (xs.map rowA) := hv.chg hok.1 hk.chg (by simpa using hf)
  by_cases hlt : i < min 100 xs.length
  · have hlt1 : i < xs.length := by omega
    have hlt2 : (i : Int) < 100 := by omega
    have hlt3 : (i : Int) < (xs.map rowA).length := by simpa using hlt1
    have hw := wrap_id (n := (i : Int) + 1) (by omega) (by omega)
    have e0 := hvK.lenS
    have e1 := hvK.idx .i64 (n := i) (by omega) hlt3
    have e2 := hvK.rd (i := i) (r := rowA xs[i]) (by rw [List.getElem?_map, List.getElem?_eq_getElem hlt1]; rfl) true (k := 4) (f := 0) (by omega) (by omega) (by simp)
    obtain ⟨K', e3, hk'⟩ := hk.step hok hF xs[i]
    simp only [Int.toNat_natCast, Nat.add_zero, rowA, List.length_map] at e0 e1 e2 e3
    simp -implicitDefEqProofs [e0, e1, e2, e3, hlt1, hlt2, hw]
    refine hI _ _ _ (n - 1) (by omega) ?_
    refine ⟨i + 1, K', by omega, by simp, ?_⟩
    rw [List.take_succ_eq_append_getElem hlt1, runC_snoc]
    exact hk'
  · have hi' : i = min 100 xs.length := by omega
    have ht : xs.take i = xs.take 100 := by
      rw [hi']
      by_cases h1 : 100 ≤ xs.length
      · rw [Nat.min_eq_left h1]
      · rw [Nat.min_eq_right (by omega), List.take_length, List.take_of_length_le (by omega)]
    have e0 := hvK.lenS
    simp only [List.length_map] at e0
    rw [ht] at hk
    by_cases h1 : (i : Int) < xs.length
    · have h2 : ¬ (i : Int) < 100 := by omega
      have h3 : i < xs.length := by omega
      simp -implicitDefEqProofs [e0, h2, h3]
      refine hX _ _ ?_
      exact ⟨rfl, by simp, by simp, hk⟩
    · have h3 : ¬ i < xs.length := by omega
      simp -implicitDefEqProofs [e0, h3]
      refine hX _ _ ?_
      exact ⟨rfl, by simp, by simp, hk⟩
end

set_option maxRecDepth 8000 in
set_option maxHeartbeats 2000000 in
theorem n7 {H : AHeap} (hok : H.ok) {v u : AV} {xs ys : List CA} (hv : View H 4 v (xs.map rowA)) (hu : View H 4 u (ys.map rowA)) (o : Int) : OkR (call T 7 [.int .i64 o, v, u] H) fun r => r.1 = .bool true := by
  rw [call_at (show T 7 = some (.ir ⟨_, _, _, _, _⟩) from T7)]
  have a14 := s14 o H.top (Nat.le_refl _)
  by_cases ho : 0 ≤ o ∧ o ≤ 1099511627776
  · rw [if_pos ho] at a14
    have hok1 : H.top.ok := AHeap.ok.top hok.1
    have hch := Chg.alloc H.top (clk 0 o 0 0)
    have hvn : 0 < xs.length → sid v < H.n := fun hr => hv.lt hok.1 (by simpa using hr)
    have hun : 0 < ys.length → sid u < H.n := fun hr => hu.lt hok.1 (by simpa using hr)
    obtain ⟨x, ⟨e, l, K⟩, h, rfl, h2, h7, hk⟩ := loop70 (H := H.top) (v := v) (F := [H.n]) (c := H.n) (o := o) (s := ⟨0, 0, 0⟩) hok1 hv.top (fun hr => by have := hvn hr; simp; omega) (by simp)
      ⟨hch.ok hok1, by simp [clkS], ⟨by simp, by simp⟩, hch.mono (by simp)⟩ u u u u
    simp only at h2 h7 hk
    generalize runC o ⟨0, 0, 0⟩ (xs.take 100) = st at hk
    have hn : H.n < K.n := AHeap.get_lt hk.get hk.ok.1
    have hst := hk.good
    obtain ⟨p, w, m⟩ := st
    have hg : K.get H.n = some (clk p o w m) := hk.get
    have e37 := s37 hg hk.ok.2
    -- the copy
    have hokK := hk.ok
    have hchK := Chg.alloc K (clk p o w m)
    have hgc : (K.alloc (clk p o w m)).get H.n = some (clk p o w m) := get_alloc_of hokK.1 hg
    have e24 := s24 hgc
    have e23 := s23 hgc
    have huK : View K 4 u (ys.map rowA) := hu.top.chg hok1.1 hk.chg (fun hr => by have := hun (by simpa using hr); simp; omega)
    obtain ⟨x1, ⟨e1, l1, K1⟩, g, rfl, g2, g7, g10, g11, g12, gl, gk⟩ := loop71 (H := K) (v := u) (F := [K.n]) (c := K.n) (o := o) (s := ⟨p, w, m⟩) hokK huK (fun hr => by have := hun hr; simp; omega) (by simp)
      ⟨hchK.ok hokK, by simp [clkS], hst, hchK.mono (by simp)⟩ (.ptr H.n 0) (.int .i64 m) (.int .i64 w) (.int .i64 p)
    simp only at g2 g7 g10 g11 g12 gl gk
    have hgc1 : K1.get H.n = some (clk p o w m) := by rw [gk.chg.get _ hn (by simp; omega)]; exact hg
    have f24 := s24 hgc1
    have f23 := s23 hgc1
    have huK1 : View K1 4 u (ys.map rowA) := huK.chg hokK.1 gk.chg (fun hr => by have := hun (by simpa using hr); simp; omega)
    obtain ⟨x2, ⟨e2, l2, K2⟩, q, rfl, q7, q10, qk⟩ := loop72 (H := K1) (v := u) (F := [H.n]) (c := H.n) (o := o) (s := ⟨p, w, m⟩) gk.ok huK1 (fun hr => by have := hun hr; simp; omega) (by simp)
      ⟨gk.ok, hgc1, hst, .refl _ _⟩ (.ptr K.n 0) u u u
    simp only at q7 q10 qk
    have hgd : K2.get K.n = some (clkS o (runC o ⟨p, w, m⟩ (ys.take 100))) := by
      rw [qk.chg.get _ (AHeap.get_lt gk.get gk.ok.1) (by simp; omega)]; exact gk.get
    have hgc2 := qk.get
    generalize runC o ⟨p, w, m⟩ (ys.take 100) = st2 at hgd hgc2
    obtain ⟨p2, w2, m2⟩ := st2
    simp only [clkS] at hgd hgc2
    have d24 := s24 hgd
    have d23 := s23 hgd
    have c24 := s24 hgc2
    have c23 := s23 hgc2
    simp only [encS] at e24 f24 d24 c24
    have hun2 := hu.noL
    simp -implicitDefEqProofs [hun2, a14, h, h2, h7, e37, e24, e23, g, g2, g7, g10, g11, g12, gl, f24, f23, q, q7, q10, d24, d23, c24, c23, s16]
  · rw [if_neg ho] at a14
    simp -implicitDefEqProofs [a14, s16, fin_pure]

theorem law7 : Law T 7 [.int .i64, .slice 4 32 actSh, .slice 4 32 actSh] := by
  intro H ls hw hl ha
  obtain ⟨x, y, z, rfl, ⟨o, rfl, _⟩, ⟨v, rows, rfl, hv, _, _, hc⟩, ⟨u, rows2, rfl, hu, _, _, hc2⟩⟩ := args3 ha
  obtain ⟨xs, rfl⟩ := acts_of hc
  obtain ⟨ys, rfl⟩ := acts_of hc2
  exact law_of (n7 ⟨hw, by omega⟩ hv.view hu.view o)
end Go.Proofs.Ytglfchdpcididaa
