/- What a clock's other functions tell. No condition. -/
import Derived.Test.YtglfchdpcididaaC04U
set_option linter.unusedVariables false
set_option linter.unusedSimpArgs false
namespace Go.Proofs.Ytglfchdpcididaa
open Go.Wam

attribute [local simp] den_seq den_region den_regionD0 den_regionD1 den_cond den_block den_keep den_ret den_skip den_exit sops_cons sops_nil sopsR_cons sopsR_nil goR_eq readOk trace_cons trace_nil stepOp evOp wantedA Opd.ev evs Go.Wam.look St.put enterA zipI leaveR_ret leaveR_normal rvs RV.ev
  loadA storeA rd wr AV.cells AV.noL AV.one goOn_normal goOn_exit goOn_ret outBlock_normal outBlock_exit outBlock_ret prune freeL fillA allNoL packA unA checkAt AV.beq AV.beqL drawCond freshD readsOk isRead
  strOp aeqF_nil aeqF_cons andA_some i_add i_sub i_mul i_lss i_leq i_gtr i_geq i_quo i_rem i_eql i_neq s_eql s_neq s_lss
  s_leq s_gtr s_geq s_add e_bool n_bool e_nilp n_nilp e_ptr n_ptr e_lptr n_lptr e_agg n_agg
  e_nils n_nils e_slice n_slice e_oslice n_oslice e_eslice n_eslice e_xslice n_xslice e_nilm n_nilm e_map n_map
  e_nilFunc n_nilFunc e_func n_func q_int q_bool q_str q_struct q_ptr0 q_ptrL0 q_ptrR0 q_ptrL1 q_ptrR1 q_slice0
  q_sliceL0 q_sliceR0 q_sliceL1 q_sliceR1 q_sliceL2 q_sliceR2 q_sliceL3 q_sliceR3 q_map0 q_mapL0 q_mapR0 q_func0 q_funcL0 q_funcR0

theorem s27 (w l w' l' : Int) (H : AHeap) : call T 27 [encS w l, encS w' l'] H = some (if ltS w l w' l' = true then encS w' l' else encS w l, H) := by
  rw [call_at (show T 27 = some (.ir ⟨_, _, _, _, _⟩) from T27)]
  have e : ∀ w l w' l' H, call T 25 [.agg [.int .i64 w, .int .i64 l], .agg [.int .i64 w', .int .i64 l']] H = _ := s25
  by_cases h1 : ltS w l w' l' = true
  · simp -implicitDefEqProofs [encS, e, h1, fin_pure]
  · simp -implicitDefEqProofs [encS, e, h1, fin_pure]

/-! ## No clock -/
theorem z17 (q : Int) (H : AHeap) : call T 17 [.nilp, .int .i64 q] H = some (.int .i64 1, H) := by
  rw [call_at (show T 17 = some (.ir ⟨_, _, _, _, _⟩) from T17)]
  simp -implicitDefEqProofs [fin_pure]
theorem z19 (H : AHeap) : call T 19 [.nilp] H = some (.tuple [encS 0 0, .int .i64 1], H) := by
  rw [call_at (show T 19 = some (.ir ⟨_, _, _, _, _⟩) from T19)]
  simp -implicitDefEqProofs [encS, fin_pure]
theorem z21 (w l : Int) (H : AHeap) : call T 21 [.nilp, encS w l] H = some (.int .i64 1, H) := by
  rw [call_at (show T 21 = some (.ir ⟨_, _, _, _, _⟩) from T21)]
  simp -implicitDefEqProofs [encS, fin_pure]
theorem z23 (H : AHeap) : call T 23 [.nilp] H = some (.int .i64 0, H) := by
  rw [call_at (show T 23 = some (.ir ⟨_, _, _, _, _⟩) from T23)]
  simp -implicitDefEqProofs [fin_pure]
theorem z24 (H : AHeap) : call T 24 [.nilp] H = some (encS 0 0, H) := by
  rw [call_at (show T 24 = some (.ir ⟨_, _, _, _, _⟩) from T24)]
  simp -implicitDefEqProofs [encS, fin_pure]
theorem z37 (H : AHeap) : call T 37 [.nilp] H = some (.nilp, H) := by
  rw [call_at (show T 37 = some (.ir ⟨_, _, _, _, _⟩) from T37)]
  simp -implicitDefEqProofs [fin_pure]

section
variable {H : AHeap} {c : Nat} {p o w l : Int}
theorem s21 (hc : H.get c = some (clk p o w l)) (hn : c < H.n) (hp : 0 ≤ p ∧ p ≤ 1099511627776) (w' l' : Int) : call T 21 [.ptr c 0, encS w' l'] H =
    if rightS w' l' = true then (if o < w' - p then some (.int .i64 41, H) else some (.int .i64 0, H.set c (if ltS w l w' l' = true then clk p o w' l' else clk p o w l))) else some (.int .i64 31, H) := by
  rw [call_at (show T 21 = some (.ir ⟨_, _, _, _, _⟩) from T21)]
  have hg : H.get c = some (.row false 4 [.int .i64 p, .int .i64 o, .int .i64 w, .int .i64 l]) := hc
  have e : ∀ w l H, call T 26 [.agg [.int .i64 w, .int .i64 l]] H = _ := s26
  have e2 : ∀ w l w' l' H, call T 27 [.agg [.int .i64 w, .int .i64 l], .agg [.int .i64 w', .int .i64 l']] H = _ := s27
  by_cases h1 : rightS w' l' = true
  · have hb : 0 ≤ w' ∧ w' ≤ 1099511627776 ∧ 0 ≤ l' ∧ l' ≤ 65535 := by simpa [rightS, and_assoc] using h1
    have hw := wrap_id (n := w' - p) (by omega) (by omega)
    by_cases h2 : o < w' - p
    · simp -implicitDefEqProofs [encS, e, e2, h1, h2, hw, hg, fin_pure]
    · by_cases h3 : ltS w l w' l' = true
      · simp -implicitDefEqProofs [encS, e, e2, h1, h2, h3, hw, hg, fin_set hn, clk]
      · simp -implicitDefEqProofs [encS, e, e2, h1, h2, h3, hw, hg, fin_set hn, clk]
  · simp -implicitDefEqProofs [encS, e, h1, fin_pure]

theorem s37 (hc : H.get c = some (clk p o w l)) (hl : H.low ≤ H.n) : call T 37 [.ptr c 0] H = some (.ptr H.n 0, H.alloc (clk p o w l)) := by
  rw [call_at (show T 37 = some (.ir ⟨_, _, _, _, _⟩) from T37)]
  have hg : H.get c = some (.row false 4 [.int .i64 p, .int .i64 o, .int .i64 w, .int .i64 l]) := hc
  simp -implicitDefEqProofs [hg, fin_alloc hl, clk]
end

/-! ## Of a clock that was made last -/
section
variable {K : AHeap} {p o w l : Int}
theorem t17 (hk : K.low ≤ K.n) (p o w l q : Int) : call T 17 [.ptr K.n 0, .int .i64 q] (K.alloc (clk p o w l)) = if p ≤ q ∧ q ≤ 1099511627776 then some (.int .i64 0, K.alloc (clk q o w l)) else some (.int .i64 42, K.alloc (clk p o w l)) := by
  rw [s17 (get_alloc_same K _) (Nat.lt_succ_self _) q, set_alloc_same K _ _ hk]
theorem t19 (hk : K.low ≤ K.n) (p o w l : Int) : call T 19 [.ptr K.n 0] (K.alloc (clk p o w l)) = match nowC p w l with
    | some (w', l') => some (.tuple [encS w' l', .int .i64 0], K.alloc (clk p o w' l'))
    | none => some (.tuple [encS 0 0, .int .i64 42], K.alloc (clk p o w l)) := by
  rw [s19 (get_alloc_same K _) (Nat.lt_succ_self _)]
  cases nowC p w l with
  | none => rfl
  | some r => simp only [set_alloc_same K _ _ hk]
theorem t21 (hk : K.low ≤ K.n) (p o w l : Int) (hp : 0 ≤ p ∧ p ≤ 1099511627776) (w' l' : Int) : call T 21 [.ptr K.n 0, encS w' l'] (K.alloc (clk p o w l)) =
    if rightS w' l' = true then (if o < w' - p then some (.int .i64 41, K.alloc (clk p o w l)) else some (.int .i64 0, K.alloc (if ltS w l w' l' = true then clk p o w' l' else clk p o w l))) else some (.int .i64 31, K.alloc (clk p o w l)) := by
  rw [s21 (get_alloc_same K _) (Nat.lt_succ_self _) hp w' l', set_alloc_same K _ _ hk]
theorem t24 (p o w l : Int) : call T 24 [.ptr K.n 0] (K.alloc (clk p o w l)) = some (encS w l, K.alloc (clk p o w l)) := s24 (get_alloc_same K _)
end

/-- The live question. -/
theorem s16 (H : AHeap) : call T 16 [] H = some (.bool true, H) := by
  rw [call_at (show T 16 = some (.ir ⟨_, _, _, _, _⟩) from T16)]
  have a14 := s14 5 H.top (Nat.le_refl _)
  have a17 := t17 (K := H.top) (Nat.le_refl _) 0 5 0 0 7
  have a19 := t19 (K := H.top) (Nat.le_refl _) 7 5 0 0
  have b19 := t19 (K := H.top) (Nat.le_refl _) 7 5 7 0
  have a21 := t21 (K := H.top) (Nat.le_refl _) 7 5 7 1 (by omega) 13 0
  have b21 := t21 (K := H.top) (Nat.le_refl _) 7 5 7 1 (by omega) 12 0
  have a24 := t24 (K := H.top) 7 5 12 0
  simp only [top_n, encS] at a14 a17 a19 b19 a21 b21 a24
  simp -implicitDefEqProofs [a14, a17, a19, b19, a21, b21, a24, nowC, nextC, ltS, rightS, encS, fin_drop]
end Go.Proofs.Ytglfchdpcididaa
