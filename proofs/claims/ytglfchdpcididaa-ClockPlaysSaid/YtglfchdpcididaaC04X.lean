/- What the document's clock tells. No condition. -/
import Derived.Test.YtglfchdpcididaaC04V
set_option linter.unusedVariables false
set_option linter.unusedSimpArgs false
namespace Go.Proofs.Ytglfchdpcididaa
open Go.Wam

attribute [local simp] den_seq den_region den_regionD0 den_regionD1 den_cond den_block den_keep den_ret den_skip den_exit sops_cons sops_nil sopsR_cons sopsR_nil goR_eq readOk trace_cons trace_nil stepOp evOp wantedA Opd.ev evs Go.Wam.look St.put enterA zipI leaveR_ret leaveR_normal rvs RV.ev
  loadA storeA rd wr AV.cells AV.noL AV.one goOn_normal goOn_exit goOn_ret outBlock_normal outBlock_exit outBlock_ret prune freeL fillA allNoL packA unA checkAt AV.beq AV.beqL drawCond freshD readsOk isRead undefA
  strOp aeqF_nil aeqF_cons andA_some i_add i_sub i_mul i_lss i_leq i_gtr i_geq i_quo i_rem i_eql i_neq s_eql s_neq s_lss
  s_leq s_gtr s_geq s_add e_bool n_bool e_nilp n_nilp e_ptr n_ptr e_lptr n_lptr e_agg n_agg
  e_nils n_nils e_slice n_slice e_oslice n_oslice e_eslice n_eslice e_xslice n_xslice e_nilm n_nilm e_map n_map
  e_nilFunc n_nilFunc e_func n_func q_int q_bool q_str q_struct q_ptr0 q_ptrL0 q_ptrR0 q_ptrL1 q_ptrR1 q_slice0
  q_sliceL0 q_sliceR0 q_sliceL1 q_sliceR1 q_sliceL2 q_sliceR2 q_sliceL3 q_sliceR3 q_map0 q_mapL0 q_mapR0 q_func0 q_funcL0 q_funcR0

theorem ltS_total (w l w' l' : Int) : ltS w l w' l' = false ↔ (w' = w ∧ l' = l) ∨ ltS w' l' w l = true := by
  simp only [ltS, Bool.or_eq_false_iff, Bool.and_eq_false_iff, decide_eq_false_iff_not, Bool.or_eq_true, Bool.and_eq_true, decide_eq_true_eq]
  omega

theorem s46 (w l w' l' : Int) (H : AHeap) : call T 46 [encS w l, encS w' l'] H = some (.bool (ltS w l w' l'), H) := by
  rw [call_at (show T 46 = some (.ir ⟨_, _, _, _, _⟩) from T46)]
  by_cases h1 : w < w'
  · simp -implicitDefEqProofs [encS, ltS, h1, fin_pure]
  · by_cases h2 : w = w'
    · subst h2
      simp -implicitDefEqProofs [encS, ltS, fin_pure]
    · simp -implicitDefEqProofs [encS, ltS, h1, h2, fin_pure]

theorem s48 (w l : Int) (H : AHeap) : call T 48 [encS w l] H = some (.bool (rightS w l), H) := by
  rw [call_at (show T 48 = some (.ir ⟨_, _, _, _, _⟩) from T48)]
  by_cases h1 : 0 ≤ w
  · by_cases h2 : w ≤ 1099511627776
    · by_cases h3 : 0 ≤ l
      · simp -implicitDefEqProofs [encS, rightS, h1, h2, h3, fin_pure]
      · simp -implicitDefEqProofs [encS, rightS, h1, h2, h3, fin_pure]
    · simp -implicitDefEqProofs [encS, rightS, h1, h2, fin_pure]
  · simp -implicitDefEqProofs [encS, rightS, h1, fin_pure]

theorem s49 (w l w' l' : Int) (H : AHeap) : call T 49 [encS w l, encS w' l'] H = some (if ltS w l w' l' = true then encS w' l' else encS w l, H) := by
  rw [call_at (show T 49 = some (.ir ⟨_, _, _, _, _⟩) from T49)]
  have e : ∀ w l w' l' H, call T 46 [.agg [.int .i64 w, .int .i64 l], .agg [.int .i64 w', .int .i64 l']] H = _ := s46
  by_cases h1 : ltS w l w' l' = true
  · simp -implicitDefEqProofs [encS, e, h1, fin_pure]
  · simp -implicitDefEqProofs [encS, e, h1, fin_pure]

theorem s47 (w l : Int) (H : AHeap) : call T 47 [encS w l] H = some (match nextC w l with | some (w', l') => .tuple [encS w' l', .int .i64 0] | none => .tuple [encS 0 0, .int .i64 31], H) := by
  rw [call_at (show T 47 = some (.ir ⟨_, _, _, _, _⟩) from T47)]
  have e : ∀ w l H, call T 48 [.agg [.int .i64 w, .int .i64 l]] H = _ := s48
  by_cases h1 : rightS w l = true
  · have hb : 0 ≤ w ∧ w ≤ 1099511627776 ∧ 0 ≤ l ∧ l ≤ 65535 := by simpa [rightS, and_assoc] using h1
    by_cases h4 : w = 1099511627776
    · by_cases h3 : l = 65535
      · simp -implicitDefEqProofs [encS, e, h1, h3, h4, nextC, fin_pure]
        subst h3; subst h4
        simp -implicitDefEqProofs [encS, e, h1, nextC, fin_pure]
      · have hr : rightS 1099511627776 l = true := h4 ▸ h1
        simp -implicitDefEqProofs [encS, e, hr, h3, h4, nextC, fin_pure, wrap_id (n := l + 1) (by omega) (by omega)]
    · by_cases h3 : l = 65535
      · have hr : rightS w 65535 = true := h3 ▸ h1
        simp -implicitDefEqProofs [encS, e, hr, h3, h4, nextC, fin_pure, wrap_id (n := w + 1) (by omega) (by omega)]
      · simp -implicitDefEqProofs [encS, e, h1, h3, h4, nextC, fin_pure, wrap_id (n := l + 1) (by omega) (by omega)]
  · simp -implicitDefEqProofs [encS, e, h1, nextC, fin_pure]

theorem s15 (o : Int) (H : AHeap) (hl : H.low ≤ H.n) : call T 15 [.int .i64 o] H = if 0 ≤ o ∧ o ≤ 1099511627776 then some (.tuple [.ptr H.n 0, .int .i64 0], H.alloc (clk 0 o 0 0)) else some (.tuple [.nilp, .int .i64 1], H) := by
  rw [call_at (show T 15 = some (.ir ⟨_, _, _, _, _⟩) from T15)]
  by_cases h1 : 0 ≤ o
  · by_cases h2 : o ≤ 1099511627776
    · have h3 : ¬ o < 0 := by omega
      have h4 : ¬ 1099511627776 < o := by omega
      simp -implicitDefEqProofs [h1, h2, h3, h4, fin_alloc hl, clk]
    · have h3 : ¬ o < 0 := by omega
      have h4 : 1099511627776 < o := by omega
      simp -implicitDefEqProofs [h1, h2, h3, h4, fin_pure]
  · have h3 : o < 0 := by omega
    simp -implicitDefEqProofs [h1, h3, fin_pure]

section
variable {H : AHeap} {c : Nat} {p o w l : Int}
theorem s18 (hc : H.get c = some (clk p o w l)) (hn : c < H.n) (q : Int) : call T 18 [.ptr c 0, .int .i64 q] H = if p ≤ q ∧ q ≤ 1099511627776 then some (.int .i64 0, H.set c (clk q o w l)) else some (.int .i64 42, H) := by
  rw [call_at (show T 18 = some (.ir ⟨_, _, _, _, _⟩) from T18)]
  have hg : H.get c = some (.row false 4 [.int .i64 p, .int .i64 o, .int .i64 w, .int .i64 l]) := hc
  by_cases h1 : p ≤ q
  · by_cases h2 : q ≤ 1099511627776
    · have h3 : ¬ q < p := by omega
      have h4 : ¬ 1099511627776 < q := by omega
      simp -implicitDefEqProofs [h1, h2, h3, h4, hg, fin_set hn, clk]
    · have h3 : ¬ q < p := by omega
      have h4 : 1099511627776 < q := by omega
      simp -implicitDefEqProofs [h1, h2, h3, h4, hg, fin_pure]
  · have h3 : q < p := by omega
    simp -implicitDefEqProofs [h1, h3, hg, fin_pure]

theorem s20 (hc : H.get c = some (clk p o w l)) (hn : c < H.n) : call T 20 [.ptr c 0] H = match nowC p w l with
    | some (w', l') => some (.tuple [encS w' l', .int .i64 0], H.set c (clk p o w' l'))
    | none => some (.tuple [encS 0 0, .int .i64 42], H) := by
  rw [call_at (show T 20 = some (.ir ⟨_, _, _, _, _⟩) from T20)]
  have hg : H.get c = some (.row false 4 [.int .i64 p, .int .i64 o, .int .i64 w, .int .i64 l]) := hc
  have e : ∀ w l w' l' H, call T 46 [.agg [.int .i64 w, .int .i64 l], .agg [.int .i64 w', .int .i64 l']] H = _ := s46
  have e2 : ∀ w l H, call T 47 [.agg [.int .i64 w, .int .i64 l]] H = _ := s47
  by_cases h1 : ltS w l p 0 = true
  · have hn1 : nowC p w l = some (p, 0) := by
      unfold nowC
      rw [if_neg]
      intro h
      have := (ltS_total w l p 0).2 h
      rw [h1] at this; cases this
    rw [hn1]
    simp -implicitDefEqProofs [encS, e, h1, hg, fin_set hn, clk]
  · have hn1 : nowC p w l = nextC w l := by
      unfold nowC
      rw [if_pos ((ltS_total w l p 0).1 (by simpa using h1))]
    rw [hn1]
    cases h2 : nextC w l with
    | none => simp -implicitDefEqProofs [encS, e, e2, h1, h2, hg, fin_pure]
    | some r => simp -implicitDefEqProofs [encS, e, e2, h1, h2, hg, fin_set hn, clk]

theorem s22 (hc : H.get c = some (clk p o w l)) (hn : c < H.n) (hp : 0 ≤ p ∧ p ≤ 1099511627776) (ho : 0 ≤ o ∧ o ≤ 1099511627776) (w' l' : Int) : call T 22 [.ptr c 0, encS w' l'] H =
    if rightS w' l' = true then (if o < w' - p then some (.int .i64 41, H) else some (.int .i64 0, H.set c (if ltS w l w' l' = true then clk p o w' l' else clk p o w l))) else some (.int .i64 31, H) := by
  rw [call_at (show T 22 = some (.ir ⟨_, _, _, _, _⟩) from T22)]
  have hg : H.get c = some (.row false 4 [.int .i64 p, .int .i64 o, .int .i64 w, .int .i64 l]) := hc
  have e : ∀ w l H, call T 48 [.agg [.int .i64 w, .int .i64 l]] H = _ := s48
  have e2 : ∀ w l w' l' H, call T 49 [.agg [.int .i64 w, .int .i64 l], .agg [.int .i64 w', .int .i64 l']] H = _ := s49
  by_cases h1 : rightS w' l' = true
  · have hw := wrap_id (n := p + o) (by omega) (by omega)
    by_cases h2 : o < w' - p
    · have h4 : p + o < w' := by omega
      simp -implicitDefEqProofs [encS, e, e2, h1, h2, h4, hw, hg, fin_pure]
    · have h4 : ¬ p + o < w' := by omega
      by_cases h3 : ltS w l w' l' = true
      · simp -implicitDefEqProofs [encS, e, e2, h1, h2, h3, h4, hw, hg, fin_set hn, clk]
      · simp -implicitDefEqProofs [encS, e, e2, h1, h2, h3, h4, hw, hg, fin_set hn, clk]
  · simp -implicitDefEqProofs [encS, e, h1, fin_pure]
end
end Go.Proofs.Ytglfchdpcididaa
