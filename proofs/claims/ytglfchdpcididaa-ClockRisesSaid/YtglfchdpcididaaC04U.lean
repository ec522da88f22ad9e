/- What a clock's functions tell. No condition. -/
import Derived.Test.YtglfchdpcididaaC04S
set_option linter.unusedVariables false
set_option linter.unusedSimpArgs false
namespace Go.Proofs.Ytglfchdpcididaa
open Go.Wam

attribute [local simp] den_seq den_region den_regionD0 den_regionD1 den_cond den_block den_keep den_ret den_skip den_exit sops_cons sops_nil sopsR_cons sopsR_nil goR_eq readOk trace_cons trace_nil stepOp evOp wantedA Opd.ev evs Go.Wam.look St.put enterA zipI leaveR_ret leaveR_normal rvs RV.ev
  loadA storeA rd wr AV.cells AV.noL AV.one goOn_normal goOn_exit goOn_ret outBlock_normal outBlock_exit outBlock_ret prune freeL fillA allNoL packA unA checkAt AV.beq AV.beqL drawCond freshD readsOk isRead
  strOp aeqF_nil aeqF_cons andA_some i_add i_sub i_mul i_lss i_leq i_gtr i_geq i_quo i_rem i_eql i_neq s_eql s_neq s_lss
  s_leq s_gtr s_geq s_add e_bool n_bool e_nilp n_nilp e_ptr n_ptr e_lptr n_lptr e_agg n_agg
  e_nils n_nils e_slice n_slice e_oslice n_oslice e_eslice n_eslice e_xslice n_xslice e_nilm n_nilm e_map n_map
  e_nilFunc n_nilFunc e_func n_func q_int q_bool q_str q_struct q_ptr0 q_ptrL0 q_ptrR0 q_ptrL1 q_ptrR1 q_slice0
  q_sliceL0 q_sliceR0 q_sliceL1 q_sliceR1 q_sliceL2 q_sliceR2 q_sliceL3 q_sliceR3 q_map0 q_mapL0 q_mapR0 q_func0 q_funcL0 q_funcR0

/-- The stamp behind one. -/
def nextC (w l : Int) : Option (Int × Int) := if rightS w l = true ∧ ¬ (w = 1099511627776 ∧ l = 65535) then some (if l = 65535 then (w + 1, 0) else (w, l + 1)) else none
/-- What a clock tells, at a physical time and behind a stamp. -/
def nowC (p w l : Int) : Option (Int × Int) := if (p = w ∧ 0 = l) ∨ ltS p 0 w l = true then nextC w l else some (p, 0)
def clk (p o w l : Int) : AObj := .row false 4 [.int .i64 p, .int .i64 o, .int .i64 w, .int .i64 l]

theorem s25 (w l w' l' : Int) (H : AHeap) : call T 25 [encS w l, encS w' l'] H = some (.bool (ltS w l w' l'), H) := by
  rw [call_at (show T 25 = some (.ir ⟨_, _, _, _, _⟩) from T25)]
  have e : ∀ w l w' l' H, call T 50 [.agg [.int .i64 w, .int .i64 l], .agg [.int .i64 w', .int .i64 l']] H = _ := s50
  simp -implicitDefEqProofs [encS, e, fin_pure, ltS]
  (repeat' split) <;> simp_all <;> omega

theorem s45 (w l : Int) (H : AHeap) : call T 45 [encS w l] H = some (match nextC w l with | some (w', l') => .tuple [encS w' l', .int .i64 0] | none => .tuple [encS 0 0, .int .i64 31], H) := by
  rw [call_at (show T 45 = some (.ir ⟨_, _, _, _, _⟩) from T45)]
  have e : ∀ w l H, call T 26 [.agg [.int .i64 w, .int .i64 l]] H = _ := s26
  by_cases h1 : rightS w l = true
  · have hb : 0 ≤ w ∧ w ≤ 1099511627776 ∧ 0 ≤ l ∧ l ≤ 65535 := by simpa [rightS, and_assoc] using h1
    by_cases h2 : w = 1099511627776 ∧ l = 65535
    · obtain ⟨rfl, rfl⟩ := h2
      simp -implicitDefEqProofs [encS, e, h1, nextC, fin_pure]
    · by_cases h3 : l = 65535
      · subst h3
        have h4 : ¬ w = 1099511627776 := fun x => h2 ⟨x, rfl⟩
        simp -implicitDefEqProofs [encS, e, h1, h4, nextC, fin_pure, wrap_id (n := w + 1) (by omega) (by omega)]
      · have h5 : (decide (w = 1099511627776) && decide (l = 65535)) = false := by simpa using fun _ => h3
        simp -implicitDefEqProofs [encS, e, h1, h2, h3, h5, nextC, fin_pure, wrap_id (n := l + 1) (by omega) (by omega)]
  · simp -implicitDefEqProofs [encS, e, h1, nextC, fin_pure]

theorem s14 (o : Int) (H : AHeap) (hl : H.low ≤ H.n) : call T 14 [.int .i64 o] H = if 0 ≤ o ∧ o ≤ 1099511627776 then some (.tuple [.ptr H.n 0, .int .i64 0], H.alloc (clk 0 o 0 0)) else some (.tuple [.nilp, .int .i64 1], H) := by
  rw [call_at (show T 14 = some (.ir ⟨_, _, _, _, _⟩) from T14)]
  by_cases h1 : 0 ≤ o
  · by_cases h2 : o ≤ 1099511627776
    · have h3 : ¬ o < 0 := by omega
      have h4 : ¬ 1099511627776 < o := by omega
      simp -implicitDefEqProofs [h1, h2, h3, h4, fin_alloc hl, clk]
    · have h3 : ¬ o < 0 := by omega
      have h4 : 1099511627776 < o := by omega
      simp -implicitDefEqProofs [h1, h2, h3, h4, fin_pure]
  · have h3 : o < 0 := by omega
    simp -implicitDefEqProofs [h1, h3, fin_pure]

section
variable {H : AHeap} {c : Nat} {p o w l : Int}
theorem s17 (hc : H.get c = some (clk p o w l)) (hn : c < H.n) (q : Int) : call T 17 [.ptr c 0, .int .i64 q] H = if p ≤ q ∧ q ≤ 1099511627776 then some (.int .i64 0, H.set c (clk q o w l)) else some (.int .i64 42, H) := by
  rw [call_at (show T 17 = some (.ir ⟨_, _, _, _, _⟩) from T17)]
  have hg : H.get c = some (.row false 4 [.int .i64 p, .int .i64 o, .int .i64 w, .int .i64 l]) := hc
  by_cases h1 : p ≤ q
  · by_cases h2 : q ≤ 1099511627776
    · have h3 : ¬ q < p := by omega
      have h4 : ¬ 1099511627776 < q := by omega
      simp -implicitDefEqProofs [h1, h2, h3, h4, hg, fin_set hn, clk]
    · have h3 : ¬ q < p := by omega
      have h4 : 1099511627776 < q := by omega
      simp -implicitDefEqProofs [h1, h2, h3, h4, hg, fin_pure]
  · have h3 : q < p := by omega
    simp -implicitDefEqProofs [h1, h3, hg, fin_pure]

theorem s24 (hc : H.get c = some (clk p o w l)) : call T 24 [.ptr c 0] H = some (encS w l, H) := by
  rw [call_at (show T 24 = some (.ir ⟨_, _, _, _, _⟩) from T24)]
  have hg : H.get c = some (.row false 4 [.int .i64 p, .int .i64 o, .int .i64 w, .int .i64 l]) := hc
  simp -implicitDefEqProofs [hg, fin_pure, encS]

theorem s23 (hc : H.get c = some (clk p o w l)) : call T 23 [.ptr c 0] H = some (.int .i64 p, H) := by
  rw [call_at (show T 23 = some (.ir ⟨_, _, _, _, _⟩) from T23)]
  have hg : H.get c = some (.row false 4 [.int .i64 p, .int .i64 o, .int .i64 w, .int .i64 l]) := hc
  simp -implicitDefEqProofs [hg, fin_pure]

theorem s19 (hc : H.get c = some (clk p o w l)) (hn : c < H.n) : call T 19 [.ptr c 0] H = match nowC p w l with
    | some (w', l') => some (.tuple [encS w' l', .int .i64 0], H.set c (clk p o w' l'))
    | none => some (.tuple [encS 0 0, .int .i64 42], H) := by
  rw [call_at (show T 19 = some (.ir ⟨_, _, _, _, _⟩) from T19)]
  have hg : H.get c = some (.row false 4 [.int .i64 p, .int .i64 o, .int .i64 w, .int .i64 l]) := hc
  have e : ∀ w l w' l' H, call T 25 [.agg [.int .i64 w, .int .i64 l], .agg [.int .i64 w', .int .i64 l']] H = _ := s25
  have e2 : ∀ w l H, call T 45 [.agg [.int .i64 w, .int .i64 l]] H = _ := s45
  unfold nowC
  by_cases h1 : p = w ∧ 0 = l
  · obtain ⟨rfl, rfl⟩ := h1
    cases h2 : nextC p 0 with
    | none => simp -implicitDefEqProofs [encS, e, e2, h2, hg, fin_pure]
    | some r => simp -implicitDefEqProofs [encS, e, e2, h2, hg, fin_set hn, clk]
  · have h3 : (decide (p = w) && decide (0 = l)) = false := by simpa using fun a b => h1 ⟨a, b⟩
    by_cases h4 : ltS p 0 w l = true
    · cases h2 : nextC w l with
      | none => simp -implicitDefEqProofs [encS, e, e2, h1, h2, h3, h4, hg, fin_pure]
      | some r => simp -implicitDefEqProofs [encS, e, e2, h1, h2, h3, h4, hg, fin_set hn, clk]
    · simp -implicitDefEqProofs [encS, e, e2, h1, h3, h4, hg, fin_set hn, clk]
end
end Go.Proofs.Ytglfchdpcididaa
