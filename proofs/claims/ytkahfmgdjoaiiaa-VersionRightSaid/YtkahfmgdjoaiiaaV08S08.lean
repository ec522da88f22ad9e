/- What stamps' functions tell (seat r3). No condition. -/
import Derived.Test.YtkahfmgdjoaiiaaV08F
import Derived.Test.YtkahfmgdjoaiiaaAmW
set_option linter.unusedVariables false
set_option linter.unusedSimpArgs false
namespace Go.Proofs.Ytkahfmgdjoaiiaa
open Go.Wam

attribute [local simp] seqK_normal seqK_exit seqK_ret blockK_normal blockK_exit blockK_ret condO_bool evK_skip evK_exit evK_ret evK_keep evK_cond evK_block evK_seq_seq evK_seq_cond evK_seq_block evK_seq_loop evK_seq_skip evK_seq_keep evK_seq_exit evK_seq_ret prK_eq toSt_eq av_l av_v valS_v valT_v valS_u av_u valO_tmp
  nl_eq nl_none nl_if nlR_eq boxC_eq stL_eq storeP_ptr loadP_ptr fldP_ptr idxP_ptr inN_int callN_func strV_str fillC_nil fillC_cons pickV_bool guardK_bool kB_eq chk_some ifaceV_eq funcV_eq natV_int notL_noL leaveK_ret leaveK_normal rvsK_nil rvsK_cons rvK_tmp rvC_l rvC_v rvK_cell enterK_eq ok_l ok_v ok_u norm_eq norm_l norm_v norm_u
  Go.Wam.look zipI prune packA rd undefA allNoL convI convS lenStr lenMap extA fldV idxStr idxAgg idxS_slice idxS_oslice unA beq_same beqL_same AV.beq AV.beqL sliceV nilC clearW
  strOp aeqF_nil aeqF_cons andA_some i_add i_sub i_mul i_lss i_leq i_gtr i_geq i_quo i_rem i_eql i_neq s_eql s_neq s_lss
  s_leq s_gtr s_geq s_add e_bool n_bool e_nilp n_nilp e_ptr n_ptr e_lptr n_lptr e_agg n_agg
  e_nils n_nils e_slice n_slice e_oslice n_oslice e_eslice n_eslice e_xslice n_xslice e_nilm n_nilm e_map n_map
  e_nilFunc n_nilFunc e_func n_func q_int q_bool q_str q_struct q_ptr0 q_ptrL0 q_ptrR0 q_ptrL1 q_ptrR1 q_slice0
  q_sliceL0 q_sliceR0 q_sliceL1 q_sliceR1 q_sliceL2 q_sliceR2 q_sliceL3 q_sliceR3 q_map0 q_mapL0 q_mapR0 q_func0 q_funcL0 q_funcR0
  okR_some get_alloc_eq rdAt_alloc_eq set_alloc_eq set_alloc_ne get_alloc_ne rdAt_alloc_ne
attribute [local congr] bind_cg guardK_cg kB_cg condO_cg evK_cg
abbrev Stp := Int × Int
def eS (a : Stp) : AV := .agg [.int .i64 a.1, .int .i64 a.2]
def ltS (a b : Stp) : Bool := decide (a.1 < b.1) || (decide (a.1 = b.1) && decide (a.2 < b.2))
def rightT (a : Stp) : Bool := decide (0 ≤ a.1) && decide (a.1 ≤ 1099511627776) && (decide (0 ≤ a.2) && decide (a.2 ≤ 65535))
def maxS (a b : Stp) : Stp := if ltS a b = true then b else a

theorem tNaN (a : Int) (H : AHeap) : call T 55 [.int .i64 a] H = some (.bool false, H) := by
  refine okR_eq (call_evK (show T 55 = some (.ir ⟨_, _, _, _, _⟩) from T55) rfl rfl ?_)
  simp -implicitDefEqProofs [fin_pure]
theorem tCmp (a b : Int) (H : AHeap) : call T 54 [.int .i64 a, .int .i64 b] H = some (.int .i64 (if a < b then -1 else if b < a then 1 else 0), H) := by
  refine okR_eq (call_evK (show T 54 = some (.ir ⟨_, _, _, _, _⟩) from T54) rfl rfl ?_)
  by_cases h1 : a < b
  · simp -implicitDefEqProofs [tNaN, h1, fin_pure]
  · by_cases h2 : b < a
    · simp -implicitDefEqProofs [tNaN, h1, h2, fin_pure]
    · simp -implicitDefEqProofs [tNaN, h1, h2, fin_pure]
theorem tWithin (x a b : Int) (H : AHeap) : call T 50 [.int .i64 x, .int .i64 a, .int .i64 b] H = some (.bool (decide (a ≤ x) && decide (x ≤ b)), H) := by
  refine okR_eq (call_evK (show T 50 = some (.ir ⟨_, _, _, _, _⟩) from T50) rfl rfl ?_)
  by_cases h1 : a ≤ x
  · simp -implicitDefEqProofs [h1, fin_pure]
  · simp -implicitDefEqProofs [h1, fin_pure]
theorem tRight (a : Stp) (H : AHeap) : call T 40 [.agg [.int .i64 a.1, .int .i64 a.2]] H = some (.bool (rightT a), H) := by
  refine okR_eq (call_evK (show T 40 = some (.ir ⟨_, _, _, _, _⟩) from T40) rfl rfl ?_)
  unfold rightT
  have e1 := tWithin a.1 0 1099511627776
  have e2 := tWithin a.2 0 65535
  generalize (decide (0 ≤ a.1) && decide (a.1 ≤ 1099511627776)) = p at *
  generalize (decide (0 ≤ a.2) && decide (a.2 ≤ 65535)) = q at *
  cases p <;> simp -implicitDefEqProofs [e1, e2, fin_pure]
theorem tRight' (a : Stp) (H : AHeap) : call T 38 [.agg [.int .i64 a.1, .int .i64 a.2]] H = some (.bool (rightT a), H) := by
  refine okR_eq (call_evK (show T 38 = some (.ir ⟨_, _, _, _, _⟩) from T38) rfl rfl ?_)
  unfold rightT
  by_cases h1 : 0 ≤ a.1
  · by_cases h2 : a.1 ≤ 1099511627776
    · by_cases h3 : 0 ≤ a.2
      · simp -implicitDefEqProofs [h1, h2, h3, fin_pure]
      · simp -implicitDefEqProofs [h1, h2, h3, fin_pure]
    · simp -implicitDefEqProofs [h1, h2, fin_pure]
  · simp -implicitDefEqProofs [h1, fin_pure]
theorem tOr (a b : Int) (H : AHeap) (id : Nat) (h : H.get id = some (.row false 1 [.int .i64 a, .int .i64 b])) : call T 53 [.slice id 0 2 2] H = some (.int .i64 (if a = 0 then b else a), H) := by
  have r := rdAt_row (H := H.top) (show H.top.get id = _ from h)
  have w1 := wrap_id (n := 1) (by omega) (by omega)
  have w2 := wrap_id (n := 2) (by omega) (by omega)
  obtain ⟨x, st, s', f1, ⟨q0, q1⟩, hp, hr, hH⟩ := loopK (T := T) (L := L53_0) rfl
    (fun n s => ∃ i : Nat, i + n = 2 ∧ (0 < i → a = 0) ∧ (1 < i → b = 0) ∧ s = ⟨[(3, .v (.int .i64 0)), (6, .v (.slice id 0 2 2)), (7, .v (.int .i64 2)), (8, .v (.int .i64 i))], [], H.top⟩)
    (fun x s => s.H = H.top ∧ ((x = .exit 0 ∧ a = 0 ∧ b = 0 ∧ prK [3] [] s = ⟨[(3, .v (.int .i64 0))], [], H.top⟩) ∨ (x = .ret ∧ rvsK s [.tmp 2] = some [.int .i64 (if a = 0 then b else a)])))
    (by
      rintro n _ ⟨i, hi, h0, h1, rfl⟩ P hI hX hR
      by_cases hlt : i < 2
      · have hw := wrap_id (n := (i : Int) + 1) (by omega) (by omega)
        have hlt' : (i : Int) < 2 := by omega
        by_cases hi0 : i = 0
        · subst hi0
          by_cases ha : a = 0
          · simp -implicitDefEqProofs [B53_0, r, ha, w1, w2]
            refine hI _ _ _ 1 (by omega) ?_
            exact ⟨1, by omega, fun _ => ha, fun hc => by omega, by simp⟩
          · simp -implicitDefEqProofs [B53_0, r, ha, w1, w2]
            refine hR _ ?_
            exact ⟨rfl, .inr ⟨rfl, by simp [ha]⟩⟩
        · have : i = 1 := by omega
          subst this
          have ha := h0 (by omega)
          by_cases hb : b = 0
          · simp -implicitDefEqProofs [B53_0, r, hb, w1, w2]
            refine hI _ _ _ 0 (by omega) ?_
            exact ⟨2, by omega, fun _ => ha, fun _ => hb, by simp⟩
          · simp -implicitDefEqProofs [B53_0, r, hb, w1, w2]
            refine hR _ ?_
            exact ⟨rfl, .inr ⟨rfl, by simp [ha]⟩⟩
      · have hlt' : ¬ (i : Int) < 2 := by omega
        simp -implicitDefEqProofs [B53_0, hlt']
        refine hX _ _ ?_
        exact ⟨rfl, .inl ⟨rfl, h0 (by omega), h1 (by omega), by simp⟩⟩)
    2 ⟨[(3, .v (.int .i64 0)), (6, .v (.slice id 0 2 2)), (7, .v (.int .i64 2)), (8, .v (.int .i64 0))], [], H.top⟩ rfl ⟨0, by omega, by omega, by omega, by simp⟩
  rw [q0] at hH
  refine okR_eq (call_evK (show T 53 = some (.ir ⟨_, _, _, _, _⟩) from T53) rfl rfl ?_)
  rcases q1 with ⟨rfl, rfl, rfl, hk⟩ | ⟨rfl, hk⟩
  · have hk := (hp [3] []).trans (congrArg SK.norm hk)
    simp only [toSt_eq, List.map_cons, List.map_nil, av_v] at f1
    simp -implicitDefEqProofs [f1, hk, fin_pure]
  · have hk := hr _ _ hk
    simp only [toSt_eq, List.map_cons, List.map_nil, av_v] at f1
    simp -implicitDefEqProofs [f1, hk, hH, fin_pure]
theorem tCompare (a b : Stp) (H : AHeap) : call T 44 [.agg [.int .i64 a.1, .int .i64 a.2], .agg [.int .i64 b.1, .int .i64 b.2]] H = some (.int .i64 (if a.1 < b.1 then -1 else if b.1 < a.1 then 1 else if a.2 < b.2 then -1 else if b.2 < a.2 then 1 else 0), H) := by
  refine okR_eq (call_evK (show T 44 = some (.ir ⟨_, _, _, _, _⟩) from T44) rfl rfl ?_)
  have key : ∀ a b : Int, call T 53 [.slice H.n 0 2 2] (H.top.alloc (.row false 1 [.int .i64 a, .int .i64 b])) = some (.int .i64 (if a = 0 then b else a), H.top.alloc (.row false 1 [.int .i64 a, .int .i64 b])) :=
    fun a b => tOr a b _ _ (get_alloc_same H.top _)
  have e1 := tCmp a.1 b.1 H.top
  have e2 := tCmp a.2 b.2 H.top
  have hfin : ∀ (n : Int) (x : AObj), Go.Wam.fin H (.int .i64 n) (H.top.alloc x) = H := fun n x => fin_drop' (by simp) (by simp)
  generalize h1 : (if a.1 < b.1 then (-1 : Int) else if b.1 < a.1 then 1 else 0) = c1 at *
  generalize h2 : (if a.2 < b.2 then (-1 : Int) else if b.2 < a.2 then 1 else 0) = c2 at *
  simp -implicitDefEqProofs [e1, e2, key, hfin]
  subst h1 h2
  (repeat' split) <;> simp_all <;> omega
theorem tLess (a b : Stp) (H : AHeap) : call T 20 [.agg [.int .i64 a.1, .int .i64 a.2], .agg [.int .i64 b.1, .int .i64 b.2]] H = some (.bool (ltS a b), H) := by
  refine okR_eq (call_evK (show T 20 = some (.ir ⟨_, _, _, _, _⟩) from T20) rfl rfl ?_)
  have e1 := tCompare a b H.top
  have e2 : ltS a b = decide ((if a.1 < b.1 then (-1 : Int) else if b.1 < a.1 then 1 else if a.2 < b.2 then -1 else if b.2 < a.2 then 1 else 0) < 0) := by
    unfold ltS
    (repeat' split) <;> simp_all <;> omega
  rw [e2]
  generalize (if a.1 < b.1 then (-1 : Int) else if b.1 < a.1 then 1 else if a.2 < b.2 then -1 else if b.2 < a.2 then 1 else 0) = c at *
  simp -implicitDefEqProofs [e1, fin_pure]
theorem tLess' (a b : Stp) (H : AHeap) : call T 46 [.agg [.int .i64 a.1, .int .i64 a.2], .agg [.int .i64 b.1, .int .i64 b.2]] H = some (.bool (ltS a b), H) := by
  refine okR_eq (call_evK (show T 46 = some (.ir ⟨_, _, _, _, _⟩) from T46) rfl rfl ?_)
  unfold ltS
  by_cases h1 : a.1 < b.1
  · simp -implicitDefEqProofs [h1, fin_pure]
  · by_cases h2 : a.1 = b.1
    · have h2' : (a.1 = b.1) = True := eq_true h2
      simp -implicitDefEqProofs [h1, h2', fin_pure]
    · simp -implicitDefEqProofs [h1, h2, fin_pure]
theorem tMax (a b : Stp) (H : AHeap) : call T 49 [.agg [.int .i64 a.1, .int .i64 a.2], .agg [.int .i64 b.1, .int .i64 b.2]] H = some (.agg [.int .i64 (maxS a b).1, .int .i64 (maxS a b).2], H) := by
  refine okR_eq (call_evK (show T 49 = some (.ir ⟨_, _, _, _, _⟩) from T49) rfl rfl ?_)
  have e1 := tLess a b H.top
  unfold maxS
  cases h : ltS a b <;> rw [h] at e1 <;> simp -implicitDefEqProofs [e1, fin_pure]
theorem tMax' (a b : Stp) (H : AHeap) : call T 37 [.agg [.int .i64 a.1, .int .i64 a.2], .agg [.int .i64 b.1, .int .i64 b.2]] H = some (.agg [.int .i64 (maxS a b).1, .int .i64 (maxS a b).2], H) := by
  refine okR_eq (call_evK (show T 37 = some (.ir ⟨_, _, _, _, _⟩) from T37) rfl rfl ?_)
  have e1 := tLess' a b H.top
  unfold maxS
  cases h : ltS a b <;> rw [h] at e1 <;> simp -implicitDefEqProofs [e1, fin_pure]
end Go.Proofs.Ytkahfmgdjoaiiaa
