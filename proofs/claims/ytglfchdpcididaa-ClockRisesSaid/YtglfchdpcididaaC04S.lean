/- What the functions that clocks stand on tell. No condition. -/
import Derived.Test.YtglfchdpcididaaC04F
import Derived.Test.YtglfchdpcididaaAmS
set_option linter.unusedVariables false
set_option linter.unusedSimpArgs false
namespace Go.Proofs.Ytglfchdpcididaa
open Go.Wam

def encS (w l : Int) : AV := .agg [.int .i64 w, .int .i64 l]
/-- Is the one stamp ahead of the other? -/
def ltS (w l w' l' : Int) : Bool := decide (w < w') || (decide (w = w') && decide (l < l'))
def rightS (w l : Int) : Bool := decide (0 ≤ w) && decide (w ≤ 1099511627776) && (decide (0 ≤ l) && decide (l ≤ 65535))

attribute [local simp] den_seq den_region den_regionD0 den_regionD1 den_cond den_block den_keep den_ret den_skip den_exit sops_cons sops_nil sopsR_cons sopsR_nil goR_eq readOk trace_cons trace_nil stepOp evOp wantedA Opd.ev evs Go.Wam.look St.put enterA zipI leaveR_ret leaveR_normal rvs RV.ev
  loadA storeA rd wr AV.cells AV.noL AV.one goOn_normal goOn_exit goOn_ret outBlock_normal outBlock_exit outBlock_ret prune freeL fillA allNoL packA unA checkAt AV.beq AV.beqL drawCond freshD readsOk isRead
  strOp aeqF_nil aeqF_cons andA_some i_add i_sub i_mul i_lss i_leq i_gtr i_geq i_quo i_rem i_eql i_neq s_eql s_neq s_lss
  s_leq s_gtr s_geq s_add e_bool n_bool e_nilp n_nilp e_ptr n_ptr e_lptr n_lptr e_agg n_agg
  e_nils n_nils e_slice n_slice e_oslice n_oslice e_eslice n_eslice e_xslice n_xslice e_nilm n_nilm e_map n_map
  e_nilFunc n_nilFunc e_func n_func q_int q_bool q_str q_struct q_ptr0 q_ptrL0 q_ptrR0 q_ptrL1 q_ptrR1 q_slice0
  q_sliceL0 q_sliceR0 q_sliceL1 q_sliceR1 q_sliceL2 q_sliceR2 q_sliceL3 q_sliceR3 q_map0 q_mapL0 q_mapR0 q_func0 q_funcL0 q_funcR0

theorem s75 (a : Int) (H : AHeap) : call T 75 [.int .i64 a] H = some (.bool false, H) := by
  rw [call_at (show T 75 = some (.ir ⟨_, _, _, _, _⟩) from T75)]
  simp -implicitDefEqProofs [fin_pure]

theorem s65 (a b : Int) (H : AHeap) : call T 65 [.int .i64 a, .int .i64 b] H = some (.int .i64 (if a < b then -1 else if b < a then 1 else 0), H) := by
  rw [call_at (show T 65 = some (.ir ⟨_, _, _, _, _⟩) from T65)]
  by_cases h1 : a < b
  · simp -implicitDefEqProofs [s75, h1, fin_pure]
  · by_cases h2 : b < a
    · simp -implicitDefEqProofs [s75, h1, h2, fin_pure]
    · simp -implicitDefEqProofs [s75, h1, h2, fin_pure]

theorem s51 (x a b : Int) (H : AHeap) : call T 51 [.int .i64 x, .int .i64 a, .int .i64 b] H = some (.bool (decide (a ≤ x) && decide (x ≤ b)), H) := by
  rw [call_at (show T 51 = some (.ir ⟨_, _, _, _, _⟩) from T51)]
  by_cases h1 : a ≤ x
  · simp -implicitDefEqProofs [h1, fin_pure]
  · simp -implicitDefEqProofs [h1, fin_pure]

theorem s26 (w l : Int) (H : AHeap) : call T 26 [encS w l] H = some (.bool (rightS w l), H) := by
  rw [call_at (show T 26 = some (.ir ⟨_, _, _, _, _⟩) from T26)]
  by_cases h1 : (decide (0 ≤ w) && decide (w ≤ 1099511627776)) = true
  · simp -implicitDefEqProofs [encS, rightS, s51, h1, fin_pure]
  · simp -implicitDefEqProofs [encS, rightS, s51, h1, fin_pure]

theorem s64 (a b : Int) (H : AHeap) (id : Nat) (h : H.get id = some (.row false 1 [.int .i64 a, .int .i64 b])) : call T 64 [.slice id 0 2 2] H = some (.int .i64 (if a = 0 then b else a), H) := by
  rw [call_at (show T 64 = some (.ir ⟨_, _, _, _, _⟩) from T64)]
  by_cases h1 : a = 0
  · by_cases h2 : b = 0
    · simp -implicitDefEqProofs [h, h1, h2, fin_pure, den_loop, L64_0, wrap_id]
    · simp -implicitDefEqProofs [h, h1, h2, fin_pure, den_loop, L64_0, wrap_id]
  · simp -implicitDefEqProofs [h, h1, fin_pure, den_loop, L64_0, wrap_id]

theorem s50 (w l w' l' : Int) (H : AHeap) : call T 50 [encS w l, encS w' l'] H = some (.int .i64 (if w < w' then -1 else if w' < w then 1 else if l < l' then -1 else if l' < l then 1 else 0), H) := by
  rw [call_at (show T 50 = some (.ir ⟨_, _, _, _, _⟩) from T50)]
  have key : ∀ a b : Int, call T 64 [.slice H.n 0 2 2] (H.top.alloc (.row false 1 [.int .i64 a, .int .i64 b])) = some (.int .i64 (if a = 0 then b else a), H.top.alloc (.row false 1 [.int .i64 a, .int .i64 b])) :=
    fun a b => s64 a b _ _ (get_alloc_same H.top _)
  simp -implicitDefEqProofs [encS, s65, key, List.getLast?, fin_drop]
  (repeat' split) <;> simp_all <;> omega
end Go.Proofs.Ytglfchdpcididaa
