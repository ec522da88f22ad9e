/- The statement ClockPlays, in our machine. No condition. -/
import Derived.Test.YtglfchdpcididaaC04X
set_option linter.unusedVariables false
set_option linter.unusedSimpArgs false
namespace Go.Proofs.Ytglfchdpcididaa
open Go.Wam

attribute [local simp] den_seq den_region den_regionD0 den_regionD1 den_cond den_block den_keep den_ret den_skip den_exit sops_cons sops_nil sopsR_cons sopsR_nil goR_eq readOk trace_cons trace_nil stepOp evOp wantedA Opd.ev evs Go.Wam.look St.put enterA zipI leaveR_ret leaveR_normal rvs RV.ev
  loadA storeA rd wr AV.cells AV.noL AV.one goOn_normal goOn_exit goOn_ret outBlock_normal outBlock_exit outBlock_ret prune freeL fillA allNoL packA unA checkAt AV.beq AV.beqL drawCond freshD readsOk isRead undefA
  strOp aeqF_nil aeqF_cons andA_some i_add i_sub i_mul i_lss i_leq i_gtr i_geq i_quo i_rem i_eql i_neq s_eql s_neq s_lss
  s_leq s_gtr s_geq s_add e_bool n_bool e_nilp n_nilp e_ptr n_ptr e_lptr n_lptr e_agg n_agg
  e_nils n_nils e_slice n_slice e_oslice n_oslice e_eslice n_eslice e_xslice n_xslice e_nilm n_nilm e_map n_map
  e_nilFunc n_nilFunc e_func n_func q_int q_bool q_str q_struct q_ptr0 q_ptrL0 q_ptrR0 q_ptrL1 q_ptrR1 q_slice0
  q_sliceL0 q_sliceR0 q_sliceL1 q_sliceR1 q_sliceL2 q_sliceR2 q_sliceL3 q_sliceR3 q_map0 q_mapL0 q_mapR0 q_func0 q_funcL0 q_funcR0


/-- Two clocks that were made last. -/
def two (H : AHeap) (x y : AObj) : AHeap := (H.top.alloc x).alloc y
theorem two_low (H : AHeap) (x y : AObj) : (two H x y).low = H.n := rfl
theorem two_n (H : AHeap) (x y : AObj) : (two H x y).n = H.n + 2 := rfl
theorem two_get0 (H : AHeap) (x y : AObj) : (two H x y).get H.n = some x := by
  unfold two; rw [get_alloc_ne _ _ (by simp)]; exact get_alloc_same H.top x
theorem two_get1 (H : AHeap) (x y : AObj) : (two H x y).get (H.n + 1) = some y := get_alloc_same (H.top.alloc x) y
theorem two_get (H : AHeap) (x y : AObj) {i : Nat} (h : i < H.n) : (two H x y).get i = H.get i := by
  unfold two; rw [get_alloc_lt _ _ (by simp; omega), get_alloc_lt _ _ (by simpa using h)]; rfl
theorem two_set0 (H : AHeap) (x y z : AObj) : (two H x y).set H.n z = two H z y := by
  unfold two; rw [set_alloc_lt _ _ _ (by simp), top_alloc_set]
theorem two_set1 (H : AHeap) (x y z : AObj) : (two H x y).set (H.n + 1) z = two H x z := set_alloc_same (H.top.alloc x) y z (by simp)

section
variable {H : AHeap} {y x : AObj}
theorem u17 (p o w l q : Int) : call T 17 [.ptr H.n 0, .int .i64 q] (two H (clk p o w l) y) = if p ≤ q ∧ q ≤ 1099511627776 then some (.int .i64 0, two H (clk q o w l) y) else some (.int .i64 42, two H (clk p o w l) y) := by
  rw [s17 (two_get0 H _ y) (by rw [two_n]; omega) q, two_set0]
theorem u19 (p o w l : Int) : call T 19 [.ptr H.n 0] (two H (clk p o w l) y) = match nowC p w l with
    | some (w', l') => some (.tuple [encS w' l', .int .i64 0], two H (clk p o w' l') y)
    | none => some (.tuple [encS 0 0, .int .i64 42], two H (clk p o w l) y) := by
  rw [s19 (two_get0 H _ y) (by rw [two_n]; omega)]
  cases nowC p w l with
  | none => rfl
  | some r => simp only [two_set0]
theorem u21 (p o w l : Int) (hp : 0 ≤ p ∧ p ≤ 1099511627776) (w' l' : Int) : call T 21 [.ptr H.n 0, encS w' l'] (two H (clk p o w l) y) =
    if rightS w' l' = true then (if o < w' - p then some (.int .i64 41, two H (clk p o w l) y) else some (.int .i64 0, two H (if ltS w l w' l' = true then clk p o w' l' else clk p o w l) y)) else some (.int .i64 31, two H (clk p o w l) y) := by
  rw [s21 (two_get0 H _ y) (by rw [two_n]; omega) hp w' l', two_set0]
theorem u23 (p o w l : Int) : call T 23 [.ptr H.n 0] (two H (clk p o w l) y) = some (.int .i64 p, two H (clk p o w l) y) := s23 (two_get0 H _ y)
theorem u24 (p o w l : Int) : call T 24 [.ptr H.n 0] (two H (clk p o w l) y) = some (encS w l, two H (clk p o w l) y) := s24 (two_get0 H _ y)
theorem u18 (p o w l q : Int) : call T 18 [.ptr (H.n + 1) 0, .int .i64 q] (two H x (clk p o w l)) = if p ≤ q ∧ q ≤ 1099511627776 then some (.int .i64 0, two H x (clk q o w l)) else some (.int .i64 42, two H x (clk p o w l)) := by
  rw [s18 (two_get1 H x _) (by rw [two_n]; omega) q, two_set1]
theorem u20 (p o w l : Int) : call T 20 [.ptr (H.n + 1) 0] (two H x (clk p o w l)) = match nowC p w l with
    | some (w', l') => some (.tuple [encS w' l', .int .i64 0], two H x (clk p o w' l'))
    | none => some (.tuple [encS 0 0, .int .i64 42], two H x (clk p o w l)) := by
  rw [s20 (two_get1 H x _) (by rw [two_n]; omega)]
  cases nowC p w l with
  | none => rfl
  | some r => simp only [two_set1]
theorem u22 (p o w l : Int) (hp : 0 ≤ p ∧ p ≤ 1099511627776) (ho : 0 ≤ o ∧ o ≤ 1099511627776) (w' l' : Int) : call T 22 [.ptr (H.n + 1) 0, encS w' l'] (two H x (clk p o w l)) =
    if rightS w' l' = true then (if o < w' - p then some (.int .i64 41, two H x (clk p o w l)) else some (.int .i64 0, two H x (if ltS w l w' l' = true then clk p o w' l' else clk p o w l))) else some (.int .i64 31, two H x (clk p o w l)) := by
  rw [s22 (two_get1 H x _) (by rw [two_n]; omega) hp ho w' l', two_set1]
end
end Go.Proofs.Ytglfchdpcididaa
