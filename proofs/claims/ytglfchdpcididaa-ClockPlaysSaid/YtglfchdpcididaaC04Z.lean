/- The statement ClockPlays, in our machine: its loop. No condition. -/
import Derived.Test.YtglfchdpcididaaC04Y
set_option linter.unusedVariables false
set_option linter.unusedSimpArgs false
namespace Go.Proofs.Ytglfchdpcididaa
open Go.Wam

attribute [local simp] den_seq den_region den_regionD0 den_regionD1 den_cond den_block den_keep den_ret den_skip den_exit sops_cons sops_nil sopsR_cons sopsR_nil goR_eq readOk trace_cons trace_nil stepOp evOp wantedA Opd.ev evs Go.Wam.look St.put enterA zipI leaveR_ret leaveR_normal rvs RV.ev
  loadA storeA rd wr AV.cells AV.noL AV.one goOn_normal goOn_exit goOn_ret outBlock_normal outBlock_exit outBlock_ret prune freeL fillA allNoL packA unA checkAt AV.beq AV.beqL drawCond freshD readsOk isRead undefA
  strOp aeqF_nil aeqF_cons andA_some i_add i_sub i_mul i_lss i_leq i_gtr i_geq i_quo i_rem i_eql i_neq s_eql s_neq s_lss
  s_leq s_gtr s_geq s_add e_bool n_bool e_nilp n_nilp e_ptr n_ptr e_lptr n_lptr e_agg n_agg
  e_nils n_nils e_slice n_slice e_oslice n_oslice e_eslice n_eslice e_xslice n_xslice e_nilm n_nilm e_map n_map
  e_nilFunc n_nilFunc e_func n_func q_int q_bool q_str q_struct q_ptr0 q_ptrL0 q_ptrR0 q_ptrL1 q_ptrR1 q_slice0
  q_sliceL0 q_sliceR0 q_sliceL1 q_sliceR1 q_sliceL2 q_sliceR2 q_sliceL3 q_sliceR3 q_map0 q_mapL0 q_mapR0 q_func0 q_funcL0 q_funcR0


/-- What stands at a place of the script. -/
structure At4 (H : AHeap) (id : Nat) (i : Nat) (k q a b : Int) (cells : List AV) : Prop where
  get : ∀ x y, (two H x y).get id = some (.row true 4 cells)
  c0 : cells[i * 4]? = some (.int .i64 k)
  c1 : cells[i * 4 + 1]? = some (.int .i64 q)
  c2 : List.take 2 (List.drop (i * 4 + 2) cells) = [.int .i64 a, .int .i64 b]
  len : i * 4 + 4 ≤ cells.length

def st3 (H : AHeap) (id len cap : Nat) (i : Int) (p o w l : Int) : St :=
  { env := [(1, .slice id 0 len cap), (5, .ptr H.n 0), (7, .ptr (H.n + 1) 0), (9, .int .i64 i)], loc := [], H := two H (clk p o w l) (clk p o w l) }

set_option maxHeartbeats 2000000 in
/-- One round. -/
theorem body3_1 {H : AHeap} {id len cap i : Nat} {k q a b p o w l : Int} {cells : List AV} (A : At4 H id i k q a b cells) (hi : i < len) (h100 : i < 100) (hp : 0 ≤ p ∧ p ≤ 1099511627776) (ho : 0 ≤ o ∧ o ≤ 1099511627776) (hk : k = 1) :
    ∃ p', (0 ≤ p' ∧ p' ≤ 1099511627776) ∧ ∃ r, den T L3_0 (st3 H id len cap i p o w l) = some r ∧ r.1 = .normal ∧ prune [1, 5, 7, 9] r.2.env = (st3 H id len cap (i + 1) p' o w l).env ∧ r.2.H = two H (clk p' o w l) (clk p' o w l) := by
  subst hk
  obtain ⟨g, c0, c1, c2, cl⟩ := A
  have hi' : (i : Int) < (len : Int) := by omega
  have h100' : (i : Int) < 100 := by omega
  have hw := wrap_id (n := (i : Int) + 1) (by omega) (by omega)
  have e17 := fun p w l q y => u17 (H := H) (y := y) p o w l q
  have e18 := fun p w l q x => u18 (H := H) (x := x) p o w l q
  have e23 := fun p w l y => u23 (H := H) (y := y) p o w l
  have e24 := fun p w l y => u24 (H := H) (y := y) p o w l
  simp only [encS] at e24
  have g0 : ∀ p o w l y, (two H (clk p o w l) y).get H.n = some (.row false 4 [.int .i64 p, .int .i64 o, .int .i64 w, .int .i64 l]) := fun p o w l y => two_get0 H _ y
  have g1 : ∀ p o w l x, (two H x (clk p o w l)).get (H.n + 1) = some (.row false 4 [.int .i64 p, .int .i64 o, .int .i64 w, .int .i64 l]) := fun p o w l x => two_get1 H x _
  by_cases hq : p ≤ q ∧ q ≤ 1099511627776
  · refine ⟨q, by omega, ?_⟩
    simp -implicitDefEqProofs [L3_0, st3, g, c0, c1, cl, hi, hi', h100', hw, e17, e18, e23, e24, hq, g0, g1]
  · refine ⟨p, hp, ?_⟩
    simp -implicitDefEqProofs [L3_0, st3, g, c0, c1, cl, hi, hi', h100', hw, e17, e18, e23, e24, hq, g0, g1]
end Go.Proofs.Ytglfchdpcididaa
