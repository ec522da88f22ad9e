/- The live question of a cache; CacheNil. No condition. -/
import Derived.Test.YtdnnpgmekbnlbaaC10S10B
set_option linter.unusedVariables false
set_option linter.unusedSimpArgs false
namespace Go.Proofs.Ytdnnpgmekbnlbaa
open Go.Wam

attribute [local simp] den_seq den_region den_regionD0 den_regionD1 den_condB condB_bool den_block den_keep den_ret den_skip den_exit sops_cons sops_nil sopsR_cons sopsR_nil goR_eq readOk trace_cons trace_nil Opd.ev evs Go.Wam.look St.put enterA zipI leaveR_ret leaveR_normal rvs RV.ev
  st_guard guardB_bool st_move st_pick pickB_bool st_allocL st_alloc st_boxL st_box st_build st_buildSlice st_load st_store st_nilCheck nilC st_bin st_un st_convI convI st_convS convS st_convB convB st_mkIface st_mkFunc st_mkMap st_mkSlice mkSl st_slice st_fieldAddr fldA st_field fldV st_idx idxS_slice idxS_oslice st_idxArr idxArr st_idxStr idxStr st_idxAgg idxAgg st_extract extA st_call callA_func st_len st_lenStr lenStr st_lenArr st_lenMap st_append st_clear clearV st_maxs st_mins
  load_ptr load_lptr storeA rd wr goOn_normal goOn_exit goOn_ret outBlock_normal outBlock_exit outBlock_ret prune freeL_nil freeL_cons frV_lptr frV_tuple frV_noL fillA allNoL packA unA checkAt ev_load wantedA beq_same beqL_same AV.beq AV.beqL drawCond freshD readsOk isRead undefA optInt optIntO
  strOp aeqF_nil aeqF_cons andA_some i_add i_sub i_mul i_lss i_leq i_gtr i_geq i_quo i_rem i_eql i_neq s_eql s_neq s_lss
  s_leq s_gtr s_geq s_add e_bool n_bool e_nilp n_nilp e_ptr n_ptr e_lptr n_lptr e_agg n_agg
  e_nils n_nils e_slice n_slice e_oslice n_oslice e_eslice n_eslice e_xslice n_xslice e_nilm n_nilm e_map n_map
  e_nilFunc n_nilFunc e_func n_func q_int q_bool q_str q_struct q_ptr0 q_ptrL0 q_ptrR0 q_ptrL1 q_ptrR1 q_slice0
  q_sliceL0 q_sliceR0 q_sliceL1 q_sliceR1 q_sliceL2 q_sliceR2 q_sliceL3 q_sliceR3 q_map0 q_mapL0 q_mapR0 q_func0 q_funcL0 q_funcR0
  okR_some guardB_tuple get_alloc_eq rdAt_alloc_eq set_alloc_eq set_alloc_ne get_alloc_ne rdAt_alloc_ne
theorem alive_small {s : List UInt8} (h : s.length ≤ 2) : Small s := by unfold Small; omega
theorem cAlive {H : AHeap} (hok : H.ok) : call T 19 [] H = some (.bool true, H) := by
  have hokT := AHeap.ok.top hok.1
  obtain ⟨e1, r1⟩ := cNew (K := H) (a := (3, 0)) hok
  have cA := Chg.alloc H.top (cObj (3, 0) .nils)
  have okA := cA.ok hokT
  obtain ⟨K, v, e2, r2, c2, n2⟩ := r1.add_room (f := [98]) (t := [100]) (a := (7, 0)) okA (alive_small (by simp)) (alive_small (by simp)) (by decide) (by simp)
  have e3 := cMost (f := [99]) (t := []) r2 (alive_small (by simp)) (alive_small (by simp)) (by simp)
  have e4 := cMost (f := [100]) (t := []) r2 (alive_small (by simp)) (alive_small (by simp)) (by simp)
  have e5 := cLen r2
  rw [show mostR (3, 0) ([] ++ [⟨[98], [100], (7, 0)⟩]) [99] [] = (7, 0) by decide] at e3
  rw [show mostR (3, 0) ([] ++ [⟨[98], [100], (7, 0)⟩]) [100] [] = (3, 0) by decide] at e4
  have ctot : Chg [] H.top K := cA.trans hokT c2 (fun j hj => by simp at hj; subst hj; exact .inr (by simp))
  have hfin := fin_drop' (H := H) (K := K) (v := .bool true) (ctot.hi H.n (by simp) (by simp)) (by simp)
  simp only [List.nil_append, List.length_cons, List.length_nil] at e5
  rw [call_at (show T 19 = some (.ir ⟨_, _, _, _, _⟩) from T19)]
  simp -implicitDefEqProofs [e1, e2, e3, e4, e5, hfin]
section
variable {H : AHeap} {x s : AV}
theorem zAdd (f t : List UInt8) (a : Stp) (H : AHeap) : call T 16 [.nilp, .agg [.str f, .str t], .agg [.int .i64 a.1, .int .i64 a.2]] H = some (.int .i64 1, H) := by
  rw [call_at (show T 16 = some (.ir ⟨_, _, _, _, _⟩) from T16)]
  simp -implicitDefEqProofs [fin_pure]
theorem zMost (f t : List UInt8) (H : AHeap) : call T 20 [.nilp, .agg [.str f, .str t]] H = some (.agg [.int .i64 0, .int .i64 0], H) := by
  rw [call_at (show T 20 = some (.ir ⟨_, _, _, _, _⟩) from T20)]
  simp -implicitDefEqProofs [fin_pure]
theorem zLow (H : AHeap) : call T 21 [.nilp] H = some (.agg [.int .i64 0, .int .i64 0], H) := by
  rw [call_at (show T 21 = some (.ir ⟨_, _, _, _, _⟩) from T21)]
  simp -implicitDefEqProofs [fin_pure]
theorem zLen (H : AHeap) : call T 24 [.nilp] H = some (.int .i64 0, H) := by
  rw [call_at (show T 24 = some (.ir ⟨_, _, _, _, _⟩) from T24)]
  simp -implicitDefEqProofs [fin_pure]
theorem zRaise (a : Stp) (H : AHeap) : call T 22 [.nilp, .agg [.int .i64 a.1, .int .i64 a.2]] H = some (.int .i64 1, H) := by
  rw [call_at (show T 22 = some (.ir ⟨_, _, _, _, _⟩) from T22)]
  have hfin : ∀ x, Go.Wam.fin H (.int .i64 1) (H.top.alloc x) = H := fun x => fin_drop' (by simp) (by simp)
  simp -implicitDefEqProofs [hfin]
end
theorem nNil {H : AHeap} (hok : H.ok) (k : Int) (f t : List UInt8) (a : Stp) : OkR (call T 6 [.agg [.int .i64 k, .str f, .str t, .int .i64 a.1, .int .i64 a.2]] H) fun r => r.1 = .bool true := by
  rw [call_at (show T 6 = some (.ir ⟨_, _, _, _, _⟩) from T6)]
  have hokT := AHeap.ok.top hok.1
  have e1 := sFits f t H.top
  have ea := cAlive hokT
  by_cases h1 : fitB f t = true
  · simp -implicitDefEqProofs [e1, h1, ea, zAdd, zMost, zLow, zLen, zRaise]
  · simp -implicitDefEqProofs [e1, h1, ea]
theorem law_of {f : FuncId} {args : List AV} {H : AHeap} (h : OkR (call T f args H) fun r => r.1 = .bool true) : ∃ K, call T f args H = some (.bool true, K) := by
  obtain ⟨⟨v, K⟩, e, h⟩ := h
  simp only at h
  subst h
  exact ⟨K, e⟩
def spSh : Sh := .pair .str (.pair .str .unit)
def stSh : Sh := .pair (.int .i64) (.pair (.int .i64) .unit)
def actSh : Sh := .pair (.int .i64) (.pair spSh (.pair stSh .unit))
theorem reach_small {s : List UInt8} (h : s.length ≤ reachBytes) : Small s := Nat.lt_of_le_of_lt h (by decide)
theorem sp_cells {H : AHeap} {l : List AV} (h : IsC H spSh l) : ∃ f t, l = [.str f, .str t] ∧ Small f ∧ Small t := by
  obtain ⟨a, b, rfl, ⟨f, rfl, hf⟩, c, d, rfl, ⟨t, rfl, ht⟩, rfl⟩ := h
  exact ⟨f, t, rfl, reach_small hf, reach_small ht⟩
theorem st_cells {H : AHeap} {l : List AV} (h : IsC H stSh l) : ∃ a : Stp, l = [.int .i64 a.1, .int .i64 a.2] := by
  obtain ⟨a, b, rfl, ⟨x, rfl, _⟩, c, d, rfl, ⟨y, rfl, _⟩, rfl⟩ := h
  exact ⟨(x, y), rfl⟩
structure Act where
  k : Int
  f : List UInt8
  t : List UInt8
  a : Stp
def rowAct (p : Act) : List AV := [.int .i64 p.k, .str p.f, .str p.t, .int .i64 p.a.1, .int .i64 p.a.2]
theorem act_cells {H : AHeap} {l : List AV} (h : IsC H actSh l) : ∃ p : Act, l = rowAct p ∧ Small p.f ∧ Small p.t := by
  obtain ⟨a, b, rfl, ⟨k, rfl, _⟩, c, d, rfl, hsp, e, g, rfl, hst, rfl⟩ := h
  obtain ⟨f, t, rfl, hf, ht⟩ := sp_cells hsp
  obtain ⟨x, rfl⟩ := st_cells hst
  exact ⟨⟨k, f, t, x⟩, rfl, hf, ht⟩
theorem acts_of {H : AHeap} {rows : List (List AV)} (h : ∀ r ∈ rows, IsC H actSh r) : ∃ ps : List Act, rows = ps.map rowAct ∧ ∀ p ∈ ps, Small p.f ∧ Small p.t := by
  induction rows with
  | nil => exact ⟨[], rfl, by simp⟩
  | cons r rows ih =>
    obtain ⟨l, e, hs⟩ := ih fun r hr => h r (by simp [hr])
    obtain ⟨s, rfl, hl⟩ := act_cells (h r (by simp))
    refine ⟨s :: l, by rw [e]; rfl, fun x hx => ?_⟩
    rcases List.mem_cons.1 hx with rfl | hx
    · exact hl
    · exact hs x hx
theorem lawNil : Law T 6 [actSh] := by
  intro H ls hw hl ha
  obtain ⟨x, rfl, hx⟩ := args1 ha
  obtain ⟨p, rfl, _⟩ := act_cells hx
  exact law_of (nNil ⟨hw, by omega⟩ p.k p.f p.t p.a)
end Go.Proofs.Ytdnnpgmekbnlbaa
