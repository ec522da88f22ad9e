/- The statement ClockNil, in our machine and in the model. No condition. -/
import Derived.Test.YtglfchdpcididaaC04V
import Derived.WalkKit
import Derived.ProofKit
import Derived.OpenShut
import Derived.ShutString
import Derived.ChangeOld
import Derived.Below
import Derived.SizedLaws
set_option linter.unusedVariables false
set_option linter.unusedSimpArgs false
namespace Go.Proofs.Ytglfchdpcididaa
open Go.Wam

attribute [local simp] den_seq den_region den_regionD0 den_regionD1 den_cond den_block den_keep den_ret den_skip den_exit sops_cons sops_nil sopsR_cons sopsR_nil goR_eq readOk trace_cons trace_nil stepOp evOp wantedA Opd.ev evs Go.Wam.look St.put enterA zipI leaveR_ret leaveR_normal rvs RV.ev
  loadA storeA rd wr AV.cells AV.noL AV.one goOn_normal goOn_exit goOn_ret outBlock_normal outBlock_exit outBlock_ret prune freeL fillA allNoL packA unA checkAt AV.beq AV.beqL drawCond freshD readsOk isRead
  strOp aeqF_nil aeqF_cons andA_some i_add i_sub i_mul i_lss i_leq i_gtr i_geq i_quo i_rem i_eql i_neq s_eql s_neq s_lss
  s_leq s_gtr s_geq s_add e_bool n_bool e_nilp n_nilp e_ptr n_ptr e_lptr n_lptr e_agg n_agg
  e_nils n_nils e_slice n_slice e_oslice n_oslice e_eslice n_eslice e_xslice n_xslice e_nilm n_nilm e_map n_map
  e_nilFunc n_nilFunc e_func n_func q_int q_bool q_str q_struct q_ptr0 q_ptrL0 q_ptrR0 q_ptrL1 q_ptrR1 q_slice0
  q_sliceL0 q_sliceR0 q_sliceL1 q_sliceR1 q_sliceL2 q_sliceR2 q_sliceL3 q_sliceR3 q_map0 q_mapL0 q_mapR0 q_func0 q_funcL0 q_funcR0


/-- The form of an act. -/
def actSh : Sh := .pair (.int .i64) (.pair (.int .i64) (.pair (.pair (.int .i64) (.pair (.int .i64) .unit)) .unit))

theorem act_cells {H : AHeap} {l : List AV} (h : IsC H actSh l) : ∃ k p w g : Int, l = [.int .i64 k, .int .i64 p, .int .i64 w, .int .i64 g] := by
  obtain ⟨a, b, rfl, ⟨k, rfl, _⟩, c, d, rfl, ⟨p, rfl, _⟩, e, f, rfl, ⟨u, v, rfl, ⟨w, rfl, _⟩, x, y, rfl, ⟨g, rfl, _⟩, rfl⟩, rfl⟩ := h
  exact ⟨k, p, w, g, rfl⟩

set_option maxRecDepth 8000 in
theorem n8 (k p w g : Int) (H : AHeap) : call T 8 [.agg [.int .i64 k, .int .i64 p, .int .i64 w, .int .i64 g]] H = some (.bool true, H) := by
  rw [call_at (show T 8 = some (.ir ⟨_, _, _, _, _⟩) from T8)]
  have a19 := z19
  have a21 := z21
  have a24 := z24
  simp only [encS] at a19 a21 a24
  simp -implicitDefEqProofs [s16, z17, a19, a21, z23, a24, z37, fin_pure]

theorem law8 : Law T 8 [actSh] := by
  intro H ls hw hl ha
  obtain ⟨l, rfl, h⟩ := args1 ha
  obtain ⟨k, p, w, g, rfl⟩ := act_cells h
  exact ⟨H, n8 k p w g H⟩

namespace clockNil
open Go.ChangeShapes Go.WideShapes Go.ChangeAt Go.RowKit

set_option maxRecDepth 100000 in
theorem lifted (os : Os) (started : os.Started) (H : Type) (enc : TypeId × Value → H) :
    ReturnsInHanded {} Try.checked os 8 .any (Rows.clockNilSpec.pre6 enc Try.prog Try.f8 Rows.clockNilRow.domain false) (Rows.clockNilSpec.post enc Try.prog Try.f8 false true false false) := by
  refine returnsInHanded_of_change_sized (C := Try.checked) own started (by kernel_rfl) Try.func8
    (ChangeSpec.witness6 (enc := enc) (C := Try.checked) false ⟨#[], #[.agg #[.int .i64 0, .int .i64 0, .int .i64 0, .int .i64 0]], []⟩ 8 (by kernel_rfl) (by kernel_rfl) (by kernel_rfl) (by kernel_rfl))
    (law_contract mixed fits law8 (k := 8) (by kernel_rfl) laidOut (by kernel_rfl) (rt := Try.f8.resultTypes.getD 0 0) (by kernel_rfl) (by kernel_rfl) rfl rfl (fun ds hd => ?_))
  match ds, hd with
  | [d], _ => rfl
theorem over : Rows.clockNilRow.holds Try.pinned (OpenSpec.ofChange Rows.clockNilSpec) :=
  OpenClaim.holds_of_wide 8 Try.f8 rfl rfl rfl rfl rfl rfl rfl ⟨rfl, rfl, rfl, rfl, rfl⟩ rfl rfl rfl rfl rfl (by kernel_rfl) Try.func8 (by kernel_rfl)
    (of_decide_eq_true (by kernel_rfl)) (by unfold Func.isWrapper; first | (rw [if_pos (by decide +kernel)]; kernel_rfl) | (rw [if_neg (by decide +kernel)]; exact ⟨rfl, rfl⟩))
    (fun os started H enc _ => lifted os started H enc)
end clockNil
theorem clockNil_holds : Rows.ClockNilSaid := clockNil.over
end Go.Proofs.Ytglfchdpcididaa
