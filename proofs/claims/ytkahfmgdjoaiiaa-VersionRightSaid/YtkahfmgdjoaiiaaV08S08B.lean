/- Chains, and the small functions over them. No condition. -/
import Derived.Test.YtkahfmgdjoaiiaaV08S08
set_option linter.unusedVariables false
set_option linter.unusedSimpArgs false
namespace Go.Proofs.Ytkahfmgdjoaiiaa
open Go.Wam

attribute [local simp] seqK_normal seqK_exit seqK_ret blockK_normal blockK_exit blockK_ret condO_bool evK_skip evK_exit evK_ret evK_keep evK_cond evK_block evK_seq_seq evK_seq_cond evK_seq_block evK_seq_loop evK_seq_skip evK_seq_keep evK_seq_exit evK_seq_ret prK_eq toSt_eq av_l av_v valS_v valT_v valS_u av_u valO_tmp
  nl_eq nl_none nl_if nlR_eq boxC_eq stL_eq storeP_ptr loadP_ptr fldP_ptr idxP_ptr inN_int callN_func strV_str fillC_nil fillC_cons pickV_bool guardK_bool kB_eq chk_some ifaceV_eq funcV_eq natV_int notL_noL leaveK_ret leaveK_normal rvsK_nil rvsK_cons rvK_tmp rvC_l rvC_v rvK_cell enterK_eq ok_l ok_v ok_u norm_eq norm_l norm_v norm_u
  Go.Wam.look zipI prune packA rd undefA allNoL convI convS lenStr lenMap extA fldV idxStr idxAgg idxS_slice idxS_oslice unA beq_same beqL_same AV.beq AV.beqL sliceV nilC clearW
  strOp aeqF_nil aeqF_cons andA_some i_add i_sub i_mul i_lss i_leq i_gtr i_geq i_quo i_rem i_eql i_neq s_eql s_neq s_lss
  s_leq s_gtr s_geq s_add e_bool n_bool e_nilp n_nilp e_ptr n_ptr e_lptr n_lptr e_agg n_agg
  e_nils n_nils e_slice n_slice e_oslice n_oslice e_eslice n_eslice e_xslice n_xslice e_nilm n_nilm e_map n_map
  e_nilFunc n_nilFunc e_func n_func q_int q_bool q_str q_struct q_ptr0 q_ptrL0 q_ptrR0 q_ptrL1 q_ptrR1 q_slice0
  q_sliceL0 q_sliceR0 q_sliceL1 q_sliceR1 q_sliceL2 q_sliceR2 q_sliceL3 q_sliceR3 q_map0 q_mapL0 q_mapR0 q_func0 q_funcL0 q_funcR0
  okR_some get_alloc_eq rdAt_alloc_eq set_alloc_eq set_alloc_ne get_alloc_ne rdAt_alloc_ne
attribute [local congr] bind_cg guardK_cg kB_cg condO_cg evK_cg
/-- The next stamp. -/
def nextS (a : Stp) : Stp × Int := if rightT a = false ∨ (a.1 = 1099511627776 ∧ a.2 = 65535) then ((0, 0), 31) else if a.2 = 65535 then ((a.1 + 1, 0), 0) else ((a.1, a.2 + 1), 0)
theorem right_bounds {a : Stp} (h : rightT a = true) : 0 ≤ a.1 ∧ a.1 ≤ 1099511627776 ∧ 0 ≤ a.2 ∧ a.2 ≤ 65535 := by
  unfold rightT at h
  simp only [Bool.and_eq_true, decide_eq_true_eq] at h
  exact ⟨h.1.1, h.1.2, h.2.1, h.2.2⟩
def uptoB (a b : Stp) : Bool := !ltS b a
theorem vUpto (a b : Stp) (H : AHeap) : call T 41 [.agg [.int .i64 a.1, .int .i64 a.2], .agg [.int .i64 b.1, .int .i64 b.2]] H = some (.bool (uptoB a b), H) := by
  refine okR_eq (call_evK (show T 41 = some (.ir ⟨_, _, _, _, _⟩) from T41) rfl rfl ?_)
  simp -implicitDefEqProofs [tLess b a, fin_pure, uptoB]
theorem rUpto (a b : Stp) (H : AHeap) : call T 42 [.agg [.int .i64 a.1, .int .i64 a.2], .agg [.int .i64 b.1, .int .i64 b.2]] H = some (.bool (uptoB a b), H) := by
  refine okR_eq (call_evK (show T 42 = some (.ir ⟨_, _, _, _, _⟩) from T42) rfl rfl ?_)
  simp -implicitDefEqProofs [tLess' b a, fin_pure, uptoB]
structure Ve where
  at_ : Stp
  val : List UInt8
  gone : Bool
  by_ : Int
  deriving DecidableEq
def rowVe (x : Ve) : List AV := [.int .i64 x.at_.1, .int .i64 x.at_.2, .str x.val, .bool x.gone, .int .i64 x.by_]
structure Mt where
  id : Int
  ep : Int
  anc : List UInt8
  w : Int
  g : Int
  deriving DecidableEq
def celMt (x : Mt) : List AV := [.int .i64 x.id, .int .i64 x.ep, .str x.anc, .int .i64 x.w, .int .i64 x.g]
structure It where
  m : Mt
  seq : Int
  at_ : Stp
  val : List UInt8
  gone : Bool
  deriving DecidableEq
def celIt (x : It) : List AV := [.int .i64 x.m.id, .int .i64 x.m.ep, .str x.m.anc, .int .i64 x.m.w, .int .i64 x.m.g, .int .i64 x.seq, .int .i64 x.at_.1, .int .i64 x.at_.2, .str x.val, .bool x.gone]
def zIt : It := ⟨⟨0, 0, [], 0, 0⟩, 0, (0, 0), [], false⟩
structure Ch where
  L : List Ve
  op : Bool
  i : It
def celCh (v : AV) (c : Ch) : List AV := v :: .bool c.op :: celIt c.i
end Go.Proofs.Ytkahfmgdjoaiiaa
