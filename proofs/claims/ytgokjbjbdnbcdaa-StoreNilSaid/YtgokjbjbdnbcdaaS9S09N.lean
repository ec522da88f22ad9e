/- No store: what fits is told, the rest is reckoned. No condition. -/
import Derived.Test.YtgokjbjbdnbcdaaS9F
import Derived.Test.YtgokjbjbdnbcdaaS9E
set_option linter.unusedVariables false
set_option linter.unusedSimpArgs false
namespace Go.Proofs.Ytgokjbjbdnbcdaa
open Go.Wam

attribute [local simp] seqK_normal seqK_exit seqK_ret blockK_normal blockK_exit blockK_ret condO_bool evK_skip evK_exit evK_ret evK_keep evK_cond evK_block evK_seq_seq evK_seq_cond evK_seq_block evK_seq_loop evK_seq_skip evK_seq_keep evK_seq_exit evK_seq_ret prK_eq toSt_eq av_l av_v valS_v valT_v valS_u av_u valO_tmp
  nl_eq nl_none nl_if nlR_eq boxC_eq stL_eq storeP_ptr loadP_ptr fldP_ptr idxP_ptr inN_int callN_func strV_str fillC_nil fillC_cons pickV_bool guardK_bool kB_eq chk_some ifaceV_eq funcV_eq natV_int notL_noL leaveK_ret leaveK_normal rvsK_nil rvsK_cons rvK_tmp rvC_l rvC_v rvK_cell enterK_eq ok_l ok_v ok_u norm_eq norm_l norm_v norm_u
  Go.Wam.look zipI prune packA rd undefA allNoL convI convS lenStr lenMap extA fldV idxStr idxAgg idxS_slice idxS_oslice unA beq_same beqL_same AV.beq AV.beqL sliceV nilC clearW
  strOp aeqF_nil aeqF_cons andA_some i_add i_sub i_mul i_lss i_leq i_gtr i_geq i_quo i_rem i_eql i_neq s_eql s_neq s_lss
  s_leq s_gtr s_geq s_add e_bool n_bool e_nilp n_nilp e_ptr n_ptr e_lptr n_lptr e_agg n_agg
  e_nils n_nils e_slice n_slice e_oslice n_oslice e_eslice n_eslice e_xslice n_xslice e_nilm n_nilm e_map n_map
  e_nilFunc n_nilFunc e_func n_func q_int q_bool q_str q_struct q_ptr0 q_ptrL0 q_ptrR0 q_ptrL1 q_ptrR1 q_slice0
  q_sliceL0 q_sliceR0 q_sliceL1 q_sliceR1 q_sliceL2 q_sliceR2 q_sliceL3 q_sliceR3 q_map0 q_mapL0 q_mapR0 q_func0 q_funcL0 q_funcR0
  okR_some get_alloc_eq rdAt_alloc_eq set_alloc_eq set_alloc_ne get_alloc_ne rdAt_alloc_ne
attribute [local congr] bind_cg guardK_cg kB_cg condO_cg evK_cg
/-- Letters, up to where one is none. -/
theorem kLoop {s : List UInt8} (hs : s.length ≤ 60) (H : AHeap) : ∃ b, call T 22 [.str s] H = some (.bool b, H) := by
  obtain ⟨x, st, s', f1, ⟨q0, q1⟩, hp, hr, hH⟩ := loopK (T := T) (L := L22_0) rfl
    (fun n st => ∃ i : Nat, i + n = s.length ∧ st = ⟨[(0, .v (.str s)), (3, .v (.int .i64 i))], [], H.top⟩)
    (fun x st => st.H = H.top ∧ ((x = .exit 0 ∧ prK [0] [] st = ⟨[(0, .v (.str s))], [], H.top⟩) ∨ (x = .ret ∧ rvsK st [.tmp 2] = some [.bool false])))
    (by
      rintro n _ ⟨i, hi, rfl⟩ P hI hX hR
      by_cases hlt : i < s.length
      · have hw := wrap_id (n := (i : Int) + 1) (by omega) (by omega)
        have hg : s[i]? = some s[i] := List.getElem?_eq_getElem hlt
        by_cases h1 : (s[i].toNat : Int) < 97
        · simp -implicitDefEqProofs [B22_0, hlt, h1]
          exact hR _ ⟨rfl, .inr ⟨rfl, by simp⟩⟩
        · by_cases h2 : 122 < (s[i].toNat : Int)
          · simp -implicitDefEqProofs [B22_0, hlt, h1, h2]
            exact hR _ ⟨rfl, .inr ⟨rfl, by simp⟩⟩
          · simp -implicitDefEqProofs [B22_0, hlt, h1, h2, hw]
            exact hI _ _ _ (n - 1) (by omega) ⟨i + 1, by omega, by simp⟩
      · simp -implicitDefEqProofs [B22_0, hlt]
        exact hX _ _ ⟨rfl, .inl ⟨rfl, by simp⟩⟩)
    s.length ⟨[(0, .v (.str s)), (3, .v (.int .i64 0))], [], H.top⟩ rfl ⟨0, by omega, by simp⟩
  rw [q0] at hH
  simp only [toSt_eq, List.map_cons, List.map_nil, av_v, Int.natCast_zero] at f1
  rcases q1 with ⟨rfl, hk⟩ | ⟨rfl, hk⟩
  · have hk := (hp [0] []).trans (congrArg SK.norm hk)
    by_cases h1 : (1 : Int) ≤ s.length
    · by_cases h2 : (s.length : Int) ≤ 8
      · refine ⟨true, okR_eq (call_evK (show T 22 = some (.ir ⟨_, _, _, _, _⟩) from T22) (by decide) rfl rfl rfl ?_)⟩
        simp -implicitDefEqProofs [f1, hk, fin_pure, h1, h2]
      · refine ⟨false, okR_eq (call_evK (show T 22 = some (.ir ⟨_, _, _, _, _⟩) from T22) (by decide) rfl rfl rfl ?_)⟩
        simp -implicitDefEqProofs [f1, hk, fin_pure, h1, h2]
    · refine ⟨false, okR_eq (call_evK (show T 22 = some (.ir ⟨_, _, _, _, _⟩) from T22) (by decide) rfl rfl rfl ?_)⟩
      simp -implicitDefEqProofs [f1, hk, fin_pure, h1]
  · have hk := hr _ _ hk
    refine ⟨false, okR_eq (call_evK (show T 22 = some (.ir ⟨_, _, _, _, _⟩) from T22) (by decide) rfl rfl rfl ?_)⟩
    simp -implicitDefEqProofs [f1, hk, hH, fin_pure]
def rightT (a b : Int) : Bool := decide (0 ≤ a) && decide (a ≤ 1099511627776) && (decide (0 ≤ b) && decide (b ≤ 65535))
theorem tRight' (a b : Int) (H : AHeap) : call T 23 [.agg [.int .i64 a, .int .i64 b]] H = some (.bool (rightT a b), H) := by
  refine okR_eq (call_evK (show T 23 = some (.ir ⟨_, _, _, _, _⟩) from T23) (by decide) rfl rfl rfl ?_)
  unfold rightT
  by_cases h1 : 0 ≤ a
  · by_cases h2 : a ≤ 1099511627776
    · by_cases h3 : 0 ≤ b
      · simp -implicitDefEqProofs [h1, h2, h3, fin_pure]
      · simp -implicitDefEqProofs [h1, h2, h3, fin_pure]
    · simp -implicitDefEqProofs [h1, h2, fin_pure]
  · simp -implicitDefEqProofs [h1, fin_pure]

/-- An act, as the machine has it. -/
def isAct : List AV → Bool
  | [.agg [.int .i64 _, .int .i64 _, .int .i64 _, .str _, .str _, .str _, .int .i64 _, .int .i64 _, .str _, .int .i64 _, .int .i64 _, .int .i64 _, .int .i64 _, .int .i64 _, .str _, .bool _, .bool _, .int .i64 _, .int .i64 _, .int .i64 _, .int .i64 _]] => true
  | _ => false
theorem isAct_is {args : List AV} (h : isAct args = true) : ∃ c0 c1 c2 c3 c4 c5 c6 c7 c8 c9 c10 c11 c12 c13 c14 c15 c16 c17 c18 c19 c20, args = [.agg [.int .i64 c0, .int .i64 c1, .int .i64 c2, .str c3, .str c4, .str c5, .int .i64 c6, .int .i64 c7, .str c8, .int .i64 c9, .int .i64 c10, .int .i64 c11, .int .i64 c12, .int .i64 c13, .str c14, .bool c15, .bool c16, .int .i64 c17, .int .i64 c18, .int .i64 c19, .int .i64 c20]] := by
  unfold isAct at h
  split at h
  · exact ⟨_, _, _, _, _, _, _, _, _, _, _, _, _, _, _, _, _, _, _, _, _, rfl⟩
  · cases h

theorem fitsB (c0 c1 c2 c6 c7 c9 c10 c11 c12 c13 c17 c18 c19 c20 : Int) (c3 c4 c5 c8 c14 : List UInt8) (c15 c16 : Bool) (H : AHeap) :
    ∃ b, call T 7 [.agg [.int .i64 c0, .int .i64 c1, .int .i64 c2, .str c3, .str c4, .str c5, .int .i64 c6, .int .i64 c7, .str c8, .int .i64 c9, .int .i64 c10, .int .i64 c11, .int .i64 c12, .int .i64 c13, .str c14, .bool c15, .bool c16, .int .i64 c17, .int .i64 c18, .int .i64 c19, .int .i64 c20]] H = some (.bool b, H) := by
  have go : ∀ {b}, OkR (evK (call T) (den T) F7.body (enterK [.agg [.int .i64 c0, .int .i64 c1, .int .i64 c2, .str c3, .str c4, .str c5, .int .i64 c6, .int .i64 c7, .str c8, .int .i64 c9, .int .i64 c10, .int .i64 c11, .int .i64 c12, .int .i64 c13, .str c14, .bool c15, .bool c16, .int .i64 c17, .int .i64 c18, .int .i64 c19, .int .i64 c20]] H) (leaveK [.tmp 2] H)) (fun r => r = (.bool b, H)) → call T 7 [.agg [.int .i64 c0, .int .i64 c1, .int .i64 c2, .str c3, .str c4, .str c5, .int .i64 c6, .int .i64 c7, .str c8, .int .i64 c9, .int .i64 c10, .int .i64 c11, .int .i64 c12, .int .i64 c13, .str c14, .bool c15, .bool c16, .int .i64 c17, .int .i64 c18, .int .i64 c19, .int .i64 c20]] H = some (.bool b, H) :=
    fun h => okR_eq (call_evK (show T 7 = some (.ir ⟨_, _, _, _, _⟩) from T7) (by decide) rfl rfl rfl h)
  by_cases h1 : (c3.length : Int) ≤ 60
  case neg => exact ⟨false, go (by simp -implicitDefEqProofs [F7, h1, fin_pure])⟩
  by_cases h2 : (c4.length : Int) ≤ 60
  case neg => exact ⟨false, go (by simp -implicitDefEqProofs [F7, h1, h2, fin_pure])⟩
  by_cases h3 : (c5.length : Int) ≤ 60
  case neg => exact ⟨false, go (by simp -implicitDefEqProofs [F7, h1, h2, h3, fin_pure])⟩
  by_cases h4 : (c14.length : Int) ≤ 60
  case neg => exact ⟨false, go (by simp -implicitDefEqProofs [F7, h1, h2, h3, h4, fin_pure])⟩
  by_cases h5 : (c8.length : Int) ≤ 60
  case neg => exact ⟨false, go (by simp -implicitDefEqProofs [F7, h1, h2, h3, h4, h5, fin_pure])⟩
  obtain ⟨kb, e1⟩ := kLoop (s := c8) (by omega) H.top
  have e2 := tRight' c9 c10 H.top
  generalize rightT c9 c10 = rb at e2
  by_cases h6 : 0 ≤ c6
  case neg => exact ⟨false, go (by simp -implicitDefEqProofs [F7, h1, h2, h3, h4, h5, h6, fin_pure])⟩
  by_cases h7 : c6 ≤ 1099511627776
  case neg => exact ⟨false, go (by simp -implicitDefEqProofs [F7, h1, h2, h3, h4, h5, h6, h7, fin_pure])⟩
  by_cases h8 : 0 ≤ c7
  case neg => exact ⟨false, go (by simp -implicitDefEqProofs [F7, h1, h2, h3, h4, h5, h6, h7, h8, fin_pure])⟩
  by_cases h9 : c7 ≤ 1099511627776
  case neg => exact ⟨false, go (by simp -implicitDefEqProofs [F7, h1, h2, h3, h4, h5, h6, h7, h8, h9, fin_pure])⟩
  by_cases h10 : 0 ≤ c11
  case neg => exact ⟨false, go (by simp -implicitDefEqProofs [F7, h1, h2, h3, h4, h5, h6, h7, h8, h9, h10, fin_pure])⟩
  by_cases h11 : c11 ≤ 1099511627776
  case neg => exact ⟨false, go (by simp -implicitDefEqProofs [F7, h1, h2, h3, h4, h5, h6, h7, h8, h9, h10, h11, fin_pure])⟩
  cases kb with
  | false => exact ⟨false, go (by simp -implicitDefEqProofs [F7, h1, h2, h3, h4, h5, h6, h7, h8, h9, h10, h11, e1, fin_pure])⟩
  | true => exact ⟨rb, go (by simp -implicitDefEqProofs [F7, h1, h2, h3, h4, h5, h6, h7, h8, h9, h10, h11, e1, e2, fin_pure])⟩

theorem fitsTrip : FitsD Try.prog 7 (.prim (shapeG Try.prog 7 isAct)) := shapeG_fits fun args h => by
  obtain ⟨c0, c1, c2, c3, c4, c5, c6, c7, c8, c9, c10, c11, c12, c13, c14, c15, c16, c17, c18, c19, c20, rfl⟩ := isAct_is h
  refine ⟨fun v hv => ?_, ?_⟩
  · simp only [List.mem_singleton] at hv; subst hv; simp [AV.one]
  · obtain ⟨b, hb⟩ := fitsB c0 c1 c2 c6 c7 c9 c10 c11 c12 c13 c17 c18 c19 c20 c3 c4 c5 c8 c14 c15 c16 noH
    exact ⟨b, call_trip mixed fits (by decide) T7 hb⟩
end Go.Proofs.Ytgokjbjbdnbcdaa
