/- No state: what fits is told. No condition. -/
import Derived.Test.YtpdmmpajjdaebaaGreatS23F
import Derived.Test.YtpdmmpajjdaebaaGreatAmVa
set_option linter.unusedVariables false
set_option linter.unusedSimpArgs false
namespace Go.Proofs.YtpdmmpajjdaebaaGreat
open Go.Wam

attribute [local simp] seqK_normal seqK_exit seqK_ret blockK_normal blockK_exit blockK_ret condO_bool evK_skip evK_exit evK_ret evK_keep evK_cond evK_block evK_seq_seq evK_seq_cond evK_seq_block evK_seq_loop evK_seq_skip evK_seq_keep evK_seq_exit evK_seq_ret prK_eq toSt_eq av_l av_v valS_v valT_v valS_u av_u valO_tmp
  nl_eq nl_none nl_if nlR_eq boxC_eq stL_eq storeP_ptr loadP_ptr fldP_ptr idxP_ptr inN_int callN_func strV_str fillC_nil fillC_cons pickV_bool guardK_bool kB_eq chk_some ifaceV_eq funcV_eq natV_int notL_noL leaveK_ret leaveK_normal rvsK_nil rvsK_cons rvK_tmp rvC_l rvC_v rvK_cell enterK_eq ok_l ok_v ok_u norm_eq norm_l norm_v norm_u
  Go.Wam.look zipI prune packA rd undefA allNoL convI convS lenStr lenMap extA fldV idxStr idxAgg idxS_slice idxS_oslice unA beq_same beqL_same AV.beq AV.beqL sliceV nilC clearW
  strOp aeqF_nil aeqF_cons andA_some i_add i_sub i_mul i_lss i_leq i_gtr i_geq i_quo i_rem i_eql i_neq s_eql s_neq s_lss
  s_leq s_gtr s_geq s_add e_bool n_bool e_nilp n_nilp e_ptr n_ptr e_lptr n_lptr e_agg n_agg
  e_nils n_nils e_slice n_slice e_oslice n_oslice e_eslice n_eslice e_xslice n_xslice e_nilm n_nilm e_map n_map
  e_nilFunc n_nilFunc e_func n_func q_int q_bool q_str q_struct q_ptr0 q_ptrL0 q_ptrR0 q_ptrL1 q_ptrR1 q_slice0
  q_sliceL0 q_sliceR0 q_sliceL1 q_sliceR1 q_sliceL2 q_sliceR2 q_sliceL3 q_sliceR3 q_map0 q_mapL0 q_mapR0 q_func0 q_funcL0 q_funcR0
  okR_some get_alloc_eq rdAt_alloc_eq set_alloc_eq set_alloc_ne get_alloc_ne rdAt_alloc_ne
attribute [local congr] bind_cg guardK_cg kB_cg condO_cg evK_cg
section
variable {H : AHeap} {v : AV} {W : List (List UInt8 × Int)}
def rowW (x : List UInt8 × Int) : List AV := [.str x.1, .int .i64 x.2]
/-- A command's cells. -/
def cmd (c0 c1 c2 c3 c4 c5 c7 c8 c9 c14 c15 c16 c17 c21 : Int) (s6 s10 s11 s12 : List UInt8) (b13 b18 b19 : Bool) (v : AV) : List AV :=
  [.int .i64 c0, .int .i64 c1, .int .i64 c2, .int .i64 c3, .int .i64 c4, .int .i64 c5, .str s6, .int .i64 c7, .int .i64 c8, .int .i64 c9, .str s10, .str s11, .str s12, .bool b13, .int .i64 c14, .int .i64 c15, .int .i64 c16, .int .i64 c17, .bool b18, .bool b19, v, .int .i64 c21]
variable (c0 c1 c2 c3 c4 c5 c7 c8 c9 c14 c15 c16 c17 c21 : Int) (s6 s10 s11 s12 : List UInt8) (b13 b18 b19 : Bool)
theorem fFits (hV : View H 2 v (W.map rowW)) : ∃ b, call T 21 [.agg (cmd c0 c1 c2 c3 c4 c5 c7 c8 c9 c14 c15 c16 c17 c21 s6 s10 s11 s12 b13 b18 b19 v)] H = some (.bool b, H) := by
  have n1 := hV.noL
  have n2 := hV.cells
  have n3 := hV.one
  have n4 := notL_of n1
  have hT := hV.top
  have hl := hV.lenS
  obtain ⟨x, st, s', f1, ⟨q0, q1⟩, hp, hr, hH⟩ := loopK (T := T) (L := L21_0) rfl
    (fun n st => ∃ i : Nat, i + n = 20 ∧ st = ⟨[(1, .l 1 0), (3, .v (.int .i64 i))], [(1, cmd c0 c1 c2 c3 c4 c5 c7 c8 c9 c14 c15 c16 c17 c21 s6 s10 s11 s12 b13 b18 b19 v)], H.top⟩)
    (fun x st => st.H = H.top ∧ ((x = .exit 0 ∧ prK [1] [1] st = ⟨[(1, .l 1 0)], [(1, cmd c0 c1 c2 c3 c4 c5 c7 c8 c9 c14 c15 c16 c17 c21 s6 s10 s11 s12 b13 b18 b19 v)], H.top⟩) ∨ (x = .ret ∧ rvsK st [.tmp 2] = some [.bool false])))
    (by
      rintro n _ ⟨i, hi, rfl⟩ P hI hX hR
      simp only [cmd]
      rw [List.length_map] at hl
      by_cases hlt : (i : Int) < W.length
      · have hlt' : i < W.length := by omega
        have hw := wrap_id (n := (i : Int) + 1) (by omega) (by omega)
        by_cases h20 : (i : Int) = 20
        · have i20 : i = 20 := by omega
          subst i20
          have hlt2 : (20 : Int) < W.length := by omega
          simp -implicitDefEqProofs [B21_0, hl, hlt2, n1, n2, n3, n4]
          exact hR _ ⟨rfl, .inr ⟨rfl, by simp⟩⟩
        · have hi' : 0 < n := by omega
          have e1 := hV.idx .i64 (n := i) (by omega) (by rw [List.length_map]; omega)
          rw [show (i : Int).toNat = i from rfl] at e1
          have hg : (W.map rowW)[i]? = some (rowW W[i]) := by rw [List.getElem?_map, List.getElem?_eq_getElem hlt']; rfl
          have e2 := hT.rd hg false (k := 1) (f := 0) (by omega) (by omega) (fun _ => rfl)
          simp only [rowW, Nat.add_zero] at e2
          rw [show rd false 1 0 [AV.str W[i].1, .int .i64 W[i].2] = some (.str W[i].1) from rfl] at e2
          by_cases h4 : (400 : Int) < W[i].1.length
          · simp -implicitDefEqProofs [B21_0, hl, hlt, h20, n1, n2, n3, n4, e1, e2, h4]
            exact hR _ ⟨rfl, .inr ⟨rfl, by simp⟩⟩
          · simp -implicitDefEqProofs [B21_0, hl, hlt, h20, n1, n2, n3, n4, e1, e2, h4, hw]
            exact hI _ _ _ (n - 1) (by omega) ⟨i + 1, by omega, by simp [cmd]⟩
      · simp -implicitDefEqProofs [B21_0, hl, hlt, n1, n2, n3, n4]
        exact hX _ _ ⟨rfl, .inl ⟨rfl, by simp [cmd]⟩⟩)
    20 ⟨[(1, .l 1 0), (3, .v (.int .i64 0))], [(1, cmd c0 c1 c2 c3 c4 c5 c7 c8 c9 c14 c15 c16 c17 c21 s6 s10 s11 s12 b13 b18 b19 v)], H.top⟩ rfl ⟨0, by omega, by simp [cmd]⟩
  rw [q0] at hH
  simp only [toSt_eq, List.map_cons, List.map_nil, av_v, av_l, Int.natCast_zero, cmd] at f1
  simp only [cmd]
  have go : ∀ {b : Bool}, OkR (evK (call T) (den T) F21.body (enterK [.agg [.int .i64 c0, .int .i64 c1, .int .i64 c2, .int .i64 c3, .int .i64 c4, .int .i64 c5, .str s6, .int .i64 c7, .int .i64 c8, .int .i64 c9, .str s10, .str s11, .str s12, .bool b13, .int .i64 c14, .int .i64 c15, .int .i64 c16, .int .i64 c17, .bool b18, .bool b19, v, .int .i64 c21]] H) (leaveK [.tmp 2] H)) (fun r => r = (.bool b, H)) → ∃ b, call T 21 [.agg [.int .i64 c0, .int .i64 c1, .int .i64 c2, .int .i64 c3, .int .i64 c4, .int .i64 c5, .str s6, .int .i64 c7, .int .i64 c8, .int .i64 c9, .str s10, .str s11, .str s12, .bool b13, .int .i64 c14, .int .i64 c15, .int .i64 c16, .int .i64 c17, .bool b18, .bool b19, v, .int .i64 c21]] H = some (.bool b, H) :=
    fun {b} h => ⟨b, okR_eq (call_evK (show T 21 = some (.ir ⟨_, _, _, _, _⟩) from T21) (by decide) rfl rfl rfl h)⟩
  rcases q1 with ⟨rfl, hk⟩ | ⟨rfl, hk⟩
  · have hk := (hp [1] [1]).trans (congrArg SK.norm hk)
    simp only [cmd] at hk
    by_cases h1 : (s6.length : Int) ≤ 400
    case neg => exact go (b := false) (by simp -implicitDefEqProofs [F21, f1, hk, n1, n2, n3, n4, h1, fin_pure])
    by_cases h2 : (s10.length : Int) ≤ 400
    case neg => exact go (b := false) (by simp -implicitDefEqProofs [F21, f1, hk, n1, n2, n3, n4, h1, h2, fin_pure])
    by_cases h3 : (s11.length : Int) ≤ 400
    case neg => exact go (b := false) (by simp -implicitDefEqProofs [F21, f1, hk, n1, n2, n3, n4, h1, h2, h3, fin_pure])
    by_cases h4 : (s12.length : Int) ≤ 400
    case neg => exact go (b := false) (by simp -implicitDefEqProofs [F21, f1, hk, n1, n2, n3, n4, h1, h2, h3, h4, fin_pure])
    exact go (b := true) (by simp -implicitDefEqProofs [F21, f1, hk, n1, n2, n3, n4, h1, h2, h3, h4, fin_pure])
  · have hk := hr _ _ hk
    exact go (b := false) (by simp -implicitDefEqProofs [F21, f1, hk, hH, n1, n2, n3, n4, fin_pure])
end
end Go.Proofs.YtpdmmpajjdaebaaGreat
