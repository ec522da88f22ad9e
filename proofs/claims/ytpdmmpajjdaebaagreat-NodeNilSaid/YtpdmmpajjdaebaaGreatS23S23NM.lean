/- No node: what fits is told, and the law. No condition. -/
import Derived.Test.YtpdmmpajjdaebaaGreatS23S14N
import Derived.Test.YtpdmmpajjdaebaaGreatAmLeaf
set_option linter.unusedVariables false
set_option linter.unusedSimpArgs false
namespace Go.Proofs.YtpdmmpajjdaebaaGreat
open Go.Wam

attribute [local simp] seqK_normal seqK_exit seqK_ret blockK_normal blockK_exit blockK_ret condO_bool evK_skip evK_exit evK_ret evK_keep evK_cond evK_block evK_seq_seq evK_seq_cond evK_seq_block evK_seq_loop evK_seq_skip evK_seq_keep evK_seq_exit evK_seq_ret prK_eq toSt_eq av_l av_v valS_v valT_v valS_u av_u valO_tmp
  nl_eq nl_none nl_if nlR_eq boxC_eq stL_eq storeP_ptr loadP_ptr fldP_ptr idxP_ptr inN_int callN_func strV_str fillC_nil fillC_cons pickV_bool guardK_bool kB_eq chk_some ifaceV_eq funcV_eq natV_int notL_noL leaveK_ret leaveK_normal rvsK_nil rvsK_cons rvK_tmp rvC_l rvC_v rvK_cell enterK_eq ok_l ok_v ok_u norm_eq norm_l norm_v norm_u
  Go.Wam.look zipI prune packA rd undefA allNoL convI convS lenStr lenMap extA fldV idxStr idxAgg idxS_slice idxS_oslice unA beq_same beqL_same AV.beq AV.beqL sliceV nilC clearW
  strOp aeqF_nil aeqF_cons andA_some i_add i_sub i_mul i_lss i_leq i_gtr i_geq i_quo i_rem i_eql i_neq s_eql s_neq s_lss
  s_leq s_gtr s_geq s_add e_bool n_bool e_nilp n_nilp e_ptr n_ptr e_lptr n_lptr e_agg n_agg
  e_nils n_nils e_slice n_slice e_oslice n_oslice e_eslice n_eslice e_xslice n_xslice e_nilm n_nilm e_map n_map
  e_nilFunc n_nilFunc e_func n_func q_int q_bool q_str q_struct q_ptr0 q_ptrL0 q_ptrR0 q_ptrL1 q_ptrR1 q_slice0
  q_sliceL0 q_sliceR0 q_sliceL1 q_sliceR1 q_sliceL2 q_sliceR2 q_sliceL3 q_sliceR3 q_map0 q_mapL0 q_mapR0 q_func0 q_funcL0 q_funcR0
  okR_some get_alloc_eq rdAt_alloc_eq set_alloc_eq set_alloc_ne get_alloc_ne rdAt_alloc_ne
attribute [local congr] bind_cg guardK_cg kB_cg condO_cg evK_cg
section
variable {H : AHeap} {v d p q w : AV} {W Wr : List (List UInt8 × Int)} {L : List AV} {nd : Int} {an : List UInt8}
/-- An entry's cells: its term, its bytes, of which it is told how many there are. -/
def rowE (x : Int × AV × Int) : List AV := [.int .i64 x.1, x.2.1]
def rowP (x : List UInt8 × List UInt8) : List AV := [.str x.1, .str x.2]
variable {E : List (Int × AV × Int)} {Pr : List (List UInt8 × List UInt8)}
variable (c0 c1 c2 c3 c4 c5 c7 c8 c9 c14 c15 c16 c17 c21 : Int) (s6 s10 s11 s12 : List UInt8) (b13 b18 b19 : Bool)
theorem fMsg (hV : View H 2 v (E.map rowE)) (hE : ∀ x ∈ E, x.2.1.noL = true ∧ lenS x.2.1 = some (.int .i64 x.2.2)) (hW : View H 2 w (W.map rowW)) (hP : View H 2 p (Pr.map rowP)) (hQ : View H 2 q (Wr.map rowW)) (r9 : rd false 1 9 L = some v) (r10 : rd false 1 10 L = some d) (hd : d.noL = true) (hdl : lenS d = some (.int .i64 nd)) (rc : rd true 22 13 L = some (.agg (cmd c0 c1 c2 c3 c4 c5 c7 c8 c9 c14 c15 c16 c17 c21 s6 s10 s11 s12 b13 b18 b19 w)))
    (r38 : rd false 1 38 L = some p) (r42 : rd false 1 42 L = some (.str an)) (r52 : rd false 1 52 L = some q) : ∃ b, call T 30 [.agg L] H = some (.bool b, H) := by
  have m4 := notL_of hd
  have go : ∀ {b : Bool}, OkR (evK (call T) (den T) F30.body (enterK [.agg L] H) (leaveK [.tmp 2] H)) (fun r => r = (.bool b, H)) → ∃ b, call T 30 [.agg L] H = some (.bool b, H) :=
    fun {b} h => ⟨b, okR_eq (call_evK (show T 30 = some (.ir ⟨_, _, _, _, _⟩) from T30) (by decide) rfl rfl rfl h)⟩
  have n1_0 := hV.noL
  have n4_0 := notL_of n1_0
  have hT_0 := hV.top
  have hl_0 := hV.lenS
  obtain ⟨x0, st0, s0', f0, ⟨q0_0, q1_0⟩, hp0, hr0, hH0⟩ := loopK (T := T) (L := L30_0) rfl
    (fun n st => ∃ i : Nat, i + n = 60 ∧ ∃ z : Int, st = ⟨[(1, .l 1 0), (3, .v (.int .i64 z)), (4, .v (.int .i64 i))], [(1, L)], H.top⟩)
    (fun x st => st.H = H.top ∧ ((x = .exit 0 ∧ ∃ z : Int, prK [1, 3] [1] st = ⟨[(1, .l 1 0), (3, .v (.int .i64 z))], [(1, L)], H.top⟩) ∨ (x = .ret ∧ rvsK st [.tmp 2] = some [.bool false])))
    (by
      rintro n _ ⟨i, hi, z, rfl⟩ P hI hX hR
      rw [List.length_map] at hl_0
      by_cases hlt : (i : Int) < E.length
      · have hlt' : i < E.length := by omega
        have hw := wrap_id (n := (i : Int) + 1) (by omega) (by omega)
        have e1 := hV.idx .i64 (n := i) (by omega) (by rw [List.length_map]; omega)
        rw [show (i : Int).toNat = i from rfl] at e1
        have hg : (E.map rowE)[i]? = some (rowE E[i]) := by rw [List.getElem?_map, List.getElem?_eq_getElem hlt']; rfl
        have e2 := hT_0.rd hg false (k := 1) (f := 1) (by omega) (by omega) (fun _ => rfl)
        simp only [rowE, Nat.add_zero] at e2
        rw [show rd false 1 1 [.int .i64 E[i].1, E[i].2.1] = some E[i].2.1 from rfl] at e2
        obtain ⟨g1, g2⟩ := hE E[i] (List.getElem_mem hlt')
        have g4 := notL_of g1
        by_cases h20 : (i : Int) = 60
        · simp -implicitDefEqProofs [-Go.Wam.rd, B30_0, r9, hl_0, hlt, n1_0, n4_0, e1, e2, g1, g2, g4, eq_true h20]
          exact hR _ ⟨rfl, .inr ⟨rfl, by simp⟩⟩
        · have hi' : 0 < n := by omega
          by_cases h4 : IntKind.i64.wrap (z + E[i].2.2) > 600
          · simp -implicitDefEqProofs [-Go.Wam.rd, B30_0, r9, hl_0, hlt, n1_0, n4_0, e1, e2, g1, g2, g4, h20, h4]
            exact hR _ ⟨rfl, .inr ⟨rfl, by simp⟩⟩
          · simp -implicitDefEqProofs [-Go.Wam.rd, B30_0, r9, hl_0, hlt, n1_0, n4_0, e1, e2, g1, g2, g4, h20, h4, hw]
            exact hI _ _ _ (n - 1) (by omega) ⟨i + 1, by omega, _, rfl⟩
      · simp -implicitDefEqProofs [-Go.Wam.rd, B30_0, r9, hl_0, hlt, n1_0, n4_0]
        exact hX _ _ ⟨rfl, .inl ⟨rfl, z, by simp⟩⟩)
    60 ⟨[(1, .l 1 0), (3, .v (.int .i64 nd)), (4, .v (.int .i64 0))], [(1, L)], H.top⟩ rfl ⟨0, by omega, nd, by simp⟩
  rw [q0_0] at hH0
  simp only [toSt_eq, List.map_cons, List.map_nil, av_v, av_l, Int.natCast_zero] at f0
  rcases q1_0 with ⟨rfl, z, hk0⟩ | ⟨rfl, hk0⟩
  case inr =>
    have hk0 := hr0 _ _ hk0
    exact go (b := false) (by simp -implicitDefEqProofs [-Go.Wam.rd, F30, r10, hdl, hd, m4, f0, hk0, hH0, fin_pure])
  have hk0 := (hp0 [1, 3] [1]).trans (congrArg SK.norm hk0)
  have n1_1 := hP.noL
  have n4_1 := notL_of n1_1
  have hT_1 := hP.top
  have hl_1 := hP.lenS
  obtain ⟨x1, st1, s1', f1, ⟨q0_1, q1_1⟩, hp1, hr1, hH1⟩ := loopK (T := T) (L := L30_1) rfl
    (fun n st => ∃ i : Nat, i + n = 60 ∧ st = ⟨[(1, .l 1 0), (3, .v (.int .i64 z)), (5, .v (.int .i64 i))], [(1, L)], H.top⟩)
    (fun x st => st.H = H.top ∧ ((x = .exit 2 ∧ prK [1, 3] [1] st = ⟨[(1, .l 1 0), (3, .v (.int .i64 z))], [(1, L)], H.top⟩) ∨ (x = .ret ∧ rvsK st [.tmp 2] = some [.bool false])))
    (by
      rintro n _ ⟨i, hi, rfl⟩ P hI hX hR
      rw [List.length_map] at hl_1
      by_cases hlt : (i : Int) < Pr.length
      · have hlt' : i < Pr.length := by omega
        have hw := wrap_id (n := (i : Int) + 1) (by omega) (by omega)
        have e1 := hP.idx .i64 (n := i) (by omega) (by rw [List.length_map]; omega)
        rw [show (i : Int).toNat = i from rfl] at e1
        have hg : (Pr.map rowP)[i]? = some (rowP Pr[i]) := by rw [List.getElem?_map, List.getElem?_eq_getElem hlt']; rfl
        have e2 := hT_1.rd hg false (k := 1) (f := 0) (by omega) (by omega) (fun _ => rfl)
        have e3 := hT_1.rd hg false (k := 1) (f := 1) (by omega) (by omega) (fun _ => rfl)
        simp only [rowP, Nat.add_zero] at e2 e3
        rw [show rd false 1 0 [AV.str Pr[i].1, .str Pr[i].2] = some (.str Pr[i].1) from rfl] at e2
        rw [show rd false 1 1 [AV.str Pr[i].1, .str Pr[i].2] = some (.str Pr[i].2) from rfl] at e3
        by_cases h20 : (i : Int) = 60
        · simp -implicitDefEqProofs [-Go.Wam.rd, B30_1, r38, hl_1, hlt, n1_1, n4_1, e1, e2, e3, eq_true h20]
          exact hR _ ⟨rfl, .inr ⟨rfl, by simp⟩⟩
        · have hi' : 0 < n := by omega
          by_cases h4 : (Pr[i].1.length : Int) > 600
          · simp -implicitDefEqProofs [-Go.Wam.rd, B30_1, r38, hl_1, hlt, n1_1, n4_1, e1, e2, e3, h20, h4]
            exact hR _ ⟨rfl, .inr ⟨rfl, by simp⟩⟩
          · by_cases h5 : (Pr[i].2.length : Int) > 600
            · simp -implicitDefEqProofs [-Go.Wam.rd, B30_1, r38, hl_1, hlt, n1_1, n4_1, e1, e2, e3, h20, h4, h5]
              exact hR _ ⟨rfl, .inr ⟨rfl, by simp⟩⟩
            · simp -implicitDefEqProofs [-Go.Wam.rd, B30_1, r38, hl_1, hlt, n1_1, n4_1, e1, e2, e3, h20, h4, h5, hw]
              exact hI _ _ _ (n - 1) (by omega) ⟨i + 1, by omega, by simp⟩
      · simp -implicitDefEqProofs [-Go.Wam.rd, B30_1, r38, hl_1, hlt, n1_1, n4_1]
        exact hX _ _ ⟨rfl, .inl ⟨rfl, by simp⟩⟩)
    60 ⟨[(1, .l 1 0), (3, .v (.int .i64 z)), (5, .v (.int .i64 0))], [(1, L)], H.top⟩ rfl ⟨0, by omega, by simp⟩
  rw [q0_1] at hH1
  simp only [toSt_eq, List.map_cons, List.map_nil, av_v, av_l, Int.natCast_zero] at f1
  rcases q1_1 with ⟨rfl, hk1⟩ | ⟨rfl, hk1⟩
  case inr =>
    have hk1 := hr1 _ _ hk1
    exact go (b := false) (by simp -implicitDefEqProofs [-Go.Wam.rd, F30, r10, hdl, hd, m4, f0, hk0, f1, hk1, hH1, fin_pure])
  have hk1 := (hp1 [1, 3] [1]).trans (congrArg SK.norm hk1)
  have n1_2 := hQ.noL
  have n4_2 := notL_of n1_2
  have hT_2 := hQ.top
  have hl_2 := hQ.lenS
  obtain ⟨x2, st2, s2', f2, ⟨q0_2, q1_2⟩, hp2, hr2, hH2⟩ := loopK (T := T) (L := L30_2) rfl
    (fun n st => ∃ i : Nat, i + n = 60 ∧ st = ⟨[(1, .l 1 0), (3, .v (.int .i64 z)), (6, .v (.int .i64 i))], [(1, L)], H.top⟩)
    (fun x st => st.H = H.top ∧ ((x = .exit 4 ∧ prK [1, 3] [1] st = ⟨[(1, .l 1 0), (3, .v (.int .i64 z))], [(1, L)], H.top⟩) ∨ (x = .ret ∧ rvsK st [.tmp 2] = some [.bool false])))
    (by
      rintro n _ ⟨i, hi, rfl⟩ P hI hX hR
      rw [List.length_map] at hl_2
      by_cases hlt : (i : Int) < Wr.length
      · have hlt' : i < Wr.length := by omega
        have hw := wrap_id (n := (i : Int) + 1) (by omega) (by omega)
        have e1 := hQ.idx .i64 (n := i) (by omega) (by rw [List.length_map]; omega)
        rw [show (i : Int).toNat = i from rfl] at e1
        have hg : (Wr.map rowW)[i]? = some (rowW Wr[i]) := by rw [List.getElem?_map, List.getElem?_eq_getElem hlt']; rfl
        have e2 := hT_2.rd hg false (k := 1) (f := 0) (by omega) (by omega) (fun _ => rfl)
        simp only [rowW, Nat.add_zero] at e2
        rw [show rd false 1 0 [AV.str Wr[i].1, .int .i64 Wr[i].2] = some (.str Wr[i].1) from rfl] at e2
        by_cases h20 : (i : Int) = 60
        · simp -implicitDefEqProofs [-Go.Wam.rd, B30_2, r52, hl_2, hlt, n1_2, n4_2, e1, e2, eq_true h20]
          exact hR _ ⟨rfl, .inr ⟨rfl, by simp⟩⟩
        · have hi' : 0 < n := by omega
          by_cases h4 : (Wr[i].1.length : Int) > 600
          · simp -implicitDefEqProofs [-Go.Wam.rd, B30_2, r52, hl_2, hlt, n1_2, n4_2, e1, e2, h20, h4]
            exact hR _ ⟨rfl, .inr ⟨rfl, by simp⟩⟩
          · simp -implicitDefEqProofs [-Go.Wam.rd, B30_2, r52, hl_2, hlt, n1_2, n4_2, e1, e2, h20, h4, hw]
            exact hI _ _ _ (n - 1) (by omega) ⟨i + 1, by omega, by simp⟩
      · simp -implicitDefEqProofs [-Go.Wam.rd, B30_2, r52, hl_2, hlt, n1_2, n4_2]
        exact hX _ _ ⟨rfl, .inl ⟨rfl, by simp⟩⟩)
    60 ⟨[(1, .l 1 0), (3, .v (.int .i64 z)), (6, .v (.int .i64 0))], [(1, L)], H.top⟩ rfl ⟨0, by omega, by simp⟩
  rw [q0_2] at hH2
  simp only [toSt_eq, List.map_cons, List.map_nil, av_v, av_l, Int.natCast_zero] at f2
  rcases q1_2 with ⟨rfl, hk2⟩ | ⟨rfl, hk2⟩
  case inr =>
    have hk2 := hr2 _ _ hk2
    exact go (b := false) (by simp -implicitDefEqProofs [-Go.Wam.rd, F30, r10, hdl, hd, m4, f0, hk0, f1, hk1, f2, hk2, hH2, fin_pure])
  have hk2 := (hp2 [1, 3] [1]).trans (congrArg SK.norm hk2)
  obtain ⟨b, e1⟩ := fFits (H := H.top) c0 c1 c2 c3 c4 c5 c7 c8 c9 c14 c15 c16 c17 c21 s6 s10 s11 s12 b13 b18 b19 hW.top
  cases b with
  | false => exact go (b := false) (by simp -implicitDefEqProofs [-Go.Wam.rd, F30, r10, hdl, hd, m4, f0, hk0, f1, hk1, f2, hk2, rc, e1, fin_pure])
  | true =>
    by_cases h1 : z ≤ 600
    case neg => exact go (b := false) (by simp -implicitDefEqProofs [-Go.Wam.rd, F30, r10, hdl, hd, m4, f0, hk0, f1, hk1, f2, hk2, rc, e1, h1, fin_pure])
    by_cases h2 : (an.length : Int) ≤ 600
    case neg => exact go (b := false) (by simp -implicitDefEqProofs [-Go.Wam.rd, F30, r10, hdl, hd, m4, f0, hk0, f1, hk1, f2, hk2, rc, e1, h1, r42, h2, fin_pure])
    exact go (b := true) (by simp -implicitDefEqProofs [-Go.Wam.rd, F30, r10, hdl, hd, m4, f0, hk0, f1, hk1, f2, hk2, rc, e1, h1, r42, h2, fin_pure])
end

theorem isNilF_nil : isNilF [] = true := rfl
attribute [local simp] isNilF_nil
section
variable (H : AHeap)
theorem uBegin : call T 32 [.nilp] H = some (.tuple [.int .i64 0, .int .i64 1], H) := by
  refine okR_eq (call_evK' (show T 32 = some (.ir ⟨_, _, _, _, _⟩) from T32) (by decide) rfl rfl ?_)
  simp -implicitDefEqProofs [fin_pure]
theorem uAnswer : call T 33 [.nilp, .int .i64 1] H = some (.tuple [.agg [.int .i64 0, .int .i64 0, .int .i64 0, .nils], .bool false], H) := by
  refine okR_eq (call_evK' (show T 33 = some (.ir ⟨_, _, _, _, _⟩) from T33) (by decide) rfl rfl ?_)
  simp -implicitDefEqProofs [fin_pure]
theorem uTxn : call T 34 [.nilp, .int .i64 1] H = some (.tuple [.int .i64 0, .agg [.int .i64 0, .int .i64 0], .bool false], H) := by
  refine okR_eq (call_evK' (show T 34 = some (.ir ⟨_, _, _, _, _⟩) from T34) (by decide) rfl rfl ?_)
  simp -implicitDefEqProofs [fin_pure]
theorem uOpen : call T 35 [.int .i64 0, .nilp, .nils] H = some (.tuple [.nilp, .int .i64 1], H) := by
  refine okR_eq (call_evK' (show T 35 = some (.ir ⟨_, _, _, _, _⟩) from T35) (by decide) rfl rfl ?_)
  simp -implicitDefEqProofs [fin_pure]
theorem uStep (Q : List AV) : call T 36 [.nilp, .agg Q] H = some (.int .i64 1, H) := by
  refine okR_eq (call_evK' (show T 36 = some (.ir ⟨_, _, _, _, _⟩) from T36) (by decide) rfl rfl ?_)
  simp -implicitDefEqProofs [fin_pure]
theorem uTick : call T 37 [.nilp] H = some (.int .i64 1, H) := by
  refine okR_eq (call_evK' (show T 37 = some (.ir ⟨_, _, _, _, _⟩) from T37) (by decide) rfl rfl ?_)
  simp -implicitDefEqProofs [fin_pure]
theorem uSet : call T 38 [.nilp, .int .i64 1] H = some (.int .i64 1, H) := by
  refine okR_eq (call_evK' (show T 38 = some (.ir ⟨_, _, _, _, _⟩) from T38) (by decide) rfl rfl ?_)
  simp -implicitDefEqProofs [fin_pure]
theorem uElect : call T 39 [.nilp, .int .i64 0] H = some (.int .i64 1, H) := by
  refine okR_eq (call_evK' (show T 39 = some (.ir ⟨_, _, _, _, _⟩) from T39) (by decide) rfl rfl ?_)
  simp -implicitDefEqProofs [fin_pure]
theorem uDo : call T 40 [.nilp, .int .i64 1, .agg [.int .i64 0, .str [], .str [], .str []]] H = some (.int .i64 1, H) := by
  refine okR_eq (call_evK' (show T 40 = some (.ir ⟨_, _, _, _, _⟩) from T40) (by decide) rfl rfl ?_)
  simp -implicitDefEqProofs [fin_pure]
theorem uOut : call T 41 [.nilp] H = some (.nils, H) := by
  refine okR_eq (call_evK' (show T 41 = some (.ir ⟨_, _, _, _, _⟩) from T41) (by decide) rfl rfl ?_)
  simp -implicitDefEqProofs [fin_pure]
theorem uHas : call T 90 [.nilp, .int .i64 0] H = some (.bool false, H) := by
  refine okR_eq (call_evK' (show T 90 = some (.ir ⟨_, _, _, _, _⟩) from T90) (by decide) rfl rfl ?_)
  simp -implicitDefEqProofs [fin_pure]
theorem uHolds : call T 42 [.nilp, .int .i64 0] H = some (.bool false, H) := by
  refine okR_eq (call_evK' (show T 42 = some (.ir ⟨_, _, _, _, _⟩) from T42) (by decide) rfl rfl ?_)
  simp -implicitDefEqProofs [uHas, fin_pure]
theorem uState : call T 43 [.nilp, .int .i64 0] H = some (.nilp, H) := by
  refine okR_eq (call_evK' (show T 43 = some (.ir ⟨_, _, _, _, _⟩) from T43) (by decide) rfl rfl ?_)
  simp -implicitDefEqProofs [uHas, fin_pure]
theorem uIdle : call T 44 [.nilp] H = some (.bool false, H) := by
  refine okR_eq (call_evK' (show T 44 = some (.ir ⟨_, _, _, _, _⟩) from T44) (by decide) rfl rfl ?_)
  simp -implicitDefEqProofs [fin_pure]
end
section
variable {H : AHeap} {v d p q w : AV} {W Wr : List (List UInt8 × Int)} {L : List AV} {nd : Int} {an : List UInt8} {E : List (Int × AV × Int)} {Pr : List (List UInt8 × List UInt8)}
variable (c0 c1 c2 c3 c4 c5 c7 c8 c9 c14 c15 c16 c17 c21 : Int) (s6 s10 s11 s12 : List UInt8) (b13 b18 b19 : Bool)
theorem lawS (hV : View H 2 v (E.map rowE)) (hE : ∀ x ∈ E, x.2.1.noL = true ∧ lenS x.2.1 = some (.int .i64 x.2.2)) (hW : View H 2 w (W.map rowW)) (hP : View H 2 p (Pr.map rowP)) (hQ : View H 2 q (Wr.map rowW)) (r9 : rd false 1 9 L = some v) (r10 : rd false 1 10 L = some d) (hd : d.noL = true) (hdl : lenS d = some (.int .i64 nd)) (rc : rd true 22 13 L = some (.agg (cmd c0 c1 c2 c3 c4 c5 c7 c8 c9 c14 c15 c16 c17 c21 s6 s10 s11 s12 b13 b18 b19 w)))
    (r38 : rd false 1 38 L = some p) (r42 : rd false 1 42 L = some (.str an)) (r52 : rd false 1 52 L = some q) (ra : rd true 53 0 L = some (.agg L)) : call T 5 [.agg L] H = some (.bool true, H) := by
  obtain ⟨b, e1⟩ := fMsg (H := H.top) c0 c1 c2 c3 c4 c5 c7 c8 c9 c14 c15 c16 c17 c21 s6 s10 s11 s12 b13 b18 b19 hV.top hE hW.top hP.top hQ.top r9 r10 hd hdl rc r38 r42 r52
  have a1 := alive H.top
  have u1 := uBegin H.top
  have u2 := uAnswer H.top
  have u3 := uTxn H.top
  have u4 := uOpen H.top
  have u5 := uStep H.top
  have u6 := uTick H.top
  have u7 := uSet H.top
  have u8 := uElect H.top
  have u9 := uDo H.top
  have u10 := uOut H.top
  have u11 := uHolds H.top
  have u12 := uState H.top
  have u13 := uIdle H.top
  refine okR_eq (call_evK' (show T 5 = some (.ir ⟨_, _, _, _, _⟩) from T5) (by decide) rfl rfl ?_)
  cases b
  · simp -implicitDefEqProofs [-Go.Wam.rd, e1, a1, u1, u2, u3, u4, u5, u6, u7, u8, u9, u10, u11, u12, u13, ra, fin_pure]
  · simp -implicitDefEqProofs [-Go.Wam.rd, e1, a1, u1, u2, u3, u4, u5, u6, u7, u8, u9, u10, u11, u12, u13, ra, fin_pure]
end
abbrev shI : Sh := .int .i64
abbrev shU : Sh := .int .u8
abbrev shW : Sh := .pair .str (.pair shI .unit)
abbrev shP : Sh := .pair .str (.pair .str .unit)
abbrev shE : Sh := .pair shI (.pair (.slice 1 1 shU) .unit)
abbrev shCmd : Sh := (.pair shI (.pair shI (.pair shI (.pair shI (.pair (.pair shI (.pair shI (.pair .str (.pair (.pair shI (.pair shI .unit)) .unit)))) (.pair shI (.pair (.pair .str (.pair .str .unit)) (.pair .str (.pair .bool (.pair (.pair shI (.pair shI .unit)) (.pair (.pair shI (.pair shI .unit)) (.pair .bool (.pair .bool (.pair (.slice 2 24 shW) (.pair shI .unit)))))))))))))))
abbrev shMsg : Sh := (.pair shI (.pair shI (.pair shI (.pair shI (.pair shI (.pair shI (.pair shI (.pair shI (.pair .bool (.pair (.slice 2 32 shE) (.pair (.slice 1 1 shU) (.pair (.pair shI (.pair shI .unit)) (.pair (.pair shI (.pair shI (.pair shI (.pair shI (.pair (.pair shI (.pair shI (.pair .str (.pair (.pair shI (.pair shI .unit)) .unit)))) (.pair shI (.pair (.pair .str (.pair .str .unit)) (.pair .str (.pair .bool (.pair (.pair shI (.pair shI .unit)) (.pair (.pair shI (.pair shI .unit)) (.pair .bool (.pair .bool (.pair (.slice 2 24 shW) (.pair shI .unit))))))))))))))) (.pair (.pair shI (.pair (.pair shI (.pair shI .unit)) (.pair (.slice 2 32 shP) (.pair .bool (.pair (.pair shI (.pair shI (.pair .str (.pair (.pair shI (.pair shI .unit)) .unit)))) (.pair (.pair shI (.pair shI (.pair shI (.pair (.pair shI (.pair shI .unit)) (.pair (.pair shI (.pair shI .unit)) (.pair (.slice 2 24 shW) .unit)))))) .unit)))))) .unit))))))))))))))
theorem rows_w {H : AHeap} : ∀ {rows : List (List AV)}, (∀ r ∈ rows, IsC H shW r) → ∃ W : List (List UInt8 × Int), rows = W.map rowW
  | [], _ => ⟨[], rfl⟩
  | r :: rows, h => by
    obtain ⟨W, rfl⟩ := rows_w (rows := rows) fun r hr => h r (by simp [hr])
    obtain ⟨x, y, rfl, ⟨s, rfl, _⟩, z, u, rfl, ⟨n, rfl, _⟩, rfl⟩ := h r (by simp)
    exact ⟨(s, n) :: W, rfl⟩
theorem rows_e {H : AHeap} : ∀ {rows : List (List AV)}, (∀ r ∈ rows, IsC H shE r) → ∃ E : List (Int × AV × Int), rows = E.map rowE ∧ ∀ x ∈ E, x.2.1.noL = true ∧ lenS x.2.1 = some (.int .i64 x.2.2)
  | [], _ => ⟨[], rfl, fun x hx => by cases hx⟩
  | r :: rows, h => by
    obtain ⟨E, rfl, hE⟩ := rows_e (rows := rows) fun r hr => h r (by simp [hr])
    obtain ⟨x, y, rfl, ⟨n, rfl, _⟩, z, u, rfl, ⟨v, ro, rfl, hs, _, _, _⟩, rfl⟩ := h r (by simp)
    refine ⟨(n, v, (ro.length : Int)) :: E, rfl, fun e he => ?_⟩
    rcases List.mem_cons.1 he with rfl | he
    · exact ⟨hs.view.noL, hs.view.lenS⟩
    · exact hE e he
theorem rows_p {H : AHeap} : ∀ {rows : List (List AV)}, (∀ r ∈ rows, IsC H shP r) → ∃ W : List (List UInt8 × List UInt8), rows = W.map rowP
  | [], _ => ⟨[], rfl⟩
  | r :: rows, h => by
    obtain ⟨W, rfl⟩ := rows_p (rows := rows) fun r hr => h r (by simp [hr])
    obtain ⟨x, y, rfl, ⟨s, rfl, _⟩, z, u, rfl, ⟨n, rfl, _⟩, rfl⟩ := h r (by simp)
    exact ⟨(s, n) :: W, rfl⟩
theorem lawNil : Law T 5 [shMsg] := by
  intro H ls hw hl ha
  obtain ⟨L, rfl, hx⟩ := args1 ha
  have hL := isC_leaves hx
  have hn : L.length = 53 := hL.len
  obtain ⟨v, e9, ro9, q9, g9⟩ := hL.at (i := 9) (t := .slice 2 32 shE) (by kernel_rfl)
  obtain ⟨d, e10, ro10, q10, g10⟩ := hL.at (i := 10) (t := .slice 1 1 shU) (by kernel_rfl)
  obtain ⟨_, e13, c0, rfl⟩ := hL.at (i := 13) (t := .int .i64) (by kernel_rfl)
  obtain ⟨_, e14, c1, rfl⟩ := hL.at (i := 14) (t := .int .i64) (by kernel_rfl)
  obtain ⟨_, e15, c2, rfl⟩ := hL.at (i := 15) (t := .int .i64) (by kernel_rfl)
  obtain ⟨_, e16, c3, rfl⟩ := hL.at (i := 16) (t := .int .i64) (by kernel_rfl)
  obtain ⟨_, e17, c4, rfl⟩ := hL.at (i := 17) (t := .int .i64) (by kernel_rfl)
  obtain ⟨_, e18, c5, rfl⟩ := hL.at (i := 18) (t := .int .i64) (by kernel_rfl)
  obtain ⟨_, e19, s6, rfl⟩ := hL.at (i := 19) (t := .str) (by kernel_rfl)
  obtain ⟨_, e20, c7, rfl⟩ := hL.at (i := 20) (t := .int .i64) (by kernel_rfl)
  obtain ⟨_, e21, c8, rfl⟩ := hL.at (i := 21) (t := .int .i64) (by kernel_rfl)
  obtain ⟨_, e22, c9, rfl⟩ := hL.at (i := 22) (t := .int .i64) (by kernel_rfl)
  obtain ⟨_, e23, s10, rfl⟩ := hL.at (i := 23) (t := .str) (by kernel_rfl)
  obtain ⟨_, e24, s11, rfl⟩ := hL.at (i := 24) (t := .str) (by kernel_rfl)
  obtain ⟨_, e25, s12, rfl⟩ := hL.at (i := 25) (t := .str) (by kernel_rfl)
  obtain ⟨_, e26, b13, rfl⟩ := hL.at (i := 26) (t := .bool) (by kernel_rfl)
  obtain ⟨_, e27, c14, rfl⟩ := hL.at (i := 27) (t := .int .i64) (by kernel_rfl)
  obtain ⟨_, e28, c15, rfl⟩ := hL.at (i := 28) (t := .int .i64) (by kernel_rfl)
  obtain ⟨_, e29, c16, rfl⟩ := hL.at (i := 29) (t := .int .i64) (by kernel_rfl)
  obtain ⟨_, e30, c17, rfl⟩ := hL.at (i := 30) (t := .int .i64) (by kernel_rfl)
  obtain ⟨_, e31, b18, rfl⟩ := hL.at (i := 31) (t := .bool) (by kernel_rfl)
  obtain ⟨_, e32, b19, rfl⟩ := hL.at (i := 32) (t := .bool) (by kernel_rfl)
  obtain ⟨w, e33, ro33, q33, g33⟩ := hL.at (i := 33) (t := .slice 2 24 shW) (by kernel_rfl)
  obtain ⟨_, e34, c21, rfl⟩ := hL.at (i := 34) (t := .int .i64) (by kernel_rfl)
  obtain ⟨p, e38, ro38, q38, g38⟩ := hL.at (i := 38) (t := .slice 2 32 shP) (by kernel_rfl)
  obtain ⟨_, e42, an, rfl⟩ := hL.at (i := 42) (t := .str) (by kernel_rfl)
  obtain ⟨q, e52, ro52, q52, g52⟩ := hL.at (i := 52) (t := .slice 2 24 shW) (by kernel_rfl)
  have rc : rd true 22 13 L = some (.agg (cmd c0 c1 c2 c3 c4 c5 c7 c8 c9 c14 c15 c16 c17 c21 s6 s10 s11 s12 b13 b18 b19 w)) := rdPart (by omega) rfl fun i hi => match i, hi with
      | 0, _ => e13
      | 1, _ => e14
      | 2, _ => e15
      | 3, _ => e16
      | 4, _ => e17
      | 5, _ => e18
      | 6, _ => e19
      | 7, _ => e20
      | 8, _ => e21
      | 9, _ => e22
      | 10, _ => e23
      | 11, _ => e24
      | 12, _ => e25
      | 13, _ => e26
      | 14, _ => e27
      | 15, _ => e28
      | 16, _ => e29
      | 17, _ => e30
      | 18, _ => e31
      | 19, _ => e32
      | 20, _ => e33
      | 21, _ => e34
      | n + 22, h => absurd h (by omega)
  obtain ⟨E, rfl, hE⟩ := rows_e g9
  obtain ⟨W, rfl⟩ := rows_w g33
  obtain ⟨Pr, rfl⟩ := rows_p g38
  obtain ⟨Wr, rfl⟩ := rows_w g52
  exact ⟨H, lawS c0 c1 c2 c3 c4 c5 c7 c8 c9 c14 c15 c16 c17 c21 s6 s10 s11 s12 b13 b18 b19 q9.view hE q33.view q38.view q52.view (rdCell e9) (rdCell e10) q10.view.noL q10.view.lenS rc (rdCell e38) (rdCell e42) (rdCell e52) (rdAll hn)⟩
end Go.Proofs.YtpdmmpajjdaebaaGreat
