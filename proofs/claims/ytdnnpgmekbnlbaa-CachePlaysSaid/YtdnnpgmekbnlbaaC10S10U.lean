/- CachePlays. No condition. -/
import Derived.Test.YtdnnpgmekbnlbaaC10S10T
set_option linter.unusedVariables false
set_option linter.unusedSimpArgs false
namespace Go.Proofs.Ytdnnpgmekbnlbaa
open Go.Wam

attribute [local simp] den_seq den_region den_regionD0 den_regionD1 den_condB condB_bool den_block den_keep den_ret den_skip den_exit sops_cons sops_nil sopsR_cons sopsR_nil goR_eq readOk trace_cons trace_nil Opd.ev evs Go.Wam.look St.put enterA zipI leaveR_ret leaveR_normal rvs RV.ev
  st_guard guardB_bool st_move st_pick pickB_bool st_allocL st_alloc st_boxL st_box st_build st_buildSlice st_load st_store st_nilCheck nilC st_bin st_un st_convI convI st_convS convS st_convB convB st_mkIface st_mkFunc st_mkMap st_mkSlice mkSl st_slice st_fieldAddr fldA st_field fldV st_idx idxS_slice idxS_oslice st_idxArr idxArr st_idxStr idxStr st_idxAgg idxAgg st_extract extA st_call callA_func st_len st_lenStr lenStr st_lenArr st_lenMap st_append st_clear clearV st_maxs st_mins
  load_ptr load_lptr storeA rd wr goOn_normal goOn_exit goOn_ret outBlock_normal outBlock_exit outBlock_ret prune freeL_nil freeL_cons frV_lptr frV_tuple frV_noL fillA allNoL packA unA checkAt ev_load wantedA beq_same beqL_same AV.beq AV.beqL drawCond freshD readsOk isRead undefA optInt optIntO
  strOp aeqF_nil aeqF_cons andA_some i_add i_sub i_mul i_lss i_leq i_gtr i_geq i_quo i_rem i_eql i_neq s_eql s_neq s_lss
  s_leq s_gtr s_geq s_add e_bool n_bool e_nilp n_nilp e_ptr n_ptr e_lptr n_lptr e_agg n_agg
  e_nils n_nils e_slice n_slice e_oslice n_oslice e_eslice n_eslice e_xslice n_xslice e_nilm n_nilm e_map n_map
  e_nilFunc n_nilFunc e_func n_func q_int q_bool q_str q_struct q_ptr0 q_ptrL0 q_ptrR0 q_ptrL1 q_ptrR1 q_slice0
  q_sliceL0 q_sliceR0 q_sliceL1 q_sliceR1 q_sliceL2 q_sliceR2 q_sliceL3 q_sliceR3 q_map0 q_mapL0 q_mapR0 q_func0 q_funcL0 q_funcR0
  okR_some guardB_tuple get_alloc_eq rdAt_alloc_eq set_alloc_eq set_alloc_ne get_alloc_ne rdAt_alloc_ne
section
variable {H K : AHeap} {c m i : Nat} {lo : Stp} {L : List Sn} {v w sv : AV} {f t : List UInt8} {a : Stp} {ps : List Act}
theorem CRep.add' (hok : K.ok) (h : CRep K c lo L v) (hf : Small f) (ht : Small t) (hl : L.length ≤ 16) :
    ∃ K' v', call T 25 [.ptr c 0, .agg [.str f, .str t], .agg [.int .i64 a.1, .int .i64 a.2]] K = some (.int .i64 (addE f t a), K') ∧ CRep K' c (addS lo L f t a).1 (addS lo L f t a).2 v' ∧ Chg (c :: sown v) K K' ∧ (∀ j ∈ sown v', j ∈ sown v ∨ K.n ≤ j) := by
  cases hw : addW lo f t a with
  | true => rw [addW_E hw]; exact h.add_yes' hok hf ht hw hl
  | false =>
    unfold addS
    rw [hw]
    exact ⟨K, v, h.add_no' hf ht hw, h, .refl _ _, fun j hj => .inl hj⟩
structure PInv (H K : AHeap) (c m : Nat) (lo : Stp) (L : List Sn) (v w : AV) : Prop where
  rep1 : CRep K c lo L v
  rep2 : CRep K m lo L w
  ok : K.ok
  chg : Chg [] H K
  hc : H.n ≤ c
  hm : H.n ≤ m
  hv : ∀ j ∈ sown v, H.n ≤ j ∧ j ≠ m
  hw : ∀ j ∈ sown w, H.n ≤ j ∧ j ≠ c
  ap : ∀ j ∈ sown v, j ∉ sown w
  cm : c ≠ m
  len : L.length ≤ 16
theorem PInv.mid (V : PInv H K c m lo L v w) {K1 : AHeap} (c1 : Chg (c :: sown v) K K1) : CRep K1 m lo L w :=
  V.rep2.chg V.ok.1 c1 (fun hj => by
    rcases List.mem_cons.1 hj with e | hj
    · exact V.cm e.symm
    · exact (V.hv m hj).2 rfl) (fun j hj hj2 => by
    rcases List.mem_cons.1 hj2 with e | hj2
    · exact (V.hw j hj).2 e
    · exact V.ap j hj2 hj)
theorem PInv.step (hok : H.ok) (V : PInv H K c m lo L v w) {K1 K2 : AHeap} {lo1 : Stp} {L1 : List Sn} {v1 w1 : AV} (r1 : CRep K1 c lo1 L1 v1) (c1 : Chg (c :: sown v) K K1) (n1 : ∀ j ∈ sown v1, j ∈ sown v ∨ K.n ≤ j)
    (r2 : CRep K2 m lo1 L1 w1) (c2 : Chg (m :: sown w) K1 K2) (n2 : ∀ j ∈ sown w1, j ∈ sown w ∨ K1.n ≤ j) (hl : L1.length ≤ 16) : PInv H K2 c m lo1 L1 v1 w1 := by
  have ok1 := c1.ok V.ok
  have hC1 : Chg [] H K1 := V.chg.trans hok c1 (fun j hj => by
    rcases List.mem_cons.1 hj with rfl | hj
    · exact .inr V.hc
    · exact .inr (V.hv j hj).1)
  have hwl := V.rep2.own.lt V.ok.1
  have hml := V.rep2.clt
  have hcl := V.rep1.clt
  have hle := V.chg.le
  have hle1 := c1.le
  have hv1 : ∀ j ∈ sown v1, H.n ≤ j ∧ j ≠ m ∧ j ∉ sown w := fun j hj => by
    rcases n1 j hj with e | e
    · exact ⟨(V.hv j e).1, (V.hv j e).2, V.ap j e⟩
    · exact ⟨by omega, by omega, fun h => by have := hwl j h; omega⟩
  have hvl := r1.own.lt ok1.1
  refine ⟨r1.chg ok1.1 c2 (fun hj => ?_) (fun j hj hj2 => ?_), r2, c2.ok ok1, hC1.trans hok c2 (fun j hj => ?_), V.hc, V.hm, fun j hj => ⟨(hv1 j hj).1, (hv1 j hj).2.1⟩, fun j hj => ?_, fun j hj hj2 => ?_, V.cm, hl⟩
  · rcases List.mem_cons.1 hj with e | hj
    · exact V.cm e
    · exact (V.hw c hj).2 rfl
  · rcases List.mem_cons.1 hj2 with e | hj2
    · exact (hv1 j hj).2.1 e
    · exact (hv1 j hj).2.2 hj2
  · rcases List.mem_cons.1 hj with rfl | hj
    · exact .inr V.hm
    · exact .inr (V.hw j hj).1
  · rcases n2 j hj with e | e
    · exact V.hw j e
    · exact ⟨by omega, by have := r1.clt; omega⟩
  · rcases n2 j hj2 with e | e
    · exact (hv1 j hj).2.2 e
    · have := hvl j hj; omega
set_option maxHeartbeats 8000000 in
theorem play_acts (hok : H.ok) (hV : View H 5 sv (ps.map rowAct)) (hps : ∀ p ∈ ps, Small p.f ∧ Small p.t) (V : PInv H K c m lo L v w) :
    ∃ z s', den T (.loop L5_0) ⟨[(1, sv), (5, .ptr c 0), (6, .ptr m 0), (7, .int .i64 0)], [], K⟩ = some (z, s') ∧ z = .exit 0 ∧ s'.H.ok := by
  refine loop_inv (I := fun q st => ∃ (i : Nat) (K : AHeap) (lo : Stp) (L : List Sn) (v w : AV), i + q = 100 ∧ st = ⟨[(1, sv), (5, .ptr c 0), (6, .ptr m 0), (7, .int .i64 i)], [], K⟩ ∧ PInv H K c m lo L v w) _ ?_ 100 _ ⟨0, K, lo, L, v, w, by omega, by simp [prS], V⟩
  clear V
  rintro q _ ⟨i, K, lo, L, v, w, hi, rfl, V⟩ P hI hX hR
  have hVK := hV.new hok.1 V.chg
  have e0 := hVK.lenS
  rw [List.length_map] at e0
  have hvn := hVK.noL
  have hokK := V.ok
  by_cases hlt : i < ps.length
  · by_cases h100 : i < 100
    · have h100' : (i : Int) < 100 := by omega
      have hw := wrap_id (n := (i : Int) + 1) (by omega) (by omega)
      obtain ⟨p, hp⟩ : ∃ p, p = ps[i] := ⟨_, rfl⟩
      have e1 := hVK.idx .i64 (n := i) (by omega) (by rw [List.length_map]; omega)
      have e2 := hVK.rd (i := i) (r := rowAct p) (by rw [List.getElem?_map, List.getElem?_eq_getElem hlt, hp]; rfl) true (k := 5) (f := 0) (by omega) (by omega) (by simp)
      rw [show rd true 5 0 (rowAct p) = some (.agg [.int .i64 p.k, .str p.f, .str p.t, .int .i64 p.a.1, .int .i64 p.a.2]) from rfl] at e2
      simp only [Int.toNat_natCast, Nat.add_zero] at e1 e2
      have e3 := sFits p.f p.t K
      obtain ⟨sf, st⟩ := hps p (by rw [hp]; exact List.getElem_mem hlt)
      have sm1 : Small [97] := alive_small (by simp)
      have sm2 : Small [123] := alive_small (by simp)
      have tail : ∀ {K' : AHeap} {lo' : Stp} {L' : List Sn} {v' w' : AV}, PInv H K' c m lo' L' v' w' → _ := fun {K'} {lo'} {L'} {v'} {w'} (V' : PInv H K' c m lo' L' v' w') =>
        And.intro (cLow V'.rep1) (And.intro (cLen V'.rep1) (And.intro (cMost V'.rep1 sf st (by have := V'.len; omega)) (And.intro (rMost V'.rep2 sf st (by have := V'.len; omega)) (And.intro (cMost V'.rep1 sm1 sm2 (by have := V'.len; omega)) (And.intro (rMost V'.rep2 sm1 sm2 (by have := V'.len; omega)) (And.intro (rdAt_row V'.rep2.obj) (And.intro V'.rep2.own.view.lenS (And.intro V'.rep2.vok V'.rep2.own.view.noL))))))))
      have next : ∀ {K' : AHeap} {lo' : Stp} {L' : List Sn} {v' w' : AV} (e : List (Nat × AV)) (l2 : List (Nat × List AV)), PInv H K' c m lo' L' v' w' → prune [1, 5, 6, 7] e = [(1, sv), (5, .ptr c 0), (6, .ptr m 0), (7, .int .i64 ((i : Int) + 1))] → P (.normal, ⟨e, l2, K'⟩) := fun {K'} {lo'} {L'} {v'} {w'} e l2 V' g7 => by
        refine hI _ _ _ (q - 1) (by omega) ⟨i + 1, K', lo', L', v', w', by omega, ?_, V'⟩
        rw [g7]; simp
      clear hI
      by_cases hfit : fitB p.f p.t = true
      · rw [hfit] at e3
        by_cases k1 : p.k = 1
        · rw [k1] at e2
          obtain ⟨K1, v1, e4, r1, c1, n1⟩ := V.rep1.add (a := p.a) V.ok sf st V.len
          obtain ⟨K2, w1, e5, r2, c2, n2⟩ := (V.mid c1).add' (a := p.a) (c1.ok V.ok) sf st V.len
          have V2 := V.step hok r1 c1 n1 r2 c2 n2 (addS_len V.len)
          obtain ⟨t1, t2, t3, t4, t5, t6, t7, t8, t9, t10⟩ := tail V2
          rw [List.length_map] at t8
          generalize addE p.f p.t p.a = ee at *
          generalize mostR (addS lo L p.f p.t p.a).1 (addS lo L p.f p.t p.a).2 p.f p.t = x1 at *
          generalize mostR (addS lo L p.f p.t p.a).1 (addS lo L p.f p.t p.a).2 [97] [123] = x2 at *
          simp (maxSteps := 4000000) -implicitDefEqProofs [e0, hlt, h100, h100', e1, e2, e3, e4, e5, hvn, t1, t2, t3, t4, t5, t6, t7, t8, t9, t10, hw]
          refine next _ _ V2 ?_
          simp
        · by_cases k2 : p.k = 2
          · rw [k2] at e2
            obtain ⟨K1, v1, e4, r1, c1, n1⟩ := V.rep1.raise (a := p.a) V.ok (by have := V.len; omega)
            obtain ⟨K2, w1, e5, r2, c2, n2⟩ := (V.mid c1).raise' (a := p.a) (c1.ok V.ok) (by have := V.len; omega)
            have V2 := V.step hok r1 c1 n1 r2 c2 n2 (by
              have := V.len
              unfold raiseS; split
              · exact Nat.le_trans (List.length_filter_le _ _) this
              · exact this)
            obtain ⟨t1, t2, t3, t4, t5, t6, t7, t8, t9, t10⟩ := tail V2
            rw [List.length_map] at t8
            generalize raiseE p.a = ee at *
            generalize mostR (raiseS lo L p.a).1 (raiseS lo L p.a).2 p.f p.t = x1 at *
            generalize mostR (raiseS lo L p.a).1 (raiseS lo L p.a).2 [97] [123] = x2 at *
            simp (maxSteps := 4000000) -implicitDefEqProofs [e0, hlt, h100, h100', e1, e2, e3, e4, e5, hvn, t1, t2, t3, t4, t5, t6, t7, t8, t9, t10, hw]
            refine next _ _ V2 ?_
            simp
          · obtain ⟨t1, t2, t3, t4, t5, t6, t7, t8, t9, t10⟩ := tail V
            rw [List.length_map] at t8
            generalize mostR lo L p.f p.t = x1 at *
            generalize mostR lo L [97] [123] = x2 at *
            simp (maxSteps := 4000000) -implicitDefEqProofs [e0, hlt, h100, h100', e1, e2, e3, k1, k2, hvn, t1, t2, t3, t4, t5, t6, t7, t8, t9, t10, hw]
            refine next _ _ V ?_
            simp
      · have hfit' : fitB p.f p.t = false := by simpa using hfit
        rw [hfit'] at e3
        simp (maxSteps := 4000000) -implicitDefEqProofs [e0, hlt, h100, h100', e1, e2, e3, hvn, hw]
        refine next _ _ V ?_
        simp
    · have h100' : ¬ (i : Int) < 100 := by omega
      simp (maxSteps := 4000000) -implicitDefEqProofs [e0, hlt, h100, h100', hvn]
      refine hX _ _ ?_
      exact ⟨rfl, hokK⟩
  · simp (maxSteps := 4000000) -implicitDefEqProofs [e0, hlt, hvn]
    refine hX _ _ ?_
    exact ⟨rfl, hokK⟩
theorem nPlays (hok : H.ok) (hV : View H 5 sv (ps.map rowAct)) (hps : ∀ p ∈ ps, Small p.f ∧ Small p.t) :
    OkR (call T 5 [.agg [.int .i64 lo.1, .int .i64 lo.2], sv] H) fun r => r.1 = .bool true := by
  rw [call_at (show T 5 = some (.ir ⟨_, _, _, _, _⟩) from T5)]
  have hokT := AHeap.ok.top hok.1
  obtain ⟨e2, r⟩ := cNew (K := H) (a := lo) hok
  have cA := Chg.alloc H.top (cObj lo .nils)
  have okA := cA.ok hokT
  have cB := Chg.alloc (H.top.alloc (cObj lo .nils)) (cObj lo .nils)
  have hvn := hV.noL
  have r2 : CRep ((H.top.alloc (cObj lo .nils)).alloc (cObj lo .nils)) (H.n + 1) lo [] .nils := ⟨get_alloc_same (H.top.alloc (cObj lo .nils)) _, .nil _ _, by simp, by simp, by simp, by simp⟩
  have V : PInv H.top ((H.top.alloc (cObj lo .nils)).alloc (cObj lo .nils)) H.n (H.n + 1) lo [] .nils .nils :=
    ⟨r.chg okA.1 cB (by simp) (fun _ _ => by simp), r2, cB.ok okA, cA.trans hokT cB (by simp), by simp, by simp, by simp, by simp, by simp, by omega, by simp⟩
  obtain ⟨z, ⟨e, l2, K3⟩, f1, rfl, ok3⟩ := play_acts hokT hV.top hps V
  have ea := cAlive ok3
  unfold cObj at *
  simp -implicitDefEqProofs [e2, hvn, f1, ea]
end
theorem lawPlays : Law T 5 [stSh, .slice 5 56 actSh] := by
  intro H ls hw hl ha
  obtain ⟨x, y, rfl, hx, ⟨v, rows, rfl, hv, hb, hm, hc⟩⟩ := args2 ha
  obtain ⟨lo, rfl⟩ := st_cells hx
  obtain ⟨ps, rfl, hps⟩ := acts_of hc
  exact law_of (nPlays ⟨hw, by omega⟩ hv.view hps)
end Go.Proofs.Ytdnnpgmekbnlbaa
