/- CacheExact. No condition. -/
import Derived.Test.YtdnnpgmekbnlbaaC10S10C
set_option linter.unusedVariables false
set_option linter.unusedSimpArgs false
namespace Go.Proofs.Ytdnnpgmekbnlbaa
open Go.Wam

attribute [local simp] den_seq den_region den_regionD0 den_regionD1 den_condB condB_bool den_block den_keep den_ret den_skip den_exit sops_cons sops_nil sopsR_cons sopsR_nil goR_eq readOk trace_cons trace_nil Opd.ev evs Go.Wam.look St.put enterA zipI leaveR_ret leaveR_normal rvs RV.ev
  st_guard guardB_bool st_move st_pick pickB_bool st_allocL st_alloc st_boxL st_box st_build st_buildSlice st_load st_store st_nilCheck nilC st_bin st_un st_convI convI st_convS convS st_convB convB st_mkIface st_mkFunc st_mkMap st_mkSlice mkSl st_slice st_fieldAddr fldA st_field fldV st_idx idxS_slice idxS_oslice st_idxArr idxArr st_idxStr idxStr st_idxAgg idxAgg st_extract extA st_call callA_func st_len st_lenStr lenStr st_lenArr st_lenMap st_append st_clear clearV st_maxs st_mins
  load_ptr load_lptr storeA rd wr goOn_normal goOn_exit goOn_ret outBlock_normal outBlock_exit outBlock_ret prune freeL_nil freeL_cons frV_lptr frV_tuple frV_noL fillA allNoL packA unA checkAt ev_load wantedA beq_same beqL_same AV.beq AV.beqL drawCond freshD readsOk isRead undefA optInt optIntO
  strOp aeqF_nil aeqF_cons andA_some i_add i_sub i_mul i_lss i_leq i_gtr i_geq i_quo i_rem i_eql i_neq s_eql s_neq s_lss
  s_leq s_gtr s_geq s_add e_bool n_bool e_nilp n_nilp e_ptr n_ptr e_lptr n_lptr e_agg n_agg
  e_nils n_nils e_slice n_slice e_oslice n_oslice e_eslice n_eslice e_xslice n_xslice e_nilm n_nilm e_map n_map
  e_nilFunc n_nilFunc e_func n_func q_int q_bool q_str q_struct q_ptr0 q_ptrL0 q_ptrR0 q_ptrL1 q_ptrR1 q_slice0
  q_sliceL0 q_sliceR0 q_sliceL1 q_sliceR1 q_sliceL2 q_sliceR2 q_sliceL3 q_sliceR3 q_map0 q_mapL0 q_mapR0 q_func0 q_funcL0 q_funcR0
  okR_some guardB_tuple get_alloc_eq rdAt_alloc_eq set_alloc_eq set_alloc_ne get_alloc_ne rdAt_alloc_ne
theorem ltS_max {a b lo : Stp} (h : ltS a lo = false) (h2 : ltS lo b = false) : maxS a b = a := by
  unfold maxS
  have : ltS a b = false := by
    unfold ltS at *
    simp only [Bool.or_eq_false_iff, Bool.and_eq_false_iff, decide_eq_false_iff_not] at *
    omega
  rw [this]; simp
theorem max_ge {a b lo : Stp} (h : ltS a lo = false) : ltS (maxS a b) lo = false := by
  unfold maxS
  cases hb : ltS a b with
  | false => simpa using h
  | true =>
    simp only [if_true]
    unfold ltS at *
    simp only [Bool.or_eq_false_iff, Bool.and_eq_false_iff, decide_eq_false_iff_not, Bool.or_eq_true, Bool.and_eq_true, decide_eq_true_eq] at *
    omega
theorem most_ge (lo : Stp) (L : List Sn) (f t : List UInt8) : ltS (mostF lo L f t) lo = false := by
  unfold mostF
  have key : ∀ (L : List Sn) (o : Stp), ltS o lo = false → ltS (L.foldl (fun out s => if meetB s.f s.t f t = true then maxS out s.a else out) o) lo = false := by
    intro L
    induction L with
    | nil => intro o h; exact h
    | cons s L ih =>
      intro o h
      refine ih _ ?_
      show ltS (if meetB s.f s.t f t = true then maxS o s.a else o) lo = false
      split
      · exact max_ge h
      · exact h
  exact key L lo (by unfold ltS; simp)
section
variable {H K : AHeap} {c : Nat} {lo : Stp} {L : List Sn} {v sv : AV} {ps : List Act} {f t : List UInt8}
theorem exact_loop (hok : H.ok) (hV : View H 5 sv (ps.map rowAct)) (hps : ∀ p ∈ ps, Small p.f ∧ Small p.t) (hl : ps.length ≤ 10000000000000) (hf : Small f) (ht : Small t) (hok0 : K.ok) (h : CRep K c lo [] .nils) (hch : Chg [] H K) (hc : H.n ≤ c) :
    ∃ z s', den T (.loop L3_0) ⟨[(1, sv), (3, .lptr 3 0), (5, .lptr 5 0), (8, .ptr c 0), (9, .lptr 9 0), (10, .int .i64 0), (11, .int .i64 0)], [(3, [.int .i64 lo.1, .int .i64 lo.2]), (5, [.str f, .str t]), (9, [.int .i64 lo.1, .int .i64 lo.2])], K⟩ = some (z, s') ∧
      z = .exit 0 ∧ ∃ L v, CRep s'.H c lo L v ∧ s'.H.ok ∧ L.length ≤ 1000000 ∧ Go.Wam.look 3 s'.env = some (.lptr 3 0) ∧ Go.Wam.look 5 s'.env = some (.lptr 5 0) ∧ Go.Wam.look 8 s'.env = some (.ptr c 0) ∧ Go.Wam.look 9 s'.env = some (.lptr 9 0) ∧
        Go.Wam.look 3 s'.loc = some [.int .i64 lo.1, .int .i64 lo.2] ∧ Go.Wam.look 5 s'.loc = some [.str f, .str t] ∧ Go.Wam.look 9 s'.loc = some [.int .i64 (mostF lo L f t).1, .int .i64 (mostF lo L f t).2] := by
  refine loop_inv (I := fun q st => ∃ (i n : Nat) (K : AHeap) (L : List Sn) (v : AV), i + q = ps.length ∧ n ≤ 16 ∧ L.length ≤ n ∧ st = ⟨[(1, sv), (3, .lptr 3 0), (5, .lptr 5 0), (8, .ptr c 0), (9, .lptr 9 0), (10, .int .i64 n), (11, .int .i64 i)], [(3, [.int .i64 lo.1, .int .i64 lo.2]), (5, [.str f, .str t]), (9, [.int .i64 (mostF lo L f t).1, .int .i64 (mostF lo L f t).2])], K⟩ ∧ CRep K c lo L v ∧ K.ok ∧ Chg [] H K ∧ (∀ j ∈ sown v, H.n ≤ j)) _ ?_ ps.length _ ⟨0, 0, K, [], .nils, by omega, by omega, by simp, by simp [prS, mostF], h, hok0, hch, by simp⟩
  clear h hok0 hch
  rintro q _ ⟨i, n, K, L, v, hi, hn, hLn, rfl, h, hokK, hC, hN⟩ P hI hX hR
  have hVK := hV.new hok.1 hC
  have e0 := hVK.lenS
  rw [List.length_map] at e0
  have hvn := hVK.noL
  by_cases hlt : i < ps.length
  · by_cases h16 : n < 16
    · have h16' : (n : Int) < 16 := by omega
      have hw := wrap_id (n := (i : Int) + 1) (by omega) (by omega)
      have hwn := wrap_id (n := (n : Int) + 1) (by omega) (by omega)
      obtain ⟨p, hp⟩ : ∃ p, p = ps[i] := ⟨_, rfl⟩
      have e1 := hVK.idx .i64 (n := i) (by omega) (by rw [List.length_map]; omega)
      have e2 := hVK.rd (i := i) (r := rowAct p) (by rw [List.getElem?_map, List.getElem?_eq_getElem hlt, hp]; rfl) true (k := 5) (f := 0) (by omega) (by omega) (by simp)
      rw [show rd true 5 0 (rowAct p) = some (.agg [.int .i64 p.k, .str p.f, .str p.t, .int .i64 p.a.1, .int .i64 p.a.2]) from rfl] at e2
      simp only [Int.toNat_natCast, Nat.add_zero] at e1 e2
      have e3 := sFits p.f p.t K
      obtain ⟨sf, st⟩ := hps p (by rw [hp]; exact List.getElem_mem hlt)
      by_cases hfit : fitB p.f p.t = true
      · rw [hfit] at e3
        have hge := most_ge lo L f t
        have next : ∀ (K' : AHeap) (L' : List Sn) (v' : AV) (n' : Nat) (e : List (Nat × AV)) (l2 : List (Nat × List AV)), n' ≤ 16 → L'.length ≤ n' → CRep K' c lo L' v' → K'.ok → Chg [] H K' → (∀ j ∈ sown v', H.n ≤ j) →
            prune [1, 3, 5, 8, 9, 10, 11] e = [(1, sv), (3, .lptr 3 0), (5, .lptr 5 0), (8, .ptr c 0), (9, .lptr 9 0), (10, .int .i64 n'), (11, .int .i64 ((i : Int) + 1))] → prune [3, 5, 9] l2 = [(3, [.int .i64 lo.1, .int .i64 lo.2]), (5, [.str f, .str t]), (9, [.int .i64 (mostF lo L' f t).1, .int .i64 (mostF lo L' f t).2])] → P (.normal, ⟨e, l2, K'⟩) := fun K' L' v' n' e l2 g1 g2 g3 g4 g5 g6 g7 g8 => by
          refine hI _ _ _ (q - 1) (by omega) ⟨i + 1, n', K', L', v', by omega, g1, g2, ?_, g3, g4, g5, g6⟩
          rw [g7, g8]; simp
        clear hI
        by_cases hadd : addW lo p.f p.t p.a = true
        · obtain ⟨K2, v2, e4, r2, c2, n2⟩ := h.add_room hokK sf st hadd (by omega)
          have e5 := rMeet sf st hf ht K2
          have e6 := tMax (mostF lo L f t) p.a K2
          have hsn := mostF_snoc lo L ⟨p.f, p.t, p.a⟩ f t
          simp only at hsn
          have ok2 := c2.ok hokK
          have hC2 : Chg [] H K2 := hC.trans hok c2 (fun j hj => by
            rcases List.mem_cons.1 hj with rfl | hj
            · exact .inr hc
            · exact .inr (hN j hj))
          have hN2 : ∀ j ∈ sown v2, H.n ≤ j := fun j hj => by
            rcases n2 j hj with e | e
            · exact hN j e
            · have := hC.le; omega
          have nx := next K2 (L ++ [⟨p.f, p.t, p.a⟩]) v2 (n + 1)
          generalize mostF lo L f t = out at *
          clear next
          cases hm : meetB p.f p.t f t with
          | true =>
            rw [hm] at e5
            rw [hm, if_pos rfl] at hsn
            rw [hsn] at nx
            simp -implicitDefEqProofs [e0, hlt, h16, h16', e1, e2, e3, e4, e5, e6, hvn, hw, hwn]
            refine nx _ _ (by omega) (by simp; omega) r2 ok2 hC2 hN2 ?_ ?_
            · simp
            · simp
          | false =>
            rw [hm] at e5
            rw [hm, if_neg (by simp)] at hsn
            rw [hsn] at nx
            simp -implicitDefEqProofs [e0, hlt, h16, h16', e1, e2, e3, e4, e5, hvn, hw, hwn]
            refine nx _ _ (by omega) (by simp; omega) r2 ok2 hC2 hN2 ?_ ?_
            · simp
            · simp
        · have hadd' : addW lo p.f p.t p.a = false := by simpa using hadd
          have e4 := h.add_no sf st hadd'
          by_cases h0 : addE p.f p.t p.a = 0
          · rw [h0] at e4
            have e5 := rMeet sf st hf ht K
            have hle : ltS lo p.a = false := by
              unfold addE at h0
              unfold addW at hadd'
              cases h1 : rightB p.f p.t <;> cases h2 : rightT p.a <;> simp [h1, h2] at h0 hadd'
              exact hadd'
            have e6 := tMax (mostF lo L f t) p.a K
            rw [ltS_max hge hle] at e6
            have nx := next K L v (n + 1)
            generalize mostF lo L f t = out at *
            clear next
            cases hm : meetB p.f p.t f t with
            | true =>
              rw [hm] at e5
              simp -implicitDefEqProofs [e0, hlt, h16, h16', e1, e2, e3, e4, e5, e6, hvn, hw, hwn]
              refine nx _ _ (by omega) (by omega) h hokK hC hN ?_ ?_
              · simp
              · simp
            | false =>
              rw [hm] at e5
              simp -implicitDefEqProofs [e0, hlt, h16, h16', e1, e2, e3, e4, e5, hvn, hw, hwn]
              refine nx _ _ (by omega) (by omega) h hokK hC hN ?_ ?_
              · simp
              · simp
          · generalize addE p.f p.t p.a = ee at *
            simp -implicitDefEqProofs [e0, hlt, h16, h16', e1, e2, e3, e4, h0, hvn, hw]
            refine next K L v n _ _ (by omega) (by omega) h hokK hC hN ?_ ?_
            · simp
            · simp
      · have hfit' : fitB p.f p.t = false := by simpa using hfit
        rw [hfit'] at e3
        simp -implicitDefEqProofs [e0, hlt, h16, h16', e1, e2, e3, hvn, hw]
        refine hI _ _ _ (q - 1) (by omega) ?_
        exact ⟨i + 1, n, K, L, v, by omega, hn, hLn, by simp, h, hokK, hC, hN⟩
    · have h16' : ¬ (n : Int) < 16 := by omega
      simp -implicitDefEqProofs [e0, hlt, h16, h16', hvn]
      refine hX _ _ ?_
      exact ⟨rfl, L, v, h, hokK, by omega, by simp, by simp, by simp, by simp, by simp, by simp, by simp⟩
  · simp -implicitDefEqProofs [e0, hlt, hvn]
    refine hX _ _ ?_
    exact ⟨rfl, L, v, h, hokK, by omega, by simp, by simp, by simp, by simp, by simp, by simp, by simp⟩

theorem nExact (hok : H.ok) (hV : View H 5 sv (ps.map rowAct)) (hps : ∀ p ∈ ps, Small p.f ∧ Small p.t) (hl : ps.length ≤ 10000000000000) (hf : Small f) (ht : Small t) :
    OkR (call T 3 [.agg [.int .i64 lo.1, .int .i64 lo.2], sv, .agg [.str f, .str t]] H) fun r => r.1 = .bool true := by
  rw [call_at (show T 3 = some (.ir ⟨_, _, _, _, _⟩) from T3)]
  have hokT := AHeap.ok.top hok.1
  have e1 := sFits f t H.top
  obtain ⟨e2, r⟩ := cNew (K := H) (a := lo) hok
  have cA := Chg.alloc H.top (cObj lo .nils)
  have okA := cA.ok hokT
  have e3 := rRight hf ht (H.top.alloc (cObj lo .nils))
  have hvn := hV.noL
  by_cases h1 : fitB f t = true
  · rw [h1] at e1
    cases hr : rightB f t with
    | true =>
      rw [hr] at e3
      obtain ⟨z, ⟨e, l2, K⟩, f1, rfl, L, v, hR, hokK, hL, g3, g5, g8, g9, q3, q5, q9⟩ := exact_loop (f := f) (t := t) hokT hV.top hps hl hf ht okA r cA (by simp)
      simp only at hR hokK g3 g5 g8 g9 q3 q5 q9
      have ea := cAlive hokK
      have e4 := cMost hR hf ht hL
      have e5 := cLow hR
      unfold mostR at e4
      rw [hr, if_pos rfl] at e4
      generalize mostF lo L f t = out at *
      simp -implicitDefEqProofs [e1, e2, e3, hvn, f1, g3, g5, g8, g9, q3, q5, q9, ea, e4, e5]
    | false =>
      rw [hr] at e3
      simp -implicitDefEqProofs [e1, e2, e3, hvn]
  · have h1' : fitB f t = false := by simpa using h1
    rw [h1'] at e1
    simp -implicitDefEqProofs [e1, e2, hvn]
end
theorem lawExact : Law T 3 [stSh, .slice 5 56 actSh, spSh] := by
  intro H ls hw hl ha
  obtain ⟨x, y, z, rfl, hx, ⟨v, rows, rfl, hv, hb, hm, hc⟩, hz⟩ := args3 ha
  obtain ⟨lo, rfl⟩ := st_cells hx
  obtain ⟨f, t, rfl, hf, ht⟩ := sp_cells hz
  obtain ⟨ps, rfl, hps⟩ := acts_of hc
  exact law_of (nExact ⟨hw, by omega⟩ hv.view hps (by rw [List.length_map] at hb; unfold reachBytes at hb; omega) hf ht)
end Go.Proofs.Ytdnnpgmekbnlbaa
