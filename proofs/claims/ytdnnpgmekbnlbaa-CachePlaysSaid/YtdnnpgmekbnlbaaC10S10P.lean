/- CacheMost. No condition. -/
import Derived.Test.YtdnnpgmekbnlbaaC10S10N
set_option linter.unusedVariables false
set_option linter.unusedSimpArgs false
namespace Go.Proofs.Ytdnnpgmekbnlbaa
open Go.Wam

attribute [local simp] den_seq den_region den_regionD0 den_regionD1 den_condB condB_bool den_block den_keep den_ret den_skip den_exit sops_cons sops_nil sopsR_cons sopsR_nil goR_eq readOk trace_cons trace_nil Opd.ev evs Go.Wam.look St.put enterA zipI leaveR_ret leaveR_normal rvs RV.ev
  st_guard guardB_bool st_move st_pick pickB_bool st_allocL st_alloc st_boxL st_box st_build st_buildSlice st_load st_store st_nilCheck nilC st_bin st_un st_convI convI st_convS convS st_convB convB st_mkIface st_mkFunc st_mkMap st_mkSlice mkSl st_slice st_fieldAddr fldA st_field fldV st_idx idxS_slice idxS_oslice st_idxArr idxArr st_idxStr idxStr st_idxAgg idxAgg st_extract extA st_call callA_func st_len st_lenStr lenStr st_lenArr st_lenMap st_append st_clear clearV st_maxs st_mins
  load_ptr load_lptr storeA rd wr goOn_normal goOn_exit goOn_ret outBlock_normal outBlock_exit outBlock_ret prune freeL_nil freeL_cons frV_lptr frV_tuple frV_noL fillA allNoL packA unA checkAt ev_load wantedA beq_same beqL_same AV.beq AV.beqL drawCond freshD readsOk isRead undefA optInt optIntO
  strOp aeqF_nil aeqF_cons andA_some i_add i_sub i_mul i_lss i_leq i_gtr i_geq i_quo i_rem i_eql i_neq s_eql s_neq s_lss
  s_leq s_gtr s_geq s_add e_bool n_bool e_nilp n_nilp e_ptr n_ptr e_lptr n_lptr e_agg n_agg
  e_nils n_nils e_slice n_slice e_oslice n_oslice e_eslice n_eslice e_xslice n_xslice e_nilm n_nilm e_map n_map
  e_nilFunc n_nilFunc e_func n_func q_int q_bool q_str q_struct q_ptr0 q_ptrL0 q_ptrR0 q_ptrL1 q_ptrR1 q_slice0
  q_sliceL0 q_sliceR0 q_sliceL1 q_sliceR1 q_sliceL2 q_sliceR2 q_sliceL3 q_sliceR3 q_map0 q_mapL0 q_mapR0 q_func0 q_funcL0 q_funcR0
  okR_some guardB_tuple get_alloc_eq rdAt_alloc_eq set_alloc_eq set_alloc_ne get_alloc_ne rdAt_alloc_ne
section
variable {H K : AHeap} {c i : Nat} {lo was least : Stp} {L : List Sn} {v sv av : AV} {f t : List UInt8} {a : Stp} {all : List Stp} {ps : List Act}
theorem MInv.tail (V : MInv H K c lo L v all av was least f t i) (hi : i ≤ 200) (hf : Small f) (ht : Small t) (hr : rightB f t = true) (j : Nat) :
    ∃ now : Stp, MInv H K c lo L v all av now least f t i ∧ call T 20 [.ptr c 0, .agg [.str f, .str t]] K = some (.agg [.int .i64 now.1, .int .i64 now.2], K) ∧
      call T 23 [.agg [.int .i64 now.1, .int .i64 now.2], .agg [.int .i64 least.1, .int .i64 least.2]] K = some (.bool false, K) ∧ call T 23 [.agg [.int .i64 now.1, .int .i64 now.2], .agg [.int .i64 was.1, .int .i64 was.2]] K = some (.bool false, K) ∧
      call T 24 [.ptr c 0] K = some (.int .i64 L.length, K) ∧ ¬ (16 : Int) < L.length ∧ ¬ 16 < L.length ∧
      ∃ z s', den T (.loop L4_0) ⟨[(1, sv), (5, .lptr 5 0), (8, .ptr c 0), (9, .lptr 9 0), (10, .lptr 10 0), (11, av), (12, .int .i64 j), (16, .lptr 16 0), (17, .bool false), (18, .int .i64 0)], [(5, [.str f, .str t]), (9, [.int .i64 was.1, .int .i64 was.2]), (10, [.int .i64 least.1, .int .i64 least.2]), (16, [.int .i64 now.1, .int .i64 now.2])], K⟩ = some (z, s') ∧
        z = .exit 2 ∧ s'.H = K ∧ Go.Wam.look 1 s'.env = some sv ∧ Go.Wam.look 5 s'.env = some (.lptr 5 0) ∧ Go.Wam.look 8 s'.env = some (.ptr c 0) ∧ Go.Wam.look 9 s'.env = some (.lptr 9 0) ∧ Go.Wam.look 10 s'.env = some (.lptr 10 0) ∧ Go.Wam.look 11 s'.env = some av ∧ Go.Wam.look 12 s'.env = some (.int .i64 j) ∧ Go.Wam.look 16 s'.env = some (.lptr 16 0) ∧ Go.Wam.look 17 s'.env = some (.bool true) ∧
        Go.Wam.look 5 s'.loc = some [.str f, .str t] ∧ Go.Wam.look 9 s'.loc = some [.int .i64 was.1, .int .i64 was.2] ∧ Go.Wam.look 10 s'.loc = some [.int .i64 least.1, .int .i64 least.2] ∧ Go.Wam.look 16 s'.loc = some [.int .i64 now.1, .int .i64 now.2] := by
  have hal := V.alen
  have hll := V.len
  have e1 := cMost V.rep hf ht (by omega)
  unfold mostR at e1
  rw [hr, if_pos rfl] at e1
  have e2 := tLess (mostF lo L f t) least K
  have e3 := tLess (mostF lo L f t) was K
  rw [V.leastle] at e2
  rw [V.wasle] at e3
  exact ⟨mostF lo L f t, { V with wasle := le_rf _ }, e1, e2, e3, cLen V.rep, by omega, by omega, known_loop (was := was) (least := least) V.own.view (by omega) V.known.most⟩

theorem most_acts (hok : H.ok) (hV : View H 5 sv (ps.map rowAct)) (hps : ∀ p ∈ ps, Small p.f ∧ Small p.t) (hf : Small f) (ht : Small t) (hr : rightB f t = true) (V : MInv H K c lo [] .nils all av was least f t 0) :
    ∃ z s', den T (.loop L4_1) ⟨[(1, sv), (5, .lptr 5 0), (8, .ptr c 0), (9, .lptr 9 0), (10, .lptr 10 0), (11, av), (12, .int .i64 0)], [(5, [.str f, .str t]), (9, [.int .i64 was.1, .int .i64 was.2]), (10, [.int .i64 least.1, .int .i64 least.2])], K⟩ = some (z, s') ∧ z = .exit 0 ∧ s'.H.ok := by
  refine loop_inv (I := fun q st => ∃ (i : Nat) (K : AHeap) (lo : Stp) (L : List Sn) (v : AV) (all : List Stp) (av : AV) (was least : Stp), i + q = 100 ∧ st = ⟨[(1, sv), (5, .lptr 5 0), (8, .ptr c 0), (9, .lptr 9 0), (10, .lptr 10 0), (11, av), (12, .int .i64 i)], [(5, [.str f, .str t]), (9, [.int .i64 was.1, .int .i64 was.2]), (10, [.int .i64 least.1, .int .i64 least.2])], K⟩ ∧ MInv H K c lo L v all av was least f t i) _ ?_ 100 _ ⟨0, K, lo, [], .nils, all, av, was, least, by omega, by simp [prS], V⟩
  clear V
  rintro q _ ⟨i, K, lo, L, v, all, av, was, least, hi, rfl, V⟩ P hI hX hR
  have hVK := hV.new hok.1 V.chg
  have e0 := hVK.lenS
  rw [List.length_map] at e0
  have hvn := hVK.noL
  have hokK := V.ok
  have han := V.own.view.noL
  by_cases hlt : i < ps.length
  · by_cases h100 : i < 100
    · have h100' : (i : Int) < 100 := by omega
      have hw := wrap_id (n := (i : Int) + 1) (by omega) (by omega)
      obtain ⟨p, hp⟩ : ∃ p, p = ps[i] := ⟨_, rfl⟩
      have e1 := hVK.idx .i64 (n := i) (by omega) (by rw [List.length_map]; omega)
      have e2 := hVK.rd (i := i) (r := rowAct p) (by rw [List.getElem?_map, List.getElem?_eq_getElem hlt, hp]; rfl) true (k := 5) (f := 0) (by omega) (by omega) (by simp)
      rw [show rd true 5 0 (rowAct p) = some (.agg [.int .i64 p.k, .str p.f, .str p.t, .int .i64 p.a.1, .int .i64 p.a.2]) from rfl] at e2
      simp only [Int.toNat_natCast, Nat.add_zero] at e1 e2
      have e3 := sFits p.f p.t K
      obtain ⟨sf, st⟩ := hps p (by rw [hp]; exact List.getElem_mem hlt)
      have next : ∀ {K' : AHeap} {lo' : Stp} {L' : List Sn} {v' : AV} {all' : List Stp} {av' : AV} {was' least' : Stp} (e : List (Nat × AV)) (l2 : List (Nat × List AV)), MInv H K' c lo' L' v' all' av' was' least' f t (i + 1) →
          prune [1, 5, 8, 9, 10, 11, 12] e = [(1, sv), (5, .lptr 5 0), (8, .ptr c 0), (9, .lptr 9 0), (10, .lptr 10 0), (11, av'), (12, .int .i64 ((i : Int) + 1))] → prune [5, 9, 10] l2 = [(5, [.str f, .str t]), (9, [.int .i64 was'.1, .int .i64 was'.2]), (10, [.int .i64 least'.1, .int .i64 least'.2])] → P (.normal, ⟨e, l2, K'⟩) := fun {K'} {lo'} {L'} {v'} {all'} {av'} {was'} {least'} e l2 V' g7 g8 => by
        refine hI _ _ _ (q - 1) (by omega) ⟨i + 1, K', lo', L', v', all', av', was', least', by omega, ?_, V'⟩
        rw [g7, g8]; simp
      clear hI
      by_cases hfit : fitB p.f p.t = true
      · rw [hfit] at e3
        by_cases k1 : p.k = 1
        · rw [k1] at e2
          obtain ⟨K1, v1, e4, r1, c1, n1⟩ := V.rep.add (a := p.a) V.ok sf st V.len
          obtain ⟨ho, hin⟩ := add_over (lo := lo) (L := L) (f := p.f) (t := p.t) (a := p.a)
          have hk := V.known.add (f := p.f) (t := p.t) (a := p.a)
          have hlen := addS_len (lo := lo) (f := p.f) (t := p.t) (a := p.a) V.len
          by_cases h0 : addE p.f p.t p.a = 0
          · rw [if_pos h0] at hk
            rw [h0] at e4
            have e5 := rMeet sf st hf ht K1
            cases hm : meetB p.f p.t f t with
            | true =>
              rw [hm] at e5
              have e6 := tMax least p.a K1
              have hle : ltS (mostF (addS lo L p.f p.t p.a).1 (addS lo L p.f p.t p.a).2 f t) (maxS least p.a) = false := by
                rcases max_in least p.a with e | e
                · rw [e]; exact le_tr V.leastle (over_most ho)
                · rw [e]
                  rcases hin h0 with h | h
                  · exact most_ub h hm
                  · exact le_tr h (most_ge _ _ f t)
              obtain ⟨av', K2, e7, w7, V2⟩ := V.step2 hok (by omega) r1 c1 n1 hlen ho hk hle
              obtain ⟨now, V3, g1, g2, g3, g4, g5, g6, z, ⟨e, l2, K3⟩, f1, rfl, hK3, q1, q5, q8, q9, q10, q11, q12, q16, q17, u5, u9, u10, u16⟩ := V2.tail (sv := sv) (by omega) hf ht hr i
              simp only at hK3 q1 q5 q8 q9 q10 q11 q12 q16 q17 u5 u9 u10 u16
              subst hK3
              simp -implicitDefEqProofs [e0, hlt, h100, h100', e1, e2, e3, e4, e5, e6, e7, w7, hvn, han, g1, g2, g3, g4, g5, g6, f1, q1, q5, q8, q9, q10, q11, q12, q16, q17, u5, u9, u10, u16, hw]
              refine next _ _ V3 ?_ ?_
              · simp [q1, q5, q8, q9, q10, q11]
              · simp [u5, u10]
            | false =>
              rw [hm] at e5
              obtain ⟨av', K2, e7, w7, V2⟩ := V.step2 hok (by omega) r1 c1 n1 hlen ho hk (le_tr V.leastle (over_most ho))
              obtain ⟨now, V3, g1, g2, g3, g4, g5, g6, z, ⟨e, l2, K3⟩, f1, rfl, hK3, q1, q5, q8, q9, q10, q11, q12, q16, q17, u5, u9, u10, u16⟩ := V2.tail (sv := sv) (by omega) hf ht hr i
              simp only at hK3 q1 q5 q8 q9 q10 q11 q12 q16 q17 u5 u9 u10 u16
              subst hK3
              simp -implicitDefEqProofs [e0, hlt, h100, h100', e1, e2, e3, e4, e5, e7, w7, hvn, han, g1, g2, g3, g4, g5, g6, f1, q1, q5, q8, q9, q10, q11, q12, q16, q17, u5, u9, u10, u16, hw]
              refine next _ _ V3 ?_ ?_
              · simp [q1, q5, q8, q9, q10, q11]
              · simp [u5, u10]
          · rw [if_neg h0] at hk
            have V2 := V.step hok r1 c1 n1 hlen ho hk (le_tr V.leastle (over_most ho))
            obtain ⟨now, V3, g1, g2, g3, g4, g5, g6, z, ⟨e, l2, K3⟩, f1, rfl, hK3, q1, q5, q8, q9, q10, q11, q12, q16, q17, u5, u9, u10, u16⟩ := V2.tail (sv := sv) (by omega) hf ht hr i
            simp only at hK3 q1 q5 q8 q9 q10 q11 q12 q16 q17 u5 u9 u10 u16
            subst hK3
            generalize addE p.f p.t p.a = ee at *
            simp -implicitDefEqProofs [e0, hlt, h100, h100', e1, e2, e3, e4, h0, hvn, han, g1, g2, g3, g4, g5, g6, f1, q1, q5, q8, q9, q10, q11, q12, q16, q17, u5, u9, u10, u16, hw]
            refine next _ _ V3 ?_ ?_
            · simp [q1, q5, q8, q9, q10, q11]
            · simp [u5, u10]
        · by_cases k2 : p.k = 2
          · rw [k2] at e2
            obtain ⟨K1, v1, e4, r1, c1, n1⟩ := V.rep.raise (a := p.a) V.ok (by have := V.len; omega)
            obtain ⟨ho, hin⟩ := raise_over (lo := lo) (L := L) (a := p.a)
            have hk := V.known.raise (a := p.a)
            have hlen : (raiseS lo L p.a).2.length ≤ 16 := by
              have := V.len
              unfold raiseS; split
              · exact Nat.le_trans (List.length_filter_le _ _) this
              · exact this
            by_cases h0 : raiseE p.a = 0
            · rw [if_pos h0] at hk
              rw [h0] at e4
              have e6 := tMax least p.a K1
              have hle : ltS (mostF (raiseS lo L p.a).1 (raiseS lo L p.a).2 f t) (maxS least p.a) = false := by
                rcases max_in least p.a with e | e
                · rw [e]; exact le_tr V.leastle (over_most ho)
                · rw [e]; exact le_tr (hin h0) (most_ge _ _ f t)
              obtain ⟨av', K2, e7, w7, V2⟩ := V.step2 hok (by omega) r1 c1 n1 hlen ho hk hle
              obtain ⟨now, V3, g1, g2, g3, g4, g5, g6, z, ⟨e, l2, K3⟩, f1, rfl, hK3, q1, q5, q8, q9, q10, q11, q12, q16, q17, u5, u9, u10, u16⟩ := V2.tail (sv := sv) (by omega) hf ht hr i
              simp only at hK3 q1 q5 q8 q9 q10 q11 q12 q16 q17 u5 u9 u10 u16
              subst hK3
              simp -implicitDefEqProofs [e0, hlt, h100, h100', e1, e2, e3, e4, e6, e7, w7, hvn, han, g1, g2, g3, g4, g5, g6, f1, q1, q5, q8, q9, q10, q11, q12, q16, q17, u5, u9, u10, u16, hw]
              refine next _ _ V3 ?_ ?_
              · simp [q1, q5, q8, q9, q10, q11]
              · simp [u5, u10]
            · rw [if_neg h0] at hk
              have V2 := V.step hok r1 c1 n1 hlen ho hk (le_tr V.leastle (over_most ho))
              obtain ⟨now, V3, g1, g2, g3, g4, g5, g6, z, ⟨e, l2, K3⟩, f1, rfl, hK3, q1, q5, q8, q9, q10, q11, q12, q16, q17, u5, u9, u10, u16⟩ := V2.tail (sv := sv) (by omega) hf ht hr i
              simp only at hK3 q1 q5 q8 q9 q10 q11 q12 q16 q17 u5 u9 u10 u16
              subst hK3
              generalize raiseE p.a = ee at *
              simp -implicitDefEqProofs [e0, hlt, h100, h100', e1, e2, e3, e4, h0, hvn, han, g1, g2, g3, g4, g5, g6, f1, q1, q5, q8, q9, q10, q11, q12, q16, q17, u5, u9, u10, u16, hw]
              refine next _ _ V3 ?_ ?_
              · simp [q1, q5, q8, q9, q10, q11]
              · simp [u5, u10]
          · have V2 : MInv H K c lo L v all av was least f t (i + 1) := { V with alen := by have := V.alen; omega }
            obtain ⟨now, V3, g1, g2, g3, g4, g5, g6, z, ⟨e, l2, K3⟩, f1, rfl, hK3, q1, q5, q8, q9, q10, q11, q12, q16, q17, u5, u9, u10, u16⟩ := V2.tail (sv := sv) (by omega) hf ht hr i
            simp only at hK3 q1 q5 q8 q9 q10 q11 q12 q16 q17 u5 u9 u10 u16
            subst hK3
            simp -implicitDefEqProofs [e0, hlt, h100, h100', e1, e2, e3, k1, k2, hvn, han, g1, g2, g3, g4, g5, g6, f1, q1, q5, q8, q9, q10, q11, q12, q16, q17, u5, u9, u10, u16, hw]
            refine next _ _ V3 ?_ ?_
            · simp [q1, q5, q8, q9, q10, q11]
            · simp [u5, u10]
      · have hfit' : fitB p.f p.t = false := by simpa using hfit
        rw [hfit'] at e3
        have V2 : MInv H K c lo L v all av was least f t (i + 1) := { V with alen := by have := V.alen; omega }
        simp -implicitDefEqProofs [e0, hlt, h100, h100', e1, e2, e3, hvn, han, hw]
        refine next _ _ V2 ?_ ?_
        · simp
        · simp
    · have h100' : ¬ (i : Int) < 100 := by omega
      simp -implicitDefEqProofs [e0, hlt, h100, h100', hvn, han]
      refine hX _ _ ?_
      exact ⟨rfl, hokK⟩
  · simp -implicitDefEqProofs [e0, hlt, hvn]
    refine hX _ _ ?_
    exact ⟨rfl, hokK⟩

theorem nMost (hok : H.ok) (hV : View H 5 sv (ps.map rowAct)) (hps : ∀ p ∈ ps, Small p.f ∧ Small p.t) (hf : Small f) (ht : Small t) :
    OkR (call T 4 [.agg [.int .i64 lo.1, .int .i64 lo.2], sv, .agg [.str f, .str t]] H) fun r => r.1 = .bool true := by
  rw [call_at (show T 4 = some (.ir ⟨_, _, _, _, _⟩) from T4)]
  have hokT := AHeap.ok.top hok.1
  have e1 := sFits f t H.top
  obtain ⟨e2, r⟩ := cNew (K := H) (a := lo) hok
  have cA := Chg.alloc H.top (cObj lo .nils)
  have okA := cA.ok hokT
  have e3 := rRight hf ht (H.top.alloc (cObj lo .nils))
  have hvn := hV.noL
  by_cases h1 : fitB f t = true
  · rw [h1] at e1
    cases hr : rightB f t with
    | true =>
      rw [hr] at e3
      have cT := Chg.alloc (H.top.alloc (cObj lo .nils)) (.row false 2 [.int .i64 lo.1, .int .i64 lo.2])
      have okT := cT.ok okA
      have htmp : View ((H.top.alloc (cObj lo .nils)).alloc (.row false 2 [.int .i64 lo.1, .int .i64 lo.2])) 2 (.slice (H.n + 1) 0 1 1) [rowSt lo] :=
        ⟨by simp [AV.sl], rfl, by simp [rowSt], fun _ => ⟨false, 2, _, get_alloc_same (H.top.alloc (cObj lo .nils)) _, by simp, by simp [rowSt]⟩⟩
      obtain ⟨av, K2, ha, hO2, c2, n2, _⟩ := (Own.nil ((H.top.alloc (cObj lo .nils)).alloc (.row false 2 [.int .i64 lo.1, .int .i64 lo.2])) 2).append (bytes := 16) okT htmp (by simp) (by omega) (by simp)
      rw [List.nil_append] at hO2
      have c02 : Chg [] H.top K2 := (cA.trans hokT cT (by simp)).trans hokT c2 (by simp)
      have V : MInv H.top K2 H.n lo [] .nils [lo] av lo lo f t 0 := ⟨(r.chg okA.1 cT (by simp) (fun _ _ => by simp)).chg okT.1 c2 (by simp) (fun _ _ => by simp), c2.ok okT, c02, by simp, by simp, hO2, fun j hj => by
        rcases n2 j hj with e | e
        · cases e
        · simp at e; refine ⟨by simp; omega, by simp, by omega⟩, by simp, by simp, ⟨by simp, by simp⟩, le_rf _, le_rf _⟩
      obtain ⟨z, ⟨e, l2, K3⟩, f1, rfl, ok3⟩ := most_acts hokT hV.top hps hf ht hr V
      have ea := cAlive ok3
      have han := hO2.view.noL
      simp -implicitDefEqProofs [e1, e2, e3, hvn, ha, han, f1, ea]
    | false =>
      rw [hr] at e3
      simp -implicitDefEqProofs [e1, e2, e3, hvn]
  · have h1' : fitB f t = false := by simpa using h1
    rw [h1'] at e1
    simp -implicitDefEqProofs [e1, e2, hvn]
end
theorem lawMost : Law T 4 [stSh, .slice 5 56 actSh, spSh] := by
  intro H ls hw hl ha
  obtain ⟨x, y, z, rfl, hx, ⟨v, rows, rfl, hv, hb, hm, hc⟩, hz⟩ := args3 ha
  obtain ⟨lo, rfl⟩ := st_cells hx
  obtain ⟨f, t, rfl, hf, ht⟩ := sp_cells hz
  obtain ⟨ps, rfl, hps⟩ := acts_of hc
  exact law_of (nMost ⟨hw, by omega⟩ hv.view hps hf ht)
end Go.Proofs.Ytdnnpgmekbnlbaa
