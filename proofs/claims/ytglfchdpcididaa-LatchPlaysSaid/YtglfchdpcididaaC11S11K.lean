/- The statement LatchTwo, in our machine. No condition. -/
import Derived.Test.YtglfchdpcididaaC11S11J
set_option linter.unusedVariables false
set_option linter.unusedSimpArgs false
namespace Go.Proofs.Ytglfchdpcididaa
open Go.Wam

attribute [local simp] den_seq den_region den_regionD0 den_regionD1 den_condB condB_bool den_block den_keep den_ret den_skip den_exit sops_cons sops_nil sopsR_cons sopsR_nil goR_eq readOk trace_cons trace_nil Opd.ev evs Go.Wam.look St.put enterA zipI leaveR_ret leaveR_normal rvs RV.ev
  st_guard guardB_bool st_move st_pick pickB_bool st_allocL st_alloc st_boxL st_box st_build st_buildSlice st_load st_store st_nilCheck nilC st_bin st_un st_convI convI st_convS convS st_convB convB st_mkIface st_mkFunc st_mkMap st_mkSlice mkSl st_slice st_fieldAddr fldA st_field fldV st_idx idxS_slice idxS_oslice st_idxArr idxArr st_idxStr idxStr st_idxAgg idxAgg st_extract extA st_call callA_func st_len st_lenStr lenStr st_lenArr st_lenMap st_append st_clear clearV st_maxs st_mins
  load_ptr load_lptr storeA rd wr goOn_normal goOn_exit goOn_ret outBlock_normal outBlock_exit outBlock_ret prune freeL_nil freeL_cons frV_lptr frV_tuple frV_noL fillA allNoL packA unA checkAt ev_load wantedA beq_same beqL_same AV.beq AV.beqL drawCond freshD readsOk isRead undefA optInt optIntO
  strOp aeqF_nil aeqF_cons andA_some i_add i_sub i_mul i_lss i_leq i_gtr i_geq i_quo i_rem i_eql i_neq s_eql s_neq s_lss
  s_leq s_gtr s_geq s_add e_bool n_bool e_nilp n_nilp e_ptr n_ptr e_lptr n_lptr e_agg n_agg
  e_nils n_nils e_slice n_slice e_oslice n_oslice e_eslice n_eslice e_xslice n_xslice e_nilm n_nilm e_map n_map
  e_nilFunc n_nilFunc e_func n_func q_int q_bool q_str q_struct q_ptr0 q_ptrL0 q_ptrR0 q_ptrL1 q_ptrR1 q_slice0
  q_sliceL0 q_sliceR0 q_sliceL1 q_sliceR1 q_sliceL2 q_sliceR2 q_sliceL3 q_sliceR3 q_map0 q_mapL0 q_mapR0 q_func0 q_funcL0 q_funcR0
  okR_some guardB_tuple get_alloc_eq rdAt_alloc_eq set_alloc_eq set_alloc_ne get_alloc_ne rdAt_alloc_ne
section
variable {H K : AHeap} {l : Nat} {L : List Cl} {F : List Nat}
theorem latrep_claim {x : List Sp} {xv : AV} {n : Int} {w : Bool} (hok : K.ok) (h : LatRep K l L F) (hx : Sps K xv x) (hm : L.length < 1000000) :
    ∃ K' F', call T 32 [.ptr l 0, .int .i64 n, xv, .bool w] K = some (.tuple [.bool (claimR L n x w), .int .i64 (claimE L n x)], K') ∧ LatRep K' l (claimL L n x w) F' ∧ Chg F K K' ∧ (∀ i ∈ F', i ∈ F ∨ K.n ≤ i) := by
  obtain ⟨v, ids, hF⟩ := h
  unfold claimR claimL
  by_cases he : claimE L n x = 0
  · obtain ⟨K', F', h1, h2, h3, h4, _⟩ := hF.claim hok hx he hm
    exact ⟨K', F', by rw [h1, he]; simp, by rw [if_pos he]; exact h2, h3, h4⟩
  · exact ⟨K, F, by rw [hF.claim_no hok hx he, decide_eq_false he, Bool.false_and], by rw [if_neg he]; exact ⟨v, ids, hF⟩, .refl _ _, fun i hi => .inl hi⟩
theorem latrep_drop {n : Int} (hok : K.ok) (h : LatRep K l L F) (hm : L.length < 1000000) :
    ∃ out K' F', call T 33 [.ptr l 0, .int .i64 n] K = some (.tuple [out, .int .i64 (dropE L n)], K') ∧ LatRep K' l (dropL L n) F' ∧ Chg F K K' ∧ (∀ i ∈ F', i ∈ F) ∧ Own K' 1 out ((dropF L n).map numRow) ∧ (∀ j ∈ sown out, K.n ≤ j) := by
  obtain ⟨v, ids, hF⟩ := h
  unfold dropE dropL dropF
  cases hd : dropI L n with
  | none => exact ⟨.nils, K, F, hF.drop_no hok hd, ⟨v, ids, hF⟩, .refl _ _, fun i hi => hi, .nil _ _, by simp⟩
  | some i =>
    obtain ⟨out, K', F', h1, h2, h3, h4, h5, h6⟩ := hF.drop hok hd hm
    refine ⟨out, K', F', h1, h2, h3, h4, ?_, h6⟩
    simp only [List.getElem?_eq_getElem (dropI_lt hd)]
    exact h5
theorem latrep_free (hok : K.ok) (h : LatRep K l L F) (n : Int) : call T 35 [.ptr l 0, .int .i64 n] K = some (.bool (freeP L n), K) := by
  obtain ⟨v, ids, hF⟩ := h
  exact hF.free hok n

def toCl (p : ActIn) : Cl := ⟨p.a.n, p.a.x, p.a.w⟩
def rest (hs : List ActIn) (n : Int) : List ActIn := hs.filter fun p => !decide (p.a.n = n)

theorem without_loop {v : AV} {hs : List ActIn} {n : Int} (hok : K.ok) (hv : View K 4 v (hs.map rowIn)) (hlen : hs.length ≤ 60) :
    ∃ z s', den T (.loop L34_0) ⟨[(0, v), (1, .int .i64 n), (5, .nils), (6, .int .i64 0)], [], K⟩ = some (z, s') ∧
      z = .exit 0 ∧ ∃ out, Go.Wam.look 5 s'.env = some out ∧ Own s'.H 4 out ((rest hs n).map rowIn) ∧ Chg [] K s'.H ∧ (∀ j ∈ sown out, K.n ≤ j) := by
  refine loop_inv (I := fun m st => ∃ (i : Nat) (K' : AHeap) (out : AV), i + m = hs.length ∧ st = ⟨[(0, v), (1, .int .i64 n), (5, out), (6, .int .i64 i)], [], K'⟩ ∧ Own K' 4 out ((rest (hs.take i) n).map rowIn) ∧ Chg [] K K' ∧ (∀ j ∈ sown out, K.n ≤ j)) _ ?_ hs.length _ ⟨0, K, .nils, by omega, by simp [prS], .nil _ _, .refl _ _, by simp⟩
  rintro m _ ⟨i, K', out, hi, rfl, hO, hC, hN⟩ P hI hX hR
  have hvK := hv.new hok.1 hC
  have hokK := hC.ok hok
  have e0 := hvK.lenS
  rw [List.length_map] at e0
  have hon := hO.view.noL
  have hvn := hv.noL
  by_cases hlt : i < hs.length
  · have hw := wrap_id (n := (i : Int) + 1) (by omega) (by omega)
    obtain ⟨p, hp⟩ : ∃ p, p = hs[i] := ⟨_, rfl⟩
    have e1 := hvK.idx .i64 (n := i) (by omega) (by rw [List.length_map]; omega)
    have e2 : ∀ agg k f, f + k ≤ 4 → 0 < k → (agg = false → k = 1) → K'.rdAt (sid v) agg k (soff v + i * 4 + f) = rd agg k f (rowIn p) := fun agg k f h1 h2 h3 => hvK.rd (i := i) (by rw [List.getElem?_map, List.getElem?_eq_getElem hlt, ← hp]; rfl) agg h1 h2 h3
    have e3 := e2 false 1 1 (by omega) (by omega) (by simp)
    have e4 := e2 true 4 0 (by omega) (by omega) (by simp)
    have r3 : rd false 1 1 (rowIn p) = some (.int .i64 p.a.n) := rfl
    have r4 : rd true 4 0 (rowIn p) = some (.agg (rowIn p)) := rfl
    rw [r3] at e3
    rw [r4] at e4
    simp only [Int.toNat_natCast, Nat.add_zero] at e1 e3 e4
    have ht : rest (hs.take (i + 1)) n = rest (hs.take i) n ++ (if p.a.n = n then [] else [p]) := by
      unfold rest
      rw [List.take_succ_eq_append_getElem hlt, List.filter_append, ← hp]
      by_cases h : p.a.n = n <;> simp [h]
    by_cases hn : p.a.n = n
    · rw [if_pos hn, List.append_nil] at ht
      rw [hn] at e3
      simp -implicitDefEqProofs [e0, hlt, e1, e3, hon, hvn, hw]
      refine hI _ _ _ (m - 1) (by omega) ?_
      exact ⟨i + 1, K', out, by omega, by simp, by rw [ht]; exact hO, hC, hN⟩
    · rw [if_neg hn] at ht
      have cT := Chg.alloc K' (.row false 4 (rowIn p))
      have htmp : View (K'.alloc (.row false 4 (rowIn p))) 4 (.slice K'.n 0 1 1) [rowIn p] :=
        ⟨by simp [AV.sl], rfl, by simp [rowIn, rowAct], fun _ => ⟨false, 4, _, get_alloc_same _ _, by simp [rowIn, rowAct], by simp [rowIn, rowAct]⟩⟩
      have hfl : (rest (hs.take i) n).length ≤ 60 := Nat.le_trans (List.length_filter_le _ _) (by rw [List.length_take]; omega)
      obtain ⟨v', K2, ha, hO2, hC2, hN2, _⟩ := (hO.new hokK.1 cT).append (bytes := 48) (cT.ok hokK) htmp (by simp) (by omega) (by rw [List.length_map]; simp; omega)
      have hv'n := hO2.view.noL
      have hc4 : (rowIn p).length = 4 := rfl
      simp -implicitDefEqProofs [e0, hlt, e1, e3, e4, hn, hon, hvn, hc4, ha, hv'n, hw]
      refine hI _ _ _ (m - 1) (by omega) ?_
      refine ⟨i + 1, K2, v', by omega, by simp, by rw [ht, List.map_append]; exact hO2, (hC.trans hok cT (by simp)).trans hok hC2 (fun j hj => .inr (hN j hj)), fun j hj => ?_⟩
      rcases hN2 j hj with h | h
      · exact hN j h
      · have := hC.le; simp at h; omega
  · have hih : i = hs.length := by omega
    rw [hih, List.take_length] at hO
    simp -implicitDefEqProofs [e0, hlt]
    refine hX _ _ ?_
    exact ⟨rfl, out, by simp, hO, hC, hN⟩

theorem sWithout {v : AV} {hs : List ActIn} {n : Int} (hok : K.ok) (hv : View K 4 v (hs.map rowIn)) (hlen : hs.length ≤ 60) :
    ∃ out K', call T 34 [v, .int .i64 n] K = some (out, K') ∧ Own K' 4 out ((rest hs n).map rowIn) ∧ Chg [] K K' ∧ (∀ j ∈ sown out, K.n ≤ j) := by
  obtain ⟨z, ⟨e, lo, K2⟩, h, rfl, out, h5, hO, hC, hN⟩ := without_loop (K := K.top) (AHeap.ok.top hok.1) (n := n) hv.top hlen
  simp only at h5 hO hC hN
  have hon := hO.view.noL
  have hvn := hv.noL
  refine ⟨out, Go.Wam.fin K out K2, ?_, hO.fin (hO.okB hN), hC.fin hok out, hN⟩
  rw [call_at (show T 34 = some (.ir ⟨_, _, _, _, _⟩) from T34)]
  simp -implicitDefEqProofs [hvn, h, h5, hon]

theorem okB_sl {sz n n' : Nat} {v : AV} (hs : v.sl sz = true) (h : v.okB n = true) (hn : n ≤ n') : v.okB n' = true := by
  cases v <;> first | (simp [AV.sl] at hs; done) | (simp [AV.okB] at h ⊢) <;> omega
theorem okB_isSl {H : AHeap} (hw : H.wf) {sz : Nat} {v : AV} {rows : List (List AV)} (h : IsSl H sz v rows) : v.okB H.n = true := by
  rcases h with ⟨rfl, _⟩ | ⟨b, o, s, rfl, _⟩ | ⟨id, cap, rfl, _, hg, _⟩
  · simp
  · simp [AV.okB]
  · rw [AV.okB]; exact decide_eq_true (AHeap.get_lt hg hw)
def OkIn (n : Nat) (ps : List ActIn) : Prop := ∀ p ∈ ps, p.xv.okB n = true
theorem act_of2 {H : AHeap} (hw : H.wf) {l : List AV} (h : IsC H act11Sh l) : ∃ a xv, l = rowAct a xv ∧ Sps H xv a.x ∧ xv.okB H.n = true := by
  obtain ⟨a, b, rfl, ⟨k, rfl, _⟩, c, d, rfl, ⟨n, rfl, _⟩, e, f, rfl, ⟨v, rows, rfl, hv, hb, _, hr⟩, u, w, rfl, ⟨wr, rfl⟩, rfl⟩ := h
  obtain ⟨x, hx⟩ := sps_of hv hb hr
  exact ⟨⟨k, n, x, wr⟩, v, rfl, hx, okB_isSl hw hv⟩
theorem script_of2 {H : AHeap} (hw : H.wf) {v : AV} {rows : List (List AV)} (hv : IsSl H 4 v rows) (h : ∀ r ∈ rows, IsC H act11Sh r) : ∃ ps : List ActIn, Script H v ps ∧ OkIn H.n ps := by
  have key : ∀ rows : List (List AV), (∀ r ∈ rows, IsC H act11Sh r) → ∃ ps : List ActIn, rows = ps.map rowIn ∧ (∀ p ∈ ps, Sps H p.xv p.a.x) ∧ OkIn H.n ps := by
    intro rows
    induction rows with
    | nil => intro _; exact ⟨[], rfl, by simp, by simp [OkIn]⟩
    | cons r rows ih =>
      intro h
      obtain ⟨ps, h1, h2, h3⟩ := ih fun r hr => h r (by simp [hr])
      obtain ⟨a, xv, h4, h5, h6⟩ := act_of2 hw (h r (by simp))
      exact ⟨⟨a, xv⟩ :: ps, by rw [h1, h4]; rfl, by simp [h5]; exact h2, by simp [OkIn, h6]; exact h3⟩
  obtain ⟨ps, rfl, h2, h3⟩ := key rows h
  exact ⟨ps, ⟨hv.view, h2⟩, h3⟩

/-- Two that are free do not collide. -/
theorem free_apart {L : List Cl} (hown : Own1 L) {j k : Nat} {a b : Cl} (hjk : j < k) (ha : L[k]? = some a) (hb : L[j]? = some b) (hf : freeP L a.n = true) (hm : meetsB a.x b.x = true) : a.w = false ∧ b.w = false := by
  rw [own_free hown ha] at hf
  have h0 := of_decide_eq_true hf
  unfold aheadC at h0
  rw [ha] at h0
  simp only at h0
  rw [List.countP_eq_zero] at h0
  have hmem : b ∈ L.take k := by
    refine List.mem_of_getElem? (i := j) ?_
    rw [List.getElem?_take, if_pos hjk]; exact hb
  have := h0 b hmem
  unfold collC collB at this
  unfold meetsB at hm
  rw [hm, Bool.and_true] at this
  simpa using this

theorem two_in {v : AV} {held u : AV} {hs : List ActIn} {i k : Nat} (hok : K.ok) (h : LatRep K l (hs.map toCl) F) (hown : Own1 (hs.map toCl)) (hv : View K 4 held (hs.map rowIn)) (hsp : ∀ p ∈ hs, Sps K p.xv p.a.x) (hob : OkIn K.n hs) (hk : k < hs.length) (hlen : hs.length ≤ 60) :
    ∃ z s', den T (.loop L6_0) ⟨[(0, u), (3, .ptr l 0), (4, held), (5, .int .i64 i), (12, .int .i64 k), (13, .int .i64 0)], [], K⟩ = some (z, s') ∧
      z = .exit 4 ∧ Go.Wam.look 0 s'.env = some u ∧ Go.Wam.look 3 s'.env = some (.ptr l 0) ∧ Go.Wam.look 4 s'.env = some held ∧ Go.Wam.look 5 s'.env = some (.int .i64 i) ∧ Go.Wam.look 12 s'.env = some (.int .i64 k) ∧ s'.loc = [] ∧ s'.H = K := by
  refine loop_inv (I := fun m st => ∃ (j : Nat), j + m = k ∧ st = ⟨[(0, u), (3, .ptr l 0), (4, held), (5, .int .i64 i), (12, .int .i64 k), (13, .int .i64 j)], [], K⟩) _ ?_ k _ ⟨0, by omega, by simp [prS]⟩
  rintro m _ ⟨j, hj, rfl⟩ P hI hX hR
  have hvn := hv.noL
  by_cases hlt : j < k
  · have hw := wrap_id (n := (j : Int) + 1) (by omega) (by omega)
    have hjL : j < hs.length := by omega
    obtain ⟨p, hp⟩ : ∃ p, p = hs[k] := ⟨_, rfl⟩
    obtain ⟨q, hq⟩ : ∃ q, q = hs[j] := ⟨_, rfl⟩
    have e1 := hv.idx .i64 (n := k) (by omega) (by rw [List.length_map]; omega)
    have e2 := hv.idx .i64 (n := j) (by omega) (by rw [List.length_map]; omega)
    have ep : ∀ agg k' f, f + k' ≤ 4 → 0 < k' → (agg = false → k' = 1) → K.rdAt (sid held) agg k' (soff held + k * 4 + f) = rd agg k' f (rowIn p) := fun agg k' f h1 h2 h3 => hv.rd (i := k) (by rw [List.getElem?_map, List.getElem?_eq_getElem hk, ← hp]; rfl) agg h1 h2 h3
    have eq : ∀ agg k' f, f + k' ≤ 4 → 0 < k' → (agg = false → k' = 1) → K.rdAt (sid held) agg k' (soff held + j * 4 + f) = rd agg k' f (rowIn q) := fun agg k' f h1 h2 h3 => hv.rd (i := j) (by rw [List.getElem?_map, List.getElem?_eq_getElem hjL, ← hq]; rfl) agg h1 h2 h3
    have p1 := (ep false 1 1 (by omega) (by omega) (by simp)).trans (show rd false 1 1 (rowIn p) = some (.int .i64 p.a.n) from rfl)
    have p2 := (ep false 1 2 (by omega) (by omega) (by simp)).trans (show rd false 1 2 (rowIn p) = some p.xv from rfl)
    have p3 := (ep false 1 3 (by omega) (by omega) (by simp)).trans (show rd false 1 3 (rowIn p) = some (.bool p.a.w) from rfl)
    have q1 := (eq false 1 1 (by omega) (by omega) (by simp)).trans (show rd false 1 1 (rowIn q) = some (.int .i64 q.a.n) from rfl)
    have q2 := (eq false 1 2 (by omega) (by omega) (by simp)).trans (show rd false 1 2 (rowIn q) = some q.xv from rfl)
    have q3 := (eq false 1 3 (by omega) (by omega) (by simp)).trans (show rd false 1 3 (rowIn q) = some (.bool q.a.w) from rfl)
    simp only [Int.toNat_natCast] at e1 e2
    have f1 := latrep_free hok h p.a.n
    have f2 := latrep_free hok h q.a.n
    have hpm := hsp p (by rw [hp]; exact List.getElem_mem hk)
    have hqm := hsp q (by rw [hq]; exact List.getElem_mem hjL)
    have f3 := sMeets hpm hqm
    have hpo := hob p (by rw [hp]; exact List.getElem_mem hk)
    have hqo := hob q (by rw [hq]; exact List.getElem_mem hjL)
    have hpn := hpm.view.noL
    have hqn := hqm.view.noL
    have hap := fun hf hm => free_apart hown (a := toCl p) (b := toCl q) hlt (by rw [List.getElem?_map, List.getElem?_eq_getElem hk, ← hp]; rfl) (by rw [List.getElem?_map, List.getElem?_eq_getElem hjL, ← hq]; rfl) hf hm
    simp only [toCl] at hap
    have hltI : (j : Int) < k := by omega
    generalize freeP (hs.map toCl) p.a.n = b1 at *
    generalize freeP (hs.map toCl) q.a.n = b2 at *
    generalize meetsB p.a.x q.a.x = b3 at *
    clear ep eq
    have done : ∀ (e : List (Nat × AV)) (lo : List (Nat × List AV)), prune [0, 3, 4, 5, 12, 13] e = [(0, u), (3, .ptr l 0), (4, held), (5, .int .i64 i), (12, .int .i64 k), (13, .int .i64 ((j : Int) + 1))] → P (.normal, ⟨e, lo, K⟩) := fun e lo he => by
      refine hI _ _ _ (m - 1) (by omega) ⟨j + 1, by omega, ?_⟩
      rw [he]; simp
    cases b1 with
    | false =>
      simp -implicitDefEqProofs [hlt, e1, e2, p1, p2, q2, f1, f3, hvn, hpn, hqn, hpo, hqo, hw]
      refine done _ _ ?_; simp
    | true =>
      cases b2 with
      | false =>
        simp -implicitDefEqProofs [hlt, e1, e2, p1, p2, q1, q2, f1, f2, f3, hvn, hpn, hqn, hpo, hqo, hw]
        refine done _ _ ?_; simp
      | true =>
        cases b3 with
        | false =>
          simp -implicitDefEqProofs [hlt, e1, e2, p1, p2, q1, q2, f1, f2, f3, hvn, hpn, hqn, hpo, hqo, hw]
          refine done _ _ ?_; simp
        | true =>
          obtain ⟨w1, w2⟩ := hap rfl rfl
          rw [w1] at p3
          rw [w2] at q3
          simp -implicitDefEqProofs [hlt, e1, e2, p1, p2, p3, q1, q2, q3, f1, f2, f3, hvn, hpn, hqn, hpo, hqo, hw]
          refine done _ _ ?_; simp
  · have hjk : j = k := by omega
    subst hjk
    simp -implicitDefEqProofs [Nat.lt_irrefl]
    refine hX _ _ ?_
    exact ⟨rfl, by simp, by simp, by simp, by simp, by simp, rfl, rfl⟩

theorem two_out {held u : AV} {hs : List ActIn} {i : Nat} (hok : K.ok) (h : LatRep K l (hs.map toCl) F) (hown : Own1 (hs.map toCl)) (hv : View K 4 held (hs.map rowIn)) (hsp : ∀ p ∈ hs, Sps K p.xv p.a.x) (hob : OkIn K.n hs) (hlen : hs.length ≤ 60) :
    ∃ z s', den T (.loop L6_1) ⟨[(0, u), (3, .ptr l 0), (4, held), (5, .int .i64 i), (12, .int .i64 0)], [], K⟩ = some (z, s') ∧
      z = .exit 2 ∧ Go.Wam.look 0 s'.env = some u ∧ Go.Wam.look 3 s'.env = some (.ptr l 0) ∧ Go.Wam.look 4 s'.env = some held ∧ Go.Wam.look 5 s'.env = some (.int .i64 i) ∧ s'.loc = [] ∧ s'.H = K := by
  refine loop_inv (I := fun m st => ∃ (k : Nat), k + m = hs.length ∧ st = ⟨[(0, u), (3, .ptr l 0), (4, held), (5, .int .i64 i), (12, .int .i64 k)], [], K⟩) _ ?_ hs.length _ ⟨0, by omega, by simp [prS]⟩
  rintro m _ ⟨k, hk, rfl⟩ P hI hX hR
  have e0 := hv.lenS
  rw [List.length_map] at e0
  have hvn := hv.noL
  by_cases hlt : k < hs.length
  · have hw := wrap_id (n := (k : Int) + 1) (by omega) (by omega)
    obtain ⟨z, ⟨e, lo, K2⟩, f, rfl, g0, g3, g4, g5, g12, gl, gH⟩ := two_in (v := held) (u := u) (i := i) hok h hown hv hsp hob hlt hlen
    simp only at g0 g3 g4 g5 g12 gl gH
    subst gl gH
    simp -implicitDefEqProofs [e0, hlt, f, g0, g3, g4, g5, g12, hw]
    refine hI _ _ _ (m - 1) (by omega) ?_
    exact ⟨k + 1, by omega, by simp [g0, g3, g4, g5]⟩
  · simp -implicitDefEqProofs [e0, hlt]
    refine hX _ _ ?_
    exact ⟨rfl, by simp, by simp, by simp, by simp, rfl, rfl⟩

/-- What the end of a round asks. -/
theorem two_tail {held u : AV} {hs : List ActIn} {i : Nat} (hok : K.ok) (h : LatRep K l (hs.map toCl) F) (hown : Own1 (hs.map toCl)) (hv : View K 4 held (hs.map rowIn)) (hsp : ∀ p ∈ hs, Sps K p.xv p.a.x) (hob : OkIn K.n hs) (hlen : hs.length ≤ 60) :
    lenS held = some (.int .i64 hs.length) ∧ held.noL = true ∧ (0 < hs.length → ∃ n0, idxS 4 held (.int .i64 0) = some (.ptr (sid held) (soff held)) ∧ K.rdAt (sid held) false 1 (soff held + 1) = some (.int .i64 n0) ∧ call T 35 [.ptr l 0, .int .i64 n0] K = some (.bool true, K)) ∧
    ∃ z s', den T (.loop L6_1) ⟨[(0, u), (3, .ptr l 0), (4, held), (5, .int .i64 i), (12, .int .i64 0)], [], K⟩ = some (z, s') ∧
      z = .exit 2 ∧ Go.Wam.look 0 s'.env = some u ∧ Go.Wam.look 3 s'.env = some (.ptr l 0) ∧ Go.Wam.look 4 s'.env = some held ∧ Go.Wam.look 5 s'.env = some (.int .i64 i) ∧ s'.loc = [] ∧ s'.H = K := by
  refine ⟨by rw [hv.lenS, List.length_map], hv.noL, fun h0 => ?_, two_out hok h hown hv hsp hob hlen⟩
  have e1 := hv.idx .i64 (n := 0) (by omega) (by rw [List.length_map]; omega)
  have e2 := hv.rd (i := 0) (r := rowIn hs[0]) (by rw [List.getElem?_map, List.getElem?_eq_getElem h0]; rfl) false (k := 1) (f := 1) (by omega) (by omega) (by simp)
  have e3 : rd false 1 1 (rowIn hs[0]) = some (.int .i64 hs[0].a.n) := rfl
  rw [e3] at e2
  simp only [Int.toNat_zero, Nat.zero_mul, Nat.add_zero] at e1 e2
  refine ⟨hs[0].a.n, e1, e2, ?_⟩
  rw [latrep_free hok h]
  have := first_free hown (a := toCl hs[0]) (by rw [List.getElem?_map, List.getElem?_eq_getElem h0]; rfl)
  simp only [toCl] at this
  rw [this]

structure TwoInv (H K : AHeap) (l : Nat) (held : AV) (hs : List ActIn) (F : List Nat) (i : Nat) : Prop where
  rep : LatRep K l (hs.map toCl) F
  ge : ∀ j ∈ F, H.n ≤ j
  own : Own K 4 held (hs.map rowIn)
  hge : ∀ j ∈ sown held, H.n ≤ j ∧ j ∉ F
  ok : K.ok
  chg : Chg [] H K
  len : hs.length ≤ i
  one : Own1 (hs.map toCl)
  sps : ∀ p ∈ hs, Sps H p.xv p.a.x
  okb : OkIn H.n hs

theorem latrep_lt (h : LatRep K l L F) : ∀ i ∈ F, i < K.n := by obtain ⟨v, ids, h⟩ := h; exact h.lt
theorem rest_drop {hs : List ActIn} {n : Int} (h : Own1 (hs.map toCl)) : dropL (hs.map toCl) n = (rest hs n).map toCl ∧ (dropE (hs.map toCl) n = 0 ∨ (dropE (hs.map toCl) n = 111 ∧ dropL (hs.map toCl) n = hs.map toCl)) := by
  induction hs with
  | nil => exact ⟨rfl, .inr ⟨rfl, rfl⟩⟩
  | cons p hs ih =>
    have h' : Own1 (hs.map toCl) := by unfold Own1 at *; simp only [List.map_cons, List.nodup_cons] at h; exact h.2
    have hnot : ∀ q ∈ hs, q.a.n ≠ p.a.n := by
      intro q hq e
      unfold Own1 at h
      simp only [List.map_cons, List.nodup_cons, List.map_map] at h
      exact h.1 (List.mem_map.2 ⟨q, hq, e⟩)
    have ih := ih h'
    by_cases hp : p.a.n = n
    · have e1 : dropI ((p :: hs).map toCl) n = some 0 := by unfold dropI; simp [List.findIdx?_cons, toCl, hp]
      have e2 : rest (p :: hs) n = hs := by
        unfold rest
        rw [List.filter_cons_of_neg (by simp [hp]), List.filter_eq_self.2]
        intro q hq
        have := hnot q hq
        simp; rw [← hp]; exact this
      unfold dropL dropE
      rw [e1, e2]
      exact ⟨by simp, .inl rfl⟩
    · have e1 : dropI ((p :: hs).map toCl) n = (dropI (hs.map toCl) n).map (· + 1) := by unfold dropI; simp [List.findIdx?_cons, toCl, hp]
      have e2 : rest (p :: hs) n = p :: rest hs n := by
        unfold rest
        rw [List.filter_cons_of_pos (by simp [hp])]
      unfold dropL dropE at *
      rw [e1, e2]
      cases hd : dropI (hs.map toCl) n with
      | none =>
        rw [hd] at ih
        simp only at ih
        simp only [Option.map_none, List.map_cons]
        exact ⟨by rw [← ih.1], by simp⟩
      | some i =>
        rw [hd] at ih
        simp only at ih
        simp only [Option.map_some, List.map_cons, List.eraseIdx_cons_succ]
        exact ⟨by rw [ih.1], by simp⟩

theorem two_loop {H : AHeap} {v : AV} {ps : List ActIn} (hok : H.ok) (hs0 : Script H v ps) (hob : OkIn H.n ps) (h : TwoInv H K l .nils [] F 0) :
    ∃ z s', den T (.loop L6_2) ⟨[(0, v), (3, .ptr l 0), (4, .nils), (5, .int .i64 0)], [], K⟩ = some (z, s') ∧ z = .exit 0 := by
  refine loop_inv (I := fun m st => ∃ (i : Nat) (K : AHeap) (held : AV) (hs : List ActIn) (F : List Nat), i + m = 60 ∧ st = ⟨[(0, v), (3, .ptr l 0), (4, held), (5, .int .i64 i)], [], K⟩ ∧ TwoInv H K l held hs F i) _ ?_ 60 _ ⟨0, K, .nils, [], F, by omega, by simp [prS], h⟩
  clear h
  rintro m _ ⟨i, K, held, hs, F, hi, rfl, V⟩ P hI hX hR
  have hsK := hs0.new hok.1 V.chg
  have e0 := hsK.view.lenS
  rw [List.length_map] at e0
  have hvn := hs0.view.noL
  have hhn := V.own.view.noL
  by_cases hlt : i < ps.length
  · by_cases h60 : i < 60
    · have hw := wrap_id (n := (i : Int) + 1) (by omega) (by omega)
      have h60' : (i : Int) < 60 := by omega
      obtain ⟨p, hp⟩ : ∃ p, p = ps[i] := ⟨_, rfl⟩
      have hxH := hs0.each p (by rw [hp]; exact List.getElem_mem hlt)
      have hx := hsK.each p (by rw [hp]; exact List.getElem_mem hlt)
      have e1 := hsK.view.idx .i64 (n := i) (by omega) (by rw [List.length_map]; omega)
      have e2 := hsK.view.rd (i := i) (r := rowIn p) (by rw [List.getElem?_map, List.getElem?_eq_getElem hlt, hp]; rfl) true (k := 4) (f := 0) (by omega) (by omega) (by simp)
      have e3 := sActFits hx
      have e4 : rd true 4 0 (rowIn p) = some (.agg (rowIn p)) := rfl
      rw [e4] at e2
      have hxn := hx.view.noL
      have hxc := hx.view.cells
      -- the end of a round
      have tail : ∀ {K' : AHeap} {held' : AV} {hs' : List ActIn} {F' : List Nat}, TwoInv H K' l held' hs' F' (i + 1) → _ := fun {K'} {held'} {hs'} {F'} (V' : TwoInv H K' l held' hs' F' (i + 1)) =>
        two_tail (u := v) (i := i) V'.ok V'.rep V'.one V'.own.view (fun q hq => (V'.sps q hq).chg hok.1 V'.chg (by simp)) (fun q hq => okB_sl (V'.sps q hq).view.sl (V'.okb q hq) V'.chg.le) (by have := V'.len; omega)
      have next : ∀ {K' : AHeap} {held' : AV} {hs' : List ActIn} {F' : List Nat}, TwoInv H K' l held' hs' F' (i + 1) → ∀ (e : List (Nat × AV)) (lo : List (Nat × List AV)), prune [0, 3, 4, 5] e = [(0, v), (3, .ptr l 0), (4, held'), (5, .int .i64 ((i : Int) + 1))] → P (.normal, ⟨e, lo, K'⟩) := fun V' e lo he => by
        refine hI _ _ _ (m - 1) (by omega) ⟨i + 1, _, _, _, _, by omega, ?_, V'⟩
        rw [he]; simp
      have V1 : TwoInv H K l held hs F (i + 1) := { V with len := by have := V.len; omega }
      simp only [Int.toNat_natCast, Nat.add_zero, rowIn, rowAct] at e1 e2 e3
      by_cases hf : fitsB p.a.x = true
      · rw [hf] at e3
        by_cases k1 : p.a.k = 1
        · obtain ⟨K1, F1, f1, h1, h2, h3⟩ := latrep_claim (n := p.a.n) (w := p.a.w) V.ok V.rep hx (by rw [List.length_map]; have := V.len; omega)
          have hok1 := h2.ok V.ok
          have hc1 : Chg [] H K1 := V.chg.trans hok h2 (fun j hj => .inr (V.ge j hj))
          have hg1 : ∀ j ∈ F1, H.n ≤ j := fun j hj => by rcases h3 j hj with h | h; exact V.ge j h; have := V.chg.le; omega
          have hO1 : Own K1 4 held (hs.map rowIn) := V.own.chg V.ok.1 h2 (fun j hj => (V.hge j hj).2)
          have hd1 : ∀ j ∈ sown held, H.n ≤ j ∧ j ∉ F1 := fun j hj => ⟨(V.hge j hj).1, fun hF => by
            rcases h3 j hF with h | h
            · exact (V.hge j hj).2 h
            · have := V.own.lt V.ok.1 j hj; omega⟩
          rw [k1] at e2 e3
          by_cases h0 : claimE (hs.map toCl) p.a.n p.a.x = 0
          · rw [h0] at f1
            have cT := Chg.alloc K1 (.row false 4 (rowIn p))
            have hokT := cT.ok hok1
            have htmp : View (K1.alloc (.row false 4 (rowIn p))) 4 (.slice K1.n 0 1 1) [rowIn p] :=
              ⟨by simp [AV.sl], rfl, by simp [rowIn, rowAct], fun _ => ⟨false, 4, _, get_alloc_same _ _, by simp [rowIn, rowAct], by simp [rowIn, rowAct]⟩⟩
            obtain ⟨held', K2, ha, hO2, hC2, hN2, _⟩ := (hO1.new hok1.1 cT).append (bytes := 48) hokT htmp (by simp) (by omega) (by rw [List.length_map]; have := V.len; simp; omega)
            have V2 : TwoInv H K2 l held' (hs ++ [p]) F1 (i + 1) := {
              rep := by
                have : claimL (hs.map toCl) p.a.n p.a.x p.a.w = (hs ++ [p]).map toCl := by unfold claimL; rw [if_pos h0, List.map_append]; rfl
                rw [this] at h1
                exact (h1.chg hok1.1 cT (fun _ _ => by simp)).chg hokT.1 hC2 (fun j hj hs => (hd1 j hs).2 hj)
              ge := hg1
              own := by rw [List.map_append]; exact hO2
              hge := fun j hj => by
                rcases hN2 j hj with h | h
                · exact hd1 j h
                · have h4 : K1.n ≤ j := by simp at h; omega
                  exact ⟨by have := hc1.le; omega, fun hF => by have := latrep_lt h1 j hF; omega⟩
              ok := hC2.ok hokT
              chg := (hc1.trans hok cT (by simp)).trans hok hC2 (fun j hj => .inr (hd1 j hj).1)
              len := by have := V.len; simp; omega
              one := by
                have := claimL_own (n := p.a.n) (x := p.a.x) (w := p.a.w) V.one
                unfold claimL at this
                rw [if_pos h0] at this
                rw [List.map_append]; exact this
              sps := fun q hq => by
                rcases List.mem_append.1 hq with hq | hq
                · exact V.sps q hq
                · simp at hq; subst hq; exact hxH
              okb := fun q hq => by
                rcases List.mem_append.1 hq with hq | hq
                · exact V.okb q hq
                · simp at hq; subst hq; exact hob _ (hp ▸ List.getElem_mem hlt) }
            obtain ⟨t1, t2, t3, z, ⟨e, lo, K3⟩, t4, rfl, g0, g3, g4, g5, gl, gH⟩ := tail V2
            simp only at g0 g3 g4 g5 gl gH
            subst gl gH
            obtain ⟨n0, t5, t6, t7⟩ := t3 (by simp)
            have t8 : (0 : Int) < (hs ++ [p]).length := by rw [List.length_append]; have : [p].length = 1 := rfl; omega
            simp only [rowIn, rowAct, k1] at ha
            generalize (hs ++ [p]).length = len' at *
            have t9 : 0 < len' := by omega
            simp -implicitDefEqProofs [e0, hlt, h60', e1, e2, e3, hvn, hhn, hxn, hxc, f1, ha, t1, t2, t4, t5, t6, t7, t9, g0, g3, g4, g5, hw]
            refine next V2 _ _ ?_
            simp [g0, g3, g4]
          · have V2 : TwoInv H K1 l held hs F1 (i + 1) := { V1 with
              rep := by unfold claimL at h1; rw [if_neg h0] at h1; exact h1
              ge := hg1
              own := hO1
              hge := hd1
              ok := hok1
              chg := hc1 }
            obtain ⟨t1, t2, t3, z, ⟨e, lo, K3⟩, t4, rfl, g0, g3, g4, g5, gl, gH⟩ := tail V2
            simp only at g0 g3 g4 g5 gl gH
            subst gl gH
            by_cases hz : hs.length = 0
            · have hz' : (hs.length : Int) = 0 := by omega
              rw [hz'] at t1
              generalize claimE (hs.map toCl) p.a.n p.a.x = ce at *
              simp -implicitDefEqProofs [e0, hlt, h60', e1, e2, e3, hvn, hhn, hxn, hxc, f1, h0, t1, t2, t4, g0, g3, g4, g5, hw]
              refine next V2 _ _ ?_
              simp [g0, g3, g4]
            · obtain ⟨n0, t5, t6, t7⟩ := t3 (by omega)
              have t9 : 0 < hs.length := by omega
              generalize claimE (hs.map toCl) p.a.n p.a.x = ce at *
              generalize hs.length = len' at *
              simp -implicitDefEqProofs [e0, hlt, h60', e1, e2, e3, hvn, hhn, hxn, hxc, f1, h0, t1, t2, t4, t5, t6, t7, t9, g0, g3, g4, g5, hw]
              refine next V2 _ _ ?_
              simp [g0, g3, g4]
        · by_cases k2 : p.a.k = 2
          · obtain ⟨out, K1, F1, f1, h1, h2, h3, hO, _⟩ := latrep_drop (n := p.a.n) V.ok V.rep (by rw [List.length_map]; have := V.len; omega)
            have hon := hO.view.noL
            have hok1 := h2.ok V.ok
            have hc1 : Chg [] H K1 := V.chg.trans hok h2 (fun j hj => .inr (V.ge j hj))
            have hg1 : ∀ j ∈ F1, H.n ≤ j := fun j hj => V.ge j (h3 j hj)
            have hO1 : Own K1 4 held (hs.map rowIn) := V.own.chg V.ok.1 h2 (fun j hj => (V.hge j hj).2)
            have hd1 : ∀ j ∈ sown held, H.n ≤ j ∧ j ∉ F1 := fun j hj => ⟨(V.hge j hj).1, fun hF => (V.hge j hj).2 (h3 j hF)⟩
            obtain ⟨r1, r2⟩ := rest_drop (n := p.a.n) V.one
            rw [k2] at e2 e3
            rcases r2 with r2 | ⟨r2, r3⟩
            · rw [r2] at f1
              obtain ⟨held', K2, f2, hO2, hC2, hN2⟩ := sWithout (n := p.a.n) hok1 hO1.view (by have := V.len; omega)
              have V2 : TwoInv H K2 l held' (rest hs p.a.n) F1 (i + 1) := {
                rep := by rw [r1] at h1; exact h1.chg hok1.1 hC2 (fun _ _ => by simp)
                ge := hg1
                own := hO2
                hge := fun j hj => ⟨by have := hN2 j hj; have := hc1.le; omega, fun hF => by have := latrep_lt h1 j hF; have := hN2 j hj; omega⟩
                ok := hC2.ok hok1
                chg := hc1.trans hok hC2 (by simp)
                len := by have := V.len; have := List.length_filter_le (fun q : ActIn => !decide (q.a.n = p.a.n)) hs; unfold rest; omega
                one := by rw [← r1]; exact dropL_own V.one
                sps := fun q hq => V.sps q (List.mem_filter.1 hq).1
                okb := fun q hq => V.okb q (List.mem_filter.1 hq).1 }
              obtain ⟨t1, t2, t3, z, ⟨e, lo, K3⟩, t4, rfl, g0, g3, g4, g5, gl, gH⟩ := tail V2
              simp only at g0 g3 g4 g5 gl gH
              subst gl gH
              by_cases hz : (rest hs p.a.n).length = 0
              · have hz' : ((rest hs p.a.n).length : Int) = 0 := by omega
                rw [hz'] at t1
                simp -implicitDefEqProofs [e0, hlt, h60', e1, e2, e3, hvn, hhn, hxn, hxc, f1, hon, f2, t1, t2, t4, g0, g3, g4, g5, hw]
                refine next V2 _ _ ?_
                simp [g0, g3, g4]
              · obtain ⟨n0, t5, t6, t7⟩ := t3 (by omega)
                have t9 : 0 < (rest hs p.a.n).length := by omega
                generalize (rest hs p.a.n).length = len' at *
                simp -implicitDefEqProofs [e0, hlt, h60', e1, e2, e3, hvn, hhn, hxn, hxc, f1, hon, f2, t1, t2, t4, t5, t6, t7, t9, g0, g3, g4, g5, hw]
                refine next V2 _ _ ?_
                simp [g0, g3, g4]
            · rw [r2] at f1
              have V2 : TwoInv H K1 l held hs F1 (i + 1) := { V1 with
                rep := by rw [r3] at h1; exact h1
                ge := hg1
                own := hO1
                hge := hd1
                ok := hok1
                chg := hc1 }
              obtain ⟨t1, t2, t3, z, ⟨e, lo, K3⟩, t4, rfl, g0, g3, g4, g5, gl, gH⟩ := tail V2
              simp only at g0 g3 g4 g5 gl gH
              subst gl gH
              by_cases hz : hs.length = 0
              · have hz' : (hs.length : Int) = 0 := by omega
                rw [hz'] at t1
                simp -implicitDefEqProofs [e0, hlt, h60', e1, e2, e3, hvn, hhn, hxn, hxc, f1, hon, t1, t2, t4, g0, g3, g4, g5, hw]
                refine next V2 _ _ ?_
                simp [g0, g3, g4]
              · obtain ⟨n0, t5, t6, t7⟩ := t3 (by omega)
                have t9 : 0 < hs.length := by omega
                generalize hs.length = len' at *
                simp -implicitDefEqProofs [e0, hlt, h60', e1, e2, e3, hvn, hhn, hxn, hxc, f1, hon, t1, t2, t4, t5, t6, t7, t9, g0, g3, g4, g5, hw]
                refine next V2 _ _ ?_
                simp [g0, g3, g4]
          · obtain ⟨t1, t2, t3, z, ⟨e, lo, K3⟩, t4, rfl, g0, g3, g4, g5, gl, gH⟩ := tail V1
            simp only at g0 g3 g4 g5 gl gH
            subst gl gH
            by_cases hz : hs.length = 0
            · have hz' : (hs.length : Int) = 0 := by omega
              rw [hz'] at t1
              simp -implicitDefEqProofs [e0, hlt, h60', e1, e2, e3, hvn, hhn, hxn, hxc, k1, k2, t1, t2, t4, g0, g3, g4, g5, hw]
              refine next V1 _ _ ?_
              simp [g0, g3, g4]
            · obtain ⟨n0, t5, t6, t7⟩ := t3 (by omega)
              have t9 : 0 < hs.length := by omega
              generalize hs.length = len' at *
              simp -implicitDefEqProofs [e0, hlt, h60', e1, e2, e3, hvn, hhn, hxn, hxc, k1, k2, t1, t2, t4, t5, t6, t7, t9, g0, g3, g4, g5, hw]
              refine next V1 _ _ ?_
              simp [g0, g3, g4]
      · have hf' : fitsB p.a.x = false := by simpa using hf
        rw [hf'] at e3
        simp -implicitDefEqProofs [e0, hlt, h60', e1, e2, e3, hvn, hhn, hxn, hxc, hw]
        refine next V1 _ _ ?_
        simp
    · have h60' : ¬ (i : Int) < 60 := by omega
      simp -implicitDefEqProofs [e0, hlt, h60']
      refine hX _ _ ?_
      rfl
  · simp -implicitDefEqProofs [e0, hlt]
    refine hX _ _ ?_
    rfl
end

set_option maxRecDepth 8000 in
theorem nTwo {H : AHeap} (hok : H.ok) {v : AV} {ps : List ActIn} (hs : Script H v ps) (hob : OkIn H.n ps) : OkR (call T 6 [v] H) fun r => r.1 = .bool true := by
  rw [call_at (show T 6 = some (.ir ⟨_, _, _, _, _⟩) from T6)]
  have hokT := AHeap.ok.top hok.1
  have e0 := eNew H
  have b0 : LatIn H.top (H.top.alloc (.row false 1 [.nils])) H.n [] := LatIn.new hokT
  have e1 := sAlive b0.ok
  obtain ⟨F, hF, hn⟩ := b0.rep
  obtain ⟨x, ⟨e, lo, K⟩, f1, rfl⟩ := two_loop hokT hs.top hob ⟨hF, hn, .nil _ _, by simp, b0.ok, b0.chg, by simp, by simp [Own1], by simp, by simp [OkIn]⟩
  simp -implicitDefEqProofs [e0, e1, f1]

theorem lawTwo : Law T 6 [.slice 4 48 act11Sh] := by
  intro H ls hw hl ha
  obtain ⟨x, rfl, ⟨v, rows, rfl, hv, _, _, hc⟩⟩ := args1 ha
  obtain ⟨ps, hs, hob⟩ := script_of2 hw hv hc
  exact law_of (nTwo ⟨hw, by omega⟩ hs hob)
end Go.Proofs.Ytglfchdpcididaa
