/- LatchPlays: the latches and the document's, side by side. No condition. -/
import Derived.Test.YtglfchdpcididaaC11S11N
set_option linter.unusedVariables false
set_option linter.unusedSimpArgs false
namespace Go.Proofs.Ytglfchdpcididaa
open Go.Wam

attribute [local simp] den_seq den_region den_regionD0 den_regionD1 den_condB condB_bool den_block den_keep den_ret den_skip den_exit sops_cons sops_nil sopsR_cons sopsR_nil goR_eq readOk trace_cons trace_nil Opd.ev evs Go.Wam.look St.put enterA zipI leaveR_ret leaveR_normal rvs RV.ev
  st_guard guardB_bool st_move st_pick pickB_bool st_allocL st_alloc st_boxL st_box st_build st_buildSlice st_load st_store st_nilCheck nilC st_bin st_un st_convI convI st_convS convS st_convB convB st_mkIface st_mkFunc st_mkMap st_mkSlice mkSl st_slice st_fieldAddr fldA st_field fldV st_idx idxS_slice idxS_oslice st_idxArr idxArr st_idxStr idxStr st_idxAgg idxAgg st_extract extA st_call callA_func st_len st_lenStr lenStr st_lenArr st_lenMap st_append st_clear clearV st_maxs st_mins
  load_ptr load_lptr storeA rd wr goOn_normal goOn_exit goOn_ret outBlock_normal outBlock_exit outBlock_ret prune freeL_nil freeL_cons frV_lptr frV_tuple frV_noL fillA allNoL packA unA checkAt ev_load wantedA beq_same beqL_same AV.beq AV.beqL drawCond freshD readsOk isRead undefA optInt optIntO
  strOp aeqF_nil aeqF_cons andA_some i_add i_sub i_mul i_lss i_leq i_gtr i_geq i_quo i_rem i_eql i_neq s_eql s_neq s_lss
  s_leq s_gtr s_geq s_add e_bool n_bool e_nilp n_nilp e_ptr n_ptr e_lptr n_lptr e_agg n_agg
  e_nils n_nils e_slice n_slice e_oslice n_oslice e_eslice n_eslice e_xslice n_xslice e_nilm n_nilm e_map n_map
  e_nilFunc n_nilFunc e_func n_func q_int q_bool q_str q_struct q_ptr0 q_ptrL0 q_ptrR0 q_ptrL1 q_ptrR1 q_slice0
  q_sliceL0 q_sliceR0 q_sliceL1 q_sliceR1 q_sliceL2 q_sliceR2 q_sliceL3 q_sliceR3 q_map0 q_mapL0 q_mapR0 q_func0 q_funcL0 q_funcR0
  okR_some guardB_tuple get_alloc_eq rdAt_alloc_eq set_alloc_eq set_alloc_ne get_alloc_ne rdAt_alloc_ne
section
variable {H K : AHeap} {l m : Nat} {L : List Cl} {F1 F2 : List Nat} {i : Nat}
theorem refrep_lt (h : RefRep2 K m L F2) : ∀ j ∈ F2, j < K.n := by obtain ⟨ps, v, _, h⟩ := h; exact h.x.lt
theorem refrep_claim {x : List Sp} {xv : AV} {n : Int} {w : Bool} (hok : K.ok) (h : RefRep2 K m L F2) (hx : Sps K xv x) (hxl : x.length ≤ 9223372036854775806) (hm : L.length < 1000) :
    ∃ K' F', call T 38 [.ptr m 0, .int .i64 n, xv, .bool w] K = some (.tuple [.bool (claimR L n x w), .int .i64 (claimE L n x)], K') ∧ RefRep2 K' m (claimL L n x w) F' ∧ Chg F2 K K' ∧ (∀ i ∈ F', i ∈ F2 ∨ K.n ≤ i) := by
  obtain ⟨ps, v, rfl, h⟩ := h
  have hmF := h.x.mF
  unfold claimR claimL
  by_cases h0 : claimE (ps.map (·.c)) n x = 0
  · obtain ⟨K', F', e, h1, h2, h3⟩ := h.claim (n := n) (w := w) hok hx h0 (by simpa using hm)
    rw [h0, if_pos rfl]
    exact ⟨K', F', by simpa using e, h1, h2.mono (by simpa using hmF), h3⟩
  · have e := h.x.claim_no (n := n) (w := w) hx hxl h0
    rw [if_neg h0]
    exact ⟨K, F2, by rw [e]; simp [h0], ⟨ps, v, rfl, h⟩, .refl _ _, fun i hi => .inl hi⟩
theorem refrep_drop {n : Int} (hok : K.ok) (h : RefRep2 K m L F2) :
    ∃ out K' F', call T 39 [.ptr m 0, .int .i64 n] K = some (.tuple [out, .int .i64 (dropE L n)], K') ∧ RefRep2 K' m (dropL L n) F' ∧ Chg F2 K K' ∧ (∀ i ∈ F', i ∈ F2 ∨ K.n ≤ i) ∧ Own K' 1 out ((dropF L n).map numRow) ∧ (∀ j ∈ sown out, K.n ≤ j) := by
  obtain ⟨ps, v, rfl, h⟩ := h
  have hmF := h.x.mF
  unfold dropE dropL dropF
  cases hd : dropI (ps.map (·.c)) n with
  | none => exact ⟨.nils, K, F2, h.x.drop_no hd, ⟨ps, v, rfl, h⟩, .refl _ _, fun i hi => .inl hi, .nil _ _, by simp⟩
  | some i =>
    obtain ⟨out, K', F', e, h1, h2, h3, h4, h5⟩ := h.drop hok hd
    have hi := dropI_lt hd
    simp only [List.getElem?_eq_getElem hi]
    exact ⟨out, K', F', e, h1, h2.mono (by simpa using hmF), h3, h4, h5⟩

structure PlayInv (H K : AHeap) (l m : Nat) (L : List Cl) (F1 F2 : List Nat) (i : Nat) : Prop where
  rep1 : LatRep K l L F1
  rep2 : RefRep2 K m L F2
  ge1 : ∀ j ∈ F1, H.n ≤ j
  ge2 : ∀ j ∈ F2, H.n ≤ j
  apart : ∀ j ∈ F1, j ∉ F2
  ok : K.ok
  chg : Chg [] H K
  len : L.length ≤ i

theorem PlayInv.claim {x : List Sp} {xv : AV} {n : Int} {w : Bool} (hok : H.ok) (V : PlayInv H K l m L F1 F2 i) (hx : Sps H xv x) (hxl : x.length ≤ 9223372036854775806) (hi : i < 60) :
    ∃ K1 K2 G1 G2, call T 32 [.ptr l 0, .int .i64 n, xv, .bool w] K = some (.tuple [.bool (claimR L n x w), .int .i64 (claimE L n x)], K1) ∧
      call T 38 [.ptr m 0, .int .i64 n, xv, .bool w] K1 = some (.tuple [.bool (claimR L n x w), .int .i64 (claimE L n x)], K2) ∧ PlayInv H K2 l m (claimL L n x w) G1 G2 (i + 1) := by
  have hl := V.len
  obtain ⟨K1, G1, e1, r1, c1, n1⟩ := latrep_claim (n := n) (w := w) V.ok V.rep1 (hx.chg hok.1 V.chg (by simp)) (by omega)
  have ok1 := c1.ok V.ok
  have d1 : Chg [] H K1 := V.chg.trans hok c1 (fun j hj => .inr (V.ge1 j hj))
  have q1 := V.rep2.chg V.ok.1 c1 (fun j hj hj1 => V.apart j hj1 hj)
  obtain ⟨K2, G2, e2, r2, c2, n2⟩ := refrep_claim (n := n) (w := w) ok1 q1 (hx.chg hok.1 d1 (by simp)) hxl (by omega)
  have hap : ∀ j ∈ G1, j ∉ F2 := fun j hj hj2 => by
    rcases n1 j hj with h | h
    · exact V.apart j h hj2
    · have := refrep_lt V.rep2 j hj2; omega
  have := V.chg.le
  have := d1.le
  have hcl : (claimL L n x w).length ≤ i + 1 := by
    unfold claimL; split
    · rw [List.length_append]; have : [(⟨n, x, w⟩ : Cl)].length = 1 := rfl; omega
    · omega
  refine ⟨K1, K2, G1, G2, e1, e2, r1.chg ok1.1 c2 hap, r2, fun j hj => ?_, fun j hj => ?_, fun j hj hj2 => ?_, c2.ok ok1, d1.trans hok c2 (fun j hj => .inr (V.ge2 j hj)), hcl⟩
  · rcases n1 j hj with h | h; exact V.ge1 j h; omega
  · rcases n2 j hj with h | h; exact V.ge2 j h; omega
  · rcases n2 j hj2 with h | h
    · exact hap j hj h
    · have := latrep_lt r1 j hj; omega

theorem PlayInv.drop {n : Int} (hok : H.ok) (V : PlayInv H K l m L F1 F2 i) (hi : i < 60) :
    ∃ o1 o2 K1 K2 G1 G2, call T 33 [.ptr l 0, .int .i64 n] K = some (.tuple [o1, .int .i64 (dropE L n)], K1) ∧
      call T 39 [.ptr m 0, .int .i64 n] K1 = some (.tuple [o2, .int .i64 (dropE L n)], K2) ∧ call T 40 [o1, o2] K2 = some (.bool true, K2) ∧ o1.noL = true ∧ o2.noL = true ∧ PlayInv H K2 l m (dropL L n) G1 G2 (i + 1) := by
  have hl := V.len
  obtain ⟨o1, K1, G1, e1, r1, c1, n1, p1, s1⟩ := latrep_drop (n := n) V.ok V.rep1 (by omega)
  have ok1 := c1.ok V.ok
  have d1 : Chg [] H K1 := V.chg.trans hok c1 (fun j hj => .inr (V.ge1 j hj))
  have q1 := V.rep2.chg V.ok.1 c1 (fun j hj hj1 => V.apart j hj1 hj)
  obtain ⟨o2, K2, G2, e2, r2, c2, n2, p2, s2⟩ := refrep_drop (n := n) ok1 q1
  have hap : ∀ j ∈ G1, j ∉ F2 := fun j hj hj2 => V.apart j (n1 j hj) hj2
  have := V.chg.le
  have := d1.le
  have hdl : (dropL L n).length ≤ L.length := by
    unfold dropL; split
    · exact List.length_eraseIdx_le _ _
    · exact Nat.le_refl _
  have hfl := dropF_len L n
  have p1' := p1.chg ok1.1 c2 (fun j hj hj2 => by have := s1 j hj; have := refrep_lt V.rep2 j hj2; omega)
  refine ⟨o1, o2, K1, K2, G1, G2, e1, e2, rSame p1'.view p2.view (by omega), p1.view.noL, p2.view.noL, r1.chg ok1.1 c2 hap, r2, fun j hj => V.ge1 j (n1 j hj), fun j hj => ?_, fun j hj hj2 => ?_, c2.ok ok1, d1.trans hok c2 (fun j hj => .inr (V.ge2 j hj)), by omega⟩
  · rcases n2 j hj with h | h; exact V.ge2 j h; omega
  · rcases n2 j hj2 with h | h
    · exact hap j hj h
    · have := latrep_lt r1 j hj; omega

theorem play_in {v c : AV} (hok : K.ok) (h1 : LatRep K l L F1) (h2 : RefRep2 K m L F2) (hc : Own K 1 c (L.map numRow)) (hlen : L.length ≤ 60) :
    ∃ z s', den T (.loop L9_0) ⟨[(0, v), (3, .ptr l 0), (4, .ptr m 0), (5, .int .i64 i), (16, c), (18, .int .i64 0)], [], K⟩ = some (z, s') ∧
      z = .exit 2 ∧ Go.Wam.look 0 s'.env = some v ∧ Go.Wam.look 3 s'.env = some (.ptr l 0) ∧ Go.Wam.look 4 s'.env = some (.ptr m 0) ∧ Go.Wam.look 5 s'.env = some (.int .i64 i) ∧ s'.loc = [] ∧ s'.H = K := by
  refine loop_inv (I := fun q st => ∃ k : Nat, k + q = L.length ∧ st = ⟨[(0, v), (3, .ptr l 0), (4, .ptr m 0), (5, .int .i64 i), (16, c), (18, .int .i64 k)], [], K⟩) _ ?_ L.length _ ⟨0, by omega, by simp [prS]⟩
  rintro q _ ⟨k, hk, rfl⟩ P hI hX hR
  have e0 := hc.view.lenS
  rw [List.length_map] at e0
  have hcn := hc.view.noL
  by_cases hlt : k < L.length
  · have hw := wrap_id (n := (k : Int) + 1) (by omega) (by omega)
    have e1 := hc.view.idx .i64 (n := k) (by omega) (by rw [List.length_map]; omega)
    have e2 := hc.view.rd (i := k) (r := numRow L[k]) (by rw [List.getElem?_map, List.getElem?_eq_getElem hlt]; rfl) false (k := 1) (f := 0) (by omega) (by omega) (by simp)
    have e3 := latrep_free hok h1 L[k].n
    have e4 : call T 43 [.ptr m 0, .int .i64 L[k].n] K = some (.bool (freeP L L[k].n), K) := by
      obtain ⟨ps, u, h, hr⟩ := h2
      rw [hr.x.free, ← h]
    have e5 : rd false 1 0 (numRow L[k]) = some (.int .i64 L[k].n) := rfl
    rw [e5] at e2
    simp only [Int.toNat_natCast, Nat.add_zero, Nat.mul_one] at e1 e2
    have hco : c.okB K.n = true := own_okB hc hok.1 (fun id hid => by have := own_sid hc (by rw [List.length_map]; omega); rw [hid] at this; cases this)
    have hlo : l < K.n := by obtain ⟨_, _, h⟩ := h1; exact h.lt l (h.sub l (by simp))
    have hmo : m < K.n := by obtain ⟨_, _, _, h⟩ := h2; exact h.x.lt m h.x.mF
    generalize freeP L L[k].n = b at *
    generalize L[k].n = nn at *
    simp -implicitDefEqProofs [e0, hlt, hcn, e1, e2, e3, e4, hw, hco, hlo, hmo]
    refine hI _ _ _ (q - 1) (by omega) ?_
    exact ⟨k + 1, by omega, by simp⟩
  · simp -implicitDefEqProofs [e0, hlt, hcn]
    refine hX _ _ ?_
    exact ⟨rfl, by simp, by simp, by simp, by simp, rfl, rfl⟩

theorem PlayInv.tail {v : AV} (hok : H.ok) (V : PlayInv H K l m L F1 F2 i) (hi : i ≤ 60) (j : Nat) :
    ∃ c1 c2 K1 K2, call T 41 [.ptr l 0] K = some (c1, K1) ∧ call T 42 [.ptr m 0] K1 = some (c2, K2) ∧ call T 40 [c1, c2] K2 = some (.bool true, K2) ∧ c1.noL = true ∧ c2.noL = true ∧ PlayInv H K2 l m L F1 F2 i ∧
      ∃ z s', den T (.loop L9_0) ⟨[(0, v), (3, .ptr l 0), (4, .ptr m 0), (5, .int .i64 j), (16, c1), (18, .int .i64 0)], [], K2⟩ = some (z, s') ∧
        z = .exit 2 ∧ Go.Wam.look 0 s'.env = some v ∧ Go.Wam.look 3 s'.env = some (.ptr l 0) ∧ Go.Wam.look 4 s'.env = some (.ptr m 0) ∧ Go.Wam.look 5 s'.env = some (.int .i64 j) ∧ s'.loc = [] ∧ s'.H = K2 := by
  have hl := V.len
  obtain ⟨c1, K1, e1, o1, d1, s1⟩ : ∃ c K1, call T 41 [.ptr l 0] K = some (c, K1) ∧ Own K1 1 c (L.map numRow) ∧ Chg [] K K1 ∧ (∀ i ∈ sown c, K.n ≤ i) := by
    obtain ⟨w, ids, h⟩ := V.rep1
    exact h.claims V.ok (by omega)
  have ok1 := d1.ok V.ok
  have q1 := V.rep1.chg V.ok.1 d1 (fun _ _ => by simp)
  have q2 := V.rep2.chg V.ok.1 d1 (fun _ _ => by simp)
  obtain ⟨c2, K2, e2, o2, d2, s2⟩ : ∃ c K2, call T 42 [.ptr m 0] K1 = some (c, K2) ∧ Own K2 1 c (L.map numRow) ∧ Chg [] K1 K2 ∧ (∀ i ∈ sown c, K1.n ≤ i) := by
    obtain ⟨ps, w, h, hy⟩ := q2
    rw [h]
    exact hy.x.claims ok1
  have ok2 := d2.ok ok1
  have p1 := q1.chg ok1.1 d2 (fun _ _ => by simp)
  have p2 := q2.chg ok1.1 d2 (fun _ _ => by simp)
  have o1' := o1.new ok1.1 d2
  exact ⟨c1, c2, K1, K2, e1, e2, rSame o1'.view o2.view (by omega), o1.view.noL, o2.view.noL, ⟨p1, p2, V.ge1, V.ge2, V.apart, ok2, (V.chg.trans hok d1 (by simp)).trans hok d2 (by simp), V.len⟩, play_in ok2 p1 p2 o1' (by omega)⟩
end

theorem play_loop {H K : AHeap} {l m : Nat} {F1 F2 : List Nat} {v : AV} {ps : List ActIn} (hok : H.ok) (hs0 : Script H v ps) (h : PlayInv H K l m [] F1 F2 0) :
    ∃ z s', den T (.loop L9_1) ⟨[(0, v), (3, .ptr l 0), (4, .ptr m 0), (5, .int .i64 0)], [], K⟩ = some (z, s') ∧ z = .exit 0 ∧ s'.H.ok := by
  refine loop_inv (I := fun q st => ∃ (i : Nat) (K : AHeap) (L : List Cl) (F1 F2 : List Nat), i + q = 60 ∧ st = ⟨[(0, v), (3, .ptr l 0), (4, .ptr m 0), (5, .int .i64 i)], [], K⟩ ∧ PlayInv H K l m L F1 F2 i) _ ?_ 60 _ ⟨0, K, [], F1, F2, by omega, by simp [prS], h⟩
  clear h
  rintro q _ ⟨i, K, L, F1, F2, hi, rfl, V⟩ P hI hX hR
  have hsK := hs0.new hok.1 V.chg
  have e0 := hsK.view.lenS
  rw [List.length_map] at e0
  have hvn := hs0.view.noL
  have hok0 := V.ok
  by_cases hlt : i < ps.length
  · by_cases h60 : i < 60
    · have hw := wrap_id (n := (i : Int) + 1) (by omega) (by omega)
      have h60' : (i : Int) < 60 := by omega
      obtain ⟨p, hp⟩ : ∃ p, p = ps[i] := ⟨_, rfl⟩
      have hxH := hs0.each p (by rw [hp]; exact List.getElem_mem hlt)
      have hx := hsK.each p (by rw [hp]; exact List.getElem_mem hlt)
      have e1 := hsK.view.idx .i64 (n := i) (by omega) (by rw [List.length_map]; omega)
      have e2 := hsK.view.rd (i := i) (r := rowIn p) (by rw [List.getElem?_map, List.getElem?_eq_getElem hlt, hp]; rfl) true (k := 4) (f := 0) (by omega) (by omega) (by simp)
      have e3 := sActFits hx
      have e4 : rd true 4 0 (rowIn p) = some (.agg (rowIn p)) := rfl
      rw [e4] at e2
      have hxn := hx.view.noL
      have hxc := hx.view.cells
      have next : ∀ {K' : AHeap} {L' : List Cl} {F1' F2' : List Nat}, PlayInv H K' l m L' F1' F2' (i + 1) → ∀ (e : List (Nat × AV)) (lo : List (Nat × List AV)), prune [0, 3, 4, 5] e = [(0, v), (3, .ptr l 0), (4, .ptr m 0), (5, .int .i64 ((i : Int) + 1))] → P (.normal, ⟨e, lo, K'⟩) := fun V' e lo he => by
        refine hI _ _ _ (q - 1) (by omega) ⟨i + 1, _, _, _, _, by omega, ?_, V'⟩
        rw [he]; simp
      have V1 : PlayInv H K l m L F1 F2 (i + 1) := { V with len := by have := V.len; omega }
      simp only [Int.toNat_natCast, Nat.add_zero, rowIn, rowAct] at e1 e2 e3
      by_cases hf : fitsB p.a.x = true
      · rw [hf] at e3
        have hxl : p.a.x.length ≤ 9223372036854775806 := by have := hxH.len; unfold maxL at this; omega
        by_cases k1 : p.a.k = 1
        · obtain ⟨K1, K2, G1, G2, f1, f2, V2⟩ := V.claim (n := p.a.n) (w := p.a.w) hok hxH hxl h60
          obtain ⟨c1, c2, K3, K4, g1, g2, g3, g4, g5, V3, z, ⟨e, lo, K5⟩, t4, rfl, t0, t1, t2, t3, tl, tH⟩ := V2.tail (v := v) hok (by omega) i
          simp only at t0 t1 t2 t3 tl tH
          subst tl tH
          rw [k1] at e2 e3
          generalize claimE L p.a.n p.a.x = ce at *
          generalize claimR L p.a.n p.a.x p.a.w = cr at *
          simp -implicitDefEqProofs [e0, hlt, h60', e1, e2, e3, hvn, hxn, hxc, f1, f2, g1, g2, g3, g4, g5, t4, t0, t1, t2, t3, hw]
          refine next V3 _ _ ?_
          simp [t0, t1, t2]
        · by_cases k2 : p.a.k = 2
          · obtain ⟨o1, o2, K1, K2, G1, G2, f1, f2, f3, f4, f5, V2⟩ := V.drop (n := p.a.n) hok h60
            obtain ⟨c1, c2, K3, K4, g1, g2, g3, g4, g5, V3, z, ⟨e, lo, K5⟩, t4, rfl, t0, t1, t2, t3, tl, tH⟩ := V2.tail (v := v) hok (by omega) i
            simp only at t0 t1 t2 t3 tl tH
            subst tl tH
            rw [k2] at e2 e3
            generalize dropE L p.a.n = ce at *
            simp -implicitDefEqProofs [e0, hlt, h60', e1, e2, e3, hvn, hxn, hxc, f1, f2, f3, f4, f5, g1, g2, g3, g4, g5, t4, t0, t1, t2, t3, hw]
            refine next V3 _ _ ?_
            simp [t0, t1, t2]
          · obtain ⟨c1, c2, K3, K4, g1, g2, g3, g4, g5, V3, z, ⟨e, lo, K5⟩, t4, rfl, t0, t1, t2, t3, tl, tH⟩ := V1.tail (v := v) hok (by omega) i
            simp only at t0 t1 t2 t3 tl tH
            subst tl tH
            simp -implicitDefEqProofs [e0, hlt, h60', e1, e2, e3, k1, k2, hvn, hxn, hxc, g1, g2, g3, g4, g5, t4, t0, t1, t2, t3, hw]
            refine next V3 _ _ ?_
            simp [t0, t1, t2]
      · have hf' : fitsB p.a.x = false := by simpa using hf
        rw [hf'] at e3
        simp -implicitDefEqProofs [e0, hlt, h60', e1, e2, e3, hvn, hxn, hxc, hw]
        refine next V1 _ _ ?_
        simp
    · have h60' : ¬ (i : Int) < 60 := by omega
      simp -implicitDefEqProofs [e0, hlt, h60', hvn]
      refine hX _ _ ?_
      exact ⟨rfl, hok0⟩
  · simp -implicitDefEqProofs [e0, hlt, hvn]
    refine hX _ _ ?_
    exact ⟨rfl, hok0⟩

theorem nPlays {H : AHeap} (hok : H.ok) {v : AV} {ps : List ActIn} (hs : Script H v ps) : OkR (call T 9 [v] H) fun r => r.1 = .bool true := by
  rw [call_at (show T 9 = some (.ir ⟨_, _, _, _, _⟩) from T9)]
  have hokT := AHeap.ok.top hok.1
  have e0 := eNew H
  have b0 : LatIn H.top (H.top.alloc (.row false 1 [.nils])) H.n [] := LatIn.new hokT
  obtain ⟨F, hF, hn⟩ := b0.rep
  have c2 := Chg.alloc (H.top.alloc (.row false 1 [.nils])) (.row false 1 [.nils])
  have r2 := RefRep2.empty b0.ok
  have V : PlayInv H.top ((H.top.alloc (.row false 1 [.nils])).alloc (.row false 1 [.nils])) H.n (H.n + 1) [] F [H.n + 1] 0 :=
    ⟨hF.chg b0.ok.1 c2 (fun _ _ => by simp), r2, hn, by simp, fun j hj => by have := latrep_lt hF j hj; simp at this ⊢; omega, c2.ok b0.ok, b0.chg.trans hokT c2 (by simp), by simp⟩
  obtain ⟨x, ⟨e, lo, K⟩, f1, rfl, hokK⟩ := play_loop hokT hs.top V
  have e1 := sAlive hokK
  simp -implicitDefEqProofs [e0, e1, f1]

theorem lawPlays : Law T 9 [.slice 4 48 act11Sh] := by
  intro H ls hw hl ha
  obtain ⟨x, rfl, ⟨v, rows, rfl, hv, _, _, hc⟩⟩ := args1 ha
  obtain ⟨ps, hs, hob⟩ := script_of2 hw hv hc
  exact law_of (nPlays ⟨hw, by omega⟩ hs)
end Go.Proofs.Ytglfchdpcididaa
