/- What Claims and Claim of latches do. No condition. -/
import Derived.Test.YtglfchdpcididaaC11S11B
set_option linter.unusedVariables false
set_option linter.unusedSimpArgs false
namespace Go.Proofs.Ytglfchdpcididaa
open Go.Wam

attribute [local simp] den_seq den_region den_regionD0 den_regionD1 den_condB condB_bool den_block den_keep den_ret den_skip den_exit sops_cons sops_nil sopsR_cons sopsR_nil goR_eq readOk trace_cons trace_nil Opd.ev evs Go.Wam.look St.put enterA zipI leaveR_ret leaveR_normal rvs RV.ev
  st_guard guardB_bool st_move st_pick pickB_bool st_allocL st_alloc st_boxL st_box st_build st_buildSlice st_load st_store st_nilCheck nilC st_bin st_un st_convI convI st_convS convS st_convB convB st_mkIface st_mkFunc st_mkMap st_mkSlice mkSl st_slice st_fieldAddr fldA st_field fldV st_idx idxS_slice idxS_oslice st_idxArr idxArr st_idxStr idxStr st_idxAgg idxAgg st_extract extA st_call callA_func st_len st_lenStr lenStr st_lenArr st_lenMap st_append st_clear clearV st_maxs st_mins
  load_ptr load_lptr storeA rd wr goOn_normal goOn_exit goOn_ret outBlock_normal outBlock_exit outBlock_ret prune freeL_nil freeL_cons frV_lptr frV_tuple frV_noL fillA allNoL packA unA checkAt ev_load wantedA beq_same beqL_same AV.beq AV.beqL drawCond freshD readsOk isRead undefA optInt optIntO
  strOp aeqF_nil aeqF_cons andA_some i_add i_sub i_mul i_lss i_leq i_gtr i_geq i_quo i_rem i_eql i_neq s_eql s_neq s_lss
  s_leq s_gtr s_geq s_add e_bool n_bool e_nilp n_nilp e_ptr n_ptr e_lptr n_lptr e_agg n_agg
  e_nils n_nils e_slice n_slice e_oslice n_oslice e_eslice n_eslice e_xslice n_xslice e_nilm n_nilm e_map n_map
  e_nilFunc n_nilFunc e_func n_func q_int q_bool q_str q_struct q_ptr0 q_ptrL0 q_ptrR0 q_ptrL1 q_ptrR1 q_slice0
  q_sliceL0 q_sliceR0 q_sliceL1 q_sliceR1 q_sliceL2 q_sliceR2 q_sliceL3 q_sliceR3 q_map0 q_mapL0 q_mapR0 q_func0 q_funcL0 q_funcR0
  okR_some guardB_tuple get_alloc_eq rdAt_alloc_eq set_alloc_eq set_alloc_ne get_alloc_ne rdAt_alloc_ne
section
variable {H K : AHeap} {l : Nat} {L : List Cl} {F G ids : List Nat} {v : AV}

def numRow (a : Cl) : List AV := [.int .i64 a.n]
theorem claims_loop (hok : H.ok) (h : LatX H l L F v ids) (hb : L.length ≤ 1000000) :
    ∃ x s', den T (.loop L41_0) ⟨[(3, .nils), (11, v), (12, .int .i64 L.length), (13, .int .i64 0)], [], H⟩ = some (x, s') ∧
      x = .exit 0 ∧ ∃ out, Go.Wam.look 3 s'.env = some out ∧ s'.loc = [] ∧ Own s'.H 1 out (L.map numRow) ∧ Chg [] H s'.H ∧ (∀ i ∈ sown out, H.n ≤ i) ∧ s'.H.low = H.low := by
  refine loop_inv (I := fun n st => ∃ (i : Nat) (K : AHeap) (out : AV), i + n = L.length ∧ st = ⟨[(3, out), (11, v), (12, .int .i64 L.length), (13, .int .i64 i)], [], K⟩ ∧ Own K 1 out ((L.take i).map numRow) ∧ Chg [] H K ∧ (∀ i ∈ sown out, H.n ≤ i) ∧ K.low = H.low) _ ?_ L.length _ ⟨0, H, .nils, by omega, by simp [prS], .nil _ _, .refl _ _, by simp, rfl⟩
  rintro n _ ⟨i, K, out, hi, rfl, hO, hC, hN, hL⟩ P hI hX hR
  by_cases hlt : i < L.length
  · have hw := wrap_id (n := (i : Int) + 1) (by omega) (by omega)
    have hXK := h.chg hok.1 hC (fun _ _ => by simp)
    have hokK := hC.ok hok
    have hv := hXK.own.view
    obtain ⟨c, xv, h1, h2, _⟩ := hXK.each i L[i] (List.getElem?_eq_getElem hlt)
    have e1 := hv.idx .i64 (n := i) (by omega) (by rw [List.length_map, h.il]; omega)
    have e2 := hv.rd (i := i) (r := [.ptr c 0]) (by rw [List.getElem?_map, h1]; rfl) false (k := 1) (f := 0) (by omega) (by omega) (by simp)
    simp only [Int.toNat_natCast, Nat.add_zero, Nat.mul_one] at e1 e2
    have hok2 := (Chg.alloc K (.row false 1 [.int .i64 L[i].n])).ok hokK
    have hO2 := hO.new hokK.1 (Chg.alloc K (.row false 1 [.int .i64 L[i].n]))
    have htmp : View (K.alloc (.row false 1 [.int .i64 L[i].n])) 1 (.slice K.n 0 1 1) [numRow L[i]] :=
      ⟨by simp [AV.sl], rfl, by simp [numRow], fun _ => ⟨false, 1, _, get_alloc_same _ _, by simp, by simp [numRow]⟩⟩
    obtain ⟨v', K', ha, hO3, hC3, hN3, hL3⟩ := hO2.append (bytes := 8) hok2 htmp (by simp) (by omega) (by simp; omega)
    have hvn : v'.noL = true := hO3.view.noL
    have hon := hO.view.noL
    simp -implicitDefEqProofs [hlt, e1, e2, rdAt_row h2, ha, hw, hvn, hon]
    refine hI _ _ _ (n - 1) (by omega) ?_
    refine ⟨i + 1, K', v', by omega, by simp, ?_, ?_, ?_, ?_⟩
    · rw [List.take_succ_eq_append_getElem hlt, List.map_append]; exact hO3
    · exact (hC.trans hok (Chg.alloc K _) (by simp)).trans hok hC3 (fun j hj => .inr (hN j hj))
    · intro j hj
      rcases hN3 j hj with hj | hj
      · exact hN j hj
      · have := hC.le; simp at hj; omega
    · rw [hL3, AHeap.alloc_low, hL]
      have : ∀ (q : List Nat) (a : Nat), (∀ i ∈ q, a ≤ i) → q.foldl min a = a := by
        intro q
        induction q with
        | nil => intro a _; rfl
        | cons b q ih => intro a hq; rw [List.foldl_cons, Nat.min_eq_left (hq b (by simp))]; exact ih a fun i hi => hq i (by simp [hi])
      exact this _ _ fun j hj => Nat.le_trans hok.2 (hN j hj)
  · have hiL : i = L.length := by omega
    rw [hiL, List.take_length] at hO
    simp -implicitDefEqProofs [hlt]
    refine hX _ _ ?_
    exact ⟨rfl, out, by simp, rfl, hO, hC, hN, hL⟩

theorem LatX.claims (hok : H.ok) (h : LatX H l L F v ids) (hb : L.length ≤ 1000000) : ∃ out K, call T 41 [.ptr l 0] H = some (out, K) ∧ Own K 1 out (L.map numRow) ∧ Chg [] H K ∧ (∀ i ∈ sown out, H.n ≤ i) := by
  obtain ⟨x, ⟨e, lo, K⟩, hl, rfl, out, h3, hloc, hO, hC, hN, hL⟩ := claims_loop (H := H.top) (AHeap.ok.top hok.1) h.top hb
  simp only at h3 hloc hO hC hN hL
  subst hloc
  have hvl := h.own.view.lenS
  rw [List.length_map, h.il] at hvl
  have hon := hO.view.noL
  refine ⟨out, Go.Wam.fin H out K, ?_, hO.fin (hO.okB hN), hC.fin hok out, hN⟩
  rw [call_at (show T 41 = some (.ir ⟨_, _, _, _, _⟩) from T41)]
  simp -implicitDefEqProofs [rdAt_row h.obj, hvl, hl, h3, hon]

theorem claim_loop {x : List Sp} {xv : AV} {n : Int} {w : Bool} (hok : H.ok) (h : LatX H l L F v ids) (hx : Sps H xv x) (cl : Cl) (hcl : cl = ⟨n, x, w⟩) :
    ∃ x s', den T (.loop L32_0) ⟨[(0, .ptr l 0), (10, .ptr H.n 0), (43, v), (44, .int .i64 L.length), (45, .int .i64 0)], [], H.alloc (clObj n xv w 0)⟩ = some (x, s') ∧
      x = .exit 1 ∧ Go.Wam.look 0 s'.env = some (.ptr l 0) ∧ Go.Wam.look 10 s'.env = some (.ptr H.n 0) ∧ s'.loc = [] ∧ s'.H = H.alloc (clObj n xv w (L.countP (collC cl))) := by
  refine loop_inv (I := fun m st => ∃ (i : Nat), i + m = L.length ∧ st = ⟨[(0, .ptr l 0), (10, .ptr H.n 0), (43, v), (44, .int .i64 L.length), (45, .int .i64 i)], [], H.alloc (clObj n xv w ((L.take i).countP (collC cl)))⟩) _ ?_ L.length _ ⟨0, by omega, by simp [prS]⟩
  rintro m _ ⟨i, hi, rfl⟩ P hI hX hR
  have hm := h.many
  by_cases hlt : i < L.length
  · have hw := wrap_id (n := (i : Int) + 1) (by omega) (by omega)
    generalize hcnt : (L.take i).countP (collC cl) = cnt
    have hcle : cnt ≤ i := by rw [← hcnt]; exact Nat.le_trans List.countP_le_length (by rw [List.length_take]; exact Nat.min_le_left _ _)
    have hw2 := wrap_id (n := (cnt : Int) + 1) (by omega) (by omega)
    have hch := Chg.alloc H (clObj n xv w cnt)
    have hXK := h.chg hok.1 hch (fun _ _ => by simp)
    have hokK := hch.ok hok
    have hv := hXK.own.view
    obtain ⟨c, yv, h1, h2, h3, _⟩ := hXK.each i L[i] (List.getElem?_eq_getElem hlt)
    have e1 := hv.idx .i64 (n := i) (by omega) (by rw [List.length_map, h.il]; omega)
    have e2 := hv.rd (i := i) (r := [.ptr c 0]) (by rw [List.getElem?_map, h1]; rfl) false (k := 1) (f := 0) (by omega) (by omega) (by simp)
    simp only [Int.toNat_natCast, Nat.add_zero, Nat.mul_one] at e1 e2
    have e3 := sCollide hokK (c := H.n) (get_alloc_same H _) (hx.alloc hok.1 _) h2 h3
    have hlow := hok.2
    have hsucc : (L.take (i + 1)).countP (collC cl) = cnt + (if collC cl L[i] = true then 1 else 0) := by
      rw [List.take_succ_eq_append_getElem hlt, List.countP_append, hcnt]; simp [List.countP_cons]
    have hcc : collB x w L[i].x L[i].w = collC cl L[i] := by rw [hcl]; rfl
    rw [hcc] at e3
    have hvn := hv.noL
    by_cases hcol : collC cl L[i] = true
    · rw [hcol] at e3
      simp only [clObj] at e1 e2 e3
      simp -implicitDefEqProofs [clObj, hlt, e1, e2, e3, hw, hw2, hvn, hlow]
      refine hI _ _ _ (m - 1) (by omega) ?_
      exact ⟨i + 1, by omega, by simp [hsucc, hcol, clObj]⟩
    · have hcol' : collC cl L[i] = false := by simpa using hcol
      rw [hcol'] at e3
      simp only [clObj] at e1 e2 e3
      simp -implicitDefEqProofs [clObj, hlt, e1, e2, e3, hw, hvn]
      refine hI _ _ _ (m - 1) (by omega) ?_
      exact ⟨i + 1, by omega, by simp [hsucc, hcol', clObj]⟩
  · have hiL : i = L.length := by omega
    rw [hiL, List.take_length]
    simp -implicitDefEqProofs [Nat.lt_irrefl]
    refine hX _ _ ?_
    exact ⟨rfl, by simp, by simp, rfl, rfl⟩

def rightS2 (s : Sp) : Bool := rightB s.1 s.2
theorem s55 {s : Sp} (hs : SmallS s) (H : AHeap) : call T 55 [.agg (rowSp s)] H = some (.bool (!rightS2 s), H) := by
  rw [call_at (show T 55 = some (.ir ⟨_, _, _, _, _⟩) from T55)]
  have e := sRight hs.1 hs.2
  simp -implicitDefEqProofs [rowSp, e, fin_pure, rightS2]

/-- May a claim be laid? The error. -/
def claimE (L : List Cl) (n : Int) (x : List Sp) : Int :=
  if L.any (fun a => decide (a.n = n)) = true then 111 else if x.length = 0 ∨ 20 < x.length ∨ x.any (fun s => !rightS2 s) = true then 51 else 0

theorem findI_any (L : List Cl) (n : Int) : (0 ≤ findI L n) = (L.any (fun a => decide (a.n = n)) = true) := by
  unfold findI
  cases h : L.findIdx? (fun a => decide (a.n = n)) with
  | none =>
    rw [List.findIdx?_eq_none_iff] at h
    simp at h ⊢
    exact h
  | some i =>
    have := List.findIdx?_eq_some_iff_findIdx_eq.1 h
    have h2 := List.findIdx_lt_length.1 (by rw [this.2]; exact this.1)
    simp at h2 ⊢
    exact h2

theorem LatX.claim_no {x : List Sp} {xv : AV} {n : Int} {w : Bool} (hok : H.ok) (h : LatX H l L F v ids) (hx : Sps H xv x) (he : claimE L n x ≠ 0) :
    call T 32 [.ptr l 0, .int .i64 n, xv, .bool w] H = some (.tuple [.bool false, .int .i64 (claimE L n x)], H) := by
  have e1 := h.top.find (AHeap.ok.top hok.1) n
  have e2 := findI_any L n
  have e3 := hx.view.lenS
  rw [List.length_map] at e3
  have e4 := sContains hx.top (g := 55) (fs := []) (cap := []) (fun s => !rightS2 s) (fun s hs => s55 (hx.small s hs) _)
  have hn := hx.view.noL
  by_cases h1 : L.any (fun a => decide (a.n = n)) = true
  · simp only [h1, eq_iff_iff, iff_true] at e2
    have hval : claimE L n x = 111 := by rw [claimE, if_pos h1]
    rw [hval, call_at (show T 32 = some (.ir ⟨_, _, _, _, _⟩) from T32)]
    simp -implicitDefEqProofs [e1, e2, fin_pure, hn]
  · rw [eq_iff_iff] at e2
    have e2' : ¬ 0 ≤ findI L n := fun h => h1 (e2.1 h)
    by_cases h2 : x.length = 0
    · have hval : claimE L n x = 51 := by rw [claimE, if_neg h1, if_pos (.inl h2)]
      have h2' : (x.length : Int) = 0 := by omega
      rw [h2'] at e3
      rw [hval, call_at (show T 32 = some (.ir ⟨_, _, _, _, _⟩) from T32)]
      simp -implicitDefEqProofs [e1, e2', e3, fin_pure, hn]
    · have h2' : ¬ (x.length : Int) = 0 := by omega
      by_cases h3 : 20 < x.length
      · have h3' : (20 : Int) < x.length := by omega
        have hval : claimE L n x = 51 := by rw [claimE, if_neg h1, if_pos (.inr (.inl h3))]
        generalize (x.length : Int) = len at *
        rw [hval, call_at (show T 32 = some (.ir ⟨_, _, _, _, _⟩) from T32)]
        simp -implicitDefEqProofs [e1, e2', e3, h2', h3', fin_pure, hn]
      · have h3' : ¬ (20 : Int) < x.length := by omega
        by_cases h4 : x.any (fun s => !rightS2 s) = true
        · have hval : claimE L n x = 51 := by rw [claimE, if_neg h1, if_pos (.inr (.inr h4))]
          rw [h4] at e4
          generalize (x.length : Int) = len at *
          rw [hval, call_at (show T 32 = some (.ir ⟨_, _, _, _, _⟩) from T32)]
          simp -implicitDefEqProofs [e1, e2', e3, h2', h3', e4, fin_pure, hn]
        · exact absurd (by rw [claimE, if_neg h1, if_neg (by rintro (h | h | h) <;> contradiction)]) he

theorem claimE_ok {n : Int} {x : List Sp} (he : claimE L n x = 0) : L.any (fun a => decide (a.n = n)) = false ∧ x.length ≠ 0 ∧ x.length ≤ 20 ∧ x.any (fun s => !rightS2 s) = false := by
  unfold claimE at he
  split at he
  · cases he
  · rename_i h1
    split at he
    · cases he
    · rename_i h2
      refine ⟨by simpa using h1, fun h => h2 (.inl h), Nat.le_of_not_lt fun h => h2 (.inr (.inl h)), ?_⟩
      cases h : x.any (fun s => !rightS2 s) with
      | false => rfl
      | true => exact absurd (.inr (.inr h)) h2

theorem sown_nodup (v : AV) : (sown v).Nodup := by cases v <;> simp [sown]
theorem nd_ext {l c N : Nat} {s s' ids : List Nat} (h : (l :: (s ++ ids)).Nodup) (hs : s'.Nodup) (hm : ∀ i ∈ s', i ∈ s ∨ N ≤ i) (hc : ∀ i ∈ l :: (s ++ ids), i < c) (hN : c < N) : (l :: (s' ++ (ids ++ [c]))).Nodup := by
  simp only [List.nodup_cons, List.nodup_append, List.mem_append, List.mem_cons, List.mem_singleton, not_or, ne_eq, List.not_mem_nil, not_false_eq_true, List.nodup_nil, and_self, or_false, forall_eq_or_imp] at *
  obtain ⟨⟨h1, h2⟩, h3, h4, h5⟩ := h
  obtain ⟨c0, c1⟩ := hc
  refine ⟨⟨fun hi => ?_, h2, by omega⟩, hs, ⟨h4, trivial, fun a ha b hb => by subst hb; intro e; have := c1 a (.inr ha); omega⟩, fun a ha b hb e => ?_⟩
  · rcases hm l hi with h | h
    · exact h1 h
    · omega
  · subst e
    rcases hm a ha with h | h
    · rcases hb with hb | hb
      · exact h5 a h a hb rfl
      · subst hb; have := c1 a (.inl h); omega
    · rcases hb with hb | hb
      · have := c1 a (.inr hb); omega
      · omega

theorem aheadC_append (L M : List Cl) {i : Nat} (hi : i < L.length) : aheadC (L ++ M) i = aheadC L i := by
  unfold aheadC
  rw [List.getElem?_append_left hi, List.take_append_of_le_length (by omega)]
theorem aheadC_last (L : List Cl) (a : Cl) : aheadC (L ++ [a]) L.length = L.countP (collC a) := by
  unfold aheadC
  simp

/-- A claim that is laid. -/
theorem LatX.claim {x : List Sp} {xv : AV} {n : Int} {w : Bool} (hok : H.ok) (h : LatX H l L F v ids) (hx : Sps H xv x) (he : claimE L n x = 0) (hm : L.length < 1000000) :
    ∃ K F', call T 32 [.ptr l 0, .int .i64 n, xv, .bool w] H = some (.tuple [.bool (decide (L.countP (collC ⟨n, x, w⟩) = 0)), .int .i64 0], K) ∧ LatRep K l (L ++ [⟨n, x, w⟩]) F' ∧ Chg F H K ∧ (∀ i ∈ F', i ∈ F ∨ H.n ≤ i) ∧ (∀ i ∈ F, i ∈ F') := by
  obtain ⟨c1, c2, c3, c4⟩ := claimE_ok he
  have e1 := h.top.find (AHeap.ok.top hok.1) n
  have e2 := findI_any L n
  rw [c1, eq_iff_iff] at e2
  have e2' : ¬ 0 ≤ findI L n := fun h => by have := e2.1 h; simp at this
  have e3 := hx.view.lenS
  rw [List.length_map] at e3
  have e4 := sContains hx.top (g := 55) (fs := []) (cap := []) (fun s => !rightS2 s) (fun s hs => s55 (hx.small s hs) _)
  rw [c4] at e4
  have hn := hx.view.noL
  have h2' : ¬ x = [] := fun h => c2 (by rw [h]; rfl)
  have h3' : ¬ (20 : Int) < x.length := by omega
  obtain ⟨xv', K1, e5, m1, _, hn', low1⟩ := clone (T := T) (H := H.top) (k := 57) (sz := 2) (bytes := 32) T57 (AHeap.ok.top hok.1) (by omega) hx.view.top (by rw [List.length_map]; omega)
  have hok1 := m1.chg.ok (AHeap.ok.top hok.1)
  have hX1 := h.top.chg (show H.top.wf from hok.1) m1.chg (fun _ _ => by simp)
  have hx1 : Sps K1 xv' x := ⟨m1.view, hx.small, hx.len⟩
  obtain ⟨y, ⟨e, lo, K⟩, e6, rfl, g0, g10, gl, gH⟩ := claim_loop (l := l) (n := n) (w := w) hok1 hX1 hx1 ⟨n, x, w⟩ rfl
  simp only at g0 g10 gl gH
  subst gl gH
  have hlast := aheadC_last L ⟨n, x, w⟩
  generalize L.countP (collC ⟨n, x, w⟩) = cnt at *
  -- where all stands
  have hfl : ∀ i ∈ l :: (sown v ++ ids), i < H.n := fun i hi => h.lt i (h.sub i hi)
  have hKn : H.n ≤ K1.n := m1.chg.le
  have hll : l < H.n := hfl l (by simp)
  have hsl : ∀ i ∈ sown v, i < H.n := fun i hi => hfl i (by simp [hi])
  have hnd := h.nd
  have hlv : l ∉ sown v := fun hi => by simp [hi] at hnd
  have c2' := Chg.alloc K1 (clObj n xv' w cnt)
  have ok2 := c2'.ok hok1
  have c3' := Chg.alloc (K1.alloc (clObj n xv' w cnt)) (.row false 1 [.ptr K1.n 0])
  have ok3 := c3'.ok ok2
  have hX2 := hX1.chg hok1.1 c2' (fun _ _ => by simp)
  have hX3 := hX2.chg ok2.1 c3' (fun _ _ => by simp)
  have htmp : View ((K1.alloc (clObj n xv' w cnt)).alloc (.row false 1 [.ptr K1.n 0])) 1 (.slice (K1.n + 1) 0 1 1) [[.ptr K1.n 0]] :=
    ⟨by simp [AV.sl], rfl, by simp, fun _ => ⟨false, 1, _, get_alloc_same (K1.alloc _) _, by simp, by simp⟩⟩
  obtain ⟨v', K2, ha, hO, c4', hN, hL⟩ := hX3.own.append (bytes := 8) ok3 htmp (by simp) (by omega) (by rw [List.length_map, h.il]; simp; omega)
  have ok4 := c4'.ok ok3
  have hKt : ((K1.alloc (clObj n xv' w cnt)).alloc (.row false 1 [.ptr K1.n 0])).n = K1.n + 2 := rfl
  have hg2 : K2.get l = some (.row false 1 [v]) := by rw [c4'.get l (by rw [hKt]; omega) hlv]; exact hX3.obj
  have c5' := Chg.set K2 l (.row false 1 [v'])
  have hgc : (K2.set l (.row false 1 [v'])).get K1.n = some (clObj n xv' w cnt) := by
    rw [get_set_ne _ _ (by omega), c4'.get _ (by rw [hKt]; omega) (fun hi => by have := hsl _ hi; omega), get_alloc_ne _ _ (by simp)]
    exact get_alloc_same K1 _
  have hlow : (K2.set l (.row false 1 [v'])).low ≤ l := by rw [AHeap.set_low]; split <;> omega
  have ctot : Chg (l :: sown v) H.top (K2.set l (.row false 1 [v'])) :=
    ((((m1.chg.trans (AHeap.ok.top hok.1) c2' (by simp)).trans (AHeap.ok.top hok.1) c3' (by simp)).mono (G := l :: sown v) (by simp)).trans (AHeap.ok.top hok.1) c4' (fun i hi => .inl (by simp [hi]))).trans (AHeap.ok.top hok.1) c5' (by simp)
  have cK : Chg (l :: sown v) K1 (K2.set l (.row false 1 [v'])) :=
    (((c2'.trans hok1 c3' (by simp)).mono (G := l :: sown v) (by simp)).trans hok1 c4' (fun i hi => .inl (by simp [hi]))).trans hok1 c5' (by simp)
  have hfin := fin_keep (H := H) (K := K2.set l (.row false 1 [v'])) (v := .tuple [.bool (decide (cnt = 0)), .int .i64 0]) (.inl (by omega))
  have hxn : 0 < (x.map rowSp).length := by rw [List.length_map]; omega
  have hxid : sid xv' < K1.n := m1.view.lt hok1.1 hxn
  have hxid2 : H.n ≤ sid xv' := m1.new hxn
  have hv'n : v'.noL = true := hO.view.noL
  have hvn : v.noL = true := h.own.view.noL
  have hN' : ∀ i ∈ sown v', i ∈ sown v ∨ K1.n + 2 ≤ i := hN
  have hvl := hX2.own.view.lenS
  rw [List.length_map, h.il] at hvl
  have hcx := m1.view.cells
  have hcv := hO.view.cells
  have hl2 := rdAt_row hX2.obj
  refine ⟨(K2.set l (.row false 1 [v'])).lowered H.low, F ++ (K1.n :: sid xv' :: sown v'), ?_, ⟨v', ids ++ [K1.n], ?_⟩, (ctot.lowered hok).mono (fun i hi => ?_), ?_, fun i hi => by simp [hi]⟩
  · rw [call_at (show T 32 = some (.ir ⟨_, _, _, _, _⟩) from T32)]
    have hr := rdAt_row hgc
    simp only [clObj] at *
    have hl0 := rdAt_alloc_of (H := K1) (x := .row false 4 [.int .i64 n, xv', .bool w, .int .i64 0]) hok1.1 hX1.obj
    simp -implicitDefEqProofs [e1, e2', e3, h2', h3', e4, e5, hn, hn', hl0, hl2, hvl, hvn, e6, g0, g10, ha, hv'n, hg2, hr, hfin, hcx, hcv]
  · refine ⟨by rw [lowered_get]; exact get_set_same _ _ (by rw [hg2]; rfl), ?_, by simp [h.il], ?_, nd_ext h.nd (sown_nodup v') hN' (fun i hi => by have := hfl i hi; omega) (by omega), ?_, ?_, by simp; omega⟩
    · rw [List.map_append]
      refine hO.frame fun i hi => ?_
      rw [lowered_get, get_set_ne]
      rintro rfl
      rcases hN' _ hi with h | h
      · exact hlv h
      · omega
    · intro i a hi
      by_cases hiL : i < L.length
      · rw [List.getElem?_append_left hiL] at hi
        obtain ⟨c, yv, h1, h2, h3, h4⟩ := hX1.each i a hi
        have hcm : c ∈ ids := List.mem_of_getElem? h1
        have hcl : c < H.n := hfl c (by simp [hcm])
        have hcn : c ∉ l :: sown v := fun hx => by
          rcases List.mem_cons.1 hx with rfl | hx
          · simp [hcm] at hnd
          · simp only [List.nodup_cons, List.nodup_append] at hnd
            exact hnd.2.2.2 c hx c hcm rfl
        refine ⟨c, yv, by rw [List.getElem?_append_left (by rw [h.il]; exact hiL)]; exact h1, ?_, ?_, fun hr => ⟨?_, by simp [(h4 hr).2]⟩⟩
        · rw [lowered_get, cK.get c (by omega) hcn, aheadC_append _ _ hiL]; exact h2
        · refine (h3.chg hok1.1 cK fun hr => ?_).view |> fun hv => ⟨hv.frame fun _ => rfl, h3.small, h3.len⟩
          have := (h4 hr).1
          simp only [List.mem_cons, List.mem_append, not_or] at this ⊢
          exact ⟨this.1, this.2.1⟩
        · have g1 := (h4 hr).1
          have g2 := h.lt _ (h4 hr).2
          simp only [List.mem_cons, List.mem_append, not_or, List.not_mem_nil, not_false_eq_true, and_true] at g1 ⊢
          refine ⟨g1.1, fun hi => ?_, g1.2.2, by omega⟩
          rcases hN' _ hi with h | h
          · exact g1.2.1 h
          · omega
      · have hiL2 : i = L.length := by
          have := (List.getElem?_eq_some_iff.1 hi).1
          simp at this; omega
        subst hiL2
        rw [List.getElem?_append_right (Nat.le_refl _)] at hi
        simp at hi
        subst hi
        refine ⟨K1.n, xv', by rw [← h.il]; simp, by rw [lowered_get, hlast]; exact hgc, ?_, fun _ => ⟨?_, by simp⟩⟩
        · refine (hx1.chg hok1.1 cK fun _ => ?_).view |> fun hv => ⟨hv.frame fun _ => rfl, hx.small, hx.len⟩
          simp only [List.mem_cons, not_or]
          exact ⟨by omega, fun hi => by have := hsl _ hi; omega⟩
        · simp only [List.mem_cons, List.mem_append, not_or, List.not_mem_nil, not_false_eq_true, and_true]
          refine ⟨by omega, fun hi => ?_, fun hi => ?_, by omega⟩
          · rcases hN' _ hi with h | h
            · have := hsl _ h; omega
            · omega
          · have := hfl _ (show sid xv' ∈ l :: (sown v ++ ids) by simp [hi]); omega
    · intro i hi
      simp only [List.mem_cons, List.mem_append, List.not_mem_nil, or_false] at hi ⊢
      rcases hi with hi | hi | hi | hi
      · exact .inl (h.sub i (by simp [hi]))
      · exact .inr (.inr (.inr hi))
      · exact .inl (h.sub i (by simp [hi]))
      · exact .inr (.inl hi)
    · intro i hi
      have hk2 := c4'.le
      rw [hKt] at hk2
      simp only [lowered_n, AHeap.set_n]
      simp only [List.mem_cons, List.mem_append] at hi
      rcases hi with hi | hi | hi | hi
      · have := h.lt i hi; omega
      · omega
      · omega
      · exact hO.lt ok4.1 i hi
  · exact h.sub i (by
      simp only [List.mem_cons, List.mem_append] at hi ⊢
      rcases hi with hi | hi
      · exact .inl hi
      · exact .inr (.inl hi))
  · intro i hi
    simp only [List.mem_cons, List.mem_append] at hi
    rcases hi with hi | hi | hi | hi
    · exact .inl hi
    · right; omega
    · right; omega
    · rcases hN' i hi with h' | h'
      · exact .inl (h.sub i (by simp [h']))
      · right; omega
end
end Go.Proofs.Ytglfchdpcididaa
