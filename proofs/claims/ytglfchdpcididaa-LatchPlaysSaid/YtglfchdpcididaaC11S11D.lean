/- What Drop of latches does. No condition. -/
import Derived.Test.YtglfchdpcididaaC11S11C
set_option linter.unusedVariables false
set_option linter.unusedSimpArgs false
namespace Go.Proofs.Ytglfchdpcididaa
open Go.Wam

attribute [local simp] den_seq den_region den_regionD0 den_regionD1 den_condB condB_bool den_block den_keep den_ret den_skip den_exit sops_cons sops_nil sopsR_cons sopsR_nil goR_eq readOk trace_cons trace_nil Opd.ev evs Go.Wam.look St.put enterA zipI leaveR_ret leaveR_normal rvs RV.ev
  st_guard guardB_bool st_move st_pick pickB_bool st_allocL st_alloc st_boxL st_box st_build st_buildSlice st_load st_store st_nilCheck nilC st_bin st_un st_convI convI st_convS convS st_convB convB st_mkIface st_mkFunc st_mkMap st_mkSlice mkSl st_slice st_fieldAddr fldA st_field fldV st_idx idxS_slice idxS_oslice st_idxArr idxArr st_idxStr idxStr st_idxAgg idxAgg st_extract extA st_call callA_func st_len st_lenStr lenStr st_lenArr st_lenMap st_append st_clear clearV st_maxs st_mins
  load_ptr load_lptr storeA rd wr goOn_normal goOn_exit goOn_ret outBlock_normal outBlock_exit outBlock_ret prune freeL_nil freeL_cons frV_lptr frV_tuple frV_noL fillA allNoL packA unA checkAt ev_load wantedA beq_same beqL_same AV.beq AV.beqL drawCond freshD readsOk isRead undefA optInt optIntO
  strOp aeqF_nil aeqF_cons andA_some i_add i_sub i_mul i_lss i_leq i_gtr i_geq i_quo i_rem i_eql i_neq s_eql s_neq s_lss
  s_leq s_gtr s_geq s_add e_bool n_bool e_nilp n_nilp e_ptr n_ptr e_lptr n_lptr e_agg n_agg
  e_nils n_nils e_slice n_slice e_oslice n_oslice e_eslice n_eslice e_xslice n_xslice e_nilm n_nilm e_map n_map
  e_nilFunc n_nilFunc e_func n_func q_int q_bool q_str q_struct q_ptr0 q_ptrL0 q_ptrR0 q_ptrL1 q_ptrR1 q_slice0
  q_sliceL0 q_sliceR0 q_sliceL1 q_sliceR1 q_sliceL2 q_sliceR2 q_sliceL3 q_sliceR3 q_map0 q_mapL0 q_mapR0 q_func0 q_funcL0 q_funcR0
  okR_some guardB_tuple get_alloc_eq rdAt_alloc_eq set_alloc_eq set_alloc_ne get_alloc_ne rdAt_alloc_ne
theorem erase_split (L : List Cl) {i : Nat} (hi : i < L.length) : L.eraseIdx i = L.take i ++ L.drop (i + 1) ∧ L = L.take i ++ (L[i] :: L.drop (i + 1)) :=
  ⟨List.eraseIdx_eq_take_drop_succ .., by rw [List.getElem_cons_drop, List.take_append_drop]⟩
theorem take_split (L : List Cl) {i k : Nat} (hk : i ≤ k) (hi : i < L.length) : L.take (k + 1) = L.take i ++ (L[i] :: (L.drop (i + 1)).take (k - i)) := by
  conv => lhs; rw [(erase_split L hi).2]
  rw [List.take_append, List.length_take, Nat.min_eq_left (by omega)]
  rw [List.take_of_length_le (by rw [List.length_take]; omega), show k + 1 - i = (k - i) + 1 by omega, List.take_succ_cons]
theorem aheadC_erase_lt {L : List Cl} {i k : Nat} (hi : i < L.length) (hk : k < i) : aheadC (L.eraseIdx i) k = aheadC L k := by
  unfold aheadC
  rw [List.getElem?_eraseIdx, if_pos hk, (erase_split L hi).1, List.take_append_of_le_length (by rw [List.length_take]; omega), List.take_take, Nat.min_eq_left (by omega)]
theorem aheadC_erase_ge {L : List Cl} {i k : Nat} (hi : i < L.length) (hk : i ≤ k) (hk2 : k + 1 < L.length) : aheadC L (k + 1) = aheadC (L.eraseIdx i) k + (if collC L[k + 1] L[i] = true then 1 else 0) := by
  unfold aheadC
  rw [List.getElem?_eraseIdx, if_neg (by omega), List.getElem?_eq_getElem hk2]
  simp only
  have e1 : (L.take i ++ L.drop (i + 1)).take k = L.take i ++ (L.drop (i + 1)).take (k - i) := by
    rw [List.take_append, List.length_take, Nat.min_eq_left (by omega), List.take_of_length_le (l := L.take i) (by rw [List.length_take]; omega)]
  rw [take_split L hk hi, (erase_split L hi).1, e1, List.countP_append, List.countP_append, List.countP_cons]
  omega

/-- Who becomes free when the claim at i goes: of the k claims behind it. -/
def freedTo (L : List Cl) (g : Cl) (i k : Nat) : List Cl :=
  (List.range' (i + 1) k).filterMap fun j => match L[j]? with
    | some a => if collC a g = true ∧ aheadC L j = 1 then some a else none
    | none => none
theorem freedTo_succ (L : List Cl) (g : Cl) (i k : Nat) (a : Cl) (h : L[i + 1 + k]? = some a) : freedTo L g i (k + 1) = freedTo L g i k ++ (if collC a g = true ∧ aheadC L (i + 1 + k) = 1 then [a] else []) := by
  unfold freedTo
  rw [List.range'_concat, List.filterMap_append, Nat.one_mul]
  congr 1
  simp only [List.filterMap_cons, List.filterMap_nil, h]
  by_cases hc : collC a g = true ∧ aheadC L (i + 1 + k) = 1
  · simp only [if_pos hc]
  · simp only [if_neg hc]

section
variable {H K : AHeap} {l : Nat} {L : List Cl} {F G ids : List Nat} {v : AV}

/-- The claims, while those behind i are told that it goes. -/
structure Going (H : AHeap) (L : List Cl) (F ids W : List Nat) (g : Cl) (i k : Nat) : Prop where
  each : ∀ j a, L[j]? = some a → ∃ c xv, ids[j]? = some c ∧ H.get c = some (clObj a.n xv a.w (if i < j ∧ j < i + 1 + k ∧ collC a g = true then (aheadC L j : Int) - 1 else aheadC L j)) ∧ Sps H xv a.x ∧ (0 < a.x.length → sid xv ∉ W ∧ sid xv ∈ F)

theorem ids_inj (hnd : ids.Nodup) {i j c : Nat} (h1 : ids[i]? = some c) (h2 : ids[j]? = some c) : i = j := by
  obtain ⟨a1, a2⟩ := List.getElem?_eq_some_iff.1 h1
  obtain ⟨b1, b2⟩ := List.getElem?_eq_some_iff.1 h2
  exact (List.getElem_inj hnd).1 (a2.trans b2.symm)

theorem drop_loop {i : Nat} {W : List Nat} {g : Cl} {gid : Nat} {u : AV} (hok : H.ok) (hi : i < L.length) (hg : L[i] = g) (hgi : ids[i]? = some gid)
    (hidl : ids.length = L.length) (hnd : ids.Nodup) (hidF : ∀ c ∈ ids, c < H.n) (hFn : ∀ c ∈ F, c < H.n) (hu : View H 1 u ((ids.map fun c => [.ptr c 0]).drop (i + 1))) (hud : ∀ c ∈ ids, 0 < ((ids.map fun c => [AV.ptr c 0]).drop (i + 1)).length → sid u ≠ c)
    (hW : ∀ c ∈ ids, c ∈ W) (h0 : Going H L F ids W g i 0) (hb : L.length ≤ 1000000) :
    ∃ x s', den T (.loop L33_0) ⟨[(0, .ptr l 0), (6, .int .i64 i), (7, .ptr gid 0), (8, .nils), (31, u), (32, .int .i64 (L.length - (i + 1) : Nat)), (33, .int .i64 0)], [], H⟩ = some (x, s') ∧
      x = .exit 0 ∧ ∃ out, Go.Wam.look 0 s'.env = some (.ptr l 0) ∧ Go.Wam.look 6 s'.env = some (.int .i64 i) ∧ Go.Wam.look 8 s'.env = some out ∧ s'.loc = [] ∧ Own s'.H 1 out ((freedTo L g i (L.length - (i + 1))).map numRow) ∧ Chg ids H s'.H ∧ (∀ j ∈ sown out, H.n ≤ j) ∧ Going s'.H L F ids W g i (L.length - (i + 1)) := by
  refine loop_inv (I := fun m st => ∃ (k : Nat) (K : AHeap) (out : AV), k + m = L.length - (i + 1) ∧ st = ⟨[(0, .ptr l 0), (6, .int .i64 i), (7, .ptr gid 0), (8, out), (31, u), (32, .int .i64 (L.length - (i + 1) : Nat)), (33, .int .i64 k)], [], K⟩ ∧ Own K 1 out ((freedTo L g i k).map numRow) ∧ Chg ids H K ∧ (∀ j ∈ sown out, H.n ≤ j) ∧ Going K L F ids W g i k) _ ?_ (L.length - (i + 1)) _ ⟨0, H, .nils, by omega, by simp [prS], .nil _ _, .refl _ _, by simp, h0⟩
  rintro m _ ⟨k, K, out, hk, rfl, hO, hC, hN, hG⟩ P hI hX hR
  have hon := hO.view.noL
  by_cases hlt : k < L.length - (i + 1)
  · have hw := wrap_id (n := (k : Int) + 1) (by omega) (by omega)
    have hltI : (k : Int) < (L.length - (i + 1) : Nat) := by omega
    have hj : i + 1 + k < L.length := by omega
    have hokK := hC.ok hok
    have hlen : ((ids.map fun c => [AV.ptr c 0]).drop (i + 1)).length = L.length - (i + 1) := by simp [hidl]
    have huK : View K 1 u ((ids.map fun c => [.ptr c 0]).drop (i + 1)) := hu.chg hok.1 hC fun hr hc => hud _ hc hr rfl
    obtain ⟨c, yv, h1, h2, h3, h4⟩ := hG.each (i + 1 + k) L[i + 1 + k] (List.getElem?_eq_getElem hj)
    obtain ⟨gid', gv, g1, g2, g3, g4⟩ := hG.each i L[i] (List.getElem?_eq_getElem hi)
    rw [hgi] at g1
    cases g1
    rw [if_neg (by omega)] at g2
    rw [hg] at g2 g3
    have e1 := huK.idx .i64 (n := k) (by omega) (by rw [hlen]; exact hltI)
    have e2 := huK.rd (i := k) (r := [.ptr c 0]) (by rw [List.getElem?_drop, List.getElem?_map, h1]; rfl) false (k := 1) (f := 0) (by omega) (by omega) (by simp)
    simp only [Int.toNat_natCast, Nat.add_zero, Nat.mul_one] at e1 e2
    have e3 := sCollide hokK h2 h3 g2 g3
    have hcc : collB L[i + 1 + k].x L[i + 1 + k].w g.x g.w = collC L[i + 1 + k] g := rfl
    rw [hcc] at e3
    have hfr := freedTo_succ L g i k L[i + 1 + k] (List.getElem?_eq_getElem hj)
    rw [if_neg (by omega)] at h2
    have hsome : (K.get c).isSome = true := by rw [h2]; rfl
    have hcid : c ∈ ids := List.mem_of_getElem? h1
    have hcn : c < H.n := hidF c hcid
    have hcK : c < K.n := Nat.lt_of_lt_of_le hcn hC.le
    by_cases hcol : collC L[i + 1 + k] g = true
    · rw [hcol] at e3
      -- it is told
      have hge : 1 ≤ aheadC L (i + 1 + k) := by
        have := aheadC_erase_ge (L := L) (i := i) (k := i + k) hi (by omega) (by omega)
        simp only [show i + k + 1 = i + 1 + k by omega, hg, hcol, if_true] at this
        omega
      have hwa := wrap_id (n := (aheadC L (i + 1 + k) : Int) - 1) (by omega) (by
        have : aheadC L (i + 1 + k) ≤ L.length := by
          unfold aheadC
          rw [List.getElem?_eq_getElem hj]
          exact Nat.le_trans List.countP_le_length (by rw [List.length_take]; exact Nat.min_le_right _ _)
        omega)
      obtain ⟨B, hB⟩ : ∃ B : Int, B = (aheadC L (i + 1 + k) : Int) - 1 := ⟨_, rfl⟩
      replace hwa : IntKind.i64.wrap ((aheadC L (i + 1 + k) : Int) - 1) = B := hwa.trans hB.symm
      have cS := Chg.set K c (clObj L[i + 1 + k].n yv L[i + 1 + k].w B)
      have hokS := cS.ok hokK
      have hG' : Going (K.set c (clObj L[i + 1 + k].n yv L[i + 1 + k].w B)) L F ids W g i (k + 1) := ⟨fun j a ha => by
        obtain ⟨c', xv', q1, q2, q3, q4⟩ := hG.each j a ha
        have hsp : Sps (K.set c (clObj L[i + 1 + k].n yv L[i + 1 + k].w B)) xv' a.x := q3.chg hokK.1 cS fun hr => by
          simp only [List.mem_singleton]
          intro e; exact (q4 hr).1 (hW _ (e ▸ hcid))
        by_cases hjk : j = i + 1 + k
        · subst hjk
          rw [h1] at q1
          cases q1
          rw [List.getElem?_eq_getElem hj] at ha
          cases ha
          rw [h2] at q2
          rw [if_neg (by omega)] at q2
          simp only [clObj, Option.some.injEq, AObj.row.injEq, List.cons.injEq, and_true, true_and] at q2
          refine ⟨c, xv', h1, ?_, hsp, q4⟩
          rw [get_set_same _ _ hsome, if_pos ⟨by omega, by omega, hcol⟩, q2, hB]
        · refine ⟨c', xv', q1, ?_, hsp, q4⟩
          rw [get_set_ne _ _ (by intro e; rw [e] at q1; exact hjk (ids_inj hnd q1 h1)), q2]
          congr 3
          have : (i < j ∧ j < i + 1 + (k + 1) ∧ collC a g = true) = (i < j ∧ j < i + 1 + k ∧ collC a g = true) := by
            rw [eq_iff_iff]; constructor <;> (rintro ⟨a, b, c⟩; exact ⟨a, by omega, c⟩)
          simp only [this]⟩
      have hCS : Chg ids H (K.set c (clObj L[i + 1 + k].n yv L[i + 1 + k].w B)) := hC.trans hok cS (fun j hj => by simp at hj; subst hj; exact .inl hcid)
      have hgS : (K.set c (clObj L[i + 1 + k].n yv L[i + 1 + k].w B)).get c = some (clObj L[i + 1 + k].n yv L[i + 1 + k].w B) := get_set_same _ _ hsome
      have hOS : Own (K.set c (clObj L[i + 1 + k].n yv L[i + 1 + k].w B)) 1 out ((freedTo L g i k).map numRow) := hO.chg hokK.1 cS fun j hj => by
        simp only [List.mem_singleton]; have := hN j hj; omega
      by_cases h1a : aheadC L (i + 1 + k) = 1
      · -- it becomes free
        rw [if_pos ⟨hcol, h1a⟩] at hfr
        generalize hKS : K.set c (clObj L[i + 1 + k].n yv L[i + 1 + k].w B) = KS at *
        have cT := Chg.alloc KS (.row false 1 [.int .i64 L[i + 1 + k].n])
        have hokT := cT.ok hokS
        have htmp : View (KS.alloc (.row false 1 [.int .i64 L[i + 1 + k].n])) 1 (.slice KS.n 0 1 1) [numRow L[i + 1 + k]] :=
          ⟨by simp [AV.sl], rfl, by simp [numRow], fun _ => ⟨false, 1, _, get_alloc_same _ _, by simp, by simp [numRow]⟩⟩
        have hfl : (freedTo L g i k).length ≤ L.length := by
          unfold freedTo
          refine Nat.le_trans (List.length_filterMap_le _ _) ?_
          simp; omega
        obtain ⟨v', K', ha, hO3, hC3, hN3, hL3⟩ := (hOS.new hokS.1 cT).append (bytes := 8) hokT htmp (by simp) (by omega) (by rw [List.length_map]; simp; omega)
        have hv'n := hO3.view.noL
        have hN3' : ∀ j ∈ sown v', H.n ≤ j := fun j hj => by
          rcases hN3 j hj with h | h
          · exact hN j h
          · have := hCS.le; simp at h; omega
        have hKn : KS.n = K.n := by rw [← hKS]; rfl
        have hdisj : ∀ j ∈ sown out, j ∉ ids := fun j hj hji => by have := hN j hj; have := hidF j hji; omega
        have ctot := (hCS.trans hok cT (by simp)).trans hok hC3 (fun j hj => .inr (hN j hj))
        have hG'' : Going K' L F ids W g i (k + 1) := ⟨fun j a ha => by
          obtain ⟨c', xv', q1, q2, q3, q4⟩ := hG'.each j a ha
          have hc'm : c' ∈ ids := List.mem_of_getElem? q1
          have hc'n : c' < H.n := hidF c' hc'm
          have hc'S : c' < KS.n := Nat.lt_of_lt_of_le hc'n hCS.le
          refine ⟨c', xv', q1, ?_, (q3.chg hokS.1 cT (by simp)).chg hokT.1 hC3 (fun hr hs => ?_), q4⟩
          · rw [hC3.get c' (by simp; omega) (fun hs => hdisj _ hs hc'm), cT.get c' hc'S (by simp)]; exact q2
          · have := hN _ hs; have := hFn _ (q4 hr).2; omega⟩
        have hr2 := rdAt_row hgS
        have hr := rdAt_row h2
        simp only [clObj] at hKS h2 hgS hr hr2 e1 e2 e3
        have hz : decide (B = 0) = true := by rw [hB, h1a]; rfl
        simp -implicitDefEqProofs [hltI, e1, e2, e3, hr, h2, hwa, hKS, hr2, hw, hon, hv'n, hz, ha]
        refine hI _ _ _ (m - 1) (by omega) ?_
        exact ⟨k + 1, K', v', by omega, by simp, by rw [hfr, List.map_append]; exact hO3, ctot, hN3', hG''⟩
      · rw [if_neg (by intro h; exact h1a h.2), List.append_nil] at hfr
        have hz : decide (B = 0) = false := decide_eq_false (by rw [hB]; omega)
        have hr2 := rdAt_row hgS
        have hr := rdAt_row h2
        simp only [clObj] at h2 hgS hr hr2 e1 e2 e3
        simp -implicitDefEqProofs [hltI, e1, e2, e3, hr, h2, hwa, hr2, hw, hon, hz]
        refine hI _ _ _ (m - 1) (by omega) ?_
        simp only [clObj] at hOS hCS hG'
        exact ⟨k + 1, _, out, by omega, by simp, by rw [hfr]; exact hOS, hCS, hN, hG'⟩
    · have hcol' : collC L[i + 1 + k] g = false := by simpa using hcol
      rw [hcol'] at e3
      rw [if_neg (by intro h; exact hcol h.1), List.append_nil] at hfr
      simp -implicitDefEqProofs [hltI, e1, e2, e3, hw, hon]
      refine hI _ _ _ (m - 1) (by omega) ?_
      refine ⟨k + 1, K, out, by omega, by simp, by rw [hfr]; exact hO, hC, hN, ⟨fun j a ha => ?_⟩⟩
      obtain ⟨c', xv', q1, q2, q3, q4⟩ := hG.each j a ha
      refine ⟨c', xv', q1, ?_, q3, q4⟩
      rw [q2]
      by_cases hjk : j = i + 1 + k
      · subst hjk
        rw [List.getElem?_eq_getElem hj] at ha
        cases ha
        rw [if_neg (by omega), if_neg (by rintro ⟨_, _, h⟩; exact hcol h)]
      · have : (i < j ∧ j < i + 1 + (k + 1) ∧ collC a g = true) = (i < j ∧ j < i + 1 + k ∧ collC a g = true) := by
          rw [eq_iff_iff]; constructor <;> (rintro ⟨a, b, c⟩; exact ⟨a, by omega, c⟩)
        simp only [this]
  · have hkk : k = L.length - (i + 1) := by omega
    have hltI : ¬ (k : Int) < (L.length - (i + 1) : Nat) := by omega
    simp -implicitDefEqProofs [hltI]
    refine hX _ _ ?_
    rw [hkk] at hO hG
    exact ⟨rfl, out, by simp, by simp, by simp, rfl, hO, hC, hN, hG⟩

/-- What is behind a place of one's own list. -/
theorem own_dropv {H : AHeap} {v : AV} {rows : List (List AV)} {sz i : Nat} (h : Own H sz v rows) (hi : i < rows.length) :
    ∃ u, sliceA (.slice sz) v (i + 1) none none = some u ∧ View H sz u (rows.drop (i + 1)) ∧ (0 < (rows.drop (i + 1)).length → sid u = sid v) := by
  obtain ⟨he, ⟨_, rfl⟩ | ⟨id, kc, rest, rfl, hk, hkr, hg⟩⟩ := h
  · simp at hi
  have hin : inB rows.length kc (i + 1) none none = true := by simp [inB]; omega
  have hfl : rows.flatten.length = rows.length * sz := flatten_len he
  have hsp : (rows.take (i + 1)).flatten.length = (i + 1) * sz := by
    rw [flatten_len (sz := sz) (fun r hr => he r (List.mem_of_mem_take hr)), List.length_take, Nat.min_eq_left (by omega)]
  have hsd : (rows.drop (i + 1)).flatten.length = (rows.length - (i + 1)) * sz := by
    rw [flatten_len (sz := sz) (fun r hr => he r (List.mem_of_mem_drop hr)), List.length_drop]
  have hcut : rows.flatten = (rows.take (i + 1)).flatten ++ (rows.drop (i + 1)).flatten := by rw [← List.flatten_append, List.take_append_drop]
  by_cases hlt : i + 1 < kc
  · refine ⟨.oslice id (0 + (i + 1) * sz) (rows.length - (i + 1)) (kc - (i + 1)) sz, by simp [sliceA, hin, hlt], ⟨?_, by simp, fun r hr => he r (List.mem_of_mem_drop hr), fun _ => ⟨false, sz, _, hg, ?_, ?_⟩⟩, fun _ => rfl⟩
    · simp [AV.sl]; omega
    · rw [soff_oslice, List.length_drop, List.length_append, hfl]
      have : (i + 1) * sz + (rows.length - (i + 1)) * sz = rows.length * sz := by rw [← Nat.add_mul]; congr 1; omega
      omega
    · rw [soff_oslice, Nat.zero_add, hcut, List.append_assoc, ← hsp, List.drop_left, List.length_drop, ← hsd, List.take_left]
  · have hn : rows.drop (i + 1) = [] := List.drop_of_length_le (by omega)
    refine ⟨.eslice id 0 (i + 1) sz, by simp [sliceA, hin, hlt], ?_, fun h => by rw [hn] at h; simp at h⟩
    rw [hn]
    exact ⟨rfl, rfl, fun r hr => (by cases hr), fun h => (by simp at h)⟩

def dropI (L : List Cl) (n : Int) : Option Nat := L.findIdx? (fun a => decide (a.n = n))
theorem dropI_lt {n : Int} {i : Nat} (h : dropI L n = some i) : i < L.length := (List.findIdx?_eq_some_iff_getElem.1 h).1

theorem LatX.drop_no {n : Int} (hok : H.ok) (h : LatX H l L F v ids) (hn : dropI L n = none) : call T 33 [.ptr l 0, .int .i64 n] H = some (.tuple [.nils, .int .i64 111], H) := by
  rw [call_at (show T 33 = some (.ir ⟨_, _, _, _, _⟩) from T33)]
  have e1 := h.top.find (AHeap.ok.top hok.1) n
  unfold findI at e1
  unfold dropI at hn
  rw [hn] at e1
  simp -implicitDefEqProofs [e1, fin_pure]

/-- A claim that is dropped. -/
theorem LatX.drop {n : Int} {i : Nat} (hok : H.ok) (h : LatX H l L F v ids) (hn : dropI L n = some i) (hm : L.length < 1000000) :
    ∃ out K F', call T 33 [.ptr l 0, .int .i64 n] H = some (.tuple [out, .int .i64 0], K) ∧ LatRep K l (L.eraseIdx i) F' ∧ Chg F H K ∧ (∀ i ∈ F', i ∈ F) ∧
      Own K 1 out ((freedTo L (L[i]'(dropI_lt hn)) i (L.length - (i + 1))).map numRow) ∧ (∀ j ∈ sown out, H.n ≤ j) := by
  have hi := dropI_lt hn
  have e1 := h.top.find (AHeap.ok.top hok.1) n
  have hn' := hn
  unfold findI at e1
  unfold dropI at hn'
  rw [hn'] at e1
  simp only at e1
  have hokT := AHeap.ok.top hok.1
  have hw1 := wrap_id (n := (i : Int) + 1) (by omega) (by omega)
  have hv := h.own.view
  have hlen : (ids.map fun c => [AV.ptr c 0]).length = L.length := by rw [List.length_map, h.il]
  obtain ⟨gid, gv, g1, g2, g3, g4⟩ := h.each i L[i] (List.getElem?_eq_getElem hi)
  have e2 := hv.idx .i64 (n := i) (by omega) (by rw [hlen]; omega)
  have e3 := hv.rd (i := i) (r := [.ptr gid 0]) (by rw [List.getElem?_map, g1]; rfl) false (k := 1) (f := 0) (by omega) (by omega) (by simp)
  simp only [Int.toNat_natCast, Nat.add_zero, Nat.mul_one] at e2 e3
  obtain ⟨u, hu1, hu2, hu3⟩ := own_dropv h.own (i := i) (by rw [hlen]; exact hi)
  have hul := hu2.lenS
  rw [List.length_drop, hlen] at hul
  have hnd := h.nd
  have hndi : ids.Nodup := by simp only [List.nodup_cons, List.nodup_append] at hnd; exact hnd.2.2.1
  have hdis : ∀ c ∈ ids, c ∉ sown v := fun c hc hs => by
    simp only [List.nodup_cons, List.nodup_append] at hnd; exact hnd.2.2.2 c hs c hc rfl
  have hlv : l ∉ sown v := fun hi => by simp [hi] at hnd
  have hli : l ∉ ids := fun hi => by simp [hi] at hnd
  have hidF : ∀ c ∈ ids, c < H.n := fun c hc => h.lt c (h.sub c (by simp [hc]))
  have hsid : sown v = [sid v] := by
    obtain ⟨_, ⟨_, hr⟩ | ⟨id, kc, rest, rfl, _⟩⟩ := h.own
    · rw [← hlen, hr] at hi; simp at hi
    · rfl
  have hG0 : Going H.top L F ids (l :: (sown v ++ ids)) L[i] i 0 := ⟨fun j a ha => by
    obtain ⟨c, xv, q1, q2, q3, q4⟩ := h.each j a ha
    exact ⟨c, xv, q1, by rw [if_neg (by omega)]; exact q2, q3.top, q4⟩⟩
  obtain ⟨x, ⟨e, lo, K⟩, e4, rfl, out, k0, k6, k8, kl, hO, hC, hN, hG⟩ := drop_loop (H := H.top) (l := l) (F := F) (u := u) hokT hi rfl g1 h.il hndi hidF h.lt hu2.top
    (fun c hc hr => by rw [hu3 hr]; intro e; exact hdis c hc (by rw [hsid]; simp [e])) (fun c hc => by simp [hc]) hG0 (by omega)
  simp only at k0 k6 k8 kl hO hC hN hG
  subst kl
  have hokK := hC.ok hokT
  have hgl : K.get l = some (.row false 1 [v]) := by rw [hC.get l (h.lt l (h.sub l (by simp))) hli]; exact h.obj
  have hOv : Own K 1 v (ids.map fun c => [.ptr c 0]) := h.top.own.chg (show H.top.wf from hok.1) hC (fun j hj hji => hdis j hji hj)
  obtain ⟨v', K2, e5, hO2, hC2, hs2, hvn2, hlow2, hv'n⟩ := delete (T := T) (k := 59) (sz := 1) (bytes := 8) (zero := [.nilp]) T59 hokK (by omega) rfl hOv (i := i) (by rw [hlen]; exact hi) (by rw [hlen]; omega) (by rw [hlen]; omega)
  have hok2 := hC2.ok hokK
  have hg2 : K2.get l = some (.row false 1 [v]) := by rw [hC2.get l (Nat.lt_of_lt_of_le (h.lt l (h.sub l (by simp))) hC.le) hlv]; exact hgl
  have hC3 := Chg.set K2 l (.row false 1 [v'])
  have hlow : (K2.set l (.row false 1 [v'])).low < H.n := by
    have := h.lt l (h.sub l (by simp)); rw [AHeap.set_low]; split <;> omega
  have hfin := fin_keep (H := H) (K := K2.set l (.row false 1 [v'])) (v := .tuple [out, .int .i64 0]) (.inl hlow)
  have hon := hO.view.noL
  have hvn := h.own.view.noL
  have hun := hu2.noL
  have hcv := hO2.view.cells
  have hr0 := rdAt_row h.obj
  have hr1 := rdAt_row hgl
  have ctot : Chg (l :: (sown v ++ ids)) H.top (K2.set l (.row false 1 [v'])) :=
    (((hC.mono (G := l :: (sown v ++ ids)) (fun j hj => by simp [hj])).trans hokT hC2 (fun j hj => .inl (by simp [hj]))).trans hokT hC3 (by simp))
  have cK : Chg (l :: sown v) K (K2.set l (.row false 1 [v'])) := (hC2.mono (G := l :: sown v) (fun j hj => by simp [hj])).trans hokK hC3 (by simp)
  refine ⟨out, (K2.set l (.row false 1 [v'])).lowered H.low, F, ?_, ⟨v', ids.eraseIdx i, ?_⟩, (ctot.lowered hok).mono h.sub, fun _ h => h, ?_, hN⟩
  · rw [call_at (show T 33 = some (.ir ⟨_, _, _, _, _⟩) from T33)]
    have h01 : (0 : Int) ≤ (i : Int) + 1 := by omega
    have h02 : ((i : Int) + 1).toNat = i + 1 := by omega
    have h03 : ¬ (i : Int) < 0 := by omega
    simp -implicitDefEqProofs [e1, hr0, e2, e3, hw1, hu1, hul, hun, h01, h02, h03, e4, k0, k6, k8, hr1, hvn, e5, hv'n, hcv, hg2, hon, hfin]
  · have hilt : i < ids.length := by rw [h.il]; exact hi
    have hme : ∀ c ∈ ids.eraseIdx i, c ∈ ids := fun c hc => List.mem_of_mem_eraseIdx hc
    refine ⟨by rw [lowered_get]; exact get_set_same _ _ (by rw [hg2]; rfl), ?_, ?_, ?_, ?_, ?_, ?_, ?_⟩
    · have := hO2.frame (K := (K2.set l (.row false 1 [v'])).lowered H.low) (fun j hj => by
        rw [lowered_get, get_set_ne]; rintro rfl; rw [hs2] at hj; exact hlv hj)
      rw [List.eraseIdx_eq_take_drop_succ, List.map_append, List.map_take, List.map_drop, ← List.eraseIdx_eq_take_drop_succ]
      exact this
    · rw [List.length_eraseIdx_of_lt hilt, List.length_eraseIdx_of_lt hi, h.il]
    · intro j a ha
      rw [List.getElem?_eraseIdx] at ha
      have key : ∀ j', L[j']? = some a → (if i < j' ∧ j' < i + 1 + (L.length - (i + 1)) ∧ collC a L[i] = true then (aheadC L j' : Int) - 1 else aheadC L j') = (aheadC (L.eraseIdx i) j : Int) → (ids.eraseIdx i)[j]? = ids[j']? →
          ∃ c xv, (ids.eraseIdx i)[j]? = some c ∧ ((K2.set l (.row false 1 [v'])).lowered H.low).get c = some (clObj a.n xv a.w (aheadC (L.eraseIdx i) j)) ∧ Sps ((K2.set l (.row false 1 [v'])).lowered H.low) xv a.x ∧ (0 < a.x.length → sid xv ∉ l :: (sown v' ++ ids.eraseIdx i) ∧ sid xv ∈ F) := by
        intro j' hj' hah hide
        obtain ⟨c, xv, q1, q2, q3, q4⟩ := hG.each j' a hj'
        have hcm : c ∈ ids := List.mem_of_getElem? q1
        have hcK : c < K.n := Nat.lt_of_lt_of_le (hidF c hcm) hC.le
        rw [hah] at q2
        have hx2 : 0 < a.x.length → sid xv ∉ l :: sown v := fun hr => by
          have := (q4 hr).1
          simp only [List.mem_cons, List.mem_append, not_or] at this ⊢
          exact ⟨this.1, this.2.1⟩
        refine ⟨c, xv, by rw [hide]; exact q1, ?_, ?_, fun hr => ⟨?_, (q4 hr).2⟩⟩
        · rw [lowered_get, cK.get c hcK (by simp only [List.mem_cons, not_or]; exact ⟨fun e => hli (e ▸ hcm), hdis c hcm⟩)]; exact q2
        · exact ⟨(q3.chg hokK.1 cK hx2).view.frame fun _ => rfl, q3.small, q3.len⟩
        · have f3 := hx2 hr
          have f4 := (q4 hr).1
          simp only [List.mem_cons, List.mem_append, not_or, hs2] at f3 ⊢
          simp only [List.mem_cons, List.mem_append, not_or] at f4
          exact ⟨f3.1, f3.2, fun hh => f4.2.2 (hme _ hh)⟩
      by_cases hji : j < i
      · rw [if_pos hji] at ha
        exact key j ha (by rw [if_neg (by omega), aheadC_erase_lt hi hji]) (by rw [List.getElem?_eraseIdx, if_pos hji])
      · rw [if_neg hji] at ha
        obtain ⟨hj1, hj2⟩ := List.getElem?_eq_some_iff.1 ha
        refine key (j + 1) ha ?_ (by rw [List.getElem?_eraseIdx, if_neg hji])
        have := aheadC_erase_ge (L := L) hi (show i ≤ j by omega) hj1
        rw [hj2] at this
        by_cases hc : collC a L[i] = true
        · rw [if_pos hc] at this; rw [if_pos ⟨by omega, by omega, hc⟩]; omega
        · rw [if_neg hc] at this; rw [if_neg (by rintro ⟨_, _, h⟩; exact hc h)]; omega
    · have hnd2 := hnd
      simp only [List.nodup_cons, List.nodup_append, List.mem_append, not_or, hs2] at hnd2 ⊢
      exact ⟨⟨hnd2.1.1, fun hh => hnd2.1.2 (hme _ hh)⟩, hnd2.2.1, hnd2.2.2.1.eraseIdx i, fun a ha b hb => hnd2.2.2.2 a ha b (hme _ hb)⟩
    · intro j hj
      simp only [List.mem_cons, List.mem_append, hs2] at hj
      refine h.sub j ?_
      simp only [List.mem_cons, List.mem_append]
      rcases hj with hj | hj | hj
      · exact .inl hj
      · exact .inr (.inl hj)
      · exact .inr (.inr (hme _ hj))
    · intro j hj
      have := h.lt j hj
      have := ctot.le
      simp only [lowered_n, AHeap.set_n, top_n] at *
      omega
    · have := h.many
      have := List.length_eraseIdx_le L i
      omega
  · refine (hO.chg hokK.1 cK fun j hj => ?_).frame fun _ _ => rfl
    have h5 := hN j hj
    simp only [top_n] at h5
    simp only [List.mem_cons, not_or]
    exact ⟨fun e => by have := h.lt l (h.sub l (by simp)); omega, fun hs => by have := h.lt j (h.sub j (by simp [hs])); omega⟩
end
end Go.Proofs.Ytglfchdpcididaa
