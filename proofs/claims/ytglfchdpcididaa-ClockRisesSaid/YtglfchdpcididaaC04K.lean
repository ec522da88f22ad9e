/- The statement ClockRises, in our machine. No condition. -/
import Derived.Test.YtglfchdpcididaaC04H
set_option linter.unusedVariables false
set_option linter.unusedSimpArgs false
namespace Go.Proofs.Ytglfchdpcididaa
open Go.Wam

attribute [local simp] den_seq den_region den_regionD0 den_regionD1 den_condB condB_bool den_block den_keep den_ret den_skip den_exit sops_cons sops_nil sopsR_cons sopsR_nil goR_eq readOk trace_cons trace_nil Opd.ev evs Go.Wam.look St.put enterA zipI leaveR_ret leaveR_normal rvs RV.ev
  st_guard guardB_bool st_move st_pick pickB_bool st_allocL st_alloc st_boxL st_box st_build st_buildSlice st_load st_store st_nilCheck nilC st_bin st_un st_convI convI st_convS convS st_convB convB st_mkIface st_mkFunc st_mkMap st_mkSlice mkSl st_slice st_fieldAddr fldA st_field fldV st_idx idxS_slice idxS_oslice st_idxArr idxArr st_idxStr idxStr st_idxAgg idxAgg st_extract extA st_call callA_func st_len st_lenStr lenStr st_lenArr st_lenMap st_append st_clear clearV st_maxs st_mins
  load_ptr load_lptr storeA rd wr goOn_normal goOn_exit goOn_ret outBlock_normal outBlock_exit outBlock_ret prune freeL_nil freeL_cons frV_lptr frV_tuple frV_noL fillA allNoL packA unA checkAt ev_load wantedA beq_same beqL_same AV.beq AV.beqL drawCond freshD readsOk isRead undefA optInt optIntO
  strOp aeqF_nil aeqF_cons andA_some i_add i_sub i_mul i_lss i_leq i_gtr i_geq i_quo i_rem i_eql i_neq s_eql s_neq s_lss
  s_leq s_gtr s_geq s_add e_bool n_bool e_nilp n_nilp e_ptr n_ptr e_lptr n_lptr e_agg n_agg
  e_nils n_nils e_slice n_slice e_oslice n_oslice e_eslice n_eslice e_xslice n_xslice e_nilm n_nilm e_map n_map
  e_nilFunc n_nilFunc e_func n_func q_int q_bool q_str q_struct q_ptr0 q_ptrL0 q_ptrR0 q_ptrL1 q_ptrR1 q_slice0
  q_sliceL0 q_sliceR0 q_sliceL1 q_sliceR1 q_sliceL2 q_sliceR2 q_sliceL3 q_sliceR3 q_map0 q_mapL0 q_mapR0 q_func0 q_funcL0 q_funcR0
  okR_some guardB_tuple get_alloc_eq rdAt_alloc_eq set_alloc_eq set_alloc_ne get_alloc_ne rdAt_alloc_ne
/-- What stands at the head of the loop. -/
structure Rise (o : Int) (s : CS) (far : Int) (i : Nat) : Prop where
  right : rightS s.w s.l = true
  f0 : 0 ≤ far
  f1 : far ≤ 1099511627776
  p : s.p ≤ far
  w : s.w ≤ far + o + i

def st4 (c : Nat) (v : AV) (o : Int) (s : CS) (far : Int) (i : Nat) (K : AHeap) : St :=
  ⟨[(0, .int .i64 o), (1, v), (5, .ptr c 0), (7, .lptr 7 0), (8, .int .i64 far), (9, .int .i64 i)], [(7, [.int .i64 s.w, .int .i64 s.l])], K⟩

theorem next_some {w l w' l' : Int} (h : nextC w l = some (w', l')) : rightS w' l' = true ∧ w' ≤ w + 1 ∧ ltS w l w' l' = true := by
  unfold nextC at h
  split at h
  · rename_i h2
    simp only [rightS, ltS, Bool.and_eq_true, Bool.or_eq_true, decide_eq_true_eq] at h2 ⊢
    split at h <;> (cases h; omega)
  · cases h
theorem next_none {w l : Int} (hr : rightS w l = true) (h : nextC w l = none) : w = 1099511627776 := by
  unfold nextC at h
  split at h
  · cases h
  · rename_i h2
    simp only [hr, true_and, Decidable.not_not] at h2
    exact h2.1
theorem now_some {p w l w' l' : Int} (hp : 0 ≤ p ∧ p ≤ 1099511627776) (h : nowC p w l = some (w', l')) : rightS w' l' = true ∧ (w' ≤ w + 1 ∨ w' = p) ∧ ltS w l w' l' = true := by
  have g := (now_gt h).1
  unfold nowC at h
  split at h
  · obtain ⟨a, b, c⟩ := next_some h; exact ⟨a, .inl b, c⟩
  · cases h
    refine ⟨by simp only [rightS, Bool.and_eq_true, decide_eq_true_eq]; omega, .inr rfl, g⟩
theorem now_none {p w l : Int} (hr : rightS w l = true) (h : nowC p w l = none) : w = 1099511627776 := by
  unfold nowC at h
  split at h
  · exact next_none hr h
  · cases h
theorem lt_irr (w l : Int) : ltS w l w l = false := by simp [ltS]

section
variable {H K : AHeap} {v : AV} {xs : List CA} {c : Nat} {o far : Int} {s : CS}
set_option maxRecDepth 8000 in
set_option maxHeartbeats 8000000 in
theorem loop4 (hok : H.ok) (ho : 0 ≤ o ∧ o ≤ 1099511627776) (hv : View H 4 v (xs.map rowA)) (hf : 0 < xs.length → sid v ≠ c) (h : ClkAt H K [c] c o s) (hr : Rise o s 0 0) :
    ∃ x s', den T (.loop L4_0) (st4 c v o s 0 0 K) = some (x, s') ∧ x = .exit 0 := by
  refine loop_inv (I := fun n st => ∃ (i : Nat) (K : AHeap) (s : CS) (far : Int), i + n = 100 ∧ st = st4 c v o s far i K ∧ ClkAt H K [c] c o s ∧ Rise o s far i) _ ?_ 100 _ ⟨0, K, s, 0, by omega, by simp [prS, st4], h, hr⟩
  clear h hr
  rintro n _ ⟨i, K, s, far, hi, rfl, hk, R⟩ P hI hX hR
  have hvK : View K 4 v (xs.map rowA) := hv.chg hok.1 hk.chg (by simpa using hf)
  have e0 := hvK.lenS
  simp only [List.length_map] at e0
  have hvn := hv.noL
  by_cases hlt : i < xs.length
  · by_cases h100 : i < 100
    · have hlt2 : (i : Int) < 100 := by omega
      have hlt3 : (i : Int) < (xs.map rowA).length := by simpa using hlt
      have hw := wrap_id (n := (i : Int) + 1) (by omega) (by omega)
      have e1 := hvK.idx .i64 (n := i) (by omega) hlt3
      obtain ⟨x, hx⟩ : ∃ x, x = xs[i] := ⟨_, rfl⟩
      have e2 : ∀ agg k f, f + k ≤ 4 → 0 < k → (agg = false → k = 1) → K.rdAt (sid v) agg k (soff v + i * 4 + f) = rd agg k f (rowA x) := fun agg k f h1 h2 h3 => hvK.rd (i := i) (by rw [List.getElem?_map, List.getElem?_eq_getElem hlt, ← hx]; rfl) agg h1 h2 h3
      have e20 := e2 false 1 0 (by omega) (by omega) (by simp)
      have e21 := e2 false 1 1 (by omega) (by omega) (by simp)
      have e22 := e2 true 2 2 (by omega) (by omega) (by simp)
      obtain ⟨k, q, a, b⟩ := x
      simp only [Int.toNat_natCast, Nat.add_zero, rowA, rd, Bool.false_eq_true, if_false, if_true, List.getElem?_cons_zero, List.getElem?_cons_succ, List.length_cons, List.length_nil, List.drop_succ_cons, List.drop_zero, List.take_succ_cons, List.take_zero, Nat.reduceAdd, Nat.reduceLeDiff] at e1 e20 e21 e22
      clear e2
      have e22' : ∀ y, (K.set c y).rdAt (sid v) true 2 (soff v + i * 4 + 2) = some (.agg [.int .i64 a, .int .i64 b]) := fun y => (rdAt_set_ne K y (hf (by omega)) ..).trans e22
      obtain ⟨p, w, l⟩ := s
      have hg : K.get c = some (clk p o w l) := hk.get
      have hn : c < K.n := AHeap.get_lt hg hk.ok.1
      have hsome : (K.get c).isSome = true := by rw [hg]; rfl
      have hset : ∀ y, (K.set c y).get c = some y := fun y => get_set_same K y hsome
      have hgood := hk.good
      have hch : ∀ y, Chg [c] H (K.set c y) := fun y => hk.chg.trans hok (.set K c y) (by simp)
      have hok' : ∀ y, (K.set c y).ok := fun y => (Chg.set K c y).ok hk.ok
      obtain ⟨R1, R2, R3, R4, R5⟩ := R
      simp only [CS.ok] at hgood R1 R4 R5
      have f24 := s24 hg
      have f23 := s23 hg
      have f17 := s17 hg hn q
      have f19 := s19 hg hn
      have f21 := s21 hg hn hgood a b
      have g24 := fun p w l => s24 (hset (clk p o w l))
      have g23 := fun p w l => s23 (hset (clk p o w l))
      have f25 : ∀ w l w' l' H, call T 25 [.agg [.int .i64 w, .int .i64 l], .agg [.int .i64 w', .int .i64 l']] H = _ := s25
      have f26 : ∀ w l H, call T 26 [.agg [.int .i64 w, .int .i64 l]] H = _ := s26
      have f27 : ∀ w l w' l' H, call T 27 [.agg [.int .i64 w, .int .i64 l], .agg [.int .i64 w', .int .i64 l']] H = _ := s27
      simp only [encS] at f24 g24 f19 f21 f27
      have fin : ∀ (far : Int), 0 ≤ far → far ≤ 1099511627776 → IntKind.i64.wrap (far + o) = far + o ∧ IntKind.i64.wrap (far + o + 100) = far + o + 100 := fun far h1 h2 => ⟨wrap_id (by omega) (by omega), wrap_id (by omega) (by omega)⟩
      have hle : ∀ (w far : Int), w ≤ far + o + i + 1 → ¬ far + o + 100 < w := fun w far h => by omega
      obtain ⟨w1, w2⟩ := fin far R2 R3
      by_cases k1 : k = 1
      · subst k1
        by_cases hq : p ≤ q ∧ q ≤ 1099511627776
        · rw [if_pos hq] at f17
          by_cases hm : far < q
          · obtain ⟨w3, w4⟩ := fin q (by omega) (by omega)
            have w5 := hle w q (by omega)
            simp -implicitDefEqProofs [st4, e0, e1, e20, e21, hlt, hlt2, hvn, f24, f23, f17, g24, g23, hm, foldA, max2A, w3, w4, w5, hw]
            refine hI _ _ _ (n - 1) (by omega) ?_
            exact ⟨i + 1, K.set c (clk q o w l), ⟨q, w, l⟩, q, by omega, by simp [st4], ⟨hok' _, hset _, ⟨by simp only; omega, by simp only; omega⟩, hch _⟩, ⟨R1, by omega, by omega, by simp, by simp only; omega⟩⟩
          · have w5 := hle w far (by omega)
            simp -implicitDefEqProofs [st4, e0, e1, e20, e21, hlt, hlt2, hvn, f24, f23, f17, g24, g23, hm, foldA, max2A, w1, w2, w5, hw]
            refine hI _ _ _ (n - 1) (by omega) ?_
            exact ⟨i + 1, K.set c (clk q o w l), ⟨q, w, l⟩, far, by omega, by simp [st4], ⟨hok' _, hset _, ⟨by simp only; omega, by simp only; omega⟩, hch _⟩, ⟨R1, by omega, by omega, by simp only; omega, by simp only; omega⟩⟩
        · rw [if_neg hq] at f17
          have hm : ¬ far < p := by omega
          have w5 := hle w far (by omega)
          simp -implicitDefEqProofs [st4, e0, e1, e20, e21, hlt, hlt2, hvn, f24, f23, f17, hm, foldA, max2A, w1, w2, w5, hw]
          refine hI _ _ _ (n - 1) (by omega) ?_
          exact ⟨i + 1, K, ⟨p, w, l⟩, far, by omega, by simp [st4], hk, ⟨R1, by omega, by omega, by simp only; omega, by simp only; omega⟩⟩
      · by_cases k2 : k = 2
        · subst k2
          cases hnow : nowC p w l with
          | none =>
            rw [hnow] at f19
            have hM := now_none R1 hnow
            have w5 := hle w far (by omega)
            have hM' : ¬ ¬ w = 1099511627776 := by omega
            simp -implicitDefEqProofs [st4, e0, e1, e20, e21, hlt, hlt2, hvn, f24, f23, f19, hM', w1, w2, w5, hw]
            refine hI _ _ _ (n - 1) (by omega) ?_
            exact ⟨i + 1, K, ⟨p, w, l⟩, far, by omega, by simp [st4], hk, ⟨R1, by omega, by omega, by simp only; omega, by simp only; omega⟩⟩
          | some r =>
            obtain ⟨w', l'⟩ := r
            rw [hnow] at f19
            obtain ⟨r1, r2, r3⟩ := now_some hgood hnow
            have w5 := hle w' far (by omega)
            simp -implicitDefEqProofs [st4, e0, e1, e20, e21, hlt, hlt2, hvn, f24, f23, f19, f25, f26, g24, r1, r3, w1, w2, w5, hw]
            refine hI _ _ _ (n - 1) (by omega) ?_
            exact ⟨i + 1, K.set c (clk p o w' l'), ⟨p, w', l'⟩, far, by omega, by simp [st4], ⟨hok' _, hset _, hgood, hch _⟩, ⟨r1, by omega, by omega, by simp only; omega, by simp only; omega⟩⟩
        · by_cases k3 : k = 3
          · subst k3
            by_cases h1 : rightS a b = true
            · by_cases h2 : o < a - p
              · rw [if_pos h1, if_pos h2] at f21
                have w5 := hle w far (by omega)
                simp -implicitDefEqProofs [st4, e0, e1, e20, e21, e22, hlt, hlt2, hvn, f24, f23, f21, w1, w2, w5, hw]
                refine hI _ _ _ (n - 1) (by omega) ?_
                exact ⟨i + 1, K, ⟨p, w, l⟩, far, by omega, by simp [st4], hk, ⟨R1, by omega, by omega, by simp only; omega, by simp only; omega⟩⟩
              · rw [if_pos h1, if_neg h2] at f21
                by_cases h3 : ltS w l a b = true
                · rw [if_pos h3] at f21
                  have w5 := hle a far (by omega)
                  simp -implicitDefEqProofs [st4, e0, e1, e20, e21, e22, e22', hlt, hlt2, hvn, f24, f23, f21, f27, g24, h3, w1, w2, w5, hw]
                  refine hI _ _ _ (n - 1) (by omega) ?_
                  exact ⟨i + 1, K.set c (clk p o a b), ⟨p, a, b⟩, far, by omega, by simp [st4], ⟨hok' _, hset _, hgood, hch _⟩, ⟨h1, by omega, by omega, by simp only; omega, by simp only; omega⟩⟩
                · rw [if_neg h3] at f21
                  have w5 := hle w far (by omega)
                  simp -implicitDefEqProofs [st4, e0, e1, e20, e21, e22, e22', hlt, hlt2, hvn, f24, f23, f21, f27, g24, h3, w1, w2, w5, hw]
                  refine hI _ _ _ (n - 1) (by omega) ?_
                  exact ⟨i + 1, K.set c (clk p o w l), ⟨p, w, l⟩, far, by omega, by simp [st4], ⟨hok' _, hset _, hgood, hch _⟩, ⟨R1, by omega, by omega, by simp only; omega, by simp only; omega⟩⟩
            · rw [if_neg h1] at f21
              have w5 := hle w far (by omega)
              simp -implicitDefEqProofs [st4, e0, e1, e20, e21, e22, hlt, hlt2, hvn, f24, f23, f21, w1, w2, w5, hw]
              refine hI _ _ _ (n - 1) (by omega) ?_
              exact ⟨i + 1, K, ⟨p, w, l⟩, far, by omega, by simp [st4], hk, ⟨R1, by omega, by omega, by simp only; omega, by simp only; omega⟩⟩
          · have w5 := hle w far (by omega)
            simp -implicitDefEqProofs [st4, e0, e1, e20, e21, e22, hlt, hlt2, hvn, f24, f23, k1, k2, k3, w1, w2, w5, hw]
            refine hI _ _ _ (n - 1) (by omega) ?_
            exact ⟨i + 1, K, ⟨p, w, l⟩, far, by omega, by simp [st4], hk, ⟨R1, by omega, by omega, by simp only; omega, by simp only; omega⟩⟩
    · have h2 : ¬ (i : Int) < 100 := by omega
      simp -implicitDefEqProofs [st4, e0, hlt, h2]
      refine hX _ _ ?_
      rfl
  · simp -implicitDefEqProofs [st4, e0, hlt]
    refine hX _ _ ?_
    rfl
end

set_option maxRecDepth 8000 in
set_option maxHeartbeats 2000000 in
theorem n4 {H : AHeap} (hok : H.ok) {v : AV} {xs : List CA} (hv : View H 4 v (xs.map rowA)) (o : Int) : OkR (call T 4 [.int .i64 o, v] H) fun r => r.1 = .bool true := by
  rw [call_at (show T 4 = some (.ir ⟨_, _, _, _, _⟩) from T4)]
  have a14 := s14 o H.top (Nat.le_refl _)
  have hvn := hv.noL
  by_cases ho : 0 ≤ o ∧ o ≤ 1099511627776
  · rw [if_pos ho] at a14
    have hok1 : H.top.ok := AHeap.ok.top hok.1
    have hch := Chg.alloc H.top (clk 0 o 0 0)
    obtain ⟨x, ⟨e, l, K⟩, h, rfl⟩ := loop4 (H := H.top) (c := H.n) (o := o) (s := ⟨0, 0, 0⟩) hok1 ho hv.top (fun hr => by have := hv.lt hok.1 (by simpa using hr); omega)
      ⟨hch.ok hok1, by simp [clkS], ⟨by simp, by simp⟩, hch.mono (by simp)⟩ ⟨by simp [rightS], by omega, by omega, by simp, by simp only; omega⟩
    simp only [st4, show ((0 : Nat) : Int) = 0 from rfl] at h
    simp -implicitDefEqProofs [hvn, a14, h, s16]
  · rw [if_neg ho] at a14
    simp -implicitDefEqProofs [a14, s16, fin_pure]

theorem law4 : Law T 4 [.int .i64, .slice 4 32 actSh] := by
  intro H ls hw hl ha
  obtain ⟨x, y, rfl, ⟨o, rfl, _⟩, v, rows, rfl, hv, _, _, hc⟩ := args2 ha
  obtain ⟨xs, rfl⟩ := acts_of hc
  exact law_of (n4 ⟨hw, by omega⟩ hv.view o)
end Go.Proofs.Ytglfchdpcididaa
