/- Whether two lists of spans meet; the statement LatchReads, in our machine. No condition. -/
import Derived.Test.YtglfchdpcididaaC11S11H
set_option linter.unusedVariables false
set_option linter.unusedSimpArgs false
namespace Go.Proofs.Ytglfchdpcididaa
open Go.Wam

attribute [local simp] den_seq den_region den_regionD0 den_regionD1 den_condB condB_bool den_block den_keep den_ret den_skip den_exit sops_cons sops_nil sopsR_cons sopsR_nil goR_eq readOk trace_cons trace_nil Opd.ev evs Go.Wam.look St.put enterA zipI leaveR_ret leaveR_normal rvs RV.ev
  st_guard guardB_bool st_move st_pick pickB_bool st_allocL st_alloc st_boxL st_box st_build st_buildSlice st_load st_store st_nilCheck nilC st_bin st_un st_convI convI st_convS convS st_convB convB st_mkIface st_mkFunc st_mkMap st_mkSlice mkSl st_slice st_fieldAddr fldA st_field fldV st_idx idxS_slice idxS_oslice st_idxArr idxArr st_idxStr idxStr st_idxAgg idxAgg st_extract extA st_call callA_func st_len st_lenStr lenStr st_lenArr st_lenMap st_append st_clear clearV st_maxs st_mins
  load_ptr load_lptr storeA rd wr goOn_normal goOn_exit goOn_ret outBlock_normal outBlock_exit outBlock_ret prune freeL_nil freeL_cons frV_lptr frV_tuple frV_noL fillA allNoL packA unA checkAt ev_load wantedA beq_same beqL_same AV.beq AV.beqL drawCond freshD readsOk isRead undefA optInt optIntO
  strOp aeqF_nil aeqF_cons andA_some i_add i_sub i_mul i_lss i_leq i_gtr i_geq i_quo i_rem i_eql i_neq s_eql s_neq s_lss
  s_leq s_gtr s_geq s_add e_bool n_bool e_nilp n_nilp e_ptr n_ptr e_lptr n_lptr e_agg n_agg
  e_nils n_nils e_slice n_slice e_oslice n_oslice e_eslice n_eslice e_xslice n_xslice e_nilm n_nilm e_map n_map
  e_nilFunc n_nilFunc e_func n_func q_int q_bool q_str q_struct q_ptr0 q_ptrL0 q_ptrR0 q_ptrL1 q_ptrR1 q_slice0
  q_sliceL0 q_sliceR0 q_sliceL1 q_sliceR1 q_sliceL2 q_sliceR2 q_sliceL3 q_sliceR3 q_map0 q_mapL0 q_mapR0 q_func0 q_funcL0 q_funcR0
  okR_some guardB_tuple get_alloc_eq rdAt_alloc_eq set_alloc_eq set_alloc_ne get_alloc_ne rdAt_alloc_ne
def meetsB (x y : List Sp) : Bool := x.any fun a => y.any (meetS a)
section
variable {H : AHeap} {v u : AV} {x y : List Sp}
theorem meets_in (hx : Sps H v x) (hy : Sps H u y) {i : Nat} (hi : i < x.length) :
    ∃ z s', den T (.loop L36_0) ⟨[(0, v), (1, u), (5, .int .i64 i), (6, .int .i64 0)], [], H⟩ = some (z, s') ∧ s'.H = H ∧
      ((y.any (meetS x[i]) = true ∧ z = .ret ∧ Go.Wam.look 4 s'.env = some (.bool true)) ∨ (y.any (meetS x[i]) = false ∧ z = .exit 2 ∧ Go.Wam.look 0 s'.env = some v ∧ Go.Wam.look 1 s'.env = some u ∧ Go.Wam.look 5 s'.env = some (.int .i64 i) ∧ s'.loc = [])) := by
  have hxl := hx.len
  have hyl := hy.len
  unfold maxL at hxl hyl
  refine loop_inv (I := fun m st => ∃ k : Nat, k + m = y.length ∧ st = ⟨[(0, v), (1, u), (5, .int .i64 i), (6, .int .i64 k)], [], H⟩ ∧ (y.take k).any (meetS x[i]) = false) _ ?_ y.length _ ⟨0, by omega, by simp [prS], by simp⟩
  rintro m _ ⟨k, hk, rfl, hall⟩ P hI hX hR
  have e0 := hy.view.lenS
  rw [List.length_map] at e0
  have hvn := hx.view.noL
  have hun := hy.view.noL
  by_cases hlt : k < y.length
  · have hw := wrap_id (n := (k : Int) + 1) (by omega) (by omega)
    have e1 := hx.view.idx .i64 (n := i) (by omega) (by rw [List.length_map]; omega)
    have e2 := hx.view.rd (i := i) (r := rowSp x[i]) (by rw [List.getElem?_map, List.getElem?_eq_getElem hi]; rfl) true (k := 2) (f := 0) (by omega) (by omega) (by simp)
    have e3 := hy.view.idx .i64 (n := k) (by omega) (by rw [List.length_map]; omega)
    have e4 := hy.view.rd (i := k) (r := rowSp y[k]) (by rw [List.getElem?_map, List.getElem?_eq_getElem hlt]; rfl) true (k := 2) (f := 0) (by omega) (by omega) (by simp)
    have hs := hx.small x[i] (List.getElem_mem hi)
    have ht := hy.small y[k] (List.getElem_mem hlt)
    have e5 := rMeet hs.1 hs.2 ht.1 ht.2 H
    have e6 : meetB x[i].1 x[i].2 y[k].1 y[k].2 = meetS x[i] y[k] := rfl
    rw [e6] at e5
    have r1 : rd true 2 0 (rowSp x[i]) = some (.agg [.str x[i].1, .str x[i].2]) := rfl
    have r2 : rd true 2 0 (rowSp y[k]) = some (.agg [.str y[k].1, .str y[k].2]) := rfl
    rw [r1] at e2
    rw [r2] at e4
    simp only [Int.toNat_natCast, Nat.add_zero] at e1 e2 e3 e4
    have hm : y[k] ∈ y := List.getElem_mem hlt
    have ht2 : (y.take (k + 1)).any (meetS x[i]) = ((y.take k).any (meetS x[i]) || meetS x[i] y[k]) := by rw [List.take_succ_eq_append_getElem hlt, List.any_append]; simp
    rw [hall, Bool.false_or] at ht2
    generalize meetS x[i] y[k] = b at *
    cases hb : b with
    | true =>
      subst hb
      simp -implicitDefEqProofs [e0, hlt, e1, e2, e3, e4, e5, hvn, hun]
      refine hR _ ?_
      refine ⟨rfl, .inl ⟨?_, rfl, by simp⟩⟩
      obtain ⟨z, hz, hz2⟩ := List.any_eq_true.1 ht2
      exact List.any_eq_true.2 ⟨z, List.mem_of_mem_take hz, hz2⟩
    | false =>
      subst hb
      simp -implicitDefEqProofs [e0, hlt, e1, e2, e3, e4, e5, hvn, hun, hw]
      refine hI _ _ _ (m - 1) (by omega) ?_
      exact ⟨k + 1, by omega, by simp, ht2⟩
  · have hky : k = y.length := by omega
    rw [hky, List.take_length] at hall
    simp -implicitDefEqProofs [e0, hlt]
    refine hX _ _ ?_
    exact ⟨rfl, .inr ⟨hall, rfl, by simp, by simp, by simp, rfl⟩⟩

theorem meets_out (hx : Sps H v x) (hy : Sps H u y) :
    ∃ z s', den T (.loop L36_1) ⟨[(0, v), (1, u), (5, .int .i64 0)], [], H⟩ = some (z, s') ∧ s'.H = H ∧
      ((meetsB x y = true ∧ z = .ret ∧ Go.Wam.look 4 s'.env = some (.bool true)) ∨ (meetsB x y = false ∧ z = .exit 0)) := by
  have hxl := hx.len
  unfold maxL at hxl
  refine loop_inv (I := fun m st => ∃ i : Nat, i + m = x.length ∧ st = ⟨[(0, v), (1, u), (5, .int .i64 i)], [], H⟩ ∧ meetsB (x.take i) y = false) _ ?_ x.length _ ⟨0, by omega, by simp [prS], by simp [meetsB]⟩
  rintro m _ ⟨i, hi, rfl, hall⟩ P hI hX hR
  have e0 := hx.view.lenS
  rw [List.length_map] at e0
  by_cases hlt : i < x.length
  · have hw := wrap_id (n := (i : Int) + 1) (by omega) (by omega)
    have ht2 : meetsB (x.take (i + 1)) y = (meetsB (x.take i) y || y.any (meetS x[i])) := by unfold meetsB; rw [List.take_succ_eq_append_getElem hlt, List.any_append]; simp
    rw [hall, Bool.false_or] at ht2
    obtain ⟨z, ⟨e, lo, K⟩, h, hK, ⟨hb, rfl, h4⟩ | ⟨hb, rfl, h0, h1, h5, hl⟩⟩ := meets_in hx hy hlt
    · simp only at hK h4
      subst hK
      simp -implicitDefEqProofs [e0, hlt, h, h4]
      refine hR _ ?_
      refine ⟨rfl, .inl ⟨?_, rfl, by simp [h4]⟩⟩
      exact List.any_eq_true.2 ⟨x[i], List.getElem_mem hlt, hb⟩
    · simp only at hK h0 h1 h5 hl
      subst hK hl
      rw [hb] at ht2
      simp -implicitDefEqProofs [e0, hlt, h, h0, h1, h5, hw]
      refine hI _ _ _ (m - 1) (by omega) ?_
      exact ⟨i + 1, by omega, by simp [h0, h1], ht2⟩
  · have hix : i = x.length := by omega
    rw [hix, List.take_length] at hall
    simp -implicitDefEqProofs [e0, hlt]
    refine hX _ _ ?_
    exact ⟨rfl, .inr ⟨hall, rfl⟩⟩

theorem sMeets (hx : Sps H v x) (hy : Sps H u y) : call T 36 [v, u] H = some (.bool (meetsB x y), H) := by
  rw [call_at (show T 36 = some (.ir ⟨_, _, _, _, _⟩) from T36)]
  obtain ⟨z, ⟨e, lo, K⟩, h, hK, ⟨hb, rfl, h4⟩ | ⟨hb, rfl⟩⟩ := meets_out hx.top hy.top
  · simp only at hK h4
    subst hK
    simp -implicitDefEqProofs [h, h4, hb, fin_pure]
  · simp only at hK
    subst hK
    simp -implicitDefEqProofs [h, hb, fin_pure]
end

theorem meetS_comm (a b : Sp) : meetS a b = meetS b a := by
  unfold meetS meetB
  cases rightB a.1 a.2 <;> cases rightB b.1 b.2 <;> simp [Bool.or_comm]
theorem meetsB_comm (x y : List Sp) : meetsB x y = meetsB y x := by
  unfold meetsB
  rw [Bool.eq_iff_iff, List.any_eq_true, List.any_eq_true]
  constructor
  · rintro ⟨a, ha, h⟩
    obtain ⟨b, hb, h⟩ := List.any_eq_true.1 h
    exact ⟨b, hb, List.any_eq_true.2 ⟨a, ha, by rw [meetS_comm]; exact h⟩⟩
  · rintro ⟨a, ha, h⟩
    obtain ⟨b, hb, h⟩ := List.any_eq_true.1 h
    exact ⟨b, hb, List.any_eq_true.2 ⟨a, ha, by rw [meetS_comm]; exact h⟩⟩
theorem collB_comm (x y : List Sp) (w w' : Bool) : collB x w y w' = collB y w' x w := by
  unfold collB
  rw [Bool.or_comm]
  congr 1
  exact meetsB_comm x y
theorem collC_comm (a b : Cl) : collC a b = collC b a := collB_comm ..

/-! ## Readers -/
def readsF : Nat → List (List Sp) → List Cl
  | _, [] => []
  | a, x :: cs => ⟨a, x, false⟩ :: readsF (a + 1) cs
theorem readsF_snoc (x : List Sp) : ∀ (cs : List (List Sp)) (a : Nat), readsF a (cs ++ [x]) = readsF a cs ++ [⟨(a + cs.length : Nat), x, false⟩]
  | [], a => rfl
  | y :: cs, a => by
    simp only [List.cons_append, readsF, readsF_snoc x cs (a + 1), List.length_cons]
    congr 4
    omega
theorem readsF_len : ∀ (cs : List (List Sp)) (a : Nat), (readsF a cs).length = cs.length
  | [], _ => rfl
  | _ :: cs, a => by simp [readsF, readsF_len cs (a + 1)]
theorem readsF_mem : ∀ (cs : List (List Sp)) (a : Nat) (c : Cl), c ∈ readsF a cs → c.w = false ∧ c.x ∈ cs ∧ (a : Int) ≤ c.n ∧ c.n < (a + cs.length : Nat)
  | [], _, _, h => by cases h
  | y :: cs, a, c, h => by
    simp only [readsF, List.mem_cons] at h
    rcases h with rfl | h
    · exact ⟨rfl, by simp, by simp only; omega, by simp only [List.length_cons]; omega⟩
    · obtain ⟨h1, h2, h3, h4⟩ := readsF_mem cs (a + 1) c h
      exact ⟨h1, by simp [h2], by omega, by rw [List.length_cons]; omega⟩
theorem readsF_get : ∀ (cs : List (List Sp)) (a : Nat) (x : List Sp), x ∈ cs → ∃ c ∈ readsF a cs, c.x = x
  | y :: cs, a, x, h => by
    rcases List.mem_cons.1 h with rfl | h
    · exact ⟨_, List.mem_cons_self .., rfl⟩
    · obtain ⟨c, h1, h2⟩ := readsF_get cs (a + 1) x h
      exact ⟨c, List.mem_cons_of_mem _ h1, h2⟩
def meetAny (cs : List (List Sp)) (x : List Sp) : Bool := cs.any fun y => meetsB y x
theorem reads_claimE (cs : List (List Sp)) (x : List Sp) : claimE (readsF 0 cs) (cs.length : Nat) x ≠ 111 := by
  unfold claimE
  rw [if_neg]
  · split <;> simp
  · rw [List.any_eq_true]
    rintro ⟨c, hc, h⟩
    have := (readsF_mem cs 0 c hc).2.2.2
    have := of_decide_eq_true h
    omega
theorem reads_claimE2 (L : List Cl) (n : Int) (x : List Sp) : claimE L n x = 111 ∨ claimE L n x = 51 ∨ claimE L n x = 0 := by
  unfold claimE
  split
  · exact .inl rfl
  · split
    · exact .inr (.inl rfl)
    · exact .inr (.inr rfl)
theorem reads_count0 (cs : List (List Sp)) (n : Int) (x : List Sp) : (readsF 0 cs).countP (collC ⟨n, x, false⟩) = 0 := by
  rw [List.countP_eq_zero]
  intro c hc
  simp [collC, collB, (readsF_mem cs 0 c hc).1]
theorem reads_count1 (cs : List (List Sp)) (n : Int) (x : List Sp) : decide ((readsF 0 cs).countP (collC ⟨n, x, true⟩) = 0) = !meetAny cs x := by
  have key : (readsF 0 cs).countP (collC ⟨n, x, true⟩) = 0 ↔ meetAny cs x = false := by
    rw [List.countP_eq_zero]
    unfold meetAny
    rw [List.any_eq_false]
    have e : ∀ c : Cl, collC ⟨n, x, true⟩ c = meetsB x c.x := fun c => by unfold collC collB meetsB; simp
    constructor
    · intro h y hy
      obtain ⟨c, hc, rfl⟩ := readsF_get cs 0 y hy
      have := h c hc
      rw [e, meetsB_comm] at this
      exact this
    · intro h c hc
      rw [e, meetsB_comm]
      exact h _ (readsF_mem cs 0 c hc).2.1
  cases h : meetAny cs x with
  | true => rw [decide_eq_false (by rw [key, h]; simp)]; rfl
  | false => rw [decide_eq_true (key.2 h)]; rfl

structure SpIn where
  x : List Sp
  xv : AV
def rowX (p : SpIn) : List AV := [p.xv]

section
variable {H K : AHeap} {l : Nat} {v u : AV} {ps : List SpIn} {x : List Sp}
theorem reads_loop0 (hok : H.ok) (hv : View H 1 v (ps.map rowX)) (hp : ∀ p ∈ ps, Sps H p.xv p.x) (hu : Sps H u x) (h : LatIn H K l []) :
    ∃ z s', den T (.loop L12_0) ⟨[(0, v), (1, u), (5, .ptr l 0), (6, .int .i64 0), (7, .bool false), (8, .int .i64 0)], [], K⟩ = some (z, s') ∧
      z = .exit 0 ∧ ∃ cs : List (List Sp), cs.length ≤ 60 ∧ Go.Wam.look 1 s'.env = some u ∧ Go.Wam.look 5 s'.env = some (.ptr l 0) ∧ Go.Wam.look 6 s'.env = some (.int .i64 (cs.length : Nat)) ∧ Go.Wam.look 7 s'.env = some (.bool (meetAny cs x)) ∧ LatIn H s'.H l (readsF 0 cs) := by
  refine loop_inv (I := fun m st => ∃ (i : Nat) (K : AHeap) (cs : List (List Sp)), i + m = 60 ∧ st = ⟨[(0, v), (1, u), (5, .ptr l 0), (6, .int .i64 (cs.length : Nat)), (7, .bool (meetAny cs x)), (8, .int .i64 i)], [], K⟩ ∧ cs.length ≤ i ∧ LatIn H K l (readsF 0 cs)) _ ?_ 60 _ ⟨0, K, [], by omega, by simp [prS, meetAny], by simp, h⟩
  rintro m _ ⟨i, K, cs, hi, rfl, hcl, hL⟩ P hI hX hR
  have hvK := hv.new hok.1 hL.chg
  have huK := hu.chg hok.1 hL.chg (by simp)
  have e0 := hvK.lenS
  rw [List.length_map] at e0
  have hvn := hv.noL
  have hun := hu.view.noL
  by_cases hlt : i < ps.length
  · by_cases h60 : i < 60
    · have hw := wrap_id (n := (i : Int) + 1) (by omega) (by omega)
      have hw2 := wrap_id (n := (cs.length : Int) + 1) (by omega) (by omega)
      have h60' : (i : Int) < 60 := by omega
      obtain ⟨p, hpi⟩ : ∃ p, p = ps[i] := ⟨_, rfl⟩
      have hx := (hp p (by rw [hpi]; exact List.getElem_mem hlt)).chg hok.1 hL.chg (by simp)
      have e1 := hvK.idx .i64 (n := i) (by omega) (by rw [List.length_map]; omega)
      have e2 := hvK.rd (i := i) (r := rowX p) (by rw [List.getElem?_map, List.getElem?_eq_getElem hlt, hpi]; rfl) false (k := 1) (f := 0) (by omega) (by omega) (by simp)
      have e4 : rd false 1 0 (rowX p) = some p.xv := rfl
      rw [e4] at e2
      have e3 := sActFits (a := ⟨0, 0, p.x, false⟩) hx
      simp only [Int.toNat_natCast, Nat.add_zero, Nat.mul_one, rowAct] at e1 e2 e3
      have hxn := hx.view.noL
      have hxc := hx.view.cells
      by_cases hf : fitsB p.x = true
      · rw [hf] at e3
        obtain ⟨K', e5, h5⟩ := hL.claim (n := (cs.length : Nat)) (w := false) hok hx (by rw [readsF_len]; omega)
        have hE := reads_claimE cs p.x
        have hR0 : claimR (readsF 0 cs) (cs.length : Nat) p.x false = decide (claimE (readsF 0 cs) (cs.length : Nat) p.x = 0) := by
          unfold claimR; rw [reads_count0]; simp
        rw [hR0] at e5
        by_cases h0 : claimE (readsF 0 cs) (cs.length : Nat) p.x = 0
        · rw [h0, decide_eq_true rfl] at e5
          have h5' : LatIn H K' l (readsF 0 (cs ++ [p.x])) := by
            unfold claimL at h5
            rw [if_pos h0] at h5
            rw [readsF_snoc, Nat.zero_add]; exact h5
          have e6 := sMeets ((hp p (by rw [hpi]; exact List.getElem_mem hlt)).chg hok.1 h5.chg (by simp)) (hu.chg hok.1 h5.chg (by simp))
          have hvK' := hv.new hok.1 h5.chg
          have e1' := hvK'.idx .i64 (n := i) (by omega) (by rw [List.length_map]; omega)
          have e2' := hvK'.rd (i := i) (r := rowX p) (by rw [List.getElem?_map, List.getElem?_eq_getElem hlt, hpi]; rfl) false (k := 1) (f := 0) (by omega) (by omega) (by simp)
          rw [e4] at e2'
          simp only [Int.toNat_natCast, Nat.add_zero, Nat.mul_one] at e1' e2'
          have hma : meetAny (cs ++ [p.x]) x = (meetAny cs x || meetsB p.x x) := by unfold meetAny; rw [List.any_append]; simp
          cases hm : meetAny cs x with
          | true =>
            rw [hm, Bool.true_or] at hma
            simp -implicitDefEqProofs [e0, hlt, h60', e1, e2, e3, hxn, hxc, e5, hw, hw2, hvn, hun]
            refine hI _ _ _ (m - 1) (by omega) ?_
            exact ⟨i + 1, K', cs ++ [p.x], by omega, by simp [hma], by simp; omega, h5'⟩
          | false =>
            rw [hm, Bool.false_or] at hma
            simp -implicitDefEqProofs [e0, hlt, h60', e1, e2, e3, hxn, hxc, e5, hw, hw2, hvn, hun, e2', e6]
            refine hI _ _ _ (m - 1) (by omega) ?_
            exact ⟨i + 1, K', cs ++ [p.x], by omega, by simp [hma], by simp; omega, h5'⟩
        · have h51 : claimE (readsF 0 cs) (cs.length : Nat) p.x = 51 := by
            rcases reads_claimE2 (readsF 0 cs) (cs.length : Nat) p.x with h | h | h
            · exact absurd h hE
            · exact h
            · exact absurd h h0
          rw [h51] at e5
          have h5' : LatIn H K' l (readsF 0 cs) := by
            unfold claimL at h5
            rw [if_neg h0] at h5
            exact h5
          simp -implicitDefEqProofs [e0, hlt, h60', e1, e2, e3, hxn, hxc, e5, hw, hvn, hun]
          refine hI _ _ _ (m - 1) (by omega) ?_
          exact ⟨i + 1, K', cs, by omega, by simp, by omega, h5'⟩
      · have hf' : fitsB p.x = false := by simpa using hf
        rw [hf'] at e3
        simp -implicitDefEqProofs [e0, hlt, h60', e1, e2, e3, hxn, hxc, hw, hvn, hun]
        refine hI _ _ _ (m - 1) (by omega) ?_
        exact ⟨i + 1, K, cs, by omega, by simp, by omega, hL⟩
    · have h60' : ¬ (i : Int) < 60 := by omega
      simp -implicitDefEqProofs [e0, hlt, h60']
      refine hX _ _ ?_
      exact ⟨rfl, cs, by omega, by simp, by simp, by simp, by simp, hL⟩
  · simp -implicitDefEqProofs [e0, hlt]
    refine hX _ _ ?_
    exact ⟨rfl, cs, by omega, by simp, by simp, by simp, by simp, hL⟩

theorem reads_drop (a : Nat) (y : List Sp) (cs : List (List Sp)) (t : Cl) : dropE (readsF a (y :: cs) ++ [t]) a = 0 ∧ dropL (readsF a (y :: cs) ++ [t]) a = readsF (a + 1) cs ++ [t] := by
  have : dropI (readsF a (y :: cs) ++ [t]) a = some 0 := by
    unfold dropI
    simp [readsF, List.findIdx?_cons]
  unfold dropE dropL
  rw [this]
  exact ⟨rfl, by simp [readsF]⟩

theorem reads_loop1 (hok : H.ok) {cs : List (List Sp)} {t : Cl} {b : Bool} (hlen : cs.length ≤ 60) (h : LatIn H K l (readsF 0 cs ++ [t])) :
    ∃ z s', den T (.loop L12_1) ⟨[(5, .ptr l 0), (6, .int .i64 (cs.length : Nat)), (7, .bool b), (13, .bool !b), (15, .int .i64 0)], [], K⟩ = some (z, s') ∧
      z = .exit 2 ∧ Go.Wam.look 5 s'.env = some (.ptr l 0) ∧ Go.Wam.look 6 s'.env = some (.int .i64 (cs.length : Nat)) ∧ Go.Wam.look 13 s'.env = some (.bool !b) ∧ LatIn H s'.H l [t] := by
  refine loop_inv (I := fun m st => ∃ (i : Nat) (K : AHeap), i + m = cs.length ∧ st = ⟨[(5, .ptr l 0), (6, .int .i64 (cs.length : Nat)), (7, .bool b), (13, .bool !b), (15, .int .i64 i)], [], K⟩ ∧ LatIn H K l (readsF i (cs.drop i) ++ [t])) _ ?_ cs.length _ ⟨0, K, by omega, by simp [prS], by simpa using h⟩
  rintro m _ ⟨i, K, hi, rfl, hL⟩ P hI hX hR
  by_cases hlt : i < cs.length
  · have hw := wrap_id (n := (i : Int) + 1) (by omega) (by omega)
    have hlt' : (i : Int) < cs.length := by omega
    have hd : cs.drop i = cs[i] :: cs.drop (i + 1) := (List.getElem_cons_drop hlt).symm
    rw [hd] at hL
    obtain ⟨out, K', e1, h1, hO, _⟩ := hL.drop (n := i) hok (by simp [readsF_len, readsF]; omega)
    obtain ⟨d1, d2⟩ := reads_drop i cs[i] (cs.drop (i + 1)) t
    rw [d1] at e1
    rw [d2] at h1
    have hon := hO.view.noL
    cases b with
    | true =>
      simp -implicitDefEqProofs [hlt, e1, hon, hw]
      refine hI _ _ _ (m - 1) (by omega) ?_
      exact ⟨i + 1, K', by omega, by simp, h1⟩
    | false =>
      simp -implicitDefEqProofs [hlt, e1, hon, hw]
      refine hI _ _ _ (m - 1) (by omega) ?_
      exact ⟨i + 1, K', by omega, by simp, h1⟩
  · have hd : cs.drop i = [] := List.drop_of_length_le (by omega)
    rw [hd] at hL
    simp -implicitDefEqProofs [hlt]
    refine hX _ _ ?_
    exact ⟨rfl, by simp, by simp, by simp, hL⟩
end

set_option maxRecDepth 8000 in
theorem nReads {H : AHeap} (hok : H.ok) {v u : AV} {ps : List SpIn} {x : List Sp} (hv : View H 1 v (ps.map rowX)) (hp : ∀ p ∈ ps, Sps H p.xv p.x) (hu : Sps H u x) : OkR (call T 12 [v, u] H) fun r => r.1 = .bool true := by
  rw [call_at (show T 12 = some (.ir ⟨_, _, _, _, _⟩) from T12)]
  have hokT := AHeap.ok.top hok.1
  have e0 := eNew H
  have b0 : LatIn H.top (H.top.alloc (.row false 1 [.nils])) H.n [] := LatIn.new hokT
  have e1 := sAlive b0.ok
  obtain ⟨z, ⟨e, lo, K⟩, f1, rfl, cs, hcs, g1, g5, g6, g7, hL⟩ := reads_loop0 hokT hv.top (fun p h => (hp p h).top) hu.top b0
  simp only at g1 g5 g6 g7 hL
  have huK := hu.top.chg (show H.top.wf from hok.1) hL.chg (by simp)
  have e3 := sActFits (a := ⟨0, 0, x, false⟩) huK
  simp only [rowAct] at e3
  have hun := hu.view.noL
  have huc := hu.view.cells
  by_cases hf : fitsB x = true
  · rw [hf] at e3
    obtain ⟨K', e5, h5⟩ := hL.claim (n := (cs.length : Nat)) (w := true) hokT huK (by rw [readsF_len]; omega)
    have hE := reads_claimE cs x
    have hR1 : claimR (readsF 0 cs) (cs.length : Nat) x true = (decide (claimE (readsF 0 cs) (cs.length : Nat) x = 0) && !meetAny cs x) := by
      unfold claimR; rw [reads_count1]
    rw [hR1] at e5
    by_cases h0 : claimE (readsF 0 cs) (cs.length : Nat) x = 0
    · rw [h0, decide_eq_true rfl, Bool.true_and] at e5
      have h5' : LatIn H.top K' H.n (readsF 0 cs ++ [⟨(cs.length : Nat), x, true⟩]) := by
        unfold claimL at h5
        rw [if_pos h0] at h5
        exact h5
      obtain ⟨z2, ⟨e', lo', K2⟩, f2, rfl, q5, q6, q13, hL2⟩ := reads_loop1 (b := meetAny cs x) hokT hcs h5'
      simp only at q5 q6 q13 hL2
      have e6 := hL2.free (cs.length : Nat)
      have e7 : freeP [⟨(cs.length : Nat), x, true⟩] (cs.length : Nat) = true := by simp [freeP, aheadC]
      rw [e7] at e6
      obtain ⟨out, K3, f5, _, hO, _⟩ := hL2.claims hokT (by simp)
      have f6 := hO.view.lenS
      have f7 := hO.view.noL
      simp only [List.map_cons, List.map_nil, List.length_cons, List.length_nil] at f6
      by_cases hz : cs.length = 0
      · have hcs0 : cs = [] := List.length_eq_zero_iff.1 hz
        subst hcs0
        have hm : meetAny [] x = false := rfl
        rw [hm] at f2 q13 e5 g7
        simp only [List.length_nil] at *
        rw [show ((0 : Nat) : Int) = 0 from rfl] at *
        simp only [Bool.not_false] at *
        simp -implicitDefEqProofs [e0, e1, f1, g1, g5, g6, g7, hun, huc, e3, e5, f2, q5, q6, q13, e6, f5, f6, f7]
      · have hz' : (0 : Int) < (cs.length : Nat) := by omega
        have hz2 : 0 < cs.length := by omega
        generalize meetAny cs x = b at *
        simp -implicitDefEqProofs [e0, e1, f1, g1, g5, g6, g7, hun, huc, e3, e5, f2, q5, q6, q13, e6, f5, f6, f7, hz', hz2]
    · have h51 : claimE (readsF 0 cs) (cs.length : Nat) x = 51 := by
        rcases reads_claimE2 (readsF 0 cs) (cs.length : Nat) x with h | h | h
        · exact absurd h hE
        · exact h
        · exact absurd h h0
      rw [h51] at e5
      simp -implicitDefEqProofs [e0, e1, f1, g1, g5, g6, g7, hun, huc, e3, e5]
  · have hf' : fitsB x = false := by simpa using hf
    rw [hf'] at e3
    simp -implicitDefEqProofs [e0, e1, f1, g1, g5, g6, g7, hun, huc, e3]

theorem lawReads : Law T 12 [.slice 1 24 (.slice 2 32 spSh), .slice 2 32 spSh] := by
  intro H ls hw hl ha
  obtain ⟨a, b, rfl, ⟨v, rows, rfl, hv, _, _, hc⟩, ⟨u, rows2, rfl, hu, hb2, _, hc2⟩⟩ := args2 ha
  obtain ⟨x, hx⟩ := sps_of hu hb2 hc2
  have key : ∀ rows : List (List AV), (∀ r ∈ rows, IsC H (.slice 2 32 spSh) r) → ∃ ps : List SpIn, rows = ps.map rowX ∧ ∀ p ∈ ps, Sps H p.xv p.x := by
    intro rows
    induction rows with
    | nil => intro _; exact ⟨[], rfl, by simp⟩
    | cons r rows ih =>
      intro h
      obtain ⟨ps, h1, h2⟩ := ih fun r hr => h r (by simp [hr])
      obtain ⟨xv, rs, h3, h4, h5, _, h6⟩ := h r (by simp)
      obtain ⟨y, hy⟩ := sps_of h4 h5 h6
      exact ⟨⟨y, xv⟩ :: ps, by rw [h1, h3]; rfl, by simp [hy]; exact h2⟩
  obtain ⟨ps, rfl, hps⟩ := key rows hc
  exact law_of (nReads ⟨hw, by omega⟩ hv.view hps hx)
end Go.Proofs.Ytglfchdpcididaa
