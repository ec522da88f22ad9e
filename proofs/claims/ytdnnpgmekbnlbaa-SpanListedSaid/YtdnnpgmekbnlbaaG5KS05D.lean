/- What is left of a list of texts when some are deleted. No condition. -/
import Derived.Test.YtdnnpgmekbnlbaaG5KS05A
import Derived.Test.YtdnnpgmekbnlbaaAmW
set_option linter.unusedVariables false
set_option linter.unusedSimpArgs false
namespace Go.Proofs.Ytdnnpgmekbnlbaa
open Go.Wam

attribute [local simp] den_seq den_region den_regionD0 den_regionD1 den_condB condB_bool den_block den_keep den_ret den_skip den_exit sops_cons sops_nil sopsR_cons sopsR_nil goR_eq readOk trace_cons trace_nil Opd.ev evs Go.Wam.look St.put enterA zipI leaveR_ret leaveR_normal rvs RV.ev
  st_guard guardB_bool st_move st_pick pickB_bool st_allocL st_alloc st_boxL st_box st_build st_buildSlice st_load st_store st_nilCheck nilC st_bin st_un st_convI convI st_convS convS st_convB convB st_mkIface st_mkFunc st_mkMap st_mkSlice mkSl st_slice st_fieldAddr fldA st_field fldV st_idx idxS_slice idxS_oslice st_idxArr idxArr st_idxStr idxStr st_idxAgg idxAgg st_extract extA st_call callA_func st_len st_lenStr lenStr st_lenArr st_lenMap st_append st_clear clearV st_maxs st_mins
  load_ptr load_lptr storeA rd wr goOn_normal goOn_exit goOn_ret outBlock_normal outBlock_exit outBlock_ret prune freeL_nil freeL_cons frV_lptr frV_tuple frV_noL fillA allNoL packA unA checkAt ev_load wantedA beq_same beqL_same AV.beq AV.beqL drawCond freshD readsOk isRead undefA optInt optIntO
  strOp aeqF_nil aeqF_cons andA_some i_add i_sub i_mul i_lss i_leq i_gtr i_geq i_quo i_rem i_eql i_neq s_eql s_neq s_lss
  s_leq s_gtr s_geq s_add e_bool n_bool e_nilp n_nilp e_ptr n_ptr e_lptr n_lptr e_agg n_agg
  e_nils n_nils e_slice n_slice e_oslice n_oslice e_eslice n_eslice e_xslice n_xslice e_nilm n_nilm e_map n_map
  e_nilFunc n_nilFunc e_func n_func q_int q_bool q_str q_struct q_ptr0 q_ptrL0 q_ptrR0 q_ptrL1 q_ptrR1 q_slice0
  q_sliceL0 q_sliceR0 q_sliceL1 q_sliceR1 q_sliceL2 q_sliceR2 q_sliceL3 q_sliceR3 q_map0 q_mapL0 q_mapR0 q_func0 q_funcL0 q_funcR0
  okR_some guardB_tuple get_alloc_eq rdAt_alloc_eq set_alloc_eq set_alloc_ne get_alloc_ne rdAt_alloc_ne
def sR (s : List UInt8) : List AV := [.str s]
theorem sR_flat (l : List (List UInt8)) : (l.map sR).flatten = l.map AV.str := by
  induction l with
  | nil => rfl
  | cons a l ih => rw [List.map_cons, List.flatten_cons, ih]; rfl
theorem sR_len (l : List (List UInt8)) : ∀ r ∈ l.map sR, r.length = 1 := fun r hr => by
  obtain ⟨s, _, rfl⟩ := List.mem_map.1 hr; rfl
/-- A list of texts that is one's own, and where it stands. -/
structure SOwn (K : AHeap) (id kc : Nat) (l : List (List UInt8)) (rest : List AV) : Prop where
  obj : K.get id = some (.row false 1 (l.map AV.str ++ rest))
  cap : l.length ≤ kc
  fit : kc ≤ l.length + rest.length
theorem SOwn.own {K : AHeap} {id kc : Nat} {l : List (List UInt8)} {rest : List AV} (h : SOwn K id kc l rest) : Own K 1 (.oslice id 0 l.length kc 1) (l.map sR) := by
  have e : (l.map sR).length = l.length := List.length_map ..
  have h1 := h.cap
  have h2 := h.fit
  exact ⟨sR_len l, .inr ⟨id, kc, rest, by rw [e], by rw [e]; exact h1, by rw [e]; omega, by rw [sR_flat]; exact h.obj⟩⟩
theorem map_wr (l : List (List UInt8)) (rest : List AV) {i : Nat} (x : List UInt8) (hi : i < l.length) :
    wr i [.str x] (l.map AV.str ++ rest) = (l.set i x).map AV.str ++ rest := by
  have e : (l.map AV.str).length = l.length := List.length_map ..
  have e2 : (l.set i x).map AV.str = (l.map AV.str).take i ++ (AV.str x :: (l.map AV.str).drop (i + 1)) := by
    rw [List.set_eq_take_append_cons_drop, if_pos hi, List.map_append, List.map_cons, List.map_take, List.map_drop]
  rw [e2]
  unfold wr
  rw [List.take_append_of_le_length (by omega), List.length_singleton, List.drop_append_of_le_length (by omega)]
  simp
theorem SOwn.store {K : AHeap} {id kc : Nat} {l : List (List UInt8)} {rest : List AV} (h : SOwn K id kc l rest) {i : Nat} (x : List UInt8) (hi : i < l.length) :
    SOwn (K.set id (.row false 1 ((l.set i x).map AV.str ++ rest))) id kc (l.set i x) rest :=
  ⟨get_set_same _ _ (by rw [h.obj]; rfl), by rw [List.length_set]; exact h.cap, by rw [List.length_set]; exact h.fit⟩

section
variable {H K : AHeap} {id kc : Nat} {l : List (List UInt8)} {rest : List AV} {p : List UInt8 → Bool} {g : FuncId} {fs cap : List AV}
theorem dfs_loop {i0 : Nat} (hok : H.ok) (hS : SOwn H id kc l rest) (hl : l.length < 9223372036854775807)
    (hp : ∀ K, Chg [id] H K → ∀ s ∈ l, call T g (fs ++ (.str s :: cap)) K = some (.bool (p s), K))
    (hi : i0 < l.length) (h0 : (l.take (i0 + 1)).filter (fun s => !p s) = l.take i0) :
    ∃ z s', den T (.loop L49_0) ⟨[(0, .oslice id 0 l.length kc 1), (1, .func (.func g) fs cap), (5, .int .i64 i0), (6, .int .i64 ((i0 : Int) + 1))], [], H⟩ = some (z, s') ∧
      z = .exit 0 ∧ ∃ l', l'.length = l.length ∧ (l.filter (fun s => !p s)).length < l.length ∧ l'.take (l.filter (fun s => !p s)).length = l.filter (fun s => !p s) ∧ Go.Wam.look 0 s'.env = some (.oslice id 0 l.length kc 1) ∧ Go.Wam.look 5 s'.env = some (.int .i64 (l.filter (fun s => !p s)).length) ∧ s'.loc = [] ∧ SOwn s'.H id kc l' rest ∧ Chg [id] H s'.H := by
  refine loop_inv (I := fun m st => ∃ (j : Nat) (l' : List (List UInt8)) (K : AHeap), j + m = l.length ∧ st = ⟨[(0, .oslice id 0 l.length kc 1), (1, .func (.func g) fs cap), (5, .int .i64 ((l.take j).filter (fun s => !p s)).length), (6, .int .i64 j)], [], K⟩ ∧ l'.length = l.length ∧ ((l.take j).filter (fun s => !p s)).length < j ∧ l'.take ((l.take j).filter (fun s => !p s)).length = (l.take j).filter (fun s => !p s) ∧ l'.drop j = l.drop j ∧ SOwn K id kc l' rest ∧ Chg [id] H K) _ ?_ (l.length - (i0 + 1)) _ ⟨i0 + 1, l, H, by omega, ?_, rfl, ?_, ?_, rfl, hS, .refl _ _⟩
  rotate_left
  · rw [h0, List.length_take, Nat.min_eq_left (by omega)]; simp [prS]
  · rw [h0, List.length_take]; omega
  · rw [h0, List.length_take, Nat.min_eq_left (by omega)]
  rintro m _ ⟨j, l', K, hj, rfl, hl', hq, ht, hd, hSK, hC⟩ P hI hX hR
  have hO := hSK.own
  rw [hl'] at hO
  have e0 := hO.view.lenS
  rw [List.length_map, hl'] at e0
  have hsu : ∀ h : j < l.length, (l.take (j + 1)).filter (fun s => !p s) = (l.take j).filter (fun s => !p s) ++ (if p l[j] = true then [] else [l[j]]) := fun h => by
    rw [List.take_succ_eq_append_getElem h, List.filter_append]
    cases hpj : p l[j] <;> simp [hpj]
  generalize hF : (l.take j).filter (fun s => !p s) = F at *
  by_cases hlt : j < l.length
  · have hw := wrap_id (n := (j : Int) + 1) (by omega) (by omega)
    have hjl : l'[j]'(by omega) = l[j] := by
      have := congrArg (fun x => x[0]?) hd
      simp only [List.getElem?_drop, Nat.add_zero] at this
      rw [List.getElem?_eq_getElem (by omega), List.getElem?_eq_getElem hlt] at this
      exact Option.some.inj this
    have e1 := hO.view.idx .i64 (n := j) (by omega) (by rw [List.length_map]; omega)
    have e2 := hO.view.rd (i := j) (r := sR l[j]) (by rw [List.getElem?_map, List.getElem?_eq_getElem (by omega), hjl]; rfl) false (k := 1) (f := 0) (by omega) (by omega) (by simp)
    have e4 : rd false 1 0 (sR l[j]) = some (.str l[j]) := rfl
    rw [e4] at e2
    simp only [Int.toNat_natCast, Nat.add_zero, Nat.mul_one, sid_oslice, soff_oslice, Nat.zero_add] at e1 e2
    have e3 := hp K hC l[j] (List.getElem_mem hlt)
    have hsu := hsu hlt
    by_cases h2 : p l[j] = true
    · rw [if_pos h2, List.append_nil] at hsu
      rw [h2] at e3
      simp -implicitDefEqProofs [e0, hlt, e1, e2, e3, hw]
      refine hI _ _ _ (m - 1) (by omega) ?_
      refine ⟨j + 1, l', K, by omega, by simp [hsu], hl', by rw [hsu]; omega, by rw [hsu]; exact ht, ?_, hSK, hC⟩
      rw [← List.drop_drop, ← List.drop_drop, hd]
    · have h3 : p l[j] = false := by simpa using h2
      rw [if_neg h2] at hsu
      rw [h3] at e3
      have hw2 := wrap_id (n := (F.length : Int) + 1) (by omega) (by omega)
      have e5 := hO.view.idx .i64 (n := F.length) (by omega) (by rw [List.length_map]; omega)
      have hg := hSK.obj
      have hwr : (l'.map AV.str ++ rest).take F.length ++ (AV.str l[j] :: (l'.map AV.str ++ rest).drop (F.length + 1)) = (l'.set F.length l[j]).map AV.str ++ rest := by
        have := map_wr l' rest l[j] (i := F.length) (by omega)
        unfold wr at this
        simpa only [List.append_assoc, List.singleton_append, List.length_singleton] using this
      have hfit : F.length + 1 ≤ (l'.map AV.str ++ rest).length := by rw [List.length_append, List.length_map]; omega
      generalize hc : l'.map AV.str ++ rest = cells at *
      simp only [Int.toNat_natCast, Nat.mul_one, sid_oslice, soff_oslice, Nat.zero_add] at e5
      simp -implicitDefEqProofs [e0, hlt, e1, e2, e3, e5, hg, hfit, hwr, hw, hw2]
      refine hI _ _ _ (m - 1) (by omega) ?_
      have hset : l'.set F.length l[j] = l'.take F.length ++ (l[j] :: l'.drop (F.length + 1)) := by rw [List.set_eq_take_append_cons_drop, if_pos (by omega)]
      refine ⟨j + 1, l'.set F.length l[j], _, by omega, by simp [hsu], by simp [hl'], by rw [hsu, List.length_append]; have : [l[j]].length = 1 := rfl; omega, ?_, ?_, hSK.store l[j] (i := F.length) (by omega), hC.trans hok (Chg.set _ _ _) (by simp)⟩
      · rw [hsu, hset, ht, List.length_append]
        have : [l[j]].length = 1 := rfl
        rw [this, List.take_append, List.take_of_length_le (by omega), Nat.add_sub_cancel_left]
        rfl
      · rw [List.drop_set_of_lt (by omega), ← List.drop_drop, ← List.drop_drop, hd]
  · have hjl : j = l.length := by omega
    rw [hjl, List.take_length] at hF
    simp -implicitDefEqProofs [e0, hlt]
    refine hX _ _ ?_
    exact ⟨rfl, l', hl', by rw [hF]; omega, by rw [hF]; exact ht, by simp, by rw [hF]; simp, rfl, hSK, hC⟩

theorem zeros_len (n : Nat) : (zerosA [.str []] n).length = n := by
  induction n with
  | zero => rfl
  | succ n ih => rw [zerosA, List.length_append, ih, List.length_singleton]; omega
theorem dfs_no (l : List (List UInt8)) (p : List UInt8 → Bool) (h : l.findIdx? p = none) : l.filter (fun s => !p s) = l := by
  rw [List.findIdx?_eq_none_iff] at h
  exact List.filter_eq_self.2 fun s hs => by simp [h s hs]

/-- DeleteFunc, of texts. -/
theorem sDeleteFunc {v : AV} (hok : H.ok) (hO : Own H 1 v (l.map sR)) (hl : l.length < 9223372036854775807)
    (hp : ∀ K, Chg (sown v) H.top K → ∀ s ∈ l, call T g (fs ++ (.str s :: cap)) K = some (.bool (p s), K)) (hp0 : ∀ s ∈ l, call T g (fs ++ (.str s :: cap)) H.top.top = some (.bool (p s), H.top.top)) (hvo : v.okB H.n = true) :
    ∃ v' K, call T 49 [v, .func (.func g) fs cap] H = some (v', K) ∧ Own K 1 v' ((l.filter (fun s => !p s)).map sR) ∧ Chg (sown v) H K ∧ sown v' = sown v ∧ v'.noL = true ∧ v'.okB K.n = true := by
  have hokT := AHeap.ok.top hok.1
  have hvn := hO.view.noL
  have e1 := indexFunc (T := T) (k := 62) (agg := false) (p := fun r => match r with | [.str s] => p s | _ => false) (g := g) (fs := fs) (cap := cap) T62 (by omega) (fun _ => rfl) hO.view.top (by rw [List.length_map]; exact hl)
    (fun r hr => by obtain ⟨s, hs, rfl⟩ := List.mem_map.1 hr; exact hp0 s hs) (fun r hr => by obtain ⟨s, hs, rfl⟩ := List.mem_map.1 hr; rfl)
  have e2 : idxB (fun r => match r with | [.str s] => p s | _ => false) (l.map sR) = (match l.findIdx? p with | some i => (i : Int) | none => -1) := by
    unfold idxB
    rw [List.findIdx?_map]
    rfl
  rw [e2] at e1
  rw [call_at (show T 49 = some (.ir ⟨_, _, _, _, _⟩) from T49)]
  cases hf : l.findIdx? p with
  | none =>
    rw [hf] at e1
    simp only at e1
    refine ⟨v, H, ?_, by rw [dfs_no l p hf]; exact hO, .refl _ _, rfl, hvn, hvo⟩
    simp -implicitDefEqProofs [e1, hvn, fin_pure, hvo]
  | some i =>
    rw [hf] at e1
    simp only at e1
    obtain ⟨hi, hpi, hpj⟩ := List.findIdx?_eq_some_iff_getElem.1 hf
    obtain ⟨_, ⟨_, hr⟩ | ⟨id, kc, rest, rfl, hk, hkr, hg⟩⟩ := hO
    · rw [List.map_eq_nil_iff] at hr; subst hr; simp at hi
    rw [List.length_map] at *
    have hS : SOwn H.top id kc l rest := ⟨by rw [top_get, hg, sR_flat], hk, by omega⟩
    have h0 : (l.take (i + 1)).filter (fun s => !p s) = l.take i := by
      rw [List.take_succ_eq_append_getElem hi, List.filter_append]
      simp only [List.filter_cons, hpi, List.filter_nil, Bool.not_true, Bool.false_eq_true, if_false, List.append_nil]
      refine List.filter_eq_self.2 fun s hs => ?_
      obtain ⟨j, hj, rfl⟩ := List.mem_iff_getElem.1 hs
      rw [List.length_take] at hj
      rw [List.getElem_take]
      have := hpj j (by omega)
      simp at this ⊢; exact this
    obtain ⟨z, ⟨e, lo, K⟩, f1, rfl, l', q1, q2, q3, q4, q5, q6, hSK, hC⟩ := dfs_loop (p := p) (g := g) (fs := fs) (cap := cap) hokT hS hl hp hi h0
    simp only at q4 q5 q6 hSK hC
    subst q6
    generalize hF : l.filter (fun s => !p s) = F at *
    have hw := wrap_id (n := (i : Int) + 1) (by omega) (by omega)
    have hkc := hSK.cap
    have hfit := hSK.fit
    have hg2 := hSK.obj
    have hid : id < H.n := AHeap.get_lt hg hok.1
    have s1 : sliceA (.slice 1) (.oslice id 0 l.length kc 1) F.length none none = some (.oslice id F.length (l.length - F.length) (kc - F.length) 1) := by
      simp [sliceA, inB]; omega
    have s2 : sliceA (.slice 1) (.oslice id 0 l.length kc 1) 0 (some F.length) none = some (.oslice id 0 F.length kc 1) := by
      simp [sliceA, inB]; omega
    have hn0 : ¬ l.length - F.length = 0 := by omega
    have hfc : F.length + (l.length - F.length) ≤ (l'.map AV.str ++ rest).length := by rw [List.length_append, List.length_map]; omega
    have hwr : wr F.length (zerosA [.str []] (l.length - F.length)) (l'.map AV.str ++ rest) = F.map AV.str ++ (zerosA [.str []] (l.length - F.length) ++ rest) := by
      have e : (l'.map AV.str).length = l'.length := List.length_map ..
      unfold wr
      rw [zeros_len, List.take_append_of_le_length (by omega), ← List.map_take, q3, show F.length + (l.length - F.length) = (l'.map AV.str).length by omega, List.drop_left]
    unfold wr at hwr
    have hfin := fin_keep (H := H) (K := K.set id (.row false 1 (F.map AV.str ++ (zerosA [.str []] (l.length - F.length) ++ rest)))) (v := .oslice id 0 F.length kc 1) (.inl (by rw [AHeap.set_low]; split <;> omega))
    generalize hz : zerosA [.str []] (l.length - F.length) = zs at *
    refine ⟨.oslice id 0 F.length kc 1, (K.set id (.row false 1 (F.map AV.str ++ (zs ++ rest)))).lowered H.low, ?_, ?_, (hC.trans hokT (Chg.set _ _ _) (by simp)).lowered hok, rfl, rfl, by rw [AV.okB]; exact decide_eq_true (by have := hC.le; simp only [top_n] at this; show id < K.n; omega)⟩
    · generalize hc : l'.map AV.str ++ rest = cells at *
      simp -implicitDefEqProofs [e1, hw, f1, q4, q5, s1, s2, clearA, hn0, hg2, hfc, hz, zeros_len, hwr, hfin]
    · have := SOwn.own (K := (K.set id (.row false 1 (F.map AV.str ++ (zs ++ rest)))).lowered H.low) (id := id) (kc := kc) (l := F) (rest := zs ++ rest) ⟨by rw [lowered_get]; exact get_set_same _ _ (by rw [hg2]; rfl), by omega, by rw [List.length_append, ← hz, zeros_len]; omega⟩
      exact this
end
end Go.Proofs.Ytdnnpgmekbnlbaa
