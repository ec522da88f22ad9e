/- Sort and Compact of texts, any list. No condition. -/
import Derived.Test.YtdnnpgmekbnlbaaG5KS05D
import Derived.Test.YtdnnpgmekbnlbaaAmX
set_option linter.unusedVariables false
set_option linter.unusedSimpArgs false
namespace Go.Proofs.Ytdnnpgmekbnlbaa
open Go.Wam

attribute [local simp] den_seq den_region den_regionD0 den_regionD1 den_condB condB_bool den_block den_keep den_ret den_skip den_exit sops_cons sops_nil sopsR_cons sopsR_nil goR_eq readOk trace_cons trace_nil Opd.ev evs Go.Wam.look St.put enterA zipI leaveR_ret leaveR_normal rvs RV.ev
  st_guard guardB_bool st_move st_pick pickB_bool st_allocL st_alloc st_boxL st_box st_build st_buildSlice st_load st_store st_nilCheck nilC st_bin st_un st_convI convI st_convS convS st_convB convB st_mkIface st_mkFunc st_mkMap st_mkSlice mkSl st_slice st_fieldAddr fldA st_field fldV st_idx idxS_slice idxS_oslice st_idxArr idxArr st_idxStr idxStr st_idxAgg idxAgg st_extract extA st_call callA_func st_len st_lenStr lenStr st_lenArr st_lenMap st_append st_clear clearV st_maxs st_mins
  load_ptr load_lptr storeA rd wr goOn_normal goOn_exit goOn_ret outBlock_normal outBlock_exit outBlock_ret prune freeL_nil freeL_cons frV_lptr frV_tuple frV_noL fillA allNoL packA unA checkAt ev_load wantedA beq_same beqL_same AV.beq AV.beqL drawCond freshD readsOk isRead undefA optInt optIntO
  strOp aeqF_nil aeqF_cons andA_some i_add i_sub i_mul i_lss i_leq i_gtr i_geq i_quo i_rem i_eql i_neq s_eql s_neq s_lss
  s_leq s_gtr s_geq s_add e_bool n_bool e_nilp n_nilp e_ptr n_ptr e_lptr n_lptr e_agg n_agg
  e_nils n_nils e_slice n_slice e_oslice n_oslice e_eslice n_eslice e_xslice n_xslice e_nilm n_nilm e_map n_map
  e_nilFunc n_nilFunc e_func n_func q_int q_bool q_str q_struct q_ptr0 q_ptrL0 q_ptrR0 q_ptrL1 q_ptrR1 q_slice0
  q_sliceL0 q_sliceR0 q_sliceL1 q_sliceR1 q_sliceL2 q_sliceR2 q_sliceL3 q_sliceR3 q_map0 q_mapL0 q_mapR0 q_func0 q_funcL0 q_funcR0
  okR_some guardB_tuple get_alloc_eq rdAt_alloc_eq set_alloc_eq set_alloc_ne get_alloc_ne rdAt_alloc_ne
def SortsTo (a b : List (List UInt8)) : Prop := ∀ (K : AHeap) (v : AV), K.ok → Own K 1 v (a.map sR) → v.okB K.n = true → ∃ u K', call T 52 [v] K = some (u, K') ∧ Own K' 1 v (b.map sR) ∧ Chg (sown v) K K'
def CompactsTo (a b : List (List UInt8)) : Prop := ∀ (K : AHeap) (v : AV), K.ok → Own K 1 v (a.map sR) → v.okB K.n = true → ∃ v' K', call T 53 [v] K = some (v', K') ∧ Own K' 1 v' (b.map sR) ∧ Chg (sown v) K K' ∧ sown v' = sown v

theorem sorts (l : List (List UInt8)) (hl : l.length < 4611686018427387904) : SortsTo l (srt l) := fun K v hok hO hb => by
  have hlen := srt_len l
  obtain ⟨_, ⟨rfl | ⟨id, rfl⟩, hr⟩ | ⟨id, kc, rest, rfl, hk, hkr, hg⟩⟩ := id hO
  · rw [List.map_eq_nil_iff] at hr; subst hr
    have : srt [] = [] := List.length_eq_zero_iff.1 hlen
    exact ⟨.tuple [], K, by rw [call_prim T52]; rfl, by rw [this]; exact hO, .refl _ _⟩
  · rw [List.map_eq_nil_iff] at hr; subst hr
    have : srt [] = [] := List.length_eq_zero_iff.1 hlen
    exact ⟨.tuple [], K, by rw [call_prim T52]; rfl, by rw [this]; exact hO, .refl _ _⟩
  · rw [List.length_map] at *
    by_cases h0 : l.length = 0
    · have h1 : l = [] := List.length_eq_zero_iff.1 h0
      subst h1
      have : srt [] = [] := List.length_eq_zero_iff.1 hlen
      exact ⟨.tuple [], K, by rw [call_prim T52]; rfl, by rw [this]; exact hO, .refl _ _⟩
    · rw [sR_flat] at hg
      have e1 : (l.map AV.str ++ rest).take l.length = l.map AV.str := by
        have : l.length = (l.map AV.str).length := (List.length_map ..).symm
        rw [this, List.take_left]
      have e2 : (l.map AV.str ++ rest).drop l.length = rest := by
        have : l.length = (l.map AV.str).length := (List.length_map ..).symm
        rw [this, List.drop_left]
      have e3 : l.length ≤ (l.map AV.str ++ rest).length := by rw [List.length_append, List.length_map]; omega
      refine ⟨.tuple [], K.set id (.row false 1 ((srt l).map AV.str ++ rest)), ?_, ?_, Chg.set _ _ _⟩
      · rw [call_prim T52]
        simp only [sortG, hg]
        rw [if_neg h0, if_pos ⟨trivial, trivial, hl⟩, if_pos e3, e1, e2, strs_map]
        rfl
      · have := SOwn.own (K := K.set id (.row false 1 ((srt l).map AV.str ++ rest))) (id := id) (kc := kc) (l := srt l) (rest := rest) ⟨get_set_same _ _ (by rw [hg]; rfl), by omega, by omega⟩
        rw [hlen] at this
        exact this

/-! ## Compact -/
/-- The first k, each once where like stand side by side. -/
def cpt (l : List (List UInt8)) : Nat → List (List UInt8)
  | 0 => []
  | k + 1 => cpt l k ++ (match l[k]? with | some x => if 0 < k ∧ l[k - 1]? = some x then [] else [x] | none => [])
theorem cpt_succ (l : List (List UInt8)) {k : Nat} (h0 : 0 < k) (hk : k < l.length) : cpt l (k + 1) = cpt l k ++ (if l[k] = l[k - 1] then [] else [l[k]]) := by
  rw [cpt, List.getElem?_eq_getElem hk, List.getElem?_eq_getElem (by omega : k - 1 < l.length)]
  simp only
  by_cases h : l[k] = l[k - 1]
  · rw [if_pos h, if_pos ⟨h0, by rw [h]⟩]
  · rw [if_neg h, if_neg (by rintro ⟨_, e⟩; exact h (Option.some.inj e).symm)]
theorem cpt_len (l : List (List UInt8)) (k : Nat) : (cpt l k).length ≤ k := by
  induction k with
  | zero => simp [cpt]
  | succ k ih =>
    rw [cpt, List.length_append]
    split
    · split <;> simp <;> omega
    · simp; omega
theorem cpt_one (l : List (List UInt8)) : cpt l 1 = l.take 1 := by
  cases l <;> simp [cpt]

section
variable {H K : AHeap} {id kc : Nat} {l : List (List UInt8)} {rest : List AV}
theorem cpt_in {k0 n2 : Nat} (hok : H.ok) (hS : SOwn H id kc l rest) (hl : l.length < 9223372036854775807) (h1 : 1 ≤ k0) (hn : k0 + n2 = l.length) (hn2 : 0 < n2) (h0 : cpt l (k0 + 1) = l.take k0) :
    ∃ z s', den T (.loop L53_0) ⟨[(0, .oslice id 0 l.length kc 1), (3, .int .i64 k0), (4, .oslice id k0 n2 (kc - k0) 1), (5, .int .i64 1)], [], H⟩ = some (z, s') ∧
      z = .exit 2 ∧ ∃ l', l'.length = l.length ∧ (cpt l l.length).length < l.length ∧ l'.take (cpt l l.length).length = cpt l l.length ∧ Go.Wam.look 0 s'.env = some (.oslice id 0 l.length kc 1) ∧ Go.Wam.look 3 s'.env = some (.int .i64 (cpt l l.length).length) ∧ s'.loc = [] ∧ SOwn s'.H id kc l' rest ∧ Chg [id] H s'.H := by
  have hc0 : (cpt l (k0 + 1)).length = k0 := by rw [h0, List.length_take]; omega
  refine loop_inv (I := fun m st => ∃ (q : Nat) (l' : List (List UInt8)) (K : AHeap), q + m = n2 ∧ 1 ≤ q ∧ st = ⟨[(0, .oslice id 0 l.length kc 1), (3, .int .i64 (cpt l (k0 + q)).length), (4, .oslice id k0 n2 (kc - k0) 1), (5, .int .i64 q)], [], K⟩ ∧ l'.length = l.length ∧ (cpt l (k0 + q)).length < k0 + q ∧ l'.take (cpt l (k0 + q)).length = cpt l (k0 + q) ∧ l'.drop (k0 + q - 1) = l.drop (k0 + q - 1) ∧ SOwn K id kc l' rest ∧ Chg [id] H K) _ ?_ (n2 - 1) _ ⟨1, l, H, by omega, Nat.le_refl _, by rw [hc0]; simp [prS], rfl, by omega, by rw [hc0, h0], rfl, hS, .refl _ _⟩
  rintro m _ ⟨q, l', K, hq, hq1, rfl, hl', hlt0, ht, hd, hSK, hC⟩ P hI hX hR
  have hO := hSK.own
  rw [hl'] at hO
  have hcap := hSK.cap
  have hfit := hSK.fit
  have hg := hSK.obj
  by_cases hlt : q < n2
  · have hltI : (q : Int) < n2 := by omega
    have hqI : (1 : Int) ≤ q := by omega
    have hqI2 : (0 : Int) ≤ (q : Int) - 1 := by omega
    have hqI3 : (q : Int) - 1 < n2 := by omega
    have hqI4 : ((q : Int) - 1).toNat = q - 1 := by omega
    have hqle : q ≤ n2 := by omega
    have hw := wrap_id (n := (q : Int) + 1) (by omega) (by omega)
    have hw1 := wrap_id (n := (q : Int) - 1) (by omega) (by omega)
    have hj : k0 + q < l.length := by omega
    have hj1 : k0 + q - 1 < l.length := by omega
    have hpos : 0 < k0 + q := Nat.lt_of_lt_of_le h1 (Nat.le_add_right _ _)
    have hsu := cpt_succ l (k := k0 + q) hpos hj
    have e2 : K.rdAt id false 1 (k0 + q) = some (.str l[k0 + q]) := by
      have g1 : l'[k0 + q]? = some l[k0 + q] := by
        have := congrArg (fun x => x[1]?) hd
        simp only [List.getElem?_drop] at this
        rw [show k0 + q - 1 + 1 = k0 + q by omega, List.getElem?_eq_getElem hj] at this
        exact this
      have := hO.view.rd (i := k0 + q) (r := sR l[k0 + q]) (by rw [List.getElem?_map, g1]; rfl) false (k := 1) (f := 0) (by omega) (by omega) (by simp)
      rw [show rd false 1 0 (sR l[k0 + q]) = some (.str l[k0 + q]) from rfl] at this
      simpa using this
    have e3 : K.rdAt id false 1 (k0 + (q - 1)) = some (.str (l[k0 + q - 1]'hj1)) := by
      have g0 : l'[k0 + q - 1]? = some (l[k0 + q - 1]'hj1) := by
        have := congrArg (fun x => x[0]?) hd
        simp only [List.getElem?_drop, Nat.add_zero] at this
        rw [List.getElem?_eq_getElem hj1] at this
        exact this
      have := hO.view.rd (i := k0 + q - 1) (r := sR (l[k0 + q - 1]'hj1)) (by rw [List.getElem?_map, g0]; rfl) false (k := 1) (f := 0) (by omega) (by omega) (by simp)
      rw [show rd false 1 0 (sR (l[k0 + q - 1]'hj1)) = some (.str (l[k0 + q - 1]'hj1)) from rfl] at this
      rw [show k0 + (q - 1) = k0 + q - 1 by omega]
      simpa using this
    have hdd : l'.drop (k0 + (q + 1) - 1) = l.drop (k0 + (q + 1) - 1) := by
      rw [show k0 + (q + 1) - 1 = (k0 + q - 1) + 1 by omega, ← List.drop_drop, ← List.drop_drop, hd]
    generalize hx : l[k0 + q] = x at *
    generalize hy : l[k0 + q - 1]'hj1 = y at *
    generalize hc : cpt l (k0 + q) = C at *
    by_cases h2 : x = y
    · rw [if_pos h2, List.append_nil] at hsu
      rw [h2] at e2
      simp -implicitDefEqProofs [hlt, hltI, hqI, hqI2, hqI3, hqI4, hqle, hq1, e2, e3, hw, hw1]
      refine hI _ _ _ (m - 1) (by omega) ?_
      exact ⟨q + 1, l', K, by omega, by omega, by simp [← Nat.add_assoc, hsu], hl', by rw [← Nat.add_assoc, hsu]; omega, by rw [← Nat.add_assoc, hsu]; exact ht, hdd, hSK, hC⟩
    · rw [if_neg h2] at hsu
      have hw2 := wrap_id (n := (C.length : Int) + 1) (by omega) (by omega)
      have e5 := hO.view.idx .i64 (n := C.length) (by omega) (by rw [List.length_map]; omega)
      have hCl : C.length < l.length := by omega
      simp only [Int.toNat_natCast, Nat.mul_one, sid_oslice, soff_oslice, Nat.zero_add] at e5
      have hwr : (l'.map AV.str ++ rest).take C.length ++ (AV.str x :: (l'.map AV.str ++ rest).drop (C.length + 1)) = (l'.set C.length x).map AV.str ++ rest := by
        have := map_wr l' rest x (i := C.length) (by omega)
        unfold wr at this
        simpa only [List.append_assoc, List.singleton_append, List.length_singleton] using this
      have hfitc : C.length + 1 ≤ (l'.map AV.str ++ rest).length := by rw [List.length_append, List.length_map]; omega
      have hst := hSK.store x (i := C.length) (by omega)
      have hset : l'.set C.length x = l'.take C.length ++ (x :: l'.drop (C.length + 1)) := by rw [List.set_eq_take_append_cons_drop, if_pos (by omega)]
      generalize hcc : l'.map AV.str ++ rest = cells at *
      simp -implicitDefEqProofs [hlt, hltI, hqI, hqI2, hqI3, hqI4, hqle, hq1, hCl, e2, e3, e5, h2, hg, hfitc, hwr, hw, hw1, hw2]
      refine hI _ _ _ (m - 1) (by omega) ?_
      have hx1 : [x].length = 1 := rfl
      refine ⟨q + 1, l'.set C.length x, _, by omega, by omega, by simp [← Nat.add_assoc, hsu], by simp [hl'], by rw [← Nat.add_assoc, hsu, List.length_append]; omega, ?_, ?_, hst, hC.trans hok (Chg.set _ _ _) (by simp)⟩
      · rw [← Nat.add_assoc, hsu, hset, ht, List.length_append, hx1, List.take_append, List.take_of_length_le (by omega), Nat.add_sub_cancel_left]
        rfl
      · rw [List.drop_set_of_lt (by omega), hdd]
  · have hjl : k0 + q = l.length := by omega
    rw [hjl] at hlt0 ht
    have hlt' : ¬ (q : Int) < n2 := by omega
    simp -implicitDefEqProofs [hlt, hlt', hjl]
    refine hX _ _ ?_
    exact ⟨rfl, l', hl', hlt0, ht, by simp, by simp, rfl, hSK, hC⟩

theorem cpt_out (hok : H.ok) (hS : SOwn H id kc l rest) (hl : l.length < 9223372036854775807) (h2 : 2 ≤ l.length) :
    ∃ z s', den T (.loop L53_1) ⟨[(0, .oslice id 0 l.length kc 1), (3, .int .i64 1)], [], H⟩ = some (z, s') ∧
      ((cpt l l.length = l ∧ z = .exit 0 ∧ Go.Wam.look 0 s'.env = some (.oslice id 0 l.length kc 1) ∧ s'.loc = [] ∧ s'.H = H) ∨
       (z = .ret ∧ Go.Wam.look 2 s'.env = some (.oslice id 0 (cpt l l.length).length kc 1) ∧ ∃ rest', SOwn s'.H id kc (cpt l l.length) rest' ∧ Chg [id] H s'.H ∧ s'.H.low ≤ id)) := by
  refine loop_inv (I := fun m st => ∃ k : Nat, k + m = l.length ∧ 1 ≤ k ∧ st = ⟨[(0, .oslice id 0 l.length kc 1), (3, .int .i64 k)], [], H⟩ ∧ cpt l k = l.take k) _ ?_ (l.length - 1) _ ⟨1, by omega, Nat.le_refl _, by simp [prS], cpt_one l⟩
  rintro m _ ⟨k, hk, hk1, rfl, hcp⟩ P hI hX hR
  have hO := hS.own
  have hcap := hS.cap
  by_cases hlt : k < l.length
  · have hltI : (k : Int) < l.length := by omega
    have hqI : (1 : Int) ≤ k := by omega
    have hqI2 : (0 : Int) ≤ (k : Int) - 1 := by omega
    have hqI3 : (k : Int) - 1 < l.length := by omega
    have hqI4 : ((k : Int) - 1).toNat = k - 1 := by omega
    have hqle : k ≤ l.length := by omega
    have hw := wrap_id (n := (k : Int) + 1) (by omega) (by omega)
    have hw1 := wrap_id (n := (k : Int) - 1) (by omega) (by omega)
    have hj1 : k - 1 < l.length := by omega
    have hsu := cpt_succ l (k := k) hk1 hlt
    have e2 : H.rdAt id false 1 k = some (.str l[k]) := by
      have := hO.view.rd (i := k) (r := sR l[k]) (by rw [List.getElem?_map, List.getElem?_eq_getElem hlt]; rfl) false (k := 1) (f := 0) (by omega) (by omega) (by simp)
      rw [show rd false 1 0 (sR l[k]) = some (.str l[k]) from rfl] at this
      simpa using this
    have e3 : H.rdAt id false 1 (k - 1) = some (.str (l[k - 1]'hj1)) := by
      have := hO.view.rd (i := k - 1) (r := sR (l[k - 1]'hj1)) (by rw [List.getElem?_map, List.getElem?_eq_getElem hj1]; rfl) false (k := 1) (f := 0) (by omega) (by omega) (by simp)
      rw [show rd false 1 0 (sR (l[k - 1]'hj1)) = some (.str (l[k - 1]'hj1)) from rfl] at this
      simpa using this
    have htk : l.take (k + 1) = l.take k ++ [l[k]] := List.take_succ_eq_append_getElem hlt
    generalize hx : l[k] = x at *
    generalize hy : l[k - 1]'hj1 = y at *
    by_cases hxy : x = y
    · rw [if_pos hxy, List.append_nil, hcp] at hsu
      rw [hxy] at e2
      obtain ⟨z, ⟨e, lo, K⟩, f1, rfl, l', q1, q2, q3, q4, q5, q6, hSK, hC⟩ := cpt_in (k0 := k) (n2 := l.length - k) hok hS hl hk1 (by omega) (by omega) hsu
      simp only at q4 q5 q6 hSK hC
      subst q6
      generalize hF : cpt l l.length = F at *
      have hkc := hSK.cap
      have hfit := hSK.fit
      have hg2 := hSK.obj
      have s0 : sliceA (.slice 1) (.oslice id 0 l.length kc 1) k none none = some (.oslice id k (l.length - k) (kc - k) 1) := by
        simp [sliceA, inB]; omega
      have s1 : sliceA (.slice 1) (.oslice id 0 l.length kc 1) F.length none none = some (.oslice id F.length (l.length - F.length) (kc - F.length) 1) := by
        simp [sliceA, inB]; omega
      have s2 : sliceA (.slice 1) (.oslice id 0 l.length kc 1) 0 (some F.length) none = some (.oslice id 0 F.length kc 1) := by
        simp [sliceA, inB]; omega
      have hn0 : ¬ l.length - F.length = 0 := by omega
      have hfc : F.length + (l.length - F.length) ≤ (l'.map AV.str ++ rest).length := by rw [List.length_append, List.length_map]; omega
      have hwr : wr F.length (zerosA [.str []] (l.length - F.length)) (l'.map AV.str ++ rest) = F.map AV.str ++ (zerosA [.str []] (l.length - F.length) ++ rest) := by
        have e : (l'.map AV.str).length = l'.length := List.length_map ..
        unfold wr
        rw [zeros_len, List.take_append_of_le_length (by omega), ← List.map_take, q3, show F.length + (l.length - F.length) = (l'.map AV.str).length by omega, List.drop_left]
      unfold wr at hwr
      have hzl := zeros_len (l.length - F.length)
      generalize hz : zerosA [.str []] (l.length - F.length) = zs at *
      generalize hc : l'.map AV.str ++ rest = cells at *
      simp -implicitDefEqProofs [hlt, hltI, hqI, hqI2, hqI3, hqI4, hqle, hk1, e2, e3, hw1, s0, f1, q4, q5, s1, s2, clearA, hn0, hg2, hfc, hz, hwr]
      refine hR _ ?_
      refine .inr ⟨rfl, by simp, zs ++ rest, ⟨get_set_same _ _ (by rw [hg2]; rfl), by omega, by rw [List.length_append]; omega⟩, hC.trans hok (Chg.set _ _ _) (by simp), by rw [AHeap.set_low]; split <;> omega⟩
    · rw [if_neg hxy, hcp, ← htk] at hsu
      simp -implicitDefEqProofs [hlt, hltI, hqI, hqI2, hqI3, hqI4, hqle, hk1, e2, e3, hxy, hw, hw1]
      refine hI _ _ _ (m - 1) (by omega) ?_
      exact ⟨k + 1, by omega, by omega, by simp, hsu⟩
  · have hkl : k = l.length := by omega
    rw [hkl, List.take_length] at hcp
    have hlt' : ¬ (k : Int) < l.length := by omega
    simp -implicitDefEqProofs [hlt, hlt']
    refine hX _ _ ?_
    exact .inl ⟨hcp, rfl, by simp, rfl, rfl⟩
end

theorem compacts (l : List (List UInt8)) (hl : l.length < 9223372036854775807) : CompactsTo l (cpt l l.length) := fun K v hok hO hb => by
  have hvn := hO.view.noL
  have hS0 := hO.view.lenS
  rw [List.length_map] at hS0
  rw [call_at (show T 53 = some (.ir ⟨_, _, _, _, _⟩) from T53)]
  by_cases h2 : 2 ≤ l.length
  · have h2' : ¬ (l.length : Int) < 2 := by omega
    obtain ⟨_, ⟨_, hr⟩ | ⟨id, kc, rest, rfl, hk, hkr, hg⟩⟩ := id hO
    · rw [List.map_eq_nil_iff] at hr; subst hr; simp at h2
    rw [List.length_map] at *
    rw [sR_flat] at hg
    have hid : id < K.n := AHeap.get_lt hg hok.1
    have hST : SOwn K.top id kc l rest := ⟨hg, hk, by omega⟩
    obtain ⟨z, ⟨e, lo, K2⟩, f1, ⟨hc, rfl, q0, ql, qH⟩ | ⟨rfl, q2, rest', hS2, hC, hlow⟩⟩ := cpt_out (AHeap.ok.top hok.1) hST hl h2
    · simp only at q0 ql qH
      subst ql qH
      rw [hc]
      refine ⟨_, K, ?_, hO, .refl _ _, rfl⟩
      have hfp : Go.Wam.fin K (.oslice id 0 l.length kc 1) K.top = K := fin_pure hb
      simp -implicitDefEqProofs [h2, h2', f1, q0, hfp]
    · simp only at q2 hS2 hC hlow
      have hfin := fin_keep (H := K) (K := K2) (v := .oslice id 0 (cpt l l.length).length kc 1) (.inl (by omega))
      refine ⟨_, K2.lowered K.low, ?_, SOwn.own ⟨hS2.obj, hS2.cap, hS2.fit⟩, hC.lowered hok, rfl⟩
      simp -implicitDefEqProofs [h2, h2', f1, q2, hfin]
  · have h2' : (l.length : Int) < 2 := by omega
    have hc : cpt l l.length = l := by
      match l, h2 with
      | [], _ => rfl
      | [a], _ => rfl
      | _ :: _ :: _, h => simp at h
    rw [hc]
    refine ⟨v, K, ?_, hO, .refl _ _, rfl⟩
    have h3 : l.length < 2 := by omega
    simp -implicitDefEqProofs [hS0, h2', h3, hvn, fin_pure, hb]
end Go.Proofs.Ytdnnpgmekbnlbaa
