/- What S9ER09Each rests on, part 5 of 6. No condition. -/
import Derived.Test.YtgokjbjbdnbcdaaEc
import Derived.Test.YtgokjbjbdnbcdaaEd
set_option linter.unusedVariables false
set_option linter.unusedSimpArgs false
namespace Go.Wam
def el (agg : Bool) (r : List AV) : AV := if agg = true then .agg r else r.headD .nilp
theorem rd_el {agg : Bool} {sz : Nat} {r : List AV} (hr : r.length = sz) (h0 : 0 < sz) (h1 : agg = false → sz = 1) : rd agg sz 0 r = some (el agg r) := by
 cases agg with
 | true => simp only [rd, el, if_true, List.drop_zero]; rw [if_pos (by omega), ← hr, List.take_length]
 | false =>
  have := h1 rfl
  subst this
  match r, hr with
  | [x], _ => rfl
def isNils : AV → Bool
 | .nils => true
 | _ => false
theorem eql_nils {sz : Nat} {v : AV} (h : v.sl sz = true) : binA .eql .slice v .nils = some (.bool (isNils v)) := by
 cases v <;> first | (simp [AV.sl] at h; done) | simp [binA, aeq, isNils]
attribute [local simp] den_seq den_region den_regionD0 den_regionD1 den_condB condB_bool den_block den_keep den_ret den_skip den_exit sops_cons sops_nil sopsR_cons sopsR_nil goR_eq readOk trace_cons trace_nil Opd.ev evs Go.Wam.look St.put enterA zipI leaveR_ret leaveR_normal rvs RV.ev
 st_guard guardB_bool st_move st_pick pickB_bool st_allocL st_alloc st_boxL st_box st_build st_buildSlice st_load st_store st_nilCheck nilC st_bin st_un st_convI convI st_convS convS st_convB convB st_mkIface st_mkFunc st_mkMap st_mkSlice mkSl st_slice st_fieldAddr fldA st_field fldV st_idx idxS_slice idxS_oslice st_idxArr idxArr st_idxStr idxStr st_idxAgg idxAgg st_extract extA st_call callA_func st_len st_lenStr lenStr st_lenArr st_lenMap st_append st_clear clearV st_maxs st_mins
 load_ptr load_lptr storeA rd wr goOn_normal goOn_exit goOn_ret outBlock_normal outBlock_exit outBlock_ret prune freeL_nil freeL_cons frV_lptr frV_tuple frV_noL fillA allNoL packA unA checkAt ev_load wantedA beq_same beqL_same AV.beq AV.beqL drawCond freshD readsOk isRead undefA optInt optIntO
 strOp aeqF_nil aeqF_cons andA_some i_add i_sub i_mul i_lss i_leq i_gtr i_geq i_quo i_rem i_eql i_neq s_eql s_neq s_lss
 s_leq s_gtr s_geq s_add e_bool n_bool e_nilp n_nilp e_ptr n_ptr e_lptr n_lptr e_agg n_agg
 e_nils n_nils e_slice n_slice e_oslice n_oslice e_eslice n_eslice e_xslice n_xslice e_nilm n_nilm e_map n_map
 e_nilFunc n_nilFunc e_func n_func q_int q_bool q_str q_struct q_ptr0 q_ptrL0 q_ptrR0 q_ptrL1 q_ptrR1 q_slice0
 q_sliceL0 q_sliceR0 q_sliceL1 q_sliceR1 q_sliceL2 q_sliceR2 q_sliceL3 q_sliceR3 q_map0 q_mapL0 q_mapR0 q_func0 q_funcL0 q_funcR0
 okR_some guardB_tuple get_alloc_eq rdAt_alloc_eq set_alloc_eq set_alloc_ne get_alloc_ne rdAt_alloc_ne
variable {T : FuncId → Option FnDef} {k : FuncId} {H : AHeap} {sz bytes : Nat} {v : AV} {rows : List (List AV)} {zero : List AV}
def indexFuncL (agg : Bool) (sz : Nat) : IC :=
 .keep [0, 1, 7, 8] [] (.seq (.region [⟨some 9, .bin .lss .none (.tmp 8) (.tmp 7), none⟩])
 (.keep [0, 1, 7, 8, 9] [] (.seq (.cond (.tmp 9)
  (.skip)
  (.exit 0))
 (.keep [0, 1, 7, 8] [] (.seq (.block 1 (.seq (.region [⟨some 10, .move (.tmp 8), none⟩,
      ⟨some 5, .move (.tmp 10), none⟩])
  (.keep [0, 1, 5, 7, 8] [] (.seq (.region [⟨some 11, .move (.tmp 1), none⟩,
     ⟨some 12, .move (.tmp 0), none⟩,
     ⟨some 13, .move (.tmp 5), none⟩,
     ⟨some 14, .indexAddr none sz (.tmp 12) (.tmp 13), none⟩,
     ⟨some 15, .load agg sz (.tmp 14), none⟩,
     ⟨some 16, .call (.tmp 11) [(.tmp 15)], none⟩])
  (.keep [0, 1, 5, 7, 8, 16] [] (.cond (.tmp 16)
   (.seq (.region [⟨some 17, .move (.tmp 5), none⟩,
      ⟨some 4, .move (.tmp 17), none⟩])
   (.keep [4] [] (.ret)))
   (.skip)))))))
 (.keep [0, 1, 7, 8] [] (.region [⟨some 18, .bin .add .none (.tmp 8) (.const (.int .i64 1)), none⟩,
  ⟨some 8, .move (.tmp 18), none⟩])))))))
def indexFuncIR (agg : Bool) (sz : Nat) : FnIR := ⟨19, 2, [.tmp 4], [],
 .seq (.region [⟨some 4, .move (.const (.int .i64 0)), none⟩])
 (.keep [0, 1] [] (.seq (.seq (.region [⟨some 6, .move (.tmp 0), none⟩,
     ⟨some 7, .len .slice (.tmp 6), none⟩,
     ⟨some 8, .move (.const (.int .i64 0)), none⟩])
  (.keep [0, 1, 7, 8] [] (.block 0 (.loop (indexFuncL agg sz)))))
 (.keep [] [] (.seq (.region [⟨some 4, .move (.const (.int .i64 (-1))), none⟩])
 (.keep [4] [] (.ret))))))⟩
def idxB (p : List AV → Bool) (rows : List (List AV)) : Int :=
 match rows.findIdx? p with
 | some i => i
 | none => -1
theorem idxB_nonneg (p : List AV → Bool) (rows : List (List AV)) : (0 ≤ idxB p rows) = (rows.any p = true) := by
 unfold idxB
 cases h : rows.findIdx? p with
 | none =>
  rw [List.findIdx?_eq_none_iff] at h
  simp
  exact h
 | some i =>
  have := List.findIdx?_eq_some_iff_findIdx_eq.1 h
  have h2 := List.findIdx_lt_length.1 (by rw [this.2]; exact this.1)
  simp
  exact h2
section
variable {agg : Bool} {g : FuncId} {fs cap : List AV} {p : List AV → Bool}
theorem indexFunc_loop (hgy : g < yieldF) (hz : 0 < sz) (h1 : agg = false → sz = 1) (hV : View H sz v rows) (hl : rows.length < 9223372036854775807)
    (hp : ∀ r ∈ rows, call T g (fs ++ (el agg r :: cap)) H = some (.bool (p r), H)) (hn : ∀ r ∈ rows, (el agg r).noL = true) :
    ∃ x s', den T (.loop (indexFuncL agg sz)) ⟨[(0, v), (1, .func (.func g) fs cap), (7, .int .i64 rows.length), (8, .int .i64 0)], [], H⟩ = some (x, s') ∧
     s'.H = H ∧ ((rows.findIdx? p = none ∧ x = .exit 0) ∨ (∃ i : Nat, rows.findIdx? p = some i ∧ x = .ret ∧ Go.Wam.look 4 s'.env = some (.int .i64 i))) := by
 refine loop_inv (I := fun n st => ∃ i : Nat, i + n = rows.length ∧ st = ⟨[(0, v), (1, .func (.func g) fs cap), (7, .int .i64 rows.length), (8, .int .i64 i)], [], H⟩ ∧ (∀ j (hj : j < rows.length), j < i → p rows[j] = false)) _ ?_ rows.length _ ⟨0, by omega, by simp [prS], by omega⟩
 rintro n _ ⟨i, hi, rfl, hall⟩ P hI hX hR
 by_cases hlt : i < rows.length
 · have hw := wrap_id (n := (i : Int) + 1) (by omega) (by omega)
   have hg : rows[i]? = some rows[i] := List.getElem?_eq_getElem hlt
   have hm : rows[i] ∈ rows := List.getElem_mem hlt
   have e1 := hV.idx .i64 (n := i) (by omega) (by omega)
   have e2 := hV.rd hg agg (k := sz) (f := 0) (by omega) hz h1
   rw [rd_el (hV.each _ hm) hz h1] at e2
   simp only [Int.toNat_natCast, Nat.add_zero] at e1 e2
   have e3 := hp _ hm
   have e4 := hn _ hm
   by_cases h2 : p rows[i] = true
   · simp -implicitDefEqProofs [hlt, e1, e2, e3, e4, h2, hgy]
     refine hR _ ?_
     refine ⟨rfl, .inr ⟨i, ?_, rfl, by simp⟩⟩
     rw [List.findIdx?_eq_some_iff_getElem]
     exact ⟨hlt, h2, fun j hj => by simp [hall j (by omega) hj]⟩
   · simp -implicitDefEqProofs [hlt, e1, e2, e3, e4, h2, hw, hgy]
     refine hI _ _ _ (n - 1) (by omega) ?_
     refine ⟨i + 1, by omega, by simp, fun j hj hji => ?_⟩
     by_cases hji2 : j = i
     · subst hji2; simpa using h2
     · exact hall j hj (by omega)
 · simp -implicitDefEqProofs [hlt]
   refine hX _ _ ?_
   refine ⟨rfl, .inl ⟨?_, rfl⟩⟩
   rw [List.findIdx?_eq_none_iff]
   intro r hr
   obtain ⟨j, hj, rfl⟩ := List.mem_iff_getElem.1 hr
   exact hall j hj (by omega)
theorem indexFunc (hk : k < yieldF) (hgy : g < yieldF) (hT : T k = some (.ir (indexFuncIR agg sz))) (hz : 0 < sz) (h1 : agg = false → sz = 1) (hV : View H sz v rows) (hl : rows.length < 9223372036854775807)
    (hp : ∀ r ∈ rows, call T g (fs ++ (el agg r :: cap)) H.top = some (.bool (p r), H.top)) (hn : ∀ r ∈ rows, (el agg r).noL = true) :
    call T k [v, .func (.func g) fs cap] H = some (.int .i64 (idxB p rows), H) := by
 rw [call_at (show T k = some (.ir ⟨_, _, _, _, _⟩) from hT) hk (by rfl)]
 obtain ⟨x, ⟨e, l, K⟩, h, hk, hx⟩ := indexFunc_loop (T := T) hgy hz h1 hV.top hl hp hn
 simp only at hk
 subst hk
 rcases hx with ⟨h2, rfl⟩ | ⟨i, h2, rfl, h3⟩
 · simp -implicitDefEqProofs [hV.lenS, h, fin_pure, idxB, h2]
 · simp only at h3
   simp -implicitDefEqProofs [hV.lenS, h, h3, fin_pure, idxB, h2]
def containsFuncIR (j : FuncId) : FnIR := ⟨9, 2, [.tmp 4], [],
 .seq (.region [⟨some 4, .move (.const (.bool false)), none⟩])
 (.keep [0, 1] [] (.seq (.region [⟨some 5, .move (.tmp 0), none⟩,
    ⟨some 6, .move (.tmp 1), none⟩,
    ⟨some 7, .call (.func j) [(.tmp 5), (.tmp 6)], none⟩,
    ⟨some 8, .bin .geq .none (.tmp 7) (.const (.int .i64 0)), none⟩,
    ⟨some 4, .move (.tmp 8), none⟩])
 (.keep [4] [] (.ret))))⟩
theorem containsFunc {j : FuncId} (hk : k < yieldF) (hjy : j < yieldF) (hgy : g < yieldF) (hT : T k = some (.ir (containsFuncIR j))) (hJ : T j = some (.ir (indexFuncIR agg sz))) (hz : 0 < sz) (h1 : agg = false → sz = 1) (hV : View H sz v rows) (hl : rows.length < 9223372036854775807)
    (hp : ∀ r ∈ rows, call T g (fs ++ (el agg r :: cap)) H.top = some (.bool (p r), H.top)) (hn : ∀ r ∈ rows, (el agg r).noL = true) (hv : v.noL = true) :
    call T k [v, .func (.func g) fs cap] H = some (.bool (rows.any p), H) := by
 rw [call_at (show T k = some (.ir ⟨_, _, _, _, _⟩) from hT) hk (by rfl)]
 have e := indexFunc hjy hgy hJ hz h1 hV.top hl hp hn
 have e2 := idxB_nonneg p rows
 cases ha : rows.any p with
 | true => rw [ha] at e2; simp -implicitDefEqProofs [e, e2, hv, fin_pure, hjy]
 | false => rw [ha] at e2; simp -implicitDefEqProofs [e, e2, hv, fin_pure, hjy]
end
theorem View.noL (h : View H sz v rows) : v.noL = true := by
 have := h.sl
 cases v <;> first | rfl | (simp [AV.sl] at this)
theorem View.cells (h : View H sz v rows) : v.cells = [v] := by
 have := h.sl
 cases v <;> first | rfl | (simp [AV.sl] at this)
def cloneIR (sz bytes : Nat) : FnIR := ⟨8, 1, [.tmp 2], [],
 .seq (.region [⟨some 2, .move (.const .nils), none⟩])
 (.keep [0] [] (.seq (.seq (.region [⟨some 3, .move (.tmp 0), none⟩,
     ⟨some 4, .bin .eql .slice (.tmp 3) (.const .nils), none⟩])
  (.keep [0, 4] [] (.cond (.tmp 4)
   (.seq (.region [⟨some 2, .move (.const .nils), none⟩])
   (.keep [2] [] (.ret)))
   (.skip))))
 (.keep [0] [] (.seq (.region [⟨some 5, .buildSlice sz 0 [] [], none⟩,
    ⟨some 6, .move (.tmp 0), none⟩,
    ⟨some 7, .append sz bytes (.tmp 5) (.tmp 6), none⟩,
    ⟨some 2, .move (.tmp 7), none⟩])
 (.keep [2] [] (.ret))))))⟩
structure MadeL (H K : AHeap) (sz : Nat) (v : AV) (rows : List (List AV)) : Prop where
 view : View K sz v rows
 chg : Chg [] H K
 new : 0 < rows.length → H.n ≤ sid v
theorem clone_run (hok : H.ok) (hz : 0 < sz) (hV : View H sz v rows) (hn : isNils v = false) (hb : rows.length * bytes ≤ 2 ^ 47) :
    ∃ v' K, appendA (H.alloc (.row false sz [])) sz bytes (.slice H.n 0 0 0) v = some (v', K) ∧ MadeL H K sz v' rows ∧ isNils v' = false ∧ v'.okB H.n = false ∧ v'.noL = true ∧ K.low = H.low ∧ v'.okB K.n = true ∧ Own K sz v' rows ∧ (∀ i ∈ sown v', H.n ≤ i) := by
 have hV' := hV.alloc hok.1 (.row false sz [])
 have hfl : rows.flatten.length = rows.length * sz := flatten_len hV.each
 simp only [appendA, hV'.first, appendX]
 by_cases h0 : rows.length = 0
 · have : rows = [] := List.length_eq_zero_iff.1 h0
   subst this
   refine ⟨.slice H.n 0 0 0, H.alloc (.row false sz []), by rw [if_pos (by simp)], ⟨⟨by simp [AV.sl], rfl, fun r hr => (by cases hr), fun h => (by simp at h)⟩, .alloc _ _, fun h => (by simp at h)⟩, rfl, by simp [AV.okB], rfl, rfl, by rw [AV.okB]; exact decide_eq_true (by show H.n < H.n + 1; omega), .lit _ _ _, by simp⟩
 · rw [if_neg (by omega), if_neg (by rw [Nat.zero_add]; omega), if_neg (by omega)]
   simp only [oldA, if_true, cutA, get_alloc_same, Nat.zero_mul, Nat.zero_add, Nat.le_refl, List.length_nil, if_true, List.drop_zero, List.take_zero, List.nil_append]
   have c1 := Chg.alloc H (.row false sz [])
   have c2 := Chg.alloc (H.alloc (.row false sz [])) (.row false sz rows.flatten)
   refine ⟨_, _, rfl, ⟨⟨by simp [AV.sl], rfl, hV.each, fun _ => ⟨false, sz, rows.flatten, ?_, ?_, ?_⟩⟩, c1.trans hok c2 (by simp), fun _ => ?_⟩, rfl, ?_, rfl, rfl, by rw [AV.okB]; exact decide_eq_true (by show H.n + 1 < H.n + 1 + 1; omega), ⟨hV.each, .inr ⟨_, rows.length, [], rfl, Nat.le_refl _, by simp, by rw [List.append_nil]; exact get_alloc_same (H.alloc _) _⟩⟩, fun i hi => by simp at hi; omega⟩
   · exact get_alloc_same (H.alloc _) _
   · rw [soff_oslice, hfl]; omega
   · rw [soff_oslice, List.drop_zero, ← hfl, List.take_length]
   · show H.n ≤ H.n + 1; omega
   · rw [AV.okB]; exact decide_eq_false (by show ¬ H.n + 1 < H.n; omega)
theorem clone (hk : k < yieldF) (hT : T k = some (.ir (cloneIR sz bytes))) (hok : H.ok) (hz : 0 < sz) (hV : View H sz v rows) (hb : rows.length * bytes ≤ 2 ^ 47) :
    ∃ v' K, call T k [v] H = some (v', K) ∧ MadeL H K sz v' rows ∧ isNils v' = isNils v ∧ v'.noL = true ∧ K.low = H.low ∧ v'.okB K.n = true ∧ Own K sz v' rows ∧ (∀ i ∈ sown v', H.n ≤ i) := by
 rw [call_at (show T k = some (.ir ⟨_, _, _, _, _⟩) from hT) hk (by rfl)]
 cases hn : isNils v with
 | true =>
  have : v = .nils := by cases v <;> simp_all [isNils]
  subst this
  have h0 := hV.len
  simp only [slen_nils] at h0
  have : rows = [] := List.length_eq_zero_iff.1 h0.symm
  subst this
  refine ⟨.nils, H, ?_, ⟨hV, .refl _ _, fun h => by simp at h⟩, rfl, rfl, rfl, by simp, .nil _ _, by simp⟩
  simp -implicitDefEqProofs [fin_pure]
 | false =>
  obtain ⟨v', K, e, m, n1, n2, n3, n4, n6, n7, n8⟩ := clone_run (H := H.top) (AHeap.ok.top hok.1) hz hV.top hn hb
  have e2 := eql_nils hV.sl
  have n5 : Go.Wam.fin H v' K = K.lowered H := fin_keep (.inr n2)
  have nl := hV.noL
  refine ⟨v', K.lowered H, ?_, ⟨m.view.frame (fun _ => rfl), m.chg.lowered hok, m.new⟩, n1, n3, ?_, n6, n7.frame fun _ _ => rfl, n8⟩
  · simp only [top_n] at e
    simp -implicitDefEqProofs [e2, hn, nl, e, n3, n5]
  · simp only [AHeap.lowered, n4, top_low]; have := hok.2; split <;> omega
def deleteIR (sz bytes : Nat) (zero : List AV) : FnIR := ⟨33, 3, [.tmp 6], [],
 .seq (.region [⟨some 6, .move (.const .nils), none⟩])
 (.keep [0, 1, 2] [] (.seq (.region [⟨some 8, .move (.tmp 0), none⟩,
    ⟨some 9, .move (.tmp 1), none⟩,
    ⟨some 10, .move (.tmp 2), none⟩,
    ⟨some 11, .move (.tmp 0), none⟩,
    ⟨some 12, .len .slice (.tmp 11), none⟩,
    ⟨some 13, .slice (.slice sz) (.tmp 8) (some (.tmp 9)) (some (.tmp 10)) (some (.tmp 12)), none⟩])
 (.keep [0, 1, 2] [] (.seq (.seq (.region [⟨some 14, .move (.tmp 1), none⟩,
     ⟨some 15, .move (.tmp 2), none⟩,
     ⟨some 16, .bin .eql .int (.tmp 14) (.tmp 15), none⟩])
  (.keep [0, 1, 2, 16] [] (.cond (.tmp 16)
   (.seq (.region [⟨some 17, .move (.tmp 0), none⟩,
      ⟨some 6, .move (.tmp 17), none⟩])
   (.keep [6] [] (.ret)))
   (.skip))))
 (.keep [0, 1, 2] [] (.seq (.region [⟨some 18, .move (.tmp 0), none⟩,
    ⟨some 19, .len .slice (.tmp 18), none⟩,
    ⟨some 7, .move (.tmp 19), none⟩])
 (.keep [0, 1, 2, 7] [] (.seq (.regionD [⟨some 20, .move (.tmp 0), none⟩,
    ⟨some 21, .move (.tmp 1), none⟩,
    ⟨some 22, .slice (.slice sz) (.tmp 20) none (some (.tmp 21)) none, none⟩,
    ⟨some 23, .move (.tmp 0), none⟩,
    ⟨some 24, .move (.tmp 2), none⟩,
    ⟨some 25, .slice (.slice sz) (.tmp 23) (some (.tmp 24)) none none, none⟩,
    ⟨some 26, .append sz bytes (.tmp 22) (.tmp 25), none⟩,
    ⟨some 0, .move (.tmp 26), none⟩] [])
 (.keep [0, 7] [] (.seq (.region [⟨some 27, .move (.tmp 0), none⟩,
    ⟨some 28, .move (.tmp 0), none⟩,
    ⟨some 29, .len .slice (.tmp 28), none⟩,
    ⟨some 30, .move (.tmp 7), none⟩,
    ⟨some 31, .slice (.slice sz) (.tmp 27) (some (.tmp 29)) (some (.tmp 30)) none, none⟩,
    ⟨none, .clear sz zero (.tmp 31), none⟩])
 (.keep [0] [] (.seq (.region [⟨some 32, .move (.tmp 0), none⟩,
    ⟨some 6, .move (.tmp 32), none⟩])
 (.keep [6] [] (.ret))))))))))))))⟩
theorem delete_app {id kc n i : Nat} {cells : List AV} (hi : i < n) (hk : n ≤ kc) (hg : H.get id = some (.row false sz cells)) (hl : n * sz ≤ cells.length) (hb : n * bytes ≤ 2 ^ 47) :
    ∃ w, sliceA (.slice sz) (.oslice id 0 n kc sz) (i + 1) none none = some w ∧
     appendA H sz bytes (.oslice id 0 i kc sz) w = some (.oslice id 0 (n - 1) kc sz, if i + 1 = n then H else H.set id (.row false sz (wr (i * sz) ((cells.drop ((i + 1) * sz)).take ((n - (i + 1)) * sz)) cells))) := by
 have hin : inB n kc (i + 1) none none = true := by simp [inB]; omega
 by_cases h1 : i + 1 = n
 · subst h1
   refine ⟨if i + 1 < kc then .oslice id ((i + 1) * sz) 0 (kc - (i + 1)) sz else .eslice id 0 (i + 1) sz, ?_, ?_⟩
   · simp [sliceA, hin]; split <;> rfl
   · have : firstA H sz (if i + 1 < kc then .oslice id ((i + 1) * sz) 0 (kc - (i + 1)) sz else .eslice id 0 (i + 1) sz) = some (0, []) := by split <;> simp [firstA]
     simp [appendA, appendX, this]
 · have hlt : i + 1 < kc := by omega
   have e1 : (i + 1) * sz + (n - (i + 1)) * sz = n * sz := by rw [← Nat.add_mul]; congr 1; omega
   have e2 : i + (n - (i + 1)) = n - 1 := by omega
   refine ⟨.oslice id ((i + 1) * sz) (n - (i + 1)) (kc - (i + 1)) sz, by simp [sliceA, hin, hlt], ?_⟩
   have hf : firstA H sz (.oslice id ((i + 1) * sz) (n - (i + 1)) (kc - (i + 1)) sz) = some (n - (i + 1), (cells.drop ((i + 1) * sz)).take ((n - (i + 1)) * sz)) := by
    simp only [firstA]; rw [if_neg (by omega)]; simp only [cutA, hg]; rw [if_pos (by omega)]; rfl
   have h3 : (n - 1) * bytes ≤ 2 ^ 47 := Nat.le_trans (Nat.mul_le_mul_right _ (Nat.sub_le _ _)) hb
   have h4 : (n - 1) * sz ≤ cells.length := Nat.le_trans (Nat.mul_le_mul_right _ (Nat.sub_le _ _)) hl
   simp only [appendA, appendX, hf, ne_eq, not_true, if_false, e2, hg, Nat.zero_add]
   rw [if_neg (by omega), if_neg (by omega), if_pos h4, if_neg h1, Nat.max_eq_left (by omega)]
theorem delete_cells {rows : List (List AV)} {rest zero : List AV} {i : Nat} (he : ∀ r ∈ rows, r.length = sz) (hi : i < rows.length) (hz : zero.length = sz) :
    wr ((rows.length - 1) * sz) zero (if i + 1 = rows.length then rows.flatten ++ rest else wr (i * sz) (((rows.flatten ++ rest).drop ((i + 1) * sz)).take ((rows.length - (i + 1)) * sz)) (rows.flatten ++ rest)) = (rows.eraseIdx i).flatten ++ (zero ++ rest) := by
 have hsp : rows = rows.take i ++ (rows[i] :: rows.drop (i + 1)) := by rw [List.getElem_cons_drop, List.take_append_drop]
 have ha : (rows.take i).flatten.length = i * sz := by
  rw [flatten_len (sz := sz) (fun r hr => he r (List.mem_of_mem_take hr)), List.length_take, Nat.min_eq_left (by omega)]
 have hb : (rows.drop (i + 1)).flatten.length = (rows.length - (i + 1)) * sz := by
  rw [flatten_len (sz := sz) (fun r hr => he r (List.mem_of_mem_drop hr)), List.length_drop]
 have hc : rows[i].length = sz := he _ (List.getElem_mem hi)
 have herase : rows.eraseIdx i = rows.take i ++ rows.drop (i + 1) := List.eraseIdx_eq_take_drop_succ ..
 have hfl : rows.flatten = (rows.take i).flatten ++ (rows[i] ++ (rows.drop (i + 1)).flatten) := by
  conv => lhs; rw [hsp]
  rw [List.flatten_append, List.flatten_cons]
 have e1 : (i + 1) * sz = i * sz + sz := by rw [Nat.add_mul, Nat.one_mul]
 have e2 : (rows.length - 1) * sz = i * sz + (rows.length - (i + 1)) * sz := by rw [← Nat.add_mul]; congr 1; omega
 rw [herase, List.flatten_append, hfl]
 generalize (rows.take i).flatten = A at *
 generalize hB : (rows.drop (i + 1)).flatten = B at *
 generalize rows[i] = C at *
 split
 · rename_i h
   have hB0 : B = [] := List.length_eq_zero_iff.1 (by rw [hb, ← h]; simp)
   subst hB0
   have : (rows.length - 1) * sz = A.length := by rw [ha]; congr 1; omega
   rw [this, List.append_nil, List.append_nil, List.append_assoc]
   rw [wr_append _ _ _ _ rfl, List.drop_append_of_le_length (by omega), List.drop_of_length_le (by omega)]
   simp
 · have d1 : ((A ++ (C ++ B)) ++ rest).drop ((i + 1) * sz) = B ++ rest := by
     have : (i + 1) * sz = (A ++ C).length := by rw [List.length_append, ha, hc, e1]
     rw [this, ← List.append_assoc, List.append_assoc (A ++ C), List.drop_left]
   rw [d1, ← hb, List.take_left]
   have d2 : wr (i * sz) B ((A ++ (C ++ B)) ++ rest) = A ++ B ++ ((C ++ B ++ rest).drop B.length) := by
    rw [List.append_assoc A, wr_append _ _ _ _ ha]
   rw [d2]
   have d3 : (rows.length - 1) * sz = (A ++ B).length := by rw [List.length_append, ha, hb, e2]
   have d4 : ((C ++ B ++ rest).drop B.length).drop zero.length = rest := by
    have : B.length + zero.length = (C ++ B).length := by rw [List.length_append, hc, hz]; omega
    rw [List.drop_drop, this, List.drop_left]
   rw [d3, wr_append _ _ _ _ rfl, d4]
   simp only [List.append_assoc]
theorem delete (hky : k < yieldF) (hT : T k = some (.ir (deleteIR sz bytes zero))) (hok : H.ok) (hz : 0 < sz) (hzl : zero.length = sz) (hO : Own H sz v rows) {i : Nat} (hi : i < rows.length) (hb : rows.length * bytes ≤ 2 ^ 47) (hl : rows.length < 9223372036854775807) :
    ∃ v' K, call T k [v, .int .i64 i, .int .i64 (i + 1)] H = some (v', K) ∧ Own K sz v' (rows.eraseIdx i) ∧ Chg (sown v) H K ∧ sown v' = sown v ∧ v ≠ .nils ∧ K.low ≤ sid v ∧ v'.noL = true := by
 obtain ⟨he, ⟨_, rfl⟩ | ⟨id, kc, rest, rfl, hk, hkr, hg⟩⟩ := hO
 · simp at hi
 have hfl : rows.flatten.length = rows.length * sz := flatten_len he
 have hlt := AHeap.get_lt hg hok.1
 obtain ⟨w, hw, ha⟩ := delete_app (H := H.top) (bytes := bytes) (n := rows.length) hi hk hg (by rw [List.length_append]; omega) hb
 have hs1 : inB rows.length kc i (some (i + 1)) (some rows.length) = true := by simp [inB]; omega
 have hs2 : inB rows.length kc 0 (some i) none = true := by simp [inB]; omega
 have hs3 : inB (rows.length - 1) kc (rows.length - 1) (some rows.length) none = true := by simp [inB]; omega
 have hkc : 0 < kc := by omega
 have hkc2 : rows.length - 1 < kc := by omega
 have hn : rows.length - (rows.length - 1) = 1 := by omega
 have hcl := delete_cells (rest := rest) he hi hzl
 have hcell : (if i + 1 = rows.length then rows.flatten ++ rest else wr (i * sz) (((rows.flatten ++ rest).drop ((i + 1) * sz)).take ((rows.length - (i + 1)) * sz)) (rows.flatten ++ rest)).length = (rows.flatten ++ rest).length := by
  split
  · rfl
  · have e1 : (i + 1) * sz + (rows.length - (i + 1)) * sz = rows.length * sz := by rw [← Nat.add_mul]; congr 1; omega
    have e2 : i * sz ≤ (i + 1) * sz := Nat.mul_le_mul_right _ (Nat.le_succ _)
    rw [wr_length _ _ _ (by simp only [List.length_take, List.length_drop, List.length_append]; omega)]
 generalize hC1 : (if i + 1 = rows.length then rows.flatten ++ rest else wr (i * sz) (((rows.flatten ++ rest).drop ((i + 1) * sz)).take ((rows.length - (i + 1)) * sz)) (rows.flatten ++ rest)) = C1 at hcl hcell
 generalize hK1 : (if i + 1 = rows.length then H.top else H.top.set id (.row false sz (wr (i * sz) (((rows.flatten ++ rest).drop ((i + 1) * sz)).take ((rows.length - (i + 1)) * sz)) (rows.flatten ++ rest)))) = K1 at ha
 have g1 : K1.get id = some (.row false sz C1) := by
  rw [← hK1, ← hC1]
  split
  · exact hg
  · exact get_set_same _ _ (top_wf hok.1) (by rw [top_get, hg]; rfl)
 have c1 : Chg [id] H.top K1 := by
  rw [← hK1]
  split
  · exact .refl _ _
  · exact .set _ _ _
 have n1 : K1.n = H.n := by rw [← hK1]; split <;> rfl
 have s1 : sliceA (.slice sz) (.oslice id 0 rows.length kc sz) i (some (i + 1)) (some rows.length) = some (.slice id (if rows.length = i then 0 else 0 + i * sz) (i + 1 - i) (rows.length - i)) := by simp [sliceA, hs1]
 have s2 : sliceA (.slice sz) (.oslice id 0 rows.length kc sz) 0 (some i) none = some (.oslice id 0 i kc sz) := by simp [sliceA, hs2, hkc]
 have s3 : sliceA (.slice sz) (.oslice id 0 (rows.length - 1) kc sz) (rows.length - 1) (some rows.length) none = some (.oslice id ((rows.length - 1) * sz) 1 (kc - (rows.length - 1)) sz) := by simp [sliceA, hs3, hkc2, hn]
 have h01 : (0 : Int) ≤ i + 1 := by omega
 have h02 : ¬ (i : Int) = i + 1 := by omega
 have h03 : ((i : Int) + 1).toNat = i + 1 := by omega
 have hfit : (rows.length - 1) * sz + sz ≤ C1.length := by
  rw [hcell, List.length_append, hfl]
  have : (rows.length - 1) * sz + sz = rows.length * sz := by rw [← Nat.succ_mul]; congr 1; omega
  omega
 have hcl2 := hcl
 unfold wr at hcl2
 rw [hzl] at hcl2
 have hwn : w.noL = true := by
  simp only [sliceA] at hw
  rw [if_neg (by simp)] at hw
  split at hw
  · split at hw <;> (cases hw; rfl)
  · cases hw
 have c2 := Chg.set K1 id (.row false sz ((rows.eraseIdx i).flatten ++ (zero ++ rest)))
 have hlow : (K1.set id (.row false sz ((rows.eraseIdx i).flatten ++ (zero ++ rest)))).low ≤ id := by rw [AHeap.set_low]; split <;> omega
 have hfin : Go.Wam.fin H (.oslice id 0 (rows.length - 1) kc sz) (K1.set id (.row false sz ((rows.eraseIdx i).flatten ++ (zero ++ rest)))) = (K1.set id (.row false sz ((rows.eraseIdx i).flatten ++ (zero ++ rest)))).lowered H := fin_keep (.inl (by omega))
 refine ⟨.oslice id 0 (rows.length - 1) kc sz, _, ?_, ⟨fun r hr => he r (List.mem_of_mem_eraseIdx hr), .inr ⟨id, kc, zero ++ rest, ?_, ?_, ?_, ?_⟩⟩, (c1.trans (AHeap.ok.top hok.1) c2 (by simp)).lowered hok, rfl, by simp, ?_, rfl⟩
 · rw [call_at (show T k = some (.ir ⟨_, _, _, _, _⟩) from hT) hky (by rfl)]
   simp -implicitDefEqProofs [s1, s2, s3, hw, ha, h01, h02, h03, g1, hfit, clearA, hzl, zerosA, hcl2, hfin]
 · rw [List.length_eraseIdx_of_lt hi]
 · rw [List.length_eraseIdx_of_lt hi]; omega
 · rw [List.length_eraseIdx_of_lt hi, List.length_append, hzl]
   have : (rows.length - 1) * sz + sz = rows.length * sz := by rw [← Nat.succ_mul]; congr 1; omega
   omega
 · rw [lowered_get]; exact get_set_same _ _ (c1.ok (AHeap.ok.top hok.1)).1 (by rw [g1]; rfl)
 · simp only [AHeap.lowered, sid_oslice]; split <;> omega
theorem Own.fin {H K : AHeap} {sz : Nat} {v V : AV} {rows : List (List AV)} (h : Own K sz v rows) (hn : (∃ i ∈ sown v, True) → V.okB H.n = false) : Own (Go.Wam.fin H V K) sz v rows := by
 have hk : ∀ x, Go.Wam.fin H V K = x → (V.okB H.n = false → x = K.lowered H) := fun x hx hb => by rw [← hx]; exact fin_keep (.inr hb)
 obtain ⟨he, ⟨rfl | ⟨id, rfl⟩, rfl⟩ | ⟨id, kc, rest, rfl, h1, h2, hg⟩⟩ := h
 · exact .nil _ _
 · exact .lit _ _ _
 · rw [fin_keep (.inr (hn ⟨id, by simp⟩))]
   exact ⟨he, .inr ⟨id, kc, rest, rfl, h1, h2, hg⟩⟩
theorem Own.okB {K : AHeap} {n sz : Nat} {v : AV} {rows : List (List AV)} (h : Own K sz v rows) (hn : ∀ i ∈ sown v, n ≤ i) : (∃ i ∈ sown v, True) → v.okB n = false := by
 rintro ⟨i, hi, _⟩
 obtain ⟨he, ⟨rfl | ⟨id, rfl⟩, rfl⟩ | ⟨id, kc, rest, rfl, h1, h2, hg⟩⟩ := h
 · cases hi
 · cases hi
 · have := hn id (by simp)
   rw [AV.okB]; simp; omega
end Go.Wam
set_option linter.unusedVariables false
set_option linter.unusedSimpArgs false
namespace Go.Wam
theorem own_okB {K : AHeap} {sz : Nat} {v : AV} {rows : List (List AV)} (h : Own K sz v rows) (hw : K.wf) (hl : ∀ id, v = .slice id 0 0 0 → id < K.n) : v.okB K.n = true := by
 have hlt := h.lt hw
 obtain ⟨_, ⟨rfl | ⟨id, rfl⟩, _⟩ | ⟨id, kc, rest, rfl, _⟩⟩ := h
 · simp
 · rw [AV.okB]; exact decide_eq_true (hl id rfl)
 · rw [AV.okB]; exact decide_eq_true (hlt id (by simp))
theorem own_sid {K : AHeap} {sz : Nat} {v : AV} {rows : List (List AV)} (h : Own K sz v rows) (hr : 0 < rows.length) : sown v = [sid v] := by
 obtain ⟨_, ⟨_, rfl⟩ | ⟨id, kc, rest, rfl, _⟩⟩ := h
 · simp at hr
 · rfl
theorem append_okB {H K : AHeap} {sz bytes : Nat} {v x v' : AV} {rows more : List (List AV)} (h : Own H sz v rows) (hx : View H sz x more) (ok : K.wf) (ha : appendA H sz bytes v x = some (v', K)) (h2 : Own K sz v' (rows ++ more)) (hv : v.okB H.n = true) : v'.okB K.n = true := by
 by_cases hm : 0 < (rows ++ more).length
 · exact own_okB h2 ok (fun id hid => by have := own_sid h2 hm; rw [hid] at this; cases this)
 · simp only [List.length_append] at hm
   have h1 : rows = [] := List.length_eq_zero_iff.1 (by omega)
   have h3 : more = [] := List.length_eq_zero_iff.1 (by omega)
   subst h1 h3
   have hf := hx.first
   obtain ⟨he, ⟨rfl | ⟨id, rfl⟩, _⟩ | ⟨id, kc, rest, rfl, hk, hkr, hg⟩⟩ := h <;> simp [appendA, appendX, hf] at ha <;> obtain ⟨rfl, rfl⟩ := ha <;> exact hv
theorem okB_sl {sz n n' : Nat} {v : AV} (hs : v.sl sz = true) (h : v.okB n = true) (hn : n ≤ n') : v.okB n' = true := by
 cases v <;> first | (simp [AV.sl] at hs; done) | (simp [AV.okB] at h ⊢) <;> omega
theorem View.one {H : AHeap} {sz : Nat} {v : AV} {rows : List (List AV)} (h : View H sz v rows) : v.one = true := by
 have := h.sl
 cases v <;> first | rfl | (simp [AV.sl] at this)
structure SV (H : AHeap) (sz : Nat) (v : AV) (rows : List (List AV)) : Prop where
 view : View H sz v rows
 ok : v.okB H.n = true
theorem SV.top {H : AHeap} {sz : Nat} {v : AV} {rows : List (List AV)} (h : SV H sz v rows) : SV H.top sz v rows := ⟨h.view.top, h.ok⟩
theorem SV.new {H K : AHeap} {sz : Nat} {v : AV} {rows : List (List AV)} (hw : H.wf) (h : SV H sz v rows) (c : Chg [] H K) : SV K sz v rows := ⟨h.view.new hw c, okB_sl h.view.sl h.ok c.le⟩
theorem IsSl.sv {H : AHeap} {sz : Nat} {v : AV} {rows : List (List AV)} (hw : H.wf) (h : IsSl H sz v rows) : SV H sz v rows := by
 refine ⟨h.view, ?_⟩
 rcases h with ⟨rfl, rfl⟩ | ⟨b, o, s, rfl, rfl⟩ | ⟨id, cap, rfl, hc, hg, hr⟩
 · simp
 · rw [AV.okB] <;> simp
 · rw [AV.okB]; exact decide_eq_true (AHeap.get_lt hg hw)
theorem Chg.low_eq {H K : AHeap} (c : Chg [] H K) : K.low = H.low := Nat.le_antisymm c.lo (c.hi _ (Nat.le_refl _) (by simp))
structure NewL (H K : AHeap) (sz : Nat) (v : AV) (rows : List (List AV)) : Prop where
 sv : SV K sz v rows
 chg : Chg [] H K
 new : 0 < rows.length → H.n ≤ sid v
theorem okB_sid {sz n : Nat} {v : AV} (hs : v.sl sz = true) (hv : v.okB n = true) (hl : 0 < slen v) : sid v < n := by
 cases v <;> first | (simp [AV.sl] at hs; done) | (simp [slen] at hl; done) | (simp [AV.okB] at hv; exact hv)
theorem SV.nil (H : AHeap) (sz : Nat) : SV H sz .nils [] := ⟨⟨rfl, rfl, fun r hr => (by cases hr), fun h => (by simp at h)⟩, by simp⟩
theorem NewL.nil (H : AHeap) (sz : Nat) : NewL H H sz .nils [] := ⟨.nil H sz, .refl _ _, fun h => by simp at h⟩
theorem NewL.fin {H K : AHeap} {sz : Nat} {v w : AV} {rows : List (List AV)} (hok : H.ok) (m : NewL H.top K sz v rows) (hw : w.okB H.n = true → v.okB H.n = true) : NewL H (Go.Wam.fin H w K) sz v rows := by
 by_cases h : H.n ≤ K.low ∧ w.okB H.n = true
 · rw [fin_drop' h.1 h.2]
   have hv := hw h.2
   have h0 : rows = [] := by
    cases rows with
    | nil => rfl
    | cons r rs =>
     have h1 := m.new (by simp)
     have h2 := okB_sid m.sv.view.sl hv (by rw [m.sv.view.len]; simp)
     simp only [top_n] at h1
     omega
   subst h0
   exact ⟨⟨⟨m.sv.view.sl, m.sv.view.len, m.sv.view.each, fun h => by simp at h⟩, hv⟩, .refl _ _, fun h => by simp at h⟩
 · have e : Go.Wam.fin H w K = K.lowered H := by unfold Go.Wam.fin; rw [if_neg h]; rfl
   rw [e]
   exact ⟨⟨m.sv.view.frame fun _ => rfl, m.sv.ok⟩, m.chg.lowered hok, m.new⟩
theorem NewL.trans {H K L : AHeap} {sz : Nat} {v : AV} {rows : List (List AV)} (hok : H.ok) (c : Chg [] H K) (m : NewL K L sz v rows) : NewL H L sz v rows := ⟨m.sv, c.trans hok m.chg (by simp), fun h => Nat.le_trans c.le (m.new h)⟩
theorem okB_head {n : Nat} {v : AV} {cs : List AV} (h : (AV.agg (v :: cs)).okB n = true) : v.okB n = true := by
 rw [okB_agg, okL_cons] at h
 simp only [Bool.and_eq_true] at h
 exact h.1.1
structure NewO (H K : AHeap) (sz : Nat) (v : AV) (rows : List (List AV)) : Prop extends NewL H K sz v rows where
 own : Own K sz v rows
 mine : ∀ i ∈ sown v, H.n ≤ i
theorem NewO.nil (H : AHeap) (sz : Nat) : NewO H H sz .nils [] := ⟨.nil H sz, .nil H sz, by simp⟩
theorem NewO.fin {H K : AHeap} {sz : Nat} {v w : AV} {rows : List (List AV)} (hok : H.ok) (m : NewO H.top K sz v rows) (hw : w.okB H.n = true → v.okB H.n = true) : NewO H (Go.Wam.fin H w K) sz v rows := by
 refine ⟨m.toNewL.fin hok hw, ?_, m.mine⟩
 by_cases h : H.n ≤ K.low ∧ w.okB H.n = true
 · rw [fin_drop' h.1 h.2]
   refine m.own.frame fun i hi => ?_
   have h1 := m.mine i hi
   have h2 := hw h.2
   have := m.own
   obtain ⟨_, ⟨rfl | ⟨id, rfl⟩, _⟩ | ⟨id, kc, rest, rfl, _⟩⟩ := this
   · cases hi
   · cases hi
   · simp at hi
     subst hi
     simp [AV.okB] at h2
     simp only [top_n] at h1
     omega
 · have e : Go.Wam.fin H w K = K.lowered H := by unfold Go.Wam.fin; rw [if_neg h]; rfl
   rw [e]
   exact m.own.frame fun _ _ => rfl
theorem NewO.trans {H K L : AHeap} {sz : Nat} {v : AV} {rows : List (List AV)} (hok : H.ok) (c : Chg [] H K) (m : NewO K L sz v rows) : NewO H L sz v rows := ⟨m.toNewL.trans hok c, m.own, fun i hi => Nat.le_trans c.le (m.mine i hi)⟩
theorem NewO.more {H K L : AHeap} {sz : Nat} {v : AV} {rows : List (List AV)} (hok : H.ok) (m : NewO H K sz v rows) (c : Chg [] K L) : NewO H L sz v rows :=
 have hw := (m.chg.ok hok).1
 ⟨⟨m.sv.new hw c, m.chg.trans hok c (by simp), m.new⟩, m.own.new hw c, m.mine⟩
theorem NewL.more {H K L : AHeap} {sz : Nat} {v : AV} {rows : List (List AV)} (hok : H.ok) (m : NewL H K sz v rows) (c : Chg [] K L) : NewL H L sz v rows :=
 ⟨m.sv.new (m.chg.ok hok).1 c, m.chg.trans hok c (by simp), m.new⟩
theorem NewO.append {H K : AHeap} {sz bytes : Nat} {v x : AV} {rows more : List (List AV)} (hok : H.ok) (m : NewO H K sz v rows) (hx : View K sz x more) (hz : 0 < sz) (hb : (rows.length + more.length) * bytes ≤ 2 ^ 47) :
    ∃ v' L, appendA K sz bytes v x = some (v', L) ∧ NewO H L sz v' (rows ++ more) ∧ v'.noL = true := by
 have okK := m.chg.ok hok
 obtain ⟨v', L, a1, o1, c1, n1, l1, vn⟩ := m.own.append' okK hx hz hb
 have okL := c1.ok okK
 have mine : ∀ i ∈ sown v', H.n ≤ i := fun i hi => by
  rcases n1 i hi with h | h
  · exact m.mine i h
  · exact Nat.le_trans m.chg.le h
 refine ⟨v', L, a1, ⟨⟨⟨o1.view, append_okB m.own hx okL.1 a1 o1 m.sv.ok⟩, m.chg.trans hok c1 (fun i hi => .inr (m.mine i hi)), fun h => ?_⟩, o1, mine⟩, vn⟩
 have := own_sid o1 h
 exact mine _ (by rw [this]; simp)
end Go.Wam
set_option linter.unusedVariables false
set_option linter.unusedSimpArgs false
namespace Go.Proofs.Ytgokjbjbdnbcdaa
open Go.Wam
attribute [local simp] seqK_normal seqK_exit seqK_ret blockK_normal blockK_exit blockK_ret condO_bool evK_skip evK_exit evK_ret evK_keep evK_cond evK_block evK_seq_seq evK_seq_cond evK_seq_block evK_seq_loop evK_seq_skip evK_seq_keep evK_seq_exit evK_seq_ret prK_eq toSt_eq av_l av_v valS_v valT_v valS_u av_u valO_tmp
 nl_eq nl_none nl_if nlR_eq boxC_eq stL_eq storeP_ptr loadP_ptr fldP_ptr idxP_ptr inN_int callN_func strV_str fillC_nil fillC_cons pickV_bool guardK_bool kB_eq chk_some ifaceV_eq funcV_eq natV_int notL_noL leaveK_ret leaveK_normal rvsK_nil rvsK_cons rvK_tmp rvC_l rvC_v rvK_cell enterK_eq ok_l ok_v ok_u norm_eq norm_l norm_v norm_u
 Go.Wam.look zipI prune packA rd undefA allNoL convI convS lenStr lenMap extA fldV idxStr idxAgg idxS_slice idxS_oslice unA beq_same beqL_same AV.beq AV.beqL sliceV nilC clearW
 strOp aeqF_nil aeqF_cons andA_some i_add i_sub i_mul i_lss i_leq i_gtr i_geq i_quo i_rem i_eql i_neq s_eql s_neq s_lss
 s_leq s_gtr s_geq s_add e_bool n_bool e_nilp n_nilp e_ptr n_ptr e_lptr n_lptr e_agg n_agg
 e_nils n_nils e_slice n_slice e_oslice n_oslice e_eslice n_eslice e_xslice n_xslice e_nilm n_nilm e_map n_map
 e_nilFunc n_nilFunc e_func n_func q_int q_bool q_str q_struct q_ptr0 q_ptrL0 q_ptrR0 q_ptrL1 q_ptrR1 q_slice0
 q_sliceL0 q_sliceR0 q_sliceL1 q_sliceR1 q_sliceL2 q_sliceR2 q_sliceL3 q_sliceR3 q_map0 q_mapL0 q_mapR0 q_func0 q_funcL0 q_funcR0
 okR_some get_alloc_eq rdAt_alloc_eq set_alloc_eq set_alloc_ne get_alloc_ne rdAt_alloc_ne
attribute [local congr] bind_cg guardK_cg kB_cg condO_cg evK_cg
abbrev Stp := Int × Int
def ltS (a b : Stp) : Bool := decide (a.1 < b.1) || (decide (a.1 = b.1) && decide (a.2 < b.2))
def rightT (a : Stp) : Bool := decide (0 ≤ a.1) && decide (a.1 ≤ 1099511627776) && (decide (0 ≤ a.2) && decide (a.2 ≤ 65535))
def maxS (a b : Stp) : Stp := if ltS a b = true then b else a
theorem tNaN (a : Int) (H : AHeap) : call T 78 [.int .i64 a] H = some (.bool false, H) := by
 refine okR_eq (call_evK (show T 78 = some (.ir ⟨_, _, _, _, _⟩) from T78) (by decide) PL78 rfl rfl ?_)
 simp -implicitDefEqProofs [fin_pure]
theorem tCmp (a b : Int) (H : AHeap) : call T 66 [.int .i64 a, .int .i64 b] H = some (.int .i64 (if a < b then -1 else if b < a then 1 else 0), H) := by
 refine okR_eq (call_evK (show T 66 = some (.ir ⟨_, _, _, _, _⟩) from T66) (by decide) PL66 rfl rfl ?_)
 by_cases h1 : a < b
 · simp -implicitDefEqProofs [tNaN, h1, fin_pure]
 · by_cases h2 : b < a
   · simp -implicitDefEqProofs [tNaN, h1, h2, fin_pure]
   · simp -implicitDefEqProofs [tNaN, h1, h2, fin_pure]
theorem tWithin (x a b : Int) (H : AHeap) : call T 71 [.int .i64 x, .int .i64 a, .int .i64 b] H = some (.bool (decide (a ≤ x) && decide (x ≤ b)), H) := by
 refine okR_eq (call_evK (show T 71 = some (.ir ⟨_, _, _, _, _⟩) from T71) (by decide) PL71 rfl rfl ?_)
 by_cases h1 : a ≤ x
 · simp -implicitDefEqProofs [h1, fin_pure]
 · simp -implicitDefEqProofs [h1, fin_pure]
theorem tRight (a : Stp) (H : AHeap) : call T 59 [.agg [.int .i64 a.1, .int .i64 a.2]] H = some (.bool (rightT a), H) := by
 refine okR_eq (call_evK (show T 59 = some (.ir ⟨_, _, _, _, _⟩) from T59) (by decide) PL59 rfl rfl ?_)
 unfold rightT
 have e1 := tWithin a.1 0 1099511627776
 have e2 := tWithin a.2 0 65535
 generalize (decide (0 ≤ a.1) && decide (a.1 ≤ 1099511627776)) = p at *
 generalize (decide (0 ≤ a.2) && decide (a.2 ≤ 65535)) = q at *
 cases p <;> simp -implicitDefEqProofs [e1, e2, fin_pure]
theorem tRight' (a : Stp) (H : AHeap) : call T 23 [.agg [.int .i64 a.1, .int .i64 a.2]] H = some (.bool (rightT a), H) := by
 refine okR_eq (call_evK (show T 23 = some (.ir ⟨_, _, _, _, _⟩) from T23) (by decide) PL23 rfl rfl ?_)
 unfold rightT
 by_cases h1 : 0 ≤ a.1
 · by_cases h2 : a.1 ≤ 1099511627776
   · by_cases h3 : 0 ≤ a.2
     · simp -implicitDefEqProofs [h1, h2, h3, fin_pure]
     · simp -implicitDefEqProofs [h1, h2, h3, fin_pure]
   · simp -implicitDefEqProofs [h1, h2, fin_pure]
 · simp -implicitDefEqProofs [h1, fin_pure]
theorem tOr (a b : Int) (H : AHeap) (id : Nat) (h : H.get id = some (.row false 1 [.int .i64 a, .int .i64 b])) : call T 65 [.slice id 0 2 2] H = some (.int .i64 (if a = 0 then b else a), H) := by
 have r := rdAt_row (H := H.top) (show H.top.get id = _ from h)
 have w1 := wrap_id (n := 1) (by omega) (by omega)
 have w2 := wrap_id (n := 2) (by omega) (by omega)
 obtain ⟨x, st, s', f1, ⟨q0, q1⟩, hp, hr, hH⟩ := loopK (T := T) (L := L65_0) rfl
  (fun n s => ∃ i : Nat, i + n = 2 ∧ (0 < i → a = 0) ∧ (1 < i → b = 0) ∧ s = ⟨[(3, .v (.int .i64 0)), (6, .v (.slice id 0 2 2)), (7, .v (.int .i64 2)), (8, .v (.int .i64 i))], [], H.top⟩)
  (fun x s => s.H = H.top ∧ ((x = .exit 0 ∧ a = 0 ∧ b = 0 ∧ prK [3] [] s = ⟨[(3, .v (.int .i64 0))], [], H.top⟩) ∨ (x = .ret ∧ rvsK s [.tmp 2] = some [.int .i64 (if a = 0 then b else a)])))
  (by
   rintro n _ ⟨i, hi, h0, h1, rfl⟩ P hI hX hR
   by_cases hlt : i < 2
   · have hw := wrap_id (n := (i : Int) + 1) (by omega) (by omega)
     have hlt' : (i : Int) < 2 := by omega
     by_cases hi0 : i = 0
     · subst hi0
       by_cases ha : a = 0
       · simp -implicitDefEqProofs [B65_0, r, ha, w1, w2]
         refine hI _ _ _ 1 (by omega) ?_
         exact ⟨1, by omega, fun _ => ha, fun hc => by omega, by simp⟩
       · simp -implicitDefEqProofs [B65_0, r, ha, w1, w2]
         refine hR _ ?_
         exact ⟨rfl, .inr ⟨rfl, by simp [ha]⟩⟩
     · have : i = 1 := by omega
       subst this
       have ha := h0 (by omega)
       by_cases hb : b = 0
       · simp -implicitDefEqProofs [B65_0, r, hb, w1, w2]
         refine hI _ _ _ 0 (by omega) ?_
         exact ⟨2, by omega, fun _ => ha, fun _ => hb, by simp⟩
       · simp -implicitDefEqProofs [B65_0, r, hb, w1, w2]
         refine hR _ ?_
         exact ⟨rfl, .inr ⟨rfl, by simp [ha]⟩⟩
   · have hlt' : ¬ (i : Int) < 2 := by omega
     simp -implicitDefEqProofs [B65_0, hlt']
     refine hX _ _ ?_
     exact ⟨rfl, .inl ⟨rfl, h0 (by omega), h1 (by omega), by simp⟩⟩)
  2 ⟨[(3, .v (.int .i64 0)), (6, .v (.slice id 0 2 2)), (7, .v (.int .i64 2)), (8, .v (.int .i64 0))], [], H.top⟩ rfl ⟨0, by omega, by omega, by omega, by simp⟩
 rw [q0] at hH
 refine okR_eq (call_evK (show T 65 = some (.ir ⟨_, _, _, _, _⟩) from T65) (by decide) PL65 rfl rfl ?_)
 rcases q1 with ⟨rfl, rfl, rfl, hk⟩ | ⟨rfl, hk⟩
 · have hk := (hp [3] []).trans (congrArg SK.norm hk)
   simp only [toSt_eq, List.map_cons, List.map_nil, av_v] at f1
   simp -implicitDefEqProofs [f1, hk, fin_pure]
 · have hk := hr _ _ hk
   simp only [toSt_eq, List.map_cons, List.map_nil, av_v] at f1
   simp -implicitDefEqProofs [f1, hk, hH, fin_pure]
theorem tCompare (a b : Stp) (H : AHeap) : call T 39 [.agg [.int .i64 a.1, .int .i64 a.2], .agg [.int .i64 b.1, .int .i64 b.2]] H = some (.int .i64 (if a.1 < b.1 then -1 else if b.1 < a.1 then 1 else if a.2 < b.2 then -1 else if b.2 < a.2 then 1 else 0), H) := by
 refine okR_eq (call_evK (show T 39 = some (.ir ⟨_, _, _, _, _⟩) from T39) (by decide) PL39 rfl rfl ?_)
 have key : ∀ a b : Int, call T 65 [.slice H.n 0 2 2] (H.top.alloc (.row false 1 [.int .i64 a, .int .i64 b])) = some (.int .i64 (if a = 0 then b else a), H.top.alloc (.row false 1 [.int .i64 a, .int .i64 b])) :=
  fun a b => tOr a b _ _ (get_alloc_same H.top _)
 have e1 := tCmp a.1 b.1 H.top
 have e2 := tCmp a.2 b.2 H.top
 have hfin : ∀ (n : Int) (x : AObj), Go.Wam.fin H (.int .i64 n) (H.top.alloc x) = H := fun n x => fin_drop' (by simp) (by simp)
 generalize h1 : (if a.1 < b.1 then (-1 : Int) else if b.1 < a.1 then 1 else 0) = c1 at *
 generalize h2 : (if a.2 < b.2 then (-1 : Int) else if b.2 < a.2 then 1 else 0) = c2 at *
 simp -implicitDefEqProofs [e1, e2, key, hfin]
 subst h1 h2
 (repeat' split) <;> simp_all <;> omega
theorem tLess (a b : Stp) (H : AHeap) : call T 72 [.agg [.int .i64 a.1, .int .i64 a.2], .agg [.int .i64 b.1, .int .i64 b.2]] H = some (.bool (ltS a b), H) := by
 refine okR_eq (call_evK (show T 72 = some (.ir ⟨_, _, _, _, _⟩) from T72) (by decide) PL72 rfl rfl ?_)
 have e1 := tCompare a b H.top
 have e2 : ltS a b = decide ((if a.1 < b.1 then (-1 : Int) else if b.1 < a.1 then 1 else if a.2 < b.2 then -1 else if b.2 < a.2 then 1 else 0) < 0) := by
  unfold ltS
  (repeat' split) <;> simp_all <;> omega
 rw [e2]
 generalize (if a.1 < b.1 then (-1 : Int) else if b.1 < a.1 then 1 else if a.2 < b.2 then -1 else if b.2 < a.2 then 1 else 0) = c at *
 simp -implicitDefEqProofs [e1, fin_pure]
theorem tMax (a b : Stp) (H : AHeap) : call T 70 [.agg [.int .i64 a.1, .int .i64 a.2], .agg [.int .i64 b.1, .int .i64 b.2]] H = some (.agg [.int .i64 (maxS a b).1, .int .i64 (maxS a b).2], H) := by
 refine okR_eq (call_evK (show T 70 = some (.ir ⟨_, _, _, _, _⟩) from T70) (by decide) PL70 rfl rfl ?_)
 have e1 := tLess a b H.top
 unfold maxS
 cases h : ltS a b <;> rw [h] at e1 <;> simp -implicitDefEqProofs [e1, fin_pure]
def nextS (a : Stp) : Stp × Int := if rightT a = false ∨ (a.1 = 1099511627776 ∧ a.2 = 65535) then ((0, 0), 31) else if a.2 = 65535 then ((a.1 + 1, 0), 0) else ((a.1, a.2 + 1), 0)
theorem right_bounds {a : Stp} (h : rightT a = true) : 0 ≤ a.1 ∧ a.1 ≤ 1099511627776 ∧ 0 ≤ a.2 ∧ a.2 ≤ 65535 := by
 unfold rightT at h
 simp only [Bool.and_eq_true, decide_eq_true_eq] at h
 exact ⟨h.1.1, h.1.2, h.2.1, h.2.2⟩
def uptoB (a b : Stp) : Bool := !ltS b a
theorem vUpto (a b : Stp) (H : AHeap) : call T 60 [.agg [.int .i64 a.1, .int .i64 a.2], .agg [.int .i64 b.1, .int .i64 b.2]] H = some (.bool (uptoB a b), H) := by
 refine okR_eq (call_evK (show T 60 = some (.ir ⟨_, _, _, _, _⟩) from T60) (by decide) PL60 rfl rfl ?_)
 simp -implicitDefEqProofs [tLess b a, fin_pure, uptoB]
structure Ve where
 at_ : Stp
 val : List UInt8
 gone : Bool
 by_ : Int
 deriving DecidableEq
def rowVe (x : Ve) : List AV := [.int .i64 x.at_.1, .int .i64 x.at_.2, .str x.val, .bool x.gone, .int .i64 x.by_]
structure Mt where
 id : Int
 ep : Int
 anc : List UInt8
 w : Int
 g : Int
 deriving DecidableEq
def celMt (x : Mt) : List AV := [.int .i64 x.id, .int .i64 x.ep, .str x.anc, .int .i64 x.w, .int .i64 x.g]
structure It where
 m : Mt
 seq : Int
 at_ : Stp
 val : List UInt8
 gone : Bool
 deriving DecidableEq
def celIt (x : It) : List AV := [.int .i64 x.m.id, .int .i64 x.m.ep, .str x.m.anc, .int .i64 x.m.w, .int .i64 x.m.g, .int .i64 x.seq, .int .i64 x.at_.1, .int .i64 x.at_.2, .str x.val, .bool x.gone]
def zIt : It := ⟨⟨0, 0, [], 0, 0⟩, 0, (0, 0), [], false⟩
structure Ch where
 L : List Ve
 op : Bool
 i : It
def celCh (v : AV) (c : Ch) : List AV := v :: .bool c.op :: celIt c.i
def bs (p : Nat → Bool) : Nat → Nat → Nat → Nat
 | 0, lo, _ => lo
 | f + 1, lo, hi => if lo < hi then (if p ((lo + hi) / 2) = true then bs p f ((lo + hi) / 2 + 1) hi else bs p f lo ((lo + hi) / 2)) else lo
theorem bs_le (p : Nat → Bool) : ∀ (f lo hi : Nat), lo ≤ hi → bs p f lo hi ≤ hi := by
 intro f
 induction f with
 | zero => intro lo hi h; exact h
 | succ f ih =>
  intro lo hi h
  rw [bs]
  split
  · split
    · exact ih _ _ (by omega)
    · have := ih lo ((lo + hi) / 2) (by omega); omega
  · exact h
theorem bs_done (p : Nat → Bool) (f lo : Nat) : bs p f lo lo = lo := by cases f <;> simp [bs]
def upAt (L : List Ve) (s : Stp) (k : Nat) : Bool := match L[k]? with | some v => uptoB v.at_ s | none => false
def aboveN (L : List Ve) (s : Stp) : Nat := bs (upAt L s) L.length 0 L.length
theorem aboveN_le (L : List Ve) (s : Stp) : aboveN L s ≤ L.length := bs_le _ _ _ _ (Nat.zero_le _)
theorem eVe (x : Ve) : rd true 5 0 (rowVe x) = some (.agg (rowVe x)) := rfl
theorem vAbove1 (x : Ve) (s : Stp) (H : AHeap) : call T 77 [.agg (rowVe x), .agg [.int .i64 s.1, .int .i64 s.2]] H = some (.int .i64 (if uptoB x.at_ s = true then -1 else 1), H) := by
 refine okR_eq (call_evK (show T 77 = some (.ir ⟨_, _, _, _, _⟩) from T77) (by decide) PL77 rfl rfl ?_)
 have e := vUpto x.at_ s H.top
 unfold rowVe
 cases h : uptoB x.at_ s <;> rw [h] at e <;> simp -implicitDefEqProofs [e, fin_pure]
theorem u64_id {n : Int} (h : 0 ≤ n) (h' : n ≤ 18446744073709551615) : IntKind.u64.wrap n = n := by
 simp only [IntKind.wrap, IntKind.bits, IntKind.signed]
 simp
 omega
theorem shr1 {n : Nat} : binA .shr .none (.int .u64 (n : Int)) (.int .u64 1) = some (.int .u64 ((n / 2 : Nat) : Int)) := by
 simp only [binA, shiftOp]
 simp [IntKind.bits]
 rw [Int.fdiv_eq_ediv_of_nonneg _ (by omega)]
section
variable {H : AHeap} {v : AV} {L : List Ve}
theorem bsf_loop (s : Stp) (hV : View H 5 v (L.map rowVe)) (hl : L.length < 1000000000000000) :
    ∃ x st s', den T (.loop L76_0) (SK.toSt ⟨[(0, .v v), (2, .v (.func (.func 77) [] [])), (4, .l 4 0), (8, .v (.int .i64 L.length)), (9, .v (.int .i64 0)), (10, .v (.int .i64 L.length))], [(4, [.int .i64 s.1, .int .i64 s.2])], H⟩) = some (x, st) ∧
     (x = .exit 0 ∧ prK [0, 2, 4, 8, 9] [4] s' = ⟨[(0, .v v), (2, .v (.func (.func 77) [] [])), (4, .l 4 0), (8, .v (.int .i64 L.length)), (9, .v (.int .i64 (aboveN L s)))], [(4, [.int .i64 s.1, .int .i64 s.2])], H⟩) ∧ (∀ ks ls, prK ks ls (ofSt st) = (prK ks ls s').norm) ∧ (∀ rs vs, rvsK s' rs = some vs → rvsK (ofSt st) rs = some vs) ∧ (ofSt st).H = s'.H := by
 have hvn := hV.noL
 refine loopK (T := T) (L := L76_0) rfl
  (fun m st => ∃ (i j f : Nat), i ≤ j ∧ j ≤ L.length ∧ j - i ≤ f ∧ m = j - i ∧ bs (upAt L s) f i j = aboveN L s ∧ st = ⟨[(0, .v v), (2, .v (.func (.func 77) [] [])), (4, .l 4 0), (8, .v (.int .i64 L.length)), (9, .v (.int .i64 i)), (10, .v (.int .i64 j))], [(4, [.int .i64 s.1, .int .i64 s.2])], H⟩)
  (fun x s' => x = .exit 0 ∧ prK [0, 2, 4, 8, 9] [4] s' = ⟨[(0, .v v), (2, .v (.func (.func 77) [] [])), (4, .l 4 0), (8, .v (.int .i64 L.length)), (9, .v (.int .i64 (aboveN L s)))], [(4, [.int .i64 s.1, .int .i64 s.2])], H⟩)
  ?_ L.length _ (by simp [hvn]) ⟨0, L.length, L.length, by omega, by omega, by omega, by omega, rfl, by simp⟩
 rintro m _ ⟨i, j, f, hij, hj, hf, hm, hR', rfl⟩ P hI hX hR
 by_cases hlt : i < j
 · obtain ⟨f, rfl⟩ : ∃ g, f = g + 1 := ⟨f - 1, by omega⟩
   rw [bs, if_pos hlt] at hR'
   obtain ⟨h, hh⟩ : ∃ h, h = (i + j) / 2 := ⟨_, rfl⟩
   rw [← hh] at hR'
   have hhl : h < L.length := by omega
   have w1 := wrap_id (n := (i : Int) + j) (by omega) (by omega)
   have w2 := u64_id (n := (i : Int) + j) (by omega) (by omega)
   have w3 := shr1 (n := i + j)
   rw [← hh] at w3
   have w4 := wrap_id (n := (h : Int)) (by omega) (by omega)
   have w5 := wrap_id (n := (h : Int) + 1) (by omega) (by omega)
   rw [Int.natCast_add] at w3
   have e1 := hV.idx .i64 (n := h) (by omega) (by rw [List.length_map]; omega)
   have e2 := hV.rd (i := h) (r := rowVe L[h]) (by rw [List.getElem?_map, List.getElem?_eq_getElem hhl]; rfl) true (k := 5) (f := 0) (by omega) (by omega) (by simp)
   rw [eVe] at e2
   simp only [Int.toNat_natCast, Nat.add_zero] at e1 e2
   have e3 := vAbove1 L[h] s H
   have hup : upAt L s h = uptoB L[h].at_ s := by unfold upAt; rw [List.getElem?_eq_getElem hhl]
   rw [hup] at hR'
   cases hu : uptoB L[h].at_ s with
   | true =>
    rw [hu] at e3 hR'
    simp only [if_true] at e3 hR'
    unfold rowVe at e2 e3
    simp -implicitDefEqProofs [B76_0, hlt, w1, w2, w3, w4, w5, e1, e2, e3, hvn]
    refine hI _ _ _ (j - (h + 1)) (by omega) ?_
    exact ⟨h + 1, j, f, by omega, hj, by omega, rfl, hR', by simp⟩
   | false =>
    rw [hu] at e3 hR'
    simp only [Bool.false_eq_true, if_false] at e3 hR'
    unfold rowVe at e2 e3
    simp -implicitDefEqProofs [B76_0, hlt, w1, w2, w3, w4, w5, e1, e2, e3, hvn]
    refine hI _ _ _ (h - i) (by omega) ?_
    exact ⟨i, h, f, by omega, by omega, by omega, rfl, hR', by simp⟩
 · have hij' : i = j := by omega
   subst hij'
   rw [bs_done] at hR'
   simp -implicitDefEqProofs [B76_0]
   refine hX _ _ ?_
   exact ⟨rfl, by simp [hR']⟩
theorem vBsf (s : Stp) (hV : View H 5 v (L.map rowVe)) (hl : L.length < 1000000000000000) :
    ∃ b, call T 76 [v, .agg [.int .i64 s.1, .int .i64 s.2], .func (.func 77) [] []] H = some (.tuple [.int .i64 (aboveN L s), .bool b], H) := by
 obtain ⟨x, st, s', f1, ⟨rfl, hk⟩, hp, _, _⟩ := bsf_loop (H := H.top) s hV.top hl
 have hk := (hp [0, 2, 4, 8, 9] [4]).trans (congrArg SK.norm hk)
 simp only [toSt_eq, List.map_cons, List.map_nil, av_v, av_l] at f1
 have e0 := hV.lenS
 rw [List.length_map] at e0
 have hvn := hV.noL
 have hle := aboveN_le L s
 have hfin : ∀ b, Go.Wam.fin H (.tuple [.int .i64 (aboveN L s), .bool b]) H.top = H := fun b => fin_drop' (by simp) (by simp)
 refine ⟨false, okR_eq (call_evK (show T 76 = some (.ir ⟨_, _, _, _, _⟩) from T76) (by decide) PL76 rfl (by simp [hvn]) ?_)⟩
 by_cases hlt : aboveN L s < L.length
 · have e1 := hV.idx .i64 (n := aboveN L s) (by omega) (by rw [List.length_map]; omega)
   have e2 := hV.rd (i := aboveN L s) (r := rowVe L[aboveN L s]) (by rw [List.getElem?_map, List.getElem?_eq_getElem hlt]; rfl) true (k := 5) (f := 0) (by omega) (by omega) (by simp)
   rw [eVe] at e2
   simp only [Int.toNat_natCast, Nat.add_zero] at e1 e2
   have e3 := vAbove1 L[aboveN L s] s H.top
   unfold rowVe at e2 e3
   cases hu : uptoB L[aboveN L s].at_ s <;> rw [hu] at e3 <;> simp only [if_true, Bool.false_eq_true, if_false] at e3 <;> simp -implicitDefEqProofs [e0, f1, hk, hlt, e1, e2, e3, hvn, hfin]
 · simp -implicitDefEqProofs [e0, f1, hk, hlt, hvn, hfin]
theorem vAbove (s : Stp) (hV : View H 5 v (L.map rowVe)) (hl : L.length < 1000000000000000) (o : Bool) (i : It) :
    call T 64 [.agg (v :: .bool o :: celIt i), .agg [.int .i64 s.1, .int .i64 s.2]] H = some (.int .i64 (aboveN L s), H) := by
 refine okR_eq (call_evK (show T 64 = some (.ir ⟨_, _, _, _, _⟩) from T64) (by decide) PL64 rfl rfl ?_)
 obtain ⟨b, e⟩ := vBsf (H := H.top) s hV.top hl
 have hvn := hV.noL
 have hvc := hV.cells
 unfold celIt
 simp -implicitDefEqProofs [e, hvn, hvc, fin_pure]
end
def zVe : Ve := ⟨(0, 0), [], false, 0⟩
def zMt : Mt := ⟨0, 0, [], 0, 0⟩
def atV (L : List Ve) (k : Nat) : Ve := (L[k]?).getD zVe
theorem atV_get {L : List Ve} {k : Nat} (h : k < L.length) : L[k]? = some (atV L k) := by unfold atV; rw [List.getElem?_eq_getElem h]; rfl
def ownI (c : Ch) (id ep : Int) : Bool := c.op && (decide (c.i.m.id = id) && decide (c.i.m.ep = ep))
def othI (c : Ch) (id : Int) (l : Stp) : Bool := c.op && (decide (¬ c.i.m.id = id) && uptoB c.i.at_ l)
def readC (c : Ch) (a l : Stp) (id ep : Int) : Ve × Bool × Mt × Int :=
 if ownI c id ep = true then (if c.i.gone = true then (zVe, false, zMt, 0) else (⟨c.i.at_, c.i.val, false, id⟩, true, zMt, 0))
 else if othI c id l = true then (zVe, false, c.i.m, 81)
 else if aboveN c.L a < aboveN c.L l then (⟨(atV c.L (aboveN c.L l - 1)).at_, [], false, 0⟩, false, zMt, 82)
 else if aboveN c.L a = 0 ∨ (atV c.L (aboveN c.L a - 1)).gone = true then (zVe, false, zMt, 0)
 else (atV c.L (aboveN c.L a - 1), true, zMt, 0)
def outR (r : Ve × Bool × Mt × Int) : AV := .tuple [.agg (rowVe r.1), .bool r.2.1, .agg (celMt r.2.2.1), .int .i64 r.2.2.2]
section
variable {H : AHeap} {v : AV} {L : List Ve}
theorem idxP (hV : View H 5 v (L.map rowVe)) {k : Nat} (h1 : 0 < k) (h2 : k ≤ L.length) : idxS 5 v (.int .i64 ((k : Int) - 1)) = some (.ptr (sid v) (soff v + (k - 1) * 5)) := by
 have := hV.idx .i64 (n := (k : Int) - 1) (by omega) (by rw [List.length_map]; omega)
 rw [this]; congr 3; omega
theorem rdP (hV : View H 5 v (L.map rowVe)) {k : Nat} (h1 : 0 < k) (h2 : k ≤ L.length) (agg : Bool) {sz f : Nat} (h3 : f + sz ≤ 5) (h4 : 0 < sz) (h5 : agg = false → sz = 1) : H.rdAt (sid v) agg sz (soff v + (k - 1) * 5 + f) = rd agg sz f (rowVe (atV L (k - 1))) :=
 hV.rd (i := k - 1) (by rw [List.getElem?_map, atV_get (by omega)]; rfl) agg h3 h4 h5
set_option maxHeartbeats 8000000 in
theorem vRead (hS : SV H 5 v (L.map rowVe)) (hl : L.length < 1000000000000000) (op : Bool) (mid mep : Int) (manc : List UInt8) (mw mg seq : Int) (iat : Stp) (ival : List UInt8) (igone : Bool) (a l : Stp) (id ep : Int) :
    call T 37 [.agg [v, .bool op, .int .i64 mid, .int .i64 mep, .str manc, .int .i64 mw, .int .i64 mg, .int .i64 seq, .int .i64 iat.1, .int .i64 iat.2, .str ival, .bool igone], .agg [.int .i64 a.1, .int .i64 a.2], .agg [.int .i64 l.1, .int .i64 l.2], .int .i64 id, .int .i64 ep] H = some (outR (readC ⟨L, op, ⟨⟨mid, mep, manc, mw, mg⟩, seq, iat, ival, igone⟩⟩ a l id ep), H) := by
 refine okR_eq (call_evK (show T 37 = some (.ir ⟨_, _, _, _, _⟩) from T37) (by decide) PL37 rfl rfl ?_)
 have hV := hS.view
 have hvo := hS.ok
 have hv1 := hV.one
 have hvn := hV.noL
 have hvc := hV.cells
 have ea := vAbove (H := H.top) a hV.top hl op ⟨⟨mid, mep, manc, mw, mg⟩, seq, iat, ival, igone⟩
 have el := vAbove (H := H.top) l hV.top hl op ⟨⟨mid, mep, manc, mw, mg⟩, seq, iat, ival, igone⟩
 have eu := vUpto iat l H.top
 have la := aboveN_le L a
 have ll := aboveN_le L l
 unfold readC ownI othI outR
 simp only [celIt] at ea el
 generalize aboveN L a = k at *
 generalize aboveN L l = n at *
 have hw1 := wrap_id (n := (n : Int) - 1) (by omega) (by omega)
 have hw2 := wrap_id (n := (k : Int) - 1) (by omega) (by omega)
 have gn := fun h : 0 < n => idxP hV h ll
 have gk := fun h : 0 < k => idxP hV h la
 have rn := fun h : 0 < n => rdP hV h ll true (sz := 2) (f := 0) (by omega) (by omega) (by simp)
 have rk1 := fun h : 0 < k => rdP hV h la false (sz := 1) (f := 3) (by omega) (by omega) (by simp)
 have rk2 := fun h : 0 < k => rdP hV h la true (sz := 5) (f := 0) (by omega) (by omega) (by simp)
 simp only [rowVe, Nat.add_zero] at rn rk1 rk2
 clear hV hl
 by_cases h1 : op = true ∧ mid = id ∧ mep = ep
 · obtain ⟨rfl, rfl, rfl⟩ := h1
   cases igone <;> simp -implicitDefEqProofs [hvn, hvc, fin_pure, zVe, zMt, rowVe, celMt]
 by_cases h2 : op = true ∧ ¬ mid = id ∧ uptoB iat l = true
 · obtain ⟨rfl, h2, h3⟩ := h2
   rw [h3] at eu
   simp -implicitDefEqProofs [hvn, hvc, h2, h3, eu, fin_pure, zVe, zMt, rowVe, celMt]
 have ho : ∀ {P : Prop}, (op = false → P) → (op = true → mid = id → ¬ mep = ep → P) → (op = true → ¬ mid = id → uptoB iat l = false → P) → P := fun {P} p1 p2 p3 => by
  cases op with
  | false => exact p1 rfl
  | true =>
   by_cases h4 : mid = id
   · exact p2 rfl h4 fun h => h1 ⟨rfl, h4, h⟩
   · refine p3 rfl h4 ?_
     cases hu : uptoB iat l with | false => rfl | true => exact absurd ⟨rfl, h4, hu⟩ h2
 clear h1 h2
 by_cases h3 : k < n
 · have g1 := gn (by omega)
   have g2 := rn (by omega)
   clear gn rn gk rk1 rk2
   refine ho (fun h => ?_) (fun h h' h'' => ?_) (fun h h' h'' => ?_)
   · subst h
     simp -implicitDefEqProofs [hvn, hvc, hvo, hv1, h3, ea, el, g1, g2, hw1, fin_pure, zVe, zMt, rowVe, celMt]
   · subst h h'
     simp -implicitDefEqProofs [hvn, hvc, hvo, hv1, h3, h'', ea, el, g1, g2, hw1, fin_pure, zVe, zMt, rowVe, celMt]
   · subst h
     rw [h''] at eu
     simp -implicitDefEqProofs [hvn, hvc, hvo, hv1, h3, h', h'', eu, ea, el, g1, g2, hw1, fin_pure, zVe, zMt, rowVe, celMt]
 by_cases h6 : k = 0
 · have h6' : (k = 0) = True := eq_true h6
   have h6'' : ((k : Int) = 0) = True := eq_true (by omega)
   clear gn rn gk rk1 rk2
   refine ho (fun h => ?_) (fun h h' h'' => ?_) (fun h h' h'' => ?_)
   · subst h
     simp -implicitDefEqProofs [hvn, hvc, hvo, hv1, h3, ea, el, h6', h6'', fin_pure, zVe, zMt, rowVe, celMt]
   · subst h h'
     simp -implicitDefEqProofs [hvn, hvc, hvo, hv1, h3, h'', ea, el, h6', h6'', fin_pure, zVe, zMt, rowVe, celMt]
   · subst h
     rw [h''] at eu
     simp -implicitDefEqProofs [hvn, hvc, hvo, hv1, h3, h', h'', eu, ea, el, h6', h6'', fin_pure, zVe, zMt, rowVe, celMt]
 · have g1 := gk (by omega)
   have g2 := rk1 (by omega)
   have g3 := rk2 (by omega)
   have h6' : ¬ (k : Int) = 0 := by omega
   clear gn rn gk rk1 rk2
   generalize atV L (k - 1) = x at *
   obtain ⟨xat, xval, xgone, xby⟩ := x
   refine ho (fun h => ?_) (fun h h' h'' => ?_) (fun h h' h'' => ?_)
   · subst h
     cases xgone <;> simp -implicitDefEqProofs [hvn, hvc, hvo, hv1, h3, ea, el, g1, g2, g3, h6, h6', hw2, fin_pure, zVe, zMt, rowVe, celMt]
   · subst h h'
     cases xgone <;> simp -implicitDefEqProofs [hvn, hvc, hvo, hv1, h3, h'', ea, el, g1, g2, g3, h6, h6', hw2, fin_pure, zVe, zMt, rowVe, celMt]
   · subst h
     rw [h''] at eu
     cases xgone <;> simp -implicitDefEqProofs [hvn, hvc, hvo, hv1, h3, h', h'', eu, ea, el, g1, g2, g3, h6, h6', hw2, fin_pure, zVe, zMt, rowVe, celMt]
end
theorem tNext (a : Stp) (H : AHeap) : call T 69 [.agg [.int .i64 a.1, .int .i64 a.2]] H = some (.tuple [.agg [.int .i64 (nextS a).1.1, .int .i64 (nextS a).1.2], .int .i64 (nextS a).2], H) := by
 refine okR_eq (call_evK (show T 69 = some (.ir ⟨_, _, _, _, _⟩) from T69) (by decide) PL69 rfl rfl ?_)
 have e1 := tRight a H.top
 unfold nextS
 cases hr : rightT a with
 | false => rw [hr] at e1; simp -implicitDefEqProofs [e1, fin_pure]
 | true =>
  rw [hr] at e1
  have hb := right_bounds hr
  by_cases h1 : a.1 = 1099511627776 ∧ a.2 = 65535
  · simp -implicitDefEqProofs [e1, eq_true h1.1, eq_true h1.2, fin_pure]
  · by_cases h2 : a.2 = 65535
    · have h3 : ¬ a.1 = 1099511627776 := fun h => h1 ⟨h, h2⟩
      have w := wrap_id (n := a.1 + 1) (by omega) (by omega)
      simp -implicitDefEqProofs [e1, eq_true h2, h3, w, fin_pure]
    · have w := wrap_id (n := a.2 + 1) (by omega) (by omega)
      by_cases h3 : a.1 = 1099511627776
      · simp -implicitDefEqProofs [e1, h2, eq_true h3, w, fin_pure]
      · simp -implicitDefEqProofs [e1, h2, h3, w, fin_pure]
def lastS (L : List Ve) : Stp := (atV L (L.length - 1)).at_
section
variable {H : AHeap} {v : AV} {L : List Ve}
theorem vLast (hS : SV H 5 v (L.map rowVe)) (hl : L.length < 1000000000000000) (cs : List AV) (hcs : cs.length = 11) :
    call T 58 [.agg (v :: cs)] H = some (.tuple [.agg [.int .i64 (if L = [] then 0 else (lastS L).1), .int .i64 (if L = [] then 0 else (lastS L).2)], .bool (decide (L ≠ []))], H) := by
 refine okR_eq (call_evK (show T 58 = some (.ir ⟨_, _, _, _, _⟩) from T58) (by decide) PL58 rfl rfl ?_)
 have hV := hS.view
 have hvn := hV.noL
 have hvo := hS.ok
 have hv1 := hV.one
 have e0 := hV.lenS
 rw [List.length_map] at e0
 match cs, hcs with
 | [c1, c2, c3, c4, c5, c6, c7, c8, c9, c10, c11], _ =>
 by_cases h0 : L = []
 · have h0' : ((L.length : Int) = 0) = True := eq_true (by subst h0; rfl)
   simp -implicitDefEqProofs [e0, h0', hvn, fin_pure]
   simp [h0]
 · have hp : 0 < L.length := List.length_pos_iff.2 h0
   have h0' : ¬ (L.length : Int) = 0 := by omega
   have w := wrap_id (n := (L.length : Int) - 1) (by omega) (by omega)
   have e1 := idxP hV hp (Nat.le_refl _)
   have e2 := rdP hV hp (Nat.le_refl _) true (sz := 2) (f := 0) (by omega) (by omega) (by simp)
   simp only [rowVe, Nat.add_zero] at e2
   simp -implicitDefEqProofs [e0, h0', hvn, hvo, hv1, w, e1, e2, fin_pure]
   simp [h0, lastS]
theorem vCopied (hok : H.ok) (hS : SV H 5 v (L.map rowVe)) (hl : L.length < 2932031007403) (cs : List AV) (hcs : cs.length = 11) :
    ∃ v' K, call T 53 [.agg (v :: cs)] H = some (.agg (v' :: cs), K) ∧ NewO H K 5 v' (L.map rowVe) := by
 obtain ⟨v', K, e1, m, _, hvn', low, vo, own, mine⟩ := clone (T := T) (H := H.top) (k := 36) (sz := 5) (bytes := 48) (by decide) T36 (AHeap.ok.top hok.1) (by omega) hS.view.top (by rw [List.length_map]; omega)
 have hvn := hS.view.noL
 have hv1' := m.view.one
 have hvc' := m.view.cells
 refine ⟨v', Go.Wam.fin H (.agg (v' :: cs)) K, okR_eq (call_evK (show T 53 = some (.ir ⟨_, _, _, _, _⟩) from T53) (by decide) PL53 rfl rfl ?_), NewO.fin hok ⟨⟨⟨m.view, vo⟩, m.chg, m.new⟩, own, mine⟩ okB_head⟩
 match cs, hcs with
 | [c1, c2, c3, c4, c5, c6, c7, c8, c9, c10, c11], _ =>
 simp -implicitDefEqProofs [e1, hvn, hvn', hvc']
end
def upS (L : List Ve) (s : Stp) : Stp := if L = [] then s else maxS s (nextS (lastS L)).1
def leastC (L : List Ve) (op : Bool) (ia s : Stp) : Stp × Int :=
 if ¬ L = [] ∧ ¬ (nextS (lastS L)).2 = 0 then ((0, 0), (nextS (lastS L)).2)
 else if rightT (if op = true then maxS (upS L s) ia else upS L s) = true then (if op = true then maxS (upS L s) ia else upS L s, 0) else ((0, 0), 31)
section
variable {H : AHeap} {v : AV} {L : List Ve}
theorem vLeast (hS : SV H 5 v (L.map rowVe)) (hl : L.length < 2932031007403) (op : Bool) (c2 c3 c4 c5 c6 c7 : AV) (ia s : Stp) (c10 c11 : AV) :
    call T 54 [.agg [v, .bool op, c2, c3, c4, c5, c6, c7, .int .i64 ia.1, .int .i64 ia.2, c10, c11], .agg [.int .i64 s.1, .int .i64 s.2]] H = some (.tuple [.agg [.int .i64 (leastC L op ia s).1.1, .int .i64 (leastC L op ia s).1.2], .int .i64 (leastC L op ia s).2], H) := by
 refine okR_eq (call_evK (show T 54 = some (.ir ⟨_, _, _, _, _⟩) from T54) (by decide) PL54 rfl rfl ?_)
 have hvn := hS.view.noL
 have hvc := hS.view.cells
 have el := vLast hS.top (by omega) [.bool op, c2, c3, c4, c5, c6, c7, .int .i64 ia.1, .int .i64 ia.2, c10, c11] rfl
 have en := tNext (lastS L) H.top
 have em := tMax s (nextS (lastS L)).1 H.top
 have em2 := tMax (upS L s) ia H.top
 have er := tRight (if op = true then maxS (upS L s) ia else upS L s) H.top
 unfold leastC
 by_cases h0 : L = []
 · have hu : upS L s = s := by unfold upS; rw [if_pos h0]
   rw [hu] at em2 er ⊢
   simp only [h0, if_true, ne_eq, not_true, decide_false] at el
   simp only [h0, not_true, false_and, if_false]
   cases op with
   | true =>
    simp only [if_true] at er ⊢
    cases hr : rightT (maxS s ia) <;> rw [hr] at er <;> simp -implicitDefEqProofs [hvn, hvc, el, em2, er, fin_pure]
   | false =>
    simp only [Bool.false_eq_true, if_false] at er ⊢
    cases hr : rightT s <;> rw [hr] at er <;> simp -implicitDefEqProofs [hvn, hvc, el, er, fin_pure]
 · have hu : upS L s = maxS s (nextS (lastS L)).1 := by unfold upS; rw [if_neg h0]
   rw [hu] at em2 er ⊢
   simp only [h0, if_false, ne_eq, not_false_eq_true, decide_true] at el
   by_cases h1 : (nextS (lastS L)).2 = 0
   · rw [h1] at en
     simp only [h1, not_true, and_false, if_false]
     cases op with
     | true =>
      simp only [if_true] at er ⊢
      cases hr : rightT (maxS (maxS s (nextS (lastS L)).1) ia) <;> rw [hr] at er <;> simp -implicitDefEqProofs [hvn, hvc, el, en, em, em2, er, fin_pure]
     | false =>
      simp only [Bool.false_eq_true, if_false] at er ⊢
      cases hr : rightT (maxS s (nextS (lastS L)).1) <;> rw [hr] at er <;> simp -implicitDefEqProofs [hvn, hvc, el, en, em, er, fin_pure]
   · rw [if_pos ⟨h0, h1⟩]
     simp -implicitDefEqProofs [hvn, hvc, el, en, h1, fin_pure]
theorem vWrite1 (x : Ve) (i : It) (id : Nat) (hg : H.get id = some (.row false 10 (celIt i))) :
    call T 52 [.agg (rowVe x), .ptr id 0] H = some (.bool (decide (x.by_ = i.m.id)), H) := by
 refine okR_eq (call_evK (show T 52 = some (.ir ⟨_, _, _, _, _⟩) from T52) (by decide) PL52 rfl rfl ?_)
 have r := rdAt_row (H := H.top) (show H.top.get id = _ from hg)
 unfold rowVe
 unfold celIt at r
 simp -implicitDefEqProofs [r, fin_pure]
end
def zCh : Ch := ⟨[], false, zIt⟩
def writeC (c : Ch) (i : It) : Ch × Stp × Mt × Int :=
 if c.op = true ∧ ¬ c.i.m.id = i.m.id then (zCh, (0, 0), c.i.m, 81)
 else if c.L.any (fun x => decide (x.by_ = i.m.id)) = true then (zCh, (0, 0), zMt, 83)
 else if c.op = true ∧ i.m.ep < c.i.m.ep then (zCh, (0, 0), zMt, 84)
 else if c.op = true ∧ c.i.m.ep = i.m.ep ∧ i.seq ≤ c.i.seq then (c, c.i.at_, zMt, 0)
 else if (leastC c.L c.op c.i.at_ i.at_).2 = 0 then (⟨c.L, true, { i with at_ := (leastC c.L c.op c.i.at_ i.at_).1 }⟩, (leastC c.L c.op c.i.at_ i.at_).1, zMt, 0)
 else (zCh, (0, 0), zMt, 31)
def outW (v : AV) (r : Ch × Stp × Mt × Int) : AV := .tuple [.agg (celCh v r.1), .agg [.int .i64 r.2.1.1, .int .i64 r.2.1.2], .agg (celMt r.2.2.1), .int .i64 r.2.2.2]
section
variable {H : AHeap} {v : AV} {c : Ch}
set_option maxHeartbeats 8000000 in
theorem vWrite (hok : H.ok) (hS : SV H 5 v (c.L.map rowVe)) (hl : c.L.length < 2932031007403) (i : It) :
    ∃ v' K, call T 27 [.agg (celCh v c), .agg (celIt i)] H = some (outW v' (writeC c i), K) ∧ NewL H K 5 v' ((writeC c i).1.L.map rowVe) := by
 have hokT := AHeap.ok.top hok.1
 have hvn := hS.view.noL
 have hvc := hS.view.cells
 have hvo := hS.ok
 have hv1 := hS.view.one
 have cA := Chg.alloc H.top (.row false 10 (celIt i))
 have okA := cA.ok hokT
 have hA := hS.top.new hokT.1 cA
 have hvoA := hA.ok
 simp only [AHeap.alloc_n, top_n] at hvoA
 have hgA : (H.top.alloc (.row false 10 (celIt i))).get H.n = some (.row false 10 (celIt i)) := get_alloc_same H.top _
 have rA := rdAt_row hgA
 have ec := containsFunc (T := T) (k := 51) (j := 68) (agg := true) (sz := 5) (g := 52) (fs := []) (cap := [.ptr H.n 0]) (p := fun r => match r with | [_, _, _, _, .int .i64 b] => decide (b = i.m.id) | _ => false)
  (by decide) (by decide) (by decide) T51 T68 (by omega) (by simp) hA.view (by rw [List.length_map]; omega)
  (fun r hr => by obtain ⟨s, hs, rfl⟩ := List.mem_map.1 hr; exact vWrite1 s i H.n (show (H.top.alloc _).top.get H.n = _ from hgA)) (fun r hr => by obtain ⟨s, hs, rfl⟩ := List.mem_map.1 hr; rfl) hvn
 have e2 : ((c.L.map rowVe).any fun r => match r with | [_, _, _, _, .int .i64 b] => decide (b = i.m.id) | _ => false) = c.L.any fun x => decide (x.by_ = i.m.id) := by
  rw [List.any_map]; rfl
 rw [e2] at ec
 obtain ⟨L, op, ci⟩ := c
 simp only at hS hl hA ec
 have call_w : ∀ {P : AV × AHeap → Prop}, _ → OkR (call T 27 [.agg (celCh v ⟨L, op, ci⟩), .agg (celIt i)] H) P := fun {P} h => call_evK (show T 27 = some (.ir ⟨_, _, _, _, _⟩) from T27) (by decide) PL27 rfl rfl h
 unfold celCh celIt at *
 unfold writeC
 simp only
 by_cases h1 : op = true ∧ ¬ ci.m.id = i.m.id
 · rw [if_pos h1]
   obtain ⟨rfl, h1⟩ := h1
   exact ⟨.nils, H, okR_eq (call_w (by simp -implicitDefEqProofs [hvn, hvc, rA, h1, fin_drop, outW, celCh, zCh, celIt, zIt, celMt])), .nil H 5⟩
 rw [if_neg h1]
 have ho : ∀ {P : Prop}, (op = false → P) → (op = true → ci.m.id = i.m.id → P) → P := fun {P} p1 p2 => by
  cases op with
  | false => exact p1 rfl
  | true => exact p2 rfl (by by_cases h : ci.m.id = i.m.id; exact h; exact absurd ⟨rfl, h⟩ h1)
 by_cases h2 : (L.any fun x => decide (x.by_ = i.m.id)) = true
 · rw [if_pos h2]
   rw [h2] at ec
   refine ho (fun h => ?_) (fun h h' => ?_)
   · subst h
     exact ⟨.nils, H, okR_eq (call_w (by simp -implicitDefEqProofs [hvn, hvc, rA, ec, fin_drop, outW, celCh, zCh, celIt, zIt, celMt, zMt])), .nil H 5⟩
   · subst h
     exact ⟨.nils, H, okR_eq (call_w (by simp -implicitDefEqProofs [hvn, hvc, rA, ec, eq_true h', fin_drop, outW, celCh, zCh, celIt, zIt, celMt, zMt])), .nil H 5⟩
 rw [if_neg h2]
 have h2' : (L.any fun x => decide (x.by_ = i.m.id)) = false := by simpa using h2
 rw [h2'] at ec
 clear h2 h2'
 by_cases h3 : op = true ∧ i.m.ep < ci.m.ep
 · rw [if_pos h3]
   obtain ⟨rfl, h3⟩ := h3
   refine ho (fun h => by cases h) (fun _ h' => ?_)
   exact ⟨.nils, H, okR_eq (call_w (by simp -implicitDefEqProofs [hvn, hvc, rA, ec, eq_true h', h3, fin_drop, outW, celCh, zCh, celIt, zIt, celMt, zMt])), .nil H 5⟩
 rw [if_neg h3]
 by_cases h4 : op = true ∧ ci.m.ep = i.m.ep ∧ i.seq ≤ ci.seq
 · rw [if_pos h4]
   obtain ⟨rfl, h4, h5⟩ := h4
   refine ho (fun h => by cases h) (fun _ h' => ?_)
   obtain ⟨v', K, e5, m⟩ := vCopied okA hA hl [.bool true, .int .i64 ci.m.id, .int .i64 ci.m.ep, .str ci.m.anc, .int .i64 ci.m.w, .int .i64 ci.m.g, .int .i64 ci.seq, .int .i64 ci.at_.1, .int .i64 ci.at_.2, .str ci.val, .bool ci.gone] rfl
   have vn' := m.sv.view.noL
   have h3' : ¬ i.m.ep < ci.m.ep := fun h => h3 ⟨rfl, h⟩
   refine ⟨v', Go.Wam.fin H (outW v' (⟨L, true, ci⟩, ci.at_, zMt, 0)) K, okR_eq (call_w ?_), NewL.fin hok (m.toNewL.trans hokT cA) (fun h => ?_)⟩
   · simp -implicitDefEqProofs [hvn, hvc, hvoA, hv1, rA, ec, eq_true h', h3', eq_true h4, h5, e5, vn', outW, celCh, celIt, celMt, zMt]
   · unfold outW celCh at h; rw [okB_tuple, okL_cons] at h; simp only [Bool.and_eq_true] at h; exact okB_head h.1
 rw [if_neg h4]
 have el := vLeast hA hl op (.int .i64 ci.m.id) (.int .i64 ci.m.ep) (.str ci.m.anc) (.int .i64 ci.m.w) (.int .i64 ci.m.g) (.int .i64 ci.seq) ci.at_ i.at_ (.str ci.val) (.bool ci.gone)
 generalize leastC L op ci.at_ i.at_ = q at *
 obtain ⟨⟨q1, q2⟩, qe⟩ := q
 simp only at el ⊢
 have tail : ∀ {P : Prop}, (op = false → P) → (op = true → ci.m.id = i.m.id → ¬ i.m.ep < ci.m.ep → (¬ ci.m.ep = i.m.ep ∨ (ci.m.ep = i.m.ep ∧ ci.seq < i.seq)) → P) → P := fun {P} p1 p2 => ho p1 fun h h' => p2 h h' (fun h'' => h3 ⟨h, h''⟩) (by
  by_cases h5 : ci.m.ep = i.m.ep
  · exact .inr ⟨h5, by by_cases h6 : i.seq ≤ ci.seq; exact absurd ⟨h, h5, h6⟩ h4; omega⟩
  · exact .inl h5)
 clear ho h1 h3 h4
 by_cases hq : qe = 0
 · subst hq
   rw [if_pos rfl]
   obtain ⟨v', K, e5, m⟩ := vCopied okA hA hl [.bool op, .int .i64 ci.m.id, .int .i64 ci.m.ep, .str ci.m.anc, .int .i64 ci.m.w, .int .i64 ci.m.g, .int .i64 ci.seq, .int .i64 ci.at_.1, .int .i64 ci.at_.2, .str ci.val, .bool ci.gone] rfl
   have vn' := m.sv.view.noL
   have vc' := m.sv.view.cells
   have v1' := m.sv.view.one
   have vo' := m.sv.ok
   have rK := rdAt_row (show K.get H.n = _ from by rw [m.chg.get H.n (by simp) (by simp)]; exact hgA)
   refine ⟨v', Go.Wam.fin H (outW v' (⟨L, true, { i with at_ := (q1, q2) }⟩, (q1, q2), zMt, 0)) K, okR_eq (call_w ?_), NewL.fin hok (m.toNewL.trans hokT cA) (fun h => ?_)⟩
   · refine tail (fun h => ?_) (fun h h' h'' h5 => ?_)
     · subst h
       simp -implicitDefEqProofs [hvn, hvc, hvoA, hv1, rA, ec, el, e5, vn', vc', v1', vo', rK, outW, celCh, celIt, celMt, zMt]
     · subst h
       rcases h5 with h5 | ⟨h5, h6⟩
       · simp -implicitDefEqProofs [hvn, hvc, hvoA, hv1, rA, ec, el, e5, vn', vc', v1', vo', rK, eq_true h', h'', h5, outW, celCh, celIt, celMt, zMt]
       · have h6' : ¬ i.seq ≤ ci.seq := by omega
         simp -implicitDefEqProofs [hvn, hvc, hvoA, hv1, rA, ec, el, e5, vn', vc', v1', vo', rK, eq_true h', h'', eq_true h5, h6', outW, celCh, celIt, celMt, zMt]
   · unfold outW celCh at h; rw [okB_tuple, okL_cons] at h; simp only [Bool.and_eq_true] at h; exact okB_head h.1
 · rw [if_neg hq]
   refine ⟨.nils, H, okR_eq (call_w ?_), .nil H 5⟩
   refine tail (fun h => ?_) (fun h h' h'' h5 => ?_)
   · subst h
     simp -implicitDefEqProofs [hvn, hvc, hvoA, hv1, rA, ec, el, hq, fin_drop, outW, celCh, zCh, celIt, zIt, celMt, zMt]
   · subst h
     rcases h5 with h5 | ⟨h5, h6⟩
     · simp -implicitDefEqProofs [hvn, hvc, hvoA, hv1, rA, ec, el, hq, eq_true h', h'', h5, fin_drop, outW, celCh, zCh, celIt, zIt, celMt, zMt]
     · have h6' : ¬ i.seq ≤ ci.seq := by omega
       simp -implicitDefEqProofs [hvn, hvc, hvoA, hv1, rA, ec, el, hq, eq_true h', h'', eq_true h5, h6', fin_drop, outW, celCh, zCh, celIt, zIt, celMt, zMt]
end
theorem eqVe (x y : Ve) : binA .eql (.struct [(0, true, 2, (.struct [(0, false, 1, .int), (1, false, 1, .int)])), (2, false, 1, .str), (3, false, 1, .bool), (4, false, 1, .int)]) (.agg (rowVe x)) (.agg (rowVe y)) = some (.bool (decide (x = y))) := by
 obtain ⟨⟨a1, a2⟩, av, ag, ab⟩ := x
 obtain ⟨⟨b1, b2⟩, bv, bg, bb⟩ := y
 simp [rowVe]
 by_cases h1 : a1 = b1 <;> by_cases h2 : a2 = b2 <;> by_cases h3 : av = bv <;> by_cases h4 : ag = bg <;> by_cases h5 : ab = bb <;> simp [h1, h2, h3, h4, h5]
theorem neVe (x y : Ve) : binA .neq (.struct [(0, true, 2, (.struct [(0, false, 1, .int), (1, false, 1, .int)])), (2, false, 1, .str), (3, false, 1, .bool), (4, false, 1, .int)]) (.agg (rowVe x)) (.agg (rowVe y)) = some (.bool !decide (x = y)) := by
 have := eqVe x y
 rw [e_agg] at this
 rw [n_agg]
 cases h : aeq (.struct [(0, true, 2, (.struct [(0, false, 1, .int), (1, false, 1, .int)])), (2, false, 1, .str), (3, false, 1, .bool), (4, false, 1, .int)]) (.agg (rowVe x)) (.agg (rowVe y)) with
 | none => rw [h] at this; cases this
 | some b => rw [h] at this; simp only [Option.map_some, Option.some.injEq, AV.bool.injEq] at this ⊢; rw [this]
def eIt : EqT := .struct [(0, true, 5, (.struct [(0, false, 1, .int), (1, false, 1, .int), (2, false, 1, .str), (3, true, 2, (.struct [(0, false, 1, .int), (1, false, 1, .int)]))])), (5, false, 1, .int), (6, true, 2, (.struct [(0, false, 1, .int), (1, false, 1, .int)])), (8, false, 1, .str), (9, false, 1, .bool)]
theorem qIt (x y : It) : aeq eIt (.agg (celIt x)) (.agg (celIt y)) = some (decide (x = y)) := by
 obtain ⟨⟨a1, a2, a3, a4, a5⟩, a6, ⟨a7, a8⟩, a9, a10⟩ := x
 obtain ⟨⟨b1, b2, b3, b4, b5⟩, b6, ⟨b7, b8⟩, b9, b10⟩ := y
 simp [celIt, eIt]
 by_cases h1 : a1 = b1 <;> by_cases h2 : a2 = b2 <;> by_cases h3 : a3 = b3 <;> by_cases h4 : a4 = b4 <;> by_cases h5 : a5 = b5 <;> simp [h1, h2, h3, h4, h5]
 by_cases h6 : a6 = b6 <;> by_cases h7 : a7 = b7 <;> by_cases h8 : a8 = b8 <;> by_cases h9 : a9 = b9 <;> by_cases h10 : a10 = b10 <;> simp [h6, h7, h8, h9, h10]
theorem neIt (x y : It) : binA .neq eIt (.agg (celIt x)) (.agg (celIt y)) = some (.bool !decide (x = y)) := by rw [n_agg, qIt]; rfl
theorem atV_eq {L : List Ve} {i : Nat} (h : i < L.length) : L[i] = atV L i := by have := atV_get h; rw [List.getElem?_eq_getElem h] at this; exact Option.some.inj this
theorem ext_atV {L M : List Ve} (hl : L.length = M.length) (h : ∀ j, j < L.length → atV L j = atV M j) : L = M :=
 List.ext_getElem hl fun i h1 h2 => by rw [atV_eq h1, atV_eq h2]; exact h i h1
section
variable {H : AHeap} {v w : AV} {L M : List Ve}
theorem rdV (hV : View H 5 v (L.map rowVe)) {i : Nat} (h : i < L.length) : H.rdAt (sid v) true 5 (soff v + i * 5) = some (.agg (rowVe (atV L i))) := by
 have := hV.rd (i := i) (r := rowVe (atV L i)) (by rw [List.getElem?_map, atV_get h]; rfl) true (k := 5) (f := 0) (by omega) (by omega) (by simp)
 rw [Nat.add_zero, eVe] at this; exact this
theorem ixV (hV : View H 5 v (L.map rowVe)) {i : Nat} (h : i < L.length) : idxS 5 v (.int .i64 i) = some (.ptr (sid v) (soff v + i * 5)) := by
 have := hV.idx .i64 (n := i) (by omega) (by rw [List.length_map]; omega)
 simpa using this
theorem lenV (hV : View H 5 v (L.map rowVe)) : lenS v = some (.int .i64 L.length) := by have := hV.lenS; rw [List.length_map] at this; exact this
theorem okRow (n : Nat) (x : Ve) : (AV.agg (rowVe x)).okB n = true := by simp [rowVe]
end
def sameC (a b : Ch) : Bool := (a.op == b.op) && (decide (a.i = b.i) && decide (a.L = b.L))
theorem sameC_iff (a b : Ch) : sameC a b = true ↔ a = b := by
 obtain ⟨L, o, i⟩ := a
 obtain ⟨M, p, j⟩ := b
 simp only [sameC, Bool.and_eq_true, beq_iff_eq, decide_eq_true_eq, Ch.mk.injEq]
 exact ⟨fun ⟨h1, h2, h3⟩ => ⟨h3, h1, h2⟩, fun ⟨h1, h2, h3⟩ => ⟨h2, h3, h1⟩⟩
section
variable {H : AHeap} {v w : AV} {a b c : Ch}
end
def keepC (c : Ch) (id ep : Int) (commit : Bool) : Bool := !c.op || (decide (¬ c.i.m.id = id) || (!commit && decide (ep < c.i.m.ep)))
def lateC (L : List Ve) (a : Stp) : Bool := !rightT a || (decide (L ≠ []) && uptoB a (lastS L))
def resolveC (c : Ch) (id ep : Int) (commit : Bool) (a : Stp) : Ch × Int :=
 if keepC c id ep commit = true then (c, 0)
 else if commit = true ∧ c.i.m.ep = ep then (if lateC c.L a = true then (zCh, 84) else (⟨c.L ++ [⟨a, c.i.val, c.i.gone, id⟩], false, zIt⟩, 0))
 else (⟨c.L, false, zIt⟩, 0)
def outV (v : AV) (r : Ch × Int) : AV := .tuple [.agg (celCh v r.1), .int .i64 r.2]
theorem okB_outV {n : Nat} {v : AV} {r : Ch × Int} (h : (outV v r).okB n = true) : v.okB n = true := by
 unfold outV celCh at h; rw [okB_tuple, okL_cons] at h; simp only [Bool.and_eq_true] at h; exact okB_head h.1
theorem one_view (K : AHeap) (sz : Nat) (r : List AV) (hr : r.length = sz) : View (K.alloc (.row false sz r)) sz (.slice K.n 0 1 1) [r] :=
 ⟨by simp [AV.sl], rfl, by simp [hr], fun _ => ⟨false, sz, _, get_alloc_same _ _, by simp [hr], by simp [← hr]⟩⟩
section
variable {H : AHeap} {v : AV} {c : Ch}
set_option maxHeartbeats 8000000 in
theorem vResolve (hok : H.ok) (hS : SV H 5 v (c.L.map rowVe)) (hl : c.L.length < 1000000000000) (id ep : Int) (commit : Bool) (a : Stp) :
    ∃ v' K, call T 30 [.agg (celCh v c), .int .i64 id, .int .i64 ep, .bool commit, .agg [.int .i64 a.1, .int .i64 a.2]] H = some (outV v' (resolveC c id ep commit a), K) ∧ NewL H K 5 v' ((resolveC c id ep commit a).1.L.map rowVe) := by
 have hokT := AHeap.ok.top hok.1
 have hvn := hS.view.noL
 obtain ⟨L, op, i⟩ := c
 simp only at hS hl
 have call_w : ∀ {P : AV × AHeap → Prop}, _ → OkR (call T 30 [.agg (celCh v ⟨L, op, i⟩), .int .i64 id, .int .i64 ep, .bool commit, .agg [.int .i64 a.1, .int .i64 a.2]] H) P := fun {P} h => call_evK (show T 30 = some (.ir ⟨_, _, _, _, _⟩) from T30) (by decide) PL30 rfl rfl h
 obtain ⟨v', K, e5, m⟩ := vCopied hokT hS.top (by omega) (.bool op :: celIt i) rfl
 have okK := m.chg.ok hokT
 have vn' := m.sv.view.noL
 have vc' := m.sv.view.cells
 have v1' := m.sv.view.one
 have vo' := m.sv.ok
 have eu := vUpto a (lastS L) K
 have er := tRight a K
 have el := vLast m.sv (by omega) (.bool op :: celIt i) rfl
 have hlow : H.n ≤ K.low := by rw [m.chg.low_eq]; simp
 unfold resolveC keepC celCh celIt at *
 simp only
 by_cases h1 : (!op || (decide (¬ i.m.id = id) || (!commit && decide (ep < i.m.ep)))) = true
 · rw [if_pos h1]
   refine ⟨v', Go.Wam.fin H (outV v' (⟨L, op, i⟩, 0)) K, okR_eq (call_w ?_), NewL.fin hok m.toNewL okB_outV⟩
   unfold outV celCh celIt
   cases op with
   | false => simp -implicitDefEqProofs [hvn, e5, vn', vc', v1', vo']
   | true =>
    by_cases h2 : i.m.id = id
    · simp only [Bool.not_true, Bool.false_or, h2, not_true, decide_false, Bool.and_eq_true, Bool.not_eq_true', decide_eq_true_eq] at h1
      obtain ⟨rfl, h3⟩ := h1
      simp -implicitDefEqProofs [hvn, e5, vn', vc', v1', vo', eq_true h2, h3]
    · simp -implicitDefEqProofs [hvn, e5, vn', vc', v1', vo', h2]
 rw [if_neg h1]
 have hop : op = true := by cases op; simp at h1; rfl
 subst hop
 have h2 : i.m.id = id := by by_cases h : i.m.id = id; exact h; simp [h] at h1
 have h3 : commit = true ∨ ¬ ep < i.m.ep := by
  cases commit
  · right; intro h; simp [h] at h1
  · left; rfl
 clear h1
 by_cases h4 : commit = true ∧ i.m.ep = ep
 · rw [if_pos h4]
   obtain ⟨rfl, h4⟩ := h4
   by_cases h5 : lateC L a = true
   · rw [if_pos h5]
     have hfin := fin_drop' (H := H) (K := K) (v := outV .nils (zCh, 84)) hlow (by simp [outV, celCh, zCh, celIt, zIt])
     refine ⟨.nils, H, okR_eq (call_w ?_), .nil H 5⟩
     unfold outV celCh zCh celIt zIt at *
     unfold lateC at h5
     by_cases h0 : L = []
     · simp only [h0, if_true, ne_eq, not_true, decide_false, Bool.false_and, Bool.or_false, Bool.not_eq_true'] at el h5
       rw [h5] at er
       simp -implicitDefEqProofs [hvn, e5, vn', vc', v1', vo', eq_true h2, eq_true h4, el, er, hfin]
     · simp only [h0, if_false, ne_eq, not_false_eq_true, decide_true, Bool.true_and] at el h5
       cases hr : rightT a with
       | false => rw [hr] at er; simp -implicitDefEqProofs [hvn, e5, vn', vc', v1', vo', eq_true h2, eq_true h4, el, er, hfin]
       | true =>
        rw [hr] at er h5
        simp only [Bool.not_true, Bool.false_or] at h5
        rw [h5] at eu
        simp -implicitDefEqProofs [hvn, e5, vn', vc', v1', vo', eq_true h2, eq_true h4, el, er, eu, hfin]
   · rw [if_neg h5]
     have hr : rightT a = true := by unfold lateC at h5; cases h : rightT a; simp [h] at h5; rfl
     rw [hr] at er
     have m1 := m.more hokT (.alloc K (.row false 5 (rowVe ⟨a, i.val, i.gone, id⟩)))
     obtain ⟨v2, K2, ha, m2, v2n⟩ := m1.append (bytes := 48) hokT (one_view K 5 (rowVe ⟨a, i.val, i.gone, id⟩) rfl) (by omega) (by rw [List.length_map]; simp; omega)
     have v2c := m2.sv.view.cells
     have v21 := m2.sv.view.one
     refine ⟨v2, Go.Wam.fin H (outV v2 (⟨L ++ [⟨a, i.val, i.gone, id⟩], false, zIt⟩, 0)) K2, okR_eq (call_w ?_), ?_⟩
     · unfold outV celCh zIt celIt
       unfold rowVe at ha
       unfold lateC at h5
       by_cases h0 : L = []
       · simp only [h0, if_true, ne_eq, not_true, decide_false] at el
         simp -implicitDefEqProofs [hvn, e5, vn', vc', v1', vo', eq_true h2, eq_true h4, el, er, ha, v2n, v2c, v21]
       · simp only [h0, if_false, ne_eq, not_false_eq_true, decide_true, Bool.true_and, hr, Bool.not_true, Bool.false_or] at el h5
         have h5 : uptoB a (lastS L) = false := by simpa using h5
         rw [h5] at eu
         simp -implicitDefEqProofs [hvn, e5, vn', vc', v1', vo', eq_true h2, eq_true h4, el, er, eu, ha, v2n, v2c, v21]
     · have := NewL.fin (w := outV v2 (⟨L ++ [⟨a, i.val, i.gone, id⟩], false, zIt⟩, 0)) hok m2.toNewL okB_outV
       rw [List.map_append]; exact this
 · rw [if_neg h4]
   refine ⟨v', Go.Wam.fin H (outV v' (⟨L, false, zIt⟩, 0)) K, okR_eq (call_w ?_), NewL.fin hok m.toNewL okB_outV⟩
   unfold outV celCh zIt celIt
   cases commit with
   | false =>
    have h3' : ¬ ep < i.m.ep := by rcases h3 with h | h; cases h; exact h
    simp -implicitDefEqProofs [hvn, e5, vn', vc', v1', vo', eq_true h2, h3']
   | true =>
    have h4' : ¬ i.m.ep = ep := fun h => h4 ⟨rfl, h⟩
    simp -implicitDefEqProofs [hvn, e5, vn', vc', v1', vo', eq_true h2, h4']
end
def lowB (c : UInt8) : Bool := !(decide ((c.toNat : Int) < 97) || decide (122 < (c.toNat : Int)))
def keyB (s : List UInt8) : Bool := s.all lowB && (!(s == []) && decide (s.length ≤ 8))
def Small (s : List UInt8) : Prop := s.length < 9223372036854775807
theorem sKey {s : List UInt8} (hs : Small s) (H : AHeap) : call T 26 [.str s] H = some (.bool (keyB s), H) := by
 unfold Small at hs
 refine okR_eq (call_evK (show T 26 = some (.ir ⟨_, _, _, _, _⟩) from T26) (by decide) PL26 rfl rfl ?_)
 have hL : ∃ x st s', den T (.loop L26_0) (SK.toSt ⟨[(0, .v (.str s)), (5, .v (.int .i64 s.length)), (6, .v (.int .i64 0))], [], H.top⟩) = some (x, st) ∧
     (s'.H = H.top ∧ ((x = .exit 0 ∧ s.all lowB = true ∧ prK [0] [] s' = ⟨[(0, .v (.str s))], [], H.top⟩) ∨ (x = .ret ∧ s.all lowB = false ∧ rvsK s' [.tmp 2] = some [.bool false]))) ∧
     (∀ ks ls, prK ks ls (ofSt st) = (prK ks ls s').norm) ∧ (∀ rs vs, rvsK s' rs = some vs → rvsK (ofSt st) rs = some vs) ∧ (ofSt st).H = s'.H := by
  refine loopK (T := T) (L := L26_0) rfl
   (fun n st => ∃ i : Nat, i + n = s.length ∧ (s.take i).all lowB = true ∧ st = ⟨[(0, .v (.str s)), (5, .v (.int .i64 s.length)), (6, .v (.int .i64 i))], [], H.top⟩)
   (fun x s' => s'.H = H.top ∧ ((x = .exit 0 ∧ s.all lowB = true ∧ prK [0] [] s' = ⟨[(0, .v (.str s))], [], H.top⟩) ∨ (x = .ret ∧ s.all lowB = false ∧ rvsK s' [.tmp 2] = some [.bool false])))
   ?_ s.length _ (by simp) ⟨0, by omega, by simp, by simp⟩
  rintro n _ ⟨i, hi, hall, rfl⟩ P hI hX hR
  by_cases hlt : i < s.length
  · have hlt' : (i : Int) < s.length := by omega
    have hw := wrap_id (n := (i : Int) + 1) (by omega) (by omega)
    have ht : s.take (i + 1) = s.take i ++ [s[i]] := by rw [List.take_succ_eq_append_getElem hlt]
    have hm : s[i] ∈ s := List.getElem_mem hlt
    have hix : s[i]? = some s[i] := List.getElem?_eq_getElem hlt
    have bad : lowB s[i] = false → s.all lowB = false := fun h => List.all_eq_false.2 ⟨s[i], hm, by simp [h]⟩
    by_cases h1 : (s[i].toNat : Int) < 97
    · simp -implicitDefEqProofs [B26_0, hlt', hix, h1]
      refine hR _ ?_
      exact ⟨rfl, .inr ⟨rfl, bad (by simp [lowB, h1]), by simp⟩⟩
    · by_cases h2 : 122 < (s[i].toNat : Int)
      · simp -implicitDefEqProofs [B26_0, hlt', hix, h1, h2]
        refine hR _ ?_
        exact ⟨rfl, .inr ⟨rfl, bad (by simp [lowB, h2]), by simp⟩⟩
      · simp -implicitDefEqProofs [B26_0, hlt', hix, h1, h2, hw]
        refine hI _ _ _ (n - 1) (by omega) ?_
        exact ⟨i + 1, by omega, by rw [ht, List.all_append, hall]; simp [lowB, h1, h2], by simp⟩
  · have hlt' : ¬ (i : Int) < s.length := by omega
    simp -implicitDefEqProofs [B26_0, hlt']
    have : s.take i = s := List.take_of_length_le (by omega)
    rw [this] at hall
    refine hX _ _ ?_
    exact ⟨rfl, .inl ⟨rfl, hall, by simp⟩⟩
 obtain ⟨x, st, s', f1, ⟨h0, ⟨rfl, ha, hk⟩ | ⟨rfl, ha, hk⟩⟩, hp, hr, hh⟩ := hL
 all_goals simp only [toSt_eq, List.map_cons, List.map_nil, av_v, av_l, Int.natCast_zero] at f1
 · have hk' := (hp [0] []).trans (congrArg SK.norm hk)
   by_cases h5 : s = []
   · subst h5
     simp only [List.length_nil, Int.natCast_zero] at f1
     simp -implicitDefEqProofs [f1, hk', fin_pure, keyB]
   · by_cases h6 : s.length ≤ 8
     · have h7 : (s.length : Int) ≤ 8 := by omega
       simp -implicitDefEqProofs [f1, hk', fin_pure, keyB, h5, h6, h7, ha]
     · have h7 : ¬ (s.length : Int) ≤ 8 := by omega
       simp -implicitDefEqProofs [f1, hk', fin_pure, keyB, h5, h6, h7, ha]
 · have hk' := hr _ _ hk
   have hH := hh.trans h0
   simp -implicitDefEqProofs [f1, hk', hH, fin_pure, keyB, ha]
theorem rKey {s : List UInt8} (hs : Small s) (H : AHeap) : call T 22 [.str s] H = some (.bool (keyB s), H) := by
 unfold Small at hs
 refine okR_eq (call_evK (show T 22 = some (.ir ⟨_, _, _, _, _⟩) from T22) (by decide) PL22 rfl rfl ?_)
 have hL : ∃ x st s', den T (.loop L22_0) (SK.toSt ⟨[(0, .v (.str s)), (3, .v (.int .i64 0))], [], H.top⟩) = some (x, st) ∧
     (s'.H = H.top ∧ ((x = .exit 0 ∧ s.all lowB = true ∧ prK [0] [] s' = ⟨[(0, .v (.str s))], [], H.top⟩) ∨ (x = .ret ∧ s.all lowB = false ∧ rvsK s' [.tmp 2] = some [.bool false]))) ∧
     (∀ ks ls, prK ks ls (ofSt st) = (prK ks ls s').norm) ∧ (∀ rs vs, rvsK s' rs = some vs → rvsK (ofSt st) rs = some vs) ∧ (ofSt st).H = s'.H := by
  refine loopK (T := T) (L := L22_0) rfl
   (fun n st => ∃ i : Nat, i + n = s.length ∧ (s.take i).all lowB = true ∧ st = ⟨[(0, .v (.str s)), (3, .v (.int .i64 i))], [], H.top⟩)
   (fun x s' => s'.H = H.top ∧ ((x = .exit 0 ∧ s.all lowB = true ∧ prK [0] [] s' = ⟨[(0, .v (.str s))], [], H.top⟩) ∨ (x = .ret ∧ s.all lowB = false ∧ rvsK s' [.tmp 2] = some [.bool false])))
   ?_ s.length _ (by simp) ⟨0, by omega, by simp, by simp⟩
  rintro n _ ⟨i, hi, hall, rfl⟩ P hI hX hR
  by_cases hlt : i < s.length
  · have hlt' : (i : Int) < s.length := by omega
    have hw := wrap_id (n := (i : Int) + 1) (by omega) (by omega)
    have ht : s.take (i + 1) = s.take i ++ [s[i]] := by rw [List.take_succ_eq_append_getElem hlt]
    have hm : s[i] ∈ s := List.getElem_mem hlt
    have hix : s[i]? = some s[i] := List.getElem?_eq_getElem hlt
    have bad : lowB s[i] = false → s.all lowB = false := fun h => List.all_eq_false.2 ⟨s[i], hm, by simp [h]⟩
    by_cases h1 : (s[i].toNat : Int) < 97
    · simp -implicitDefEqProofs [B22_0, hlt', hix, h1]
      refine hR _ ?_
      exact ⟨rfl, .inr ⟨rfl, bad (by simp [lowB, h1]), by simp⟩⟩
    · by_cases h2 : 122 < (s[i].toNat : Int)
      · simp -implicitDefEqProofs [B22_0, hlt', hix, h1, h2]
        refine hR _ ?_
        exact ⟨rfl, .inr ⟨rfl, bad (by simp [lowB, h2]), by simp⟩⟩
      · simp -implicitDefEqProofs [B22_0, hlt', hix, h1, h2, hw]
        refine hI _ _ _ (n - 1) (by omega) ?_
        exact ⟨i + 1, by omega, by rw [ht, List.all_append, hall]; simp [lowB, h1, h2], by simp⟩
  · have hlt' : ¬ (i : Int) < s.length := by omega
    simp -implicitDefEqProofs [B22_0, hlt']
    have : s.take i = s := List.take_of_length_le (by omega)
    rw [this] at hall
    refine hX _ _ ?_
    exact ⟨rfl, .inl ⟨rfl, hall, by simp⟩⟩
 obtain ⟨x, st, s', f1, ⟨h0, ⟨rfl, ha, hk⟩ | ⟨rfl, ha, hk⟩⟩, hp, hr, hh⟩ := hL
 all_goals simp only [toSt_eq, List.map_cons, List.map_nil, av_v, av_l, Int.natCast_zero] at f1
 · have hk' := (hp [0] []).trans (congrArg SK.norm hk)
   by_cases h5 : s = []
   · subst h5
     simp -implicitDefEqProofs [f1, hk', fin_pure, keyB]
   · have h8 : (1 : Int) ≤ s.length := by have := List.length_pos_iff.2 h5; omega
     by_cases h6 : s.length ≤ 8
     · have h7 : (s.length : Int) ≤ 8 := by omega
       simp -implicitDefEqProofs [f1, hk', fin_pure, keyB, h5, h6, h7, h8, ha]
     · have h7 : ¬ (s.length : Int) ≤ 8 := by omega
       simp -implicitDefEqProofs [f1, hk', fin_pure, keyB, h5, h6, h7, h8, ha]
 · have hk' := hr _ _ hk
   have hH := hh.trans h0
   simp -implicitDefEqProofs [f1, hk', hH, fin_pure, keyB, ha]
theorem less_total : ∀ a b : List UInt8, (bytesLess a b || a == b) = !bytesLess b a
 | [], [] => rfl
 | [], _ :: _ => rfl
 | _ :: _, [] => rfl
 | a :: x, b :: y => by
  simp only [bytesLess]
  have ih := less_total x y
  by_cases h1 : a < b
  · have h2 : ¬ b < a := fun h => absurd (UInt8.lt_trans h1 h) (UInt8.lt_irrefl a)
    have h3 : ¬ a = b := fun h => by subst h; exact absurd h1 (UInt8.lt_irrefl a)
    have h4 : ¬ b = a := fun h => h3 h.symm
    simp [h1, h2, h3, h4]
  · by_cases h2 : b < a
    · have h3 : ¬ a = b := fun h => by subst h; exact absurd h2 (UInt8.lt_irrefl a)
      simp [h1, h2, h3]
    · have h3 : a = b := UInt8.le_antisymm (UInt8.not_lt.1 h2) (UInt8.not_lt.1 h1)
      subst h3
      simp [h1] at ih ⊢
      rw [← ih]
theorem gtr_less (a b : List UInt8) : (!bytesLess a b && !(a == b)) = bytesLess b a := by rw [← Bool.not_or, less_total]; simp
def rightB (f t : List UInt8) : Bool := keyB f && (t == [] || ((t == [123] || keyB t) && bytesLess f t))
theorem sRight {f t : List UInt8} (hf : Small f) (ht : Small t) (H : AHeap) : call T 55 [.agg [.str f, .str t]] H = some (.bool (rightB f t), H) := by
 refine okR_eq (call_evK (show T 55 = some (.ir ⟨_, _, _, _, _⟩) from T55) (by decide) PL55 rfl rfl ?_)
 by_cases h1 : keyB f = true
 · by_cases h2 : t = []
   · subst h2; simp -implicitDefEqProofs [sKey hf, fin_pure, rightB, h1]
   · by_cases h3 : t = [123]
     · subst h3; simp -implicitDefEqProofs [sKey hf, fin_pure, rightB, h1]
     · by_cases h4 : keyB t = true
       · simp -implicitDefEqProofs [sKey hf, sKey ht, fin_pure, rightB, h1, h2, h3, h4]
       · simp -implicitDefEqProofs [sKey hf, sKey ht, fin_pure, rightB, h1, h2, h3, h4]
 · simp -implicitDefEqProofs [sKey hf, fin_pure, rightB, h1]
theorem rRight {f t : List UInt8} (hf : Small f) (ht : Small t) (H : AHeap) : call T 18 [.agg [.str f, .str t]] H = some (.bool (rightB f t), H) := by
 refine okR_eq (call_evK (show T 18 = some (.ir ⟨_, _, _, _, _⟩) from T18) (by decide) PL18 rfl rfl ?_)
 by_cases h1 : keyB f = true
 · by_cases h2 : t = []
   · subst h2; simp -implicitDefEqProofs [rKey hf, rKey ht, fin_pure, rightB, h1]
   · by_cases h4 : keyB t = true
     · have h5 : t.isEmpty = false := by simpa using h2
       simp -implicitDefEqProofs [rKey hf, rKey ht, fin_pure, rightB, h1, h2, h4, h5, gtr_less]
     · by_cases h3 : t = [123]
       · subst h3; simp -implicitDefEqProofs [rKey hf, rKey ht, fin_pure, rightB, h1, h4, gtr_less]
       · simp -implicitDefEqProofs [rKey hf, rKey ht, fin_pure, rightB, h1, h2, h3, h4]
 · simp -implicitDefEqProofs [rKey hf, rKey ht, fin_pure, rightB, h1]
def hasB (f t k : List UInt8) : Bool := rightB f t && (keyB k && if t = [] then k == f else (!bytesLess k f && bytesLess k t))
theorem sHas {f t k : List UInt8} (hf : Small f) (ht : Small t) (hk : Small k) (H : AHeap) : call T 57 [.agg [.str f, .str t], .str k] H = some (.bool (hasB f t k), H) := by
 refine okR_eq (call_evK (show T 57 = some (.ir ⟨_, _, _, _, _⟩) from T57) (by decide) PL57 rfl rfl ?_)
 by_cases h1 : rightB f t = true
 · by_cases h2 : keyB k = true
   · by_cases h3 : t = []
     · subst h3; simp -implicitDefEqProofs [sRight hf ht, sKey hk, fin_pure, hasB, h1, h2]
     · have h4 := less_total f k
       by_cases h5 : bytesLess k f = true
       · simp -implicitDefEqProofs [sRight hf ht, sKey hk, fin_pure, hasB, h1, h2, h3, h4, h5]
       · simp -implicitDefEqProofs [sRight hf ht, sKey hk, fin_pure, hasB, h1, h2, h3, h4, h5]
   · simp -implicitDefEqProofs [sRight hf ht, sKey hk, fin_pure, hasB, h1, h2]
 · simp -implicitDefEqProofs [sRight hf ht, sKey hk, fin_pure, hasB, h1]
theorem rHas {f t k : List UInt8} (hf : Small f) (ht : Small t) (hk : Small k) (H : AHeap) : call T 12 [.agg [.str f, .str t], .str k] H = some (.bool (hasB f t k), H) := by
 refine okR_eq (call_evK (show T 12 = some (.ir ⟨_, _, _, _, _⟩) from T12) (by decide) PL12 rfl rfl ?_)
 by_cases h1 : rightB f t = true
 · by_cases h2 : keyB k = true
   · by_cases h3 : t = []
     · subst h3; simp -implicitDefEqProofs [rRight hf ht, rKey hk, fin_pure, hasB, h1, h2]
     · by_cases h5 : bytesLess k f = true
       · simp -implicitDefEqProofs [rRight hf ht, rKey hk, fin_pure, hasB, h1, h2, h3, h5]
       · simp -implicitDefEqProofs [rRight hf ht, rKey hk, fin_pure, hasB, h1, h2, h3, h5]
   · by_cases h3 : t = []
     · subst h3; simp -implicitDefEqProofs [rRight hf ht, rKey hk, fin_pure, hasB, h1, h2]
     · simp -implicitDefEqProofs [rRight hf ht, rKey hk, fin_pure, hasB, h1, h2, h3]
 · by_cases h3 : t = []
   · subst h3; simp -implicitDefEqProofs [rRight hf ht, rKey hk, fin_pure, hasB, h1]
   · simp -implicitDefEqProofs [rRight hf ht, rKey hk, fin_pure, hasB, h1, h3]
end Go.Proofs.Ytgokjbjbdnbcdaa
set_option linter.unusedVariables false
set_option linter.unusedSimpArgs false
namespace Go.Wam
structure KeyOk {K : Type} [DecidableEq K] (t : KeyT) (kf : K → AV) (lt : K → K → Bool) : Prop where
 eq : ∀ a b, keyEq t (kf a) (kf b) = decide (a = b)
 lt : ∀ a b, keyLt t (kf a) (kf b) = lt a b
 is : ∀ a, isK t (kf a) = true
 nl : ∀ a, (kf a).noL = true
theorem KeyOk.str : KeyOk .str AV.str bytesLess := ⟨fun _ _ => rfl, fun _ _ => rfl, fun _ => rfl, fun _ => rfl⟩
theorem KeyOk.int (k : IntKind) : KeyOk (.int k) (AV.int k) (fun a b => decide (a < b)) := ⟨fun _ _ => rfl, fun _ _ => rfl, fun _ => by simp [isK], fun _ => rfl⟩
section
variable {K α : Type} [DecidableEq K]
abbrev MM (K α : Type) := List (K × α × Nat)
def findM (k : K) : MM K α → Option (α × Nat)
 | [] => none
 | e :: r => if k = e.1 then some e.2 else findM k r
def lookM (k : K) (l : MM K α) : Option α := (findM k l).map (·.1)
def repM (k : K) (v : α) : MM K α → MM K α
 | [] => []
 | e :: r => if k = e.1 then (k, v, e.2.2) :: r else e :: repM k v r
def insM (lt : K → K → Bool) (x : K × α × Nat) : MM K α → MM K α
 | [] => [x]
 | e :: r => if lt x.1 e.1 then x :: e :: r else e :: insM lt x r
def delM (k : K) : MM K α → MM K α
 | [] => []
 | e :: r => if k = e.1 then r else e :: delM k r
def putM (lt : K → K → Bool) (k : K) (v : α) (c : Nat) (l : MM K α) : MM K α := if (findM k l).isSome then repM k v l else insM lt (k, v, c) l
def tickM (k : K) (c : Nat) (l : MM K α) : Nat := if (findM k l).isSome then c else c + 1
variable {t : KeyT} {kf : K → AV} {lt : K → K → Bool} {f : α → AV}
def rowM (kf : K → AV) (f : α → AV) (l : MM K α) : List ME := l.map fun e => (kf e.1, f e.2.1, e.2.2)
theorem findK_M (ho : KeyOk t kf lt) (k : K) (l : MM K α) : findK t (kf k) (rowM kf f l) = (findM k l).map fun p => (f p.1, p.2) := by
 induction l with
 | nil => rfl
 | cons e r ih =>
  simp only [rowM, List.map_cons, findK, ho.eq, findM, decide_eq_true_eq]
  by_cases h : k = e.1
  · simp [h]
  · simp only [h, if_false]; exact ih
theorem setK_M (ho : KeyOk t kf lt) (k : K) (v : α) (l : MM K α) : setK t (kf k) (f v) (rowM kf f l) = rowM kf f (repM k v l) := by
 induction l with
 | nil => rfl
 | cons e r ih =>
  simp only [rowM, List.map_cons, setK, ho.eq, repM, decide_eq_true_eq]
  by_cases h : k = e.1
  · simp [h]
  · simp only [h, if_false, List.map_cons]; exact congrArg _ ih
theorem insK_M (ho : KeyOk t kf lt) (k : K) (v : α) (c : Nat) (l : MM K α) : insK t (kf k, f v, c) (rowM kf f l) = rowM kf f (insM lt (k, v, c) l) := by
 induction l with
 | nil => rfl
 | cons e r ih =>
  simp only [rowM, List.map_cons, insK, ho.lt, insM]
  by_cases h : lt k e.1 = true
  · simp [h]
  · simp only [h, if_false, List.map_cons, Bool.false_eq_true]; exact congrArg _ ih
theorem delK_M (ho : KeyOk t kf lt) (k : K) (l : MM K α) : delK t (kf k) (rowM kf f l) = rowM kf f (delM k l) := by
 induction l with
 | nil => rfl
 | cons e r ih =>
  simp only [rowM, List.map_cons, delK, ho.eq, delM, decide_eq_true_eq]
  by_cases h : k = e.1
  · simp [h]
  · simp only [h, if_false, List.map_cons]; exact congrArg _ ih
theorem keysOk_M (ho : KeyOk t kf lt) (l : MM K α) : keysOk t (rowM kf f l) = true := by
 unfold keysOk; rw [List.all_eq_true]; intro e he
 obtain ⟨x, _, rfl⟩ := List.mem_map.1 he
 exact ho.is _
theorem lookup_M {H : AHeap} {id c : Nat} {l : MM K α} (ho : KeyOk t kf lt) (hg : H.get id = some (.map (rowM kf f l) c)) (ok : Bool) (z : AV) (k : K) :
    lookupA H t ok z (.map id) (kf k) = some (match lookM k l with | some x => if ok = true then .tuple [f x, .bool true] else f x | none => if ok = true then .tuple [z, .bool false] else z) := by
 unfold lookupA lookM
 simp only [ho.is, Bool.true_eq_false, if_false, hg, keysOk_M ho, if_true, findK_M ho]
 cases findM k l <;> rfl
theorem upd_M {H : AHeap} {id c : Nat} {l : MM K α} (ho : KeyOk t kf lt) (hg : H.get id = some (.map (rowM kf f l) c)) (k : K) (v : α) (hv : (f v).noL = true) :
    updA H t (.map id) (kf k) (f v) = some (H.set id (.map (rowM kf f (putM lt k v c l)) (tickM k c l))) := by
 unfold updA putM tickM
 simp only [ho.is, Bool.true_eq_false, if_false, hg, ho.nl, hv, keysOk_M ho, Bool.and_self, if_true, findK_M ho]
 cases h : findM k l with
 | none => simp only [Option.map_none, Option.isSome_none, insK_M ho, Bool.false_eq_true, if_false]
 | some p => simp only [Option.map_some, Option.isSome_some, setK_M ho, if_true]
theorem del_M {H : AHeap} {id c : Nat} {l : MM K α} (ho : KeyOk t kf lt) (hg : H.get id = some (.map (rowM kf f l) c)) (k : K) :
    delA H t (.map id) (kf k) = some (H.set id (.map (rowM kf f (delM k l)) c)) := by
 unfold delA
 simp only [ho.is, Bool.true_eq_false, if_false, hg, keysOk_M ho, if_true, delK_M ho]
theorem find_rep (k k' : K) (v : α) (l : MM K α) : (findM k' (repM k v l)).map (·.1) = if k' = k ∧ (findM k l).isSome = true then some v else (findM k' l).map (·.1) := by
 induction l with
 | nil => simp [repM, findM]
 | cons e r ih =>
  simp only [repM]
  by_cases h : k = e.1
  · subst h
    simp only [if_true, findM, Option.isSome_some, and_true]
    by_cases h2 : k' = e.1 <;> simp [h2]
  · simp only [h, if_false, findM]
    by_cases h2 : k' = e.1
    · subst h2
      have : ¬ e.1 = k := fun hh => h hh.symm
      simp [this]
    · simp only [h2, if_false]; exact ih
theorem find_ins {k : K} {x : K × α × Nat} {l : MM K α} (hn : findM x.1 l = none) : findM k (insM lt x l) = if k = x.1 then some x.2 else findM k l := by
 induction l with
 | nil => simp [insM, findM]
 | cons e r ih =>
  simp only [findM] at hn
  split at hn
  · cases hn
  · rename_i hne
    simp only [insM]
    split
    · simp [findM]
    · simp only [findM]
      by_cases h2 : k = e.1
      · subst h2
        have : ¬ e.1 = x.1 := fun hh => hne hh.symm
        simp [this]
      · simp only [h2, if_false]; exact ih hn
theorem look_put (k k' : K) (v : α) (c : Nat) (l : MM K α) : lookM k' (putM lt k v c l) = if k' = k then some v else lookM k' l := by
 unfold putM lookM
 by_cases h : (findM k l).isSome = true
 · rw [if_pos h, find_rep]; simp [h]
 · rw [if_neg h]
   have hn : findM k l = none := by simpa using h
   rw [find_ins (x := (k, v, c)) hn]
   by_cases h2 : k' = k <;> simp [h2]
structure Ord (lt : K → K → Bool) : Prop where
 irr : ∀ a, lt a a = false
 tr : ∀ a b c, lt a b = true → lt b c = true → lt a c = true
 tot : ∀ a b, a ≠ b → lt a b = false → lt b a = true
def SortedM (lt : K → K → Bool) (l : MM K α) : Prop := (l.map (·.1)).Pairwise fun a b => lt a b = true
omit [DecidableEq K] in
theorem SortedM.nil : SortedM lt ([] : MM K α) := List.Pairwise.nil
theorem rep_keys (k : K) (v : α) (l : MM K α) : (repM k v l).map (·.1) = l.map (·.1) := by
 induction l with
 | nil => rfl
 | cons e r ih =>
  simp only [repM]
  split
  · rename_i h; simp [h]
  · simp [ih]
omit [DecidableEq K] in
theorem ins_mem {x y : K × α × Nat} {l : MM K α} : y ∈ insM lt x l ↔ y = x ∨ y ∈ l := by
 induction l with
 | nil => simp [insM]
 | cons e r ih =>
  simp only [insM]
  split
  · simp
  · simp only [List.mem_cons, ih]
    constructor
    · rintro (h | h | h) <;> simp [h]
    · rintro (h | h | h) <;> simp [h]
theorem SortedM.ins (o : Ord lt) {x : K × α × Nat} {l : MM K α} (hs : SortedM lt l) (hn : findM x.1 l = none) : SortedM lt (insM lt x l) := by
 induction l with
 | nil => simp [insM, SortedM]
 | cons e r ih =>
  simp only [findM] at hn
  split at hn
  · cases hn
  · rename_i hne
    unfold SortedM at hs
    rw [List.map_cons, List.pairwise_cons] at hs
    simp only [insM]
    split
    · rename_i hl
      unfold SortedM
      rw [List.map_cons, List.map_cons, List.pairwise_cons, List.pairwise_cons]
      refine ⟨fun b hb => ?_, hs⟩
      rcases List.mem_cons.1 hb with rfl | hb
      · exact hl
      · exact o.tr _ _ _ hl (hs.1 b hb)
    · rename_i hl
      unfold SortedM
      rw [List.map_cons, List.pairwise_cons]
      refine ⟨fun b hb => ?_, ih hs.2 hn⟩
      obtain ⟨y, hy, rfl⟩ := List.mem_map.1 hb
      rcases ins_mem.1 hy with rfl | hy
      · exact o.tot _ _ hne (by simpa using hl)
      · exact hs.1 _ (List.mem_map.2 ⟨y, hy, rfl⟩)
theorem SortedM.put (o : Ord lt) {k : K} {v : α} {c : Nat} {l : MM K α} (hs : SortedM lt l) : SortedM lt (putM lt k v c l) := by
 unfold putM
 split
 · unfold SortedM; rw [rep_keys]; exact hs
 · rename_i h; exact hs.ins o (by simpa using h)
theorem Ord.int : Ord (fun a b : Int => decide (a < b)) := ⟨fun a => by simp, fun a b c h1 h2 => by simp only [decide_eq_true_eq] at *; omega, fun a b h1 h2 => by simp only [decide_eq_true_eq, decide_eq_false_iff_not] at *; omega⟩
end
end Go.Wam
set_option linter.unusedVariables false
set_option linter.unusedSimpArgs false
namespace Go.Wam
section
variable {T : FuncId → Option FnDef}
theorem den_mapR_iff {d0 d1 b : Nat} {it : Opd} {ks ls : List Nat} {body : IC} {s : St} {r : AExit × St} : den T (.mapR d0 d1 it b ks ls body) s = some r ↔ ∃ n, mapLoop d0 d1 it b ks ls (evC (evF T n) n body) n s = some r := by
 rw [den_iff]; rfl
theorem mapLoop_up {d0 d1 b : Nat} {it : Opd} {ks ls : List Nat} {body : IC} {n n' : Nat} (h : n ≤ n') {s : St} {r : AExit × St} (e : mapLoop d0 d1 it b ks ls (evC (evF T n) n body) n s = some r) : mapLoop d0 d1 it b ks ls (evC (evF T n') n' body) n' s = some r :=
 mapLoop_le (fun s r hs => (mono_den (T := T) body s).le h hs) h e
theorem all_fuel {α β : Type} {p : α → Nat → β → Prop} {R : β → Prop} (hm : ∀ a n n' b, n ≤ n' → p a n b → p a n' b) : ∀ l : List α, (∀ a ∈ l, ∃ n b, p a n b ∧ R b) → ∃ N, ∀ a ∈ l, ∃ b, p a N b ∧ R b
 | [], _ => ⟨0, fun a h => by cases h⟩
 | a :: l, h => by
  obtain ⟨N, hN⟩ := all_fuel hm l fun x hx => h x (by simp [hx])
  obtain ⟨n, b, h1, h2⟩ := h a (by simp)
  refine ⟨max N n, fun x hx => ?_⟩
  rcases List.mem_cons.1 hx with rfl | hx
  · exact ⟨b, hm _ _ _ _ (Nat.le_max_right _ _) h1, h2⟩
  · obtain ⟨b', h3, h4⟩ := hN x hx
    exact ⟨b', hm _ _ _ _ (Nat.le_max_left _ _) h3, h4⟩
theorem den_mapR {d0 d1 b r id since : Nat} {it : Opd} {ks ls : List Nat} {body : IC} (I : Nat → List Nat → St → Prop) (R : AExit × St → Prop)
    (head : ∀ k seen s, I k seen s → it.ev s.env = some (.ptr r 0) ∧ s.H.get r = some (.miter (some id) since seen since) ∧ ∃ es, s.H.get id = some (.map es since) ∧ (es.filter fun e => !seen.contains e.2.2).length = k ∧
     ∀ e ∈ es.filter (fun e => !seen.contains e.2.2), ∃ k', k = k' + 1 ∧ ∃ s', den T body { s with H := s.H.set r (.miter (some id) since (e.2.2 :: seen) since), env := (d1, .bool true) :: (d0, .tuple [.bool true, e.1, e.2.1]) :: s.env } = some (.normal, s') ∧ I k' (e.2.2 :: seen) s')
    (done : ∀ seen s, I 0 seen s → ∃ q, cleanA ks ls r .normal { s with env := (d1, .bool false) :: (d0, .tuple [.bool false]) :: s.env } = some q ∧ R q)
    (uniq : ∀ q q', R q → R q' → sameRes q q') :
    ∀ k seen s, I k seen s → ∃ q, den T (.mapR d0 d1 it b ks ls body) s = some q ∧ R q := by
 have main : ∀ k seen s, I k seen s → ∃ n q, mapLoop d0 d1 it b ks ls (evC (evF T n) n body) n s = some q ∧ R q := by
  intro k
  induction k with
  | zero =>
   intro seen s hI
   obtain ⟨h1, h2, es, h3, h4, _⟩ := head 0 seen s hI
   obtain ⟨q, h6, h7⟩ := done seen s hI
   refine ⟨1, q, ?_, h7⟩
   simp only [mapLoop, h1, h2, h3, and_self, if_true, List.eq_nil_of_length_eq_zero h4]
   exact h6
  | succ k ih =>
   intro seen s hI
   obtain ⟨h1, h2, es, h3, h4, h5⟩ := head _ seen s hI
   obtain ⟨one, hone⟩ : ∃ one : Nat → ME → Option (AExit × St), one = fun n e => (match evC (evF T n) n body { s with H := s.H.set r (.miter (some id) since (e.2.2 :: seen) since), env := (d1, .bool true) :: (d0, .tuple [.bool true, e.1, e.2.1]) :: s.env } with
    | some (.normal, s') => mapLoop d0 d1 it b ks ls (evC (evF T n) n body) n s'
    | some (x, s') => cleanA ks ls r (if x = .exit b then .normal else x) s'
    | none => none) := ⟨_, rfl⟩
   have hall : ∀ e ∈ es.filter (fun e => !seen.contains e.2.2), ∃ (n : Nat) (q : St × (AExit × St)), (evC (evF T n) n body { s with H := s.H.set r (.miter (some id) since (e.2.2 :: seen) since), env := (d1, .bool true) :: (d0, .tuple [.bool true, e.1, e.2.1]) :: s.env } = some (.normal, q.1) ∧ mapLoop d0 d1 it b ks ls (evC (evF T n) n body) n q.1 = some q.2) ∧ R q.2 := by
    intro e he
    obtain ⟨k', hk, s', e1, hI'⟩ := h5 e he
    have hk : k = k' := by omega
    subst hk
    obtain ⟨n1, e1⟩ := den_iff.1 e1
    obtain ⟨n2, q, e2, hR⟩ := ih _ _ hI'
    refine ⟨max n1 n2, (s', q), ⟨?_, mapLoop_up (Nat.le_max_right _ _) e2⟩, hR⟩
    exact (mono_den (T := T) body _).le (Nat.le_max_left _ _) e1
   obtain ⟨N, hN⟩ := all_fuel (p := fun (e : ME) n (q : St × (AExit × St)) => evC (evF T n) n body { s with H := s.H.set r (.miter (some id) since (e.2.2 :: seen) since), env := (d1, .bool true) :: (d0, .tuple [.bool true, e.1, e.2.1]) :: s.env } = some (.normal, q.1) ∧ mapLoop d0 d1 it b ks ls (evC (evF T n) n body) n q.1 = some q.2) (R := fun q => R q.2)
    (fun e n n' q h hh => ⟨(mono_den (T := T) body _).le h hh.1, mapLoop_up h hh.2⟩) _ hall
   cases hf : es.filter (fun e => !seen.contains e.2.2) with
   | nil => rw [hf] at h4; cases h4
   | cons e0 rest =>
    rw [hf] at hN
    obtain ⟨⟨s0, q⟩, ⟨a1, a2⟩, a3⟩ := hN e0 (by simp)
    refine ⟨N + 1, q, ?_, a3⟩
    have up : ∀ {s : St} {x : AExit × St}, evC (evF T N) N body s = some x → evC (evF T (N + 1)) (N + 1) body s = some x := fun h => (mono_den (T := T) body _).le (Nat.le_succ N) h
    have up2 : ∀ {s : St} {x : AExit × St}, mapLoop d0 d1 it b ks ls (evC (evF T N) N body) N s = some x → mapLoop d0 d1 it b ks ls (evC (evF T (N + 1)) (N + 1) body) N s = some x := fun h => mapLoop_le (fun s r hs => up hs) (Nat.le_refl _) h
    simp only [mapLoop, h1, h2, h3, and_self, if_true, hf]
    rw [up a1]
    simp only
    rw [up2 a2]
    simp only
    rw [if_pos]
    rw [List.all_eq_true]
    intro e he
    obtain ⟨⟨s1, q1⟩, ⟨b1, b2⟩, b3⟩ := hN e (by simp [he])
    rw [up b1]
    simp only
    rw [up2 b2]
    exact sameB_iff.2 (uniq _ _ a3 b3)
 intro k seen s hI
 obtain ⟨n, q, h1, h2⟩ := main k seen s hI
 exact ⟨q, den_mapR_iff.2 ⟨n, h1⟩, h2⟩
end
end Go.Wam
set_option linter.unusedVariables false
set_option linter.unusedSimpArgs false
namespace Go.Wam
section
variable {K α β : Type} [DecidableEq K] {lt : K → K → Bool}
structure BirthOk (l : MM K α) (c : Nat) : Prop where
 nodup : (l.map (·.2.2)).Nodup
 lt : ∀ e ∈ l, e.2.2 < c
omit [DecidableEq K] in
theorem BirthOk.nil (c : Nat) : BirthOk ([] : MM K α) c := ⟨List.nodup_nil, fun e h => by cases h⟩
theorem rep_births (k : K) (v : α) (l : MM K α) : (repM k v l).map (·.2.2) = l.map (·.2.2) := by
 induction l with
 | nil => rfl
 | cons e r ih =>
  simp only [repM]
  split
  · simp
  · simp [ih]
omit [DecidableEq K] in
theorem ins_perm (lt : K → K → Bool) (x : K × α × Nat) : ∀ l : MM K α, (insM lt x l).Perm (x :: l)
 | [] => .refl _
 | e :: r => by
  simp only [insM]
  split
  · exact .refl _
  · exact (List.Perm.cons e (ins_perm lt x r)).trans (.swap _ _ _)
theorem BirthOk.put {l : MM K α} {c : Nat} (h : BirthOk l c) (k : K) (v : α) : BirthOk (putM lt k v c l) (tickM k c l) := by
 unfold putM tickM
 split
 · refine ⟨by rw [rep_births]; exact h.nodup, fun e he => ?_⟩
   have : e.2.2 ∈ (repM k v l).map (·.2.2) := List.mem_map.2 ⟨e, he, rfl⟩
   rw [rep_births] at this
   obtain ⟨x, hx, hh⟩ := List.mem_map.1 this
   rw [← hh]; exact h.lt x hx
 · have hp := ins_perm lt (k, v, c) l
   refine ⟨((hp.map (·.2.2)).nodup_iff).2 ?_, fun e he => ?_⟩
   · rw [List.map_cons, List.nodup_cons]
     refine ⟨fun hm => ?_, h.nodup⟩
     obtain ⟨x, hx, hh⟩ := List.mem_map.1 hm
     have := h.lt x hx
     simp only at hh; omega
   · rcases List.mem_cons.1 (hp.mem_iff.1 he) with rfl | he
     · simp
     · have := h.lt e he; omega
omit [DecidableEq K] in
theorem BirthOk.filter {l : MM K α} {c : Nat} (h : BirthOk l c) (p : K × α × Nat → Bool) : BirthOk (l.filter p) c :=
 ⟨h.nodup.sublist (List.filter_sublist.map _), fun e he => h.lt e (List.mem_filter.1 he).1⟩
omit [DecidableEq K] in
theorem SortedM.filter {l : MM K α} (h : SortedM lt l) (p : K × α × Nat → Bool) : SortedM lt (l.filter p) :=
 List.Pairwise.sublist (List.filter_sublist.map _) h
def mapV (g : K → α → α) (l : MM K α) : MM K α := l.map fun e => (e.1, g e.1 e.2.1, e.2.2)
omit [DecidableEq K] in
theorem mapV_keys (g : K → α → α) (l : MM K α) : (mapV g l).map (·.1) = l.map (·.1) := by simp [mapV]
omit [DecidableEq K] in
theorem mapV_births (g : K → α → α) (l : MM K α) : (mapV g l).map (·.2.2) = l.map (·.2.2) := by simp [mapV]
omit [DecidableEq K] in
theorem BirthOk.mapV {l : MM K α} {c : Nat} (h : BirthOk l c) (g : K → α → α) : BirthOk (mapV g l) c := by
 refine ⟨by rw [mapV_births]; exact h.nodup, fun e he => ?_⟩
 obtain ⟨x, hx, rfl⟩ := List.mem_map.1 he
 exact h.lt x hx
omit [DecidableEq K] in
theorem SortedM.mapV {l : MM K α} (h : SortedM lt l) (g : K → α → α) : SortedM lt (mapV g l) := by
 unfold SortedM; rw [mapV_keys]; exact h
theorem rep_mapV (o : Ord lt) {k : K} {v : α} {l : MM K α} (hs : SortedM lt l) : repM k v l = mapV (fun k' x => if k' = k then v else x) l := by
 induction l with
 | nil => rfl
 | cons e r ih =>
  unfold SortedM at hs
  rw [List.map_cons, List.pairwise_cons] at hs
  simp only [repM, mapV, List.map_cons]
  by_cases h : k = e.1
  · subst h
    simp only [if_true]
    congr 1
    symm
    refine (List.map_congr_left (g := id) fun x hx => ?_).trans (List.map_id _)
    have := hs.1 x.1 (List.mem_map.2 ⟨x, hx, rfl⟩)
    rw [if_neg (fun hh => by rw [hh, o.irr] at this; cases this)]; rfl
  · have h' : ¬ e.1 = k := fun hh => h hh.symm
    simp only [h, h', if_false]
    rw [ih hs.2]; rfl
omit [DecidableEq K] in
theorem mapV_mapV (g g' : K → α → α) (l : MM K α) : mapV g' (mapV g l) = mapV (fun k x => g' k (g k x)) l := by simp [mapV]
omit [DecidableEq K] in
theorem mapV_congr {g g' : K → α → α} {l : MM K α} (h : ∀ e ∈ l, g e.1 e.2.1 = g' e.1 e.2.1) : mapV g l = mapV g' l :=
 List.map_congr_left fun e he => by rw [h e he]
theorem find_mapV (g : K → α → α) (k : K) (l : MM K α) : findM k (mapV g l) = (findM k l).map fun p => (g k p.1, p.2) := by
 induction l with
 | nil => rfl
 | cons e r ih =>
  simp only [mapV, List.map_cons, findM] at ih ⊢
  by_cases h : k = e.1
  · subst h; simp
  · simp only [h, if_false]; exact ih
theorem find_some_mem {k : K} {l : MM K α} {p : α × Nat} (h : findM k l = some p) : (k, p) ∈ l := by
 induction l with
 | nil => cases h
 | cons e r ih =>
  simp only [findM] at h
  split at h
  · rename_i hk; cases h; rw [hk]; simp
  · exact List.mem_cons_of_mem _ (ih h)
theorem mem_find (o : Ord lt) {l : MM K α} (hs : SortedM lt l) {e : K × α × Nat} (he : e ∈ l) : findM e.1 l = some e.2 := by
 induction l with
 | nil => cases he
 | cons x r ih =>
  unfold SortedM at hs
  rw [List.map_cons, List.pairwise_cons] at hs
  simp only [findM]
  rcases List.mem_cons.1 he with rfl | he
  · simp
  · have := hs.1 e.1 (List.mem_map.2 ⟨e, he, rfl⟩)
    rw [if_neg (fun hh => by rw [hh, o.irr] at this; cases this)]
    exact ih hs.2 he
theorem mem_look (o : Ord lt) {l : MM K α} (hs : SortedM lt l) {e : K × α × Nat} (he : e ∈ l) : lookM e.1 l = some e.2.1 := by
 unfold lookM; rw [mem_find o hs he]; rfl
theorem del_filter (o : Ord lt) (k : K) {l : MM K α} (hs : SortedM lt l) : delM k l = l.filter fun e => !decide (e.1 = k) := by
 induction l with
 | nil => rfl
 | cons e r ih =>
  unfold SortedM at hs
  rw [List.map_cons, List.pairwise_cons] at hs
  simp only [delM]
  by_cases h : k = e.1
  · rw [if_pos h, List.filter_cons_of_neg (by simp [h])]
    symm
    rw [List.filter_eq_self]
    intro x hx
    have := hs.1 x.1 (List.mem_map.2 ⟨x, hx, rfl⟩)
    have : ¬ x.1 = k := fun hh => by rw [← h, hh, o.irr] at this; cases this
    simp [this]
  · rw [if_neg h, List.filter_cons_of_pos (by simp; exact fun hh => h hh.symm), ih hs.2]
theorem look_filter (o : Ord lt) (k : K) (p : K × α × Nat → Bool) {l : MM K α} (hs : SortedM lt l) : findM k (l.filter p) = (findM k l).bind fun q => if p (k, q) = true then some q else none := by
 induction l with
 | nil => rfl
 | cons e r ih =>
  have hs' := hs
  unfold SortedM at hs
  rw [List.map_cons, List.pairwise_cons] at hs
  simp only [findM]
  by_cases h : k = e.1
  · subst h
    simp only [if_true, Option.bind_some]
    by_cases hp : p e = true
    · rw [List.filter_cons_of_pos hp, if_pos (show p (e.1, e.2) = true from hp)]; simp [findM]
    · rw [List.filter_cons_of_neg hp, if_neg (show ¬ p (e.1, e.2) = true from hp), ih hs.2]
      have : findM e.1 r = none := by
       cases hq : findM e.1 r with
       | none => rfl
       | some q =>
        have := hs.1 e.1 (List.mem_map.2 ⟨_, find_some_mem hq, rfl⟩)
        rw [o.irr] at this; cases this
      rw [this]; rfl
  · simp only [h, if_false]
    by_cases hp : p e = true
    · rw [List.filter_cons_of_pos hp]; simp only [findM, h, if_false]; exact ih hs.2
    · rw [List.filter_cons_of_neg hp]; exact ih hs.2
end
end Go.Wam
set_option linter.unusedVariables false
set_option linter.unusedSimpArgs false
namespace Go.Wam
section
variable {T : FuncId → Option FnDef}
theorem den_rangeF {f : Opd} {ps : List Nat} {ia ib : IC} {s : St} {g : FuncId} {captured : List AV} {v : AV} {K : AHeap} {ls : LoopState} {pend : Option AExit} {e : List (Nat × AV)} {ps' : List Nat} {ia' ib' : IC}
    (hf : f.ev s.env = some (.func (.func g) [] captured)) (hg : g < yieldF)
    (hc : call T g (.yield (s.H.n + 1) :: captured) ((s.H.alloc .dfd).alloc (.loop .ready none (envNoL s.env) ps ia ib)) = some (v, K))
    (hk : K.get (s.H.n + 1) = some (.loop ls pend e ps' ia' ib')) (hb : ls ≠ .busy) :
    den T (.rangeF f ps ia ib) s = some (pend.getD .normal, { s with H := { K.set (s.H.n + 1) .dead with dfs := .mark s.H.n :: K.dfs } }) := by
 obtain ⟨n, h⟩ := call_iff.1 hc
 refine den_iff.2 ⟨n, ?_⟩
 simp only [evC, hf]
 rw [if_neg (Nat.not_le.2 hg), h]
 simp only [Option.bind_some, hk]
theorem call_yield {id : Nat} {vs : List AV} {H : AHeap} {env : List (Nat × AV)} {ps : List Nat} {ia ib : IC} (hg : H.get id = some (.loop .ready none env ps ia ib)) (hl : vs.length = ps.length)
    {s1 : St} (h1 : den T ia { env := (ps.zip vs).reverse ++ env, loc := [], H := { H with dfs := [] } } = some (.normal, s1)) {env1 : List (Nat × AV)} {ps1 : List Nat} {ia1 ib1 : IC} (hg1 : s1.H.get id = some (.loop .ready none env1 ps1 ia1 ib1))
    {r : AExit × St} (h2 : den T ib { s1 with H := s1.H.set id (.loop .busy none env1 ps1 ia1 ib1) } = some r) (hd : r.2.H.dfs = []) {env2 : List (Nat × AV)} {ps2 : List Nat} {ia2 ib2 : IC} (hg2 : r.2.H.get id = some (.loop .busy none env2 ps2 ia2 ib2)) :
    call T yieldF (.ptr id 0 :: vs) H = some (.bool (decide (r.1 = .normal)), { r.2.H.set id (.loop (if r.1 = .normal then .ready else .done) (if r.1 = .normal then none else some r.1) env2 ps2 ia2 ib2) with dfs := H.dfs }) := by
 obtain ⟨n1, e1⟩ := den_iff.1 h1
 obtain ⟨n2, e2⟩ := den_iff.1 h2
 have e1' := (mono_den (T := T) _ _).le (Nat.le_max_left n1 n2) e1
 have e2' := (mono_den (T := T) _ _).le (Nat.le_max_right n1 n2) e2
 refine call_iff.2 ⟨max n1 n2 + 1, ?_⟩
 rw [evF]
 simp only [if_true, runY, hg]
 rw [if_pos hl]
 rw [e1']
 simp only [hg1]
 rw [e2']
 simp only [Option.bind_some, hd, hg2, List.isEmpty_nil, if_true]
def leaveDK (rs : List RV) (H : AHeap) (x : AExit) (s : SK) : Option (AV × AHeap) := match s.H.dfs with
 | [] => leaveK rs H x s
 | [.mark i] => match s.H.get i with
  | some .dfd => leaveK rs H x { s with H := { s.H with dfs := [] }.set i .dead }
  | _ => none
 | _ => none
theorem leaveT_mark {F : FnIR} {H0 : AHeap} {x : AExit} {s : St} {i : Nat} (h : s.H.dfs = [.mark i]) (hg : s.H.get i = some .dfd) : leaveT T F H0 (x, s) = leave0 F H0 (x, { s with H := { s.H with dfs := [] }.set i .dead }) := by
 have hg' : AHeap.get { s.H with dfs := [] } i = some .dfd := hg
 unfold leaveT
 have : (fun k => leaveA (evF T k) F H0 (x, s)) = fun _ => leave0 F H0 (x, { s with H := { s.H with dfs := [] }.set i .dead }) := by
  funext k
  cases x <;> simp only [leaveA, leave0, h, runDfs, hg', Option.bind_some] <;> rfl
 rw [this, lim_const]
theorem call_evKD {f : FuncId} {nt na : Nat} {rs : List RV} {ls : List Nat} {b : IC} (hF : T f = some (.ir ⟨nt, na, rs, ls, b⟩)) (hf : f < yieldF) {args : List AV} {H : AHeap} {P : AV × AHeap → Prop} (hl : args.length = na) (hn : args.all AV.notL = true)
    (e : OkR (evK (call T) (den T) b (enterK args H) (leaveDK rs H)) P) : OkR (call T f args H) P := by
 have hs := enterK_sim (H := H) hn
 obtain ⟨x, st', s', e1, h1, e2⟩ := evK_sim b hs e
 rw [call_ir hF hf]
 show OkR (if args.length = na then (den T b (enterA args H)).bind (leaveT T ⟨nt, na, rs, ls, b⟩ H) else none) P
 rw [if_pos hl, e1, Option.bind_some]
 have key : ∀ {x : AExit} {s' : SK} {st' : St}, SimK s' st' → OkR (leaveK rs H x s') P → OkR (leave0 ⟨nt, na, rs, ls, b⟩ H (x, st')) P := by
  intro x s' st' h1 e
  have k2 : OkR ((rvsK s' rs).bind fun vs => if allNoL vs = true then some (packA vs, fin H (packA vs) s'.H) else none) P → OkR (match rvs st' rs with | some vs => if allNoL vs then some (packA vs, fin H (packA vs) st'.H) else none | none => none) P := by
   intro e
   obtain ⟨vs, h2, e⟩ := e.bind
   rw [rvsK_sim h1 h2, h1.H]
   exact e
  cases x with
  | normal => exact k2 e
  | exit j => exact absurd e okR_none
  | ret => exact k2 e
 unfold leaveDK at e2
 split at e2
 · rename_i hd
   rw [leaveT_0 (by rw [h1.H]; exact hd)]
   exact key h1 e2
 · rename_i i hd
   split at e2
   · rename_i hg
     rw [leaveT_mark (i := i) (by rw [h1.H]; exact hd) (by rw [h1.H]; exact hg)]
     refine key ?_ e2
     exact { h1 with H := by rw [h1.H] }
   · exact absurd e2 okR_none
 · exact absurd e2 okR_none
end
end Go.Wam
set_option linter.unusedVariables false
set_option linter.unusedSimpArgs false
namespace Go.Wam
def AHeap.withd (H : AHeap) (d : List Dfr) : AHeap := { t := H.t, n := H.n, low := H.low, dfs := d }
@[simp] theorem withd_get (H : AHeap) (d : List Dfr) (i : Nat) : (H.withd d).get i = H.get i := by simp only [AHeap.get, AHeap.withd]
@[simp] theorem withd_rdAt (H : AHeap) (d : List Dfr) (i : Nat) (agg : Bool) (sz off : Nat) : (H.withd d).rdAt i agg sz off = H.rdAt i agg sz off := rdAt_congr (withd_get H d i) agg sz off
@[simp] theorem withd_n (H : AHeap) (d : List Dfr) : (H.withd d).n = H.n := rfl
@[simp] theorem withd_low (H : AHeap) (d : List Dfr) : (H.withd d).low = H.low := rfl
@[simp] theorem withd_dfs (H : AHeap) (d : List Dfr) : (H.withd d).dfs = d := rfl
theorem withd_wf {H : AHeap} (d : List Dfr) (h : H.wf) : (H.withd d).wf := fun i => by rw [withd_get]; exact h i
theorem withd_ok {H : AHeap} (d : List Dfr) (h : H.ok) : (H.withd d).ok := ⟨withd_wf d h.1, h.2⟩
theorem set_dfs (H : AHeap) (i : Nat) (x : AObj) : (H.set i x).dfs = H.dfs := rfl
theorem alloc_dfs (H : AHeap) (x : AObj) : (H.alloc x).dfs = H.dfs := rfl
theorem Chg.withd (H : AHeap) (d : List Dfr) : Chg [] H (H.withd d) :=
 ⟨Nat.le_refl _, fun h => withd_ok d h, fun i _ _ => withd_get H d i, Nat.le_refl _, fun _ h _ => h⟩
@[simp] theorem notL_yield (i : Nat) : (AV.yield i).notL = true := rfl
theorem appendA_dfs {H K : AHeap} {sz bytes : Nat} {v x v' : AV} (h : appendA H sz bytes v x = some (v', K)) : K.dfs = H.dfs := by
 have e : evOp none ⟨[(0, v), (1, x)], [], H⟩ (.append sz bytes (.tmp 0) (.tmp 1)) = some (v', ⟨[(0, v), (1, x)], [], K⟩) := by simp [evOp, Opd.ev, look, h]
 exact (evOp_shape' e).2.2.2.2 rfl
section
variable {T : FuncId → Option FnDef}
def yieldT (x : AExit) : Bool := match x with | .normal => true | _ => false
def yLs (x : AExit) : LoopState := match x with | .normal => .ready | _ => .done
def yPend (x : AExit) : Option AExit := match x with | .normal => none | x => some x
def yK (id : Nat) (d : List Dfr) (x : AExit) (s : SK) : Option (AV × AHeap) := match s.H.dfs with
 | [] => match s.H.get id with
  | some (.loop .busy none env ps ia ib) => some (.bool (yieldT x), (s.H.set id (.loop (yLs x) (yPend x) env ps ia ib)).withd d)
  | _ => none
 | _ => none
theorem yK_eq {id : Nat} {d : List Dfr} {x : AExit} {s : SK} {env : List (Nat × AV)} {ps : List Nat} {ia ib : IC} (h1 : s.H.dfs = []) (h2 : s.H.get id = some (.loop .busy none env ps ia ib)) :
    yK id d x s = some (.bool (yieldT x), (s.H.set id (.loop (yLs x) (yPend x) env ps ia ib)).withd d) := by unfold yK; rw [h1]; simp only; rw [h2]
noncomputable def yI (C : CallF) (D : IC → St → Option (AExit × St)) (ib : IC) (id : Nat) (d : List Dfr) : AExit → SK → Option (AV × AHeap)
 | .normal, s => match s.H.get id with
  | some (.loop .ready none env ps ia' ib') => evK C D ib ⟨s.env, s.loc, s.H.set id (.loop .busy none env ps ia' ib')⟩ (yK id d)
  | _ => none
 | _, _ => none
theorem yI_normal {C : CallF} {D : IC → St → Option (AExit × St)} {ib : IC} {id : Nat} {d : List Dfr} {K : AHeap} {env : List (Nat × AV)} {ps : List Nat} {ia' ib' : IC} (h : K.get id = some (.loop .ready none env ps ia' ib')) (e : List (Nat × Slt)) (l : List (Nat × List AV)) :
    yI C D ib id d .normal ⟨e, l, K⟩ = evK C D ib ⟨e, l, K.set id (.loop .busy none env ps ia' ib')⟩ (yK id d) := by simp only [yI, h]
theorem yield_evKI {id : Nat} {vs : List AV} {H : AHeap} {env : List (Nat × AV)} {ps : List Nat} {ia ib : IC} (hg : H.get id = some (.loop .ready none env ps ia ib)) (hl : vs.length = ps.length) {P : AV × AHeap → Prop}
    (e : OkR (evK (call T) (den T) ia (ofSt ⟨(ps.zip vs).reverse ++ env, [], H.withd []⟩) (yI (call T) (den T) ib id H.dfs)) P) : OkR (call T yieldF (.ptr id 0 :: vs) H) P := by
 obtain ⟨x0, st0, s0, e0, h0, e⟩ := evK_sim ia (ofSt_sim _) e
 cases x0 with
 | exit j => exact absurd e okR_none
 | ret => exact absurd e okR_none
 | normal =>
  unfold yI at e
  simp only at e
  split at e
  · rename_i env1 ps1 ia1 ib1 hg1
    have h0' : SimK ⟨s0.env, s0.loc, s0.H.set id (.loop .busy none env1 ps1 ia1 ib1)⟩ { st0 with H := st0.H.set id (.loop .busy none env1 ps1 ia1 ib1) } := by
     rw [h0.H]; exact h0.withH _
    obtain ⟨x, st', s', e1, h1, e2⟩ := evK_sim ib h0' e
    have hH : st'.H = s'.H := h1.H
    have hH0 : st0.H = s0.H := h0.H
    unfold yK at e2
    split at e2
    · rename_i hd
      split at e2
      · rename_i env2 ps2 ia2 ib2 hg2
        obtain ⟨r, hr, hp⟩ := e2
        cases hr
        refine ⟨_, call_yield (env := env) (ps := ps) (ia := ia) (ib := ib) (s1 := st0) hg hl e0 (by rw [hH0]; exact hg1) e1 (by rw [hH]; exact hd) (by rw [hH]; exact hg2), ?_⟩
        cases x with
        | normal => simp only [hH]; exact hp
        | exit j => simp only [hH]; exact hp
        | ret => simp only [hH]; exact hp
      · exact absurd e2 okR_none
    · exact absurd e2 okR_none
  · exact absurd e okR_none
theorem leaveDK_nil {rs : List RV} {H : AHeap} {x : AExit} {s : SK} (h : s.H.dfs = []) : leaveDK rs H x s = leaveK rs H x s := by unfold leaveDK; rw [h]
theorem leaveDK_mark {rs : List RV} {H : AHeap} {x : AExit} {e : List (Nat × Slt)} {l : List (Nat × List AV)} {K : AHeap} {i : Nat} (h : K.dfs = [.mark i]) (hg : K.get i = some .dfd) : leaveDK rs H x ⟨e, l, K⟩ = leaveK rs H x ⟨e, l, (K.withd []).set i .dead⟩ := by
 unfold leaveDK
 simp only [h, hg]
 rfl
theorem evK_unf {c c' : IC} (h : c = c') {R : Type} (s : SK) (k : AExit → SK → Option R) : evK (call T) (den T) c s k = evK (call T) (den T) c' s k := by rw [h]
theorem ofSt_eq (e : List (Nat × AV)) (l : List (Nat × List AV)) (H : AHeap) : ofSt ⟨e, l, H⟩ = ⟨e.map fun x => (x.1, ofAV x.2), l, H⟩ := rfl
theorem den_range {b : Nat} {f : Opd} {ps : List Nat} {ia ib : IC} {s : St} {g : FuncId} {captured : List AV} {v : AV} {K : AHeap} {ls : LoopState} {pend : Option AExit} {e : List (Nat × AV)} {ps' : List Nat} {ia' ib' : IC}
    (hf : f.ev s.env = some (.func (.func g) [] captured)) (hg : g < yieldF)
    (hc : call T g (.yield (s.H.n + 1) :: captured) ((s.H.alloc .dfd).alloc (.loop .ready none (envNoL s.env) ps ia ib)) = some (v, K))
    (hk : K.get (s.H.n + 1) = some (.loop ls pend e ps' ia' ib')) (hb : ls ≠ .busy) :
    den T (.block b (.rangeF f ps ia ib)) s = some (outBlock b (pend.getD .normal, { env := s.env, loc := s.loc, H := (K.set (s.H.n + 1) .dead).withd (.mark s.H.n :: K.dfs) })) := by
 rw [den_block, den_rangeF hf hg hc hk hb]; rfl
end
end Go.Wam
set_option linter.unusedVariables false
set_option linter.unusedSimpArgs false
namespace Go.Proofs.Ytgokjbjbdnbcdaa
open Go.Wam
attribute [local simp] seqK_normal seqK_exit seqK_ret blockK_normal blockK_exit blockK_ret condO_bool evK_skip evK_exit evK_ret evK_keep evK_cond evK_block evK_seq_seq evK_seq_cond evK_seq_block evK_seq_loop evK_seq_skip evK_seq_keep evK_seq_exit evK_seq_ret prK_eq toSt_eq av_l av_v valS_v valT_v valS_u av_u valO_tmp
 nl_eq nl_none nl_if nlR_eq boxC_eq stL_eq storeP_ptr loadP_ptr fldP_ptr idxP_ptr inN_int callN_func strV_str fillC_nil fillC_cons pickV_bool guardK_bool kB_eq chk_some ifaceV_eq funcV_eq natV_int notL_noL leaveK_ret leaveK_normal rvsK_nil rvsK_cons rvK_tmp rvC_l rvC_v rvK_cell enterK_eq ok_l ok_v ok_u norm_eq norm_l norm_v norm_u
 Go.Wam.look zipI prune packA rd undefA allNoL convI convS lenStr lenMap extA fldV idxStr idxAgg idxS_slice idxS_oslice unA beq_same beqL_same AV.beq AV.beqL sliceV nilC clearW
 strOp aeqF_nil aeqF_cons andA_some i_add i_sub i_mul i_lss i_leq i_gtr i_geq i_quo i_rem i_eql i_neq s_eql s_neq s_lss
 s_leq s_gtr s_geq s_add e_bool n_bool e_nilp n_nilp e_ptr n_ptr e_lptr n_lptr e_agg n_agg
 e_nils n_nils e_slice n_slice e_oslice n_oslice e_eslice n_eslice e_xslice n_xslice e_nilm n_nilm e_map n_map
 e_nilFunc n_nilFunc e_func n_func q_int q_bool q_str q_struct q_ptr0 q_ptrL0 q_ptrR0 q_ptrL1 q_ptrR1 q_slice0
 q_sliceL0 q_sliceR0 q_sliceL1 q_sliceR1 q_sliceL2 q_sliceR2 q_sliceL3 q_sliceR3 q_map0 q_mapL0 q_mapR0 q_func0 q_funcL0 q_funcR0
 okR_some get_alloc_eq rdAt_alloc_eq set_alloc_eq set_alloc_ne get_alloc_ne rdAt_alloc_ne
attribute [local congr] bind_cg guardK_cg kB_cg condO_cg evK_cg
theorem keysS_M {α : Type} {f : α → AV} : ∀ {l : MM (List UInt8) α}, (∀ e ∈ l, e.1.length ≤ maxLen) → keysS (rowM AV.str f l) = some (l.map (·.1))
 | [], _ => rfl
 | e :: r, h => by
  have h1 := h e (by simp)
  have ih := keysS_M (f := f) (l := r) fun x hx => h x (by simp [hx])
  simp only [rowM, List.map_cons, keysS] at ih ⊢
  rw [if_pos h1, ih]; rfl
theorem less_iff : ∀ {a b : List UInt8}, bytesLess a b = true ↔ a < b
 | a, [] => by cases a <;> simp [bytesLess]
 | [], b :: y => by simp [bytesLess]
 | a :: x, b :: y => by
  simp only [bytesLess, Bool.or_eq_true, Bool.and_eq_true, decide_eq_true_eq, beq_iff_eq, List.cons_lt_cons_iff, less_iff (a := x) (b := y)]
theorem less_le {a b : List UInt8} (h : bytesLess a b = true) : a ≤ b := List.le_of_lt (less_iff.1 h)
theorem ordS : Ord bytesLess := ⟨fun a => by
    cases h : bytesLess a a with
    | false => rfl
    | true => exact absurd (less_iff.1 h) (List.lt_irrefl a),
 fun a b c h1 h2 => less_iff.2 (List.lt_trans (less_iff.1 h1) (less_iff.1 h2)),
 fun a b h1 h2 => by
  refine less_iff.2 ?_
  have h3 : ¬ a < b := fun h => by rw [less_iff.2 h] at h2; cases h2
  have h4 : b ≤ a := List.not_lt.1 h3
  exact Std.lt_of_le_of_ne h4 (fun h => h1 h.symm)⟩
theorem srt_of {ks : List (List UInt8)} (h : ks.Pairwise fun a b => bytesLess a b = true) : srt ks = ks :=
 List.mergeSort_of_pairwise (h.imp fun {a b} hh => by simpa using less_le hh)
section
variable {H : AHeap}
theorem mKeys (x : AV) (hx : x.cells = [x]) (hn : x.noL = true) (hl : x.notL = true) : call T 35 [x] H = some (.func (.func 63) [] [.ptr H.n 0], (H.top.alloc (.row false 1 [x])).lowered H) := by
 refine okR_eq (call_evK (show T 35 = some (.ir ⟨_, _, _, _, _⟩) from T35) (by decide) PL35 rfl (by simp [hl]) ?_)
 have hf : Go.Wam.fin H (.func (.func 63) [] [.ptr H.n 0]) (H.top.alloc (.row false 1 [x])) = (H.top.alloc (.row false 1 [x])).lowered H := fin_keep (.inr (by simp [AV.okB]))
 simp -implicitDefEqProofs [hx, hn, hf]
theorem kSorted {α : Type} {f : α → AV} {b id c : Nat} {l : MM (List UInt8) α} (hb : H.get b = some (.row false 1 [.map id])) (hm : H.get id = some (.map (rowM AV.str f l) c)) (hlen : ∀ e ∈ l, e.1.length ≤ maxLen) (hs : SortedM bytesLess l) (hsz : l.length * 16 ≤ 140737488355328) (h0 : l ≠ []) :
    call T 34 [.func (.func 63) [] [.ptr b 0]] H = some (.oslice H.n 0 l.length l.length 1, H.alloc (.row false 1 (l.map fun e => AV.str e.1))) := by
 have hk : l.map (·.1) ≠ [] := by simpa using h0
 have hsz' : (l.map (·.1)).length * 16 ≤ 140737488355328 := by simpa using hsz
 rw [call_prim T34 (by decide)]
 simp only [gSK, if_true, hb, hm, keysS_M hlen]
 rw [if_neg hk, if_pos hsz', srt_of hs]
 simp only [List.length_map, List.map_map]
 rfl
theorem kSorted0 {α : Type} {f : α → AV} {b id c : Nat} (hb : H.get b = some (.row false 1 [.map id])) (hm : H.get id = some (.map (rowM AV.str f ([] : MM (List UInt8) α)) c)) :
    call T 34 [.func (.func 63) [] [.ptr b 0]] H = some (.nils, H) := by
 rw [call_prim T34 (by decide)]
 simp only [gSK, if_true, hb, hm, rowM, List.map_nil, keysS]
 rfl
theorem keys_view (ks : List (List UInt8)) : View (H.alloc (.row false 1 (ks.map AV.str))) 1 (.oslice H.n 0 ks.length ks.length 1) (ks.map fun k => [AV.str k]) := by
 refine ⟨by simp [AV.sl], by simp, fun r hr => ?_, fun _ => ⟨false, 1, ks.map AV.str, get_alloc_same H _, by simp, ?_⟩⟩
 · obtain ⟨k, _, rfl⟩ := List.mem_map.1 hr; rfl
 · have : ∀ ks : List (List UInt8), (ks.map fun k => [AV.str k]).flatten = ks.map AV.str := by
     intro ks
     induction ks with
     | nil => rfl
     | cons a r ih => simp only [List.map_cons, List.flatten_cons, ih]; rfl
   rw [this]
   simp only [soff_oslice, List.drop_zero, Nat.mul_one, List.length_map]
   exact List.take_of_length_le (by simp)
structure StoreAt (H : AHeap) (p id c : Nat) (l : MM (List UInt8) (AV × Ch)) : Prop where
 box : H.get p = some (.row false 1 [.map id])
 map : H.get id = some (.map (rowM AV.str (fun e => AV.agg (celCh e.1 e.2)) l) c)
 sorted : SortedM bytesLess l
 key : ∀ e ∈ l, e.1.length ≤ maxLen
 view : ∀ e ∈ l, SV H 5 e.2.1.1 (e.2.1.2.L.map rowVe)
 birth : BirthOk l c
theorem kNew (hok : H.ok) : ∃ K, call T 6 [] H = some (.ptr (H.n + 1) 0, K) ∧ StoreAt K (H.n + 1) H.n 0 [] ∧ Chg [] H K := by
 have hf : Go.Wam.fin H (.ptr (H.n + 1) 0) ((H.top.alloc (.map [] 0)).alloc (.row false 1 [.map H.n])) = ((H.top.alloc (.map [] 0)).alloc (.row false 1 [.map H.n])).lowered H := fin_keep (.inr (by simp [AV.okB]))
 have c1 : Chg [] H.top ((H.top.alloc (.map [] 0)).alloc (.row false 1 [.map H.n])) := (Chg.alloc _ _).trans (AHeap.ok.top hok.1) (Chg.alloc _ _) (by simp)
 refine ⟨_, okR_eq (call_evK (show T 6 = some (.ir ⟨_, _, _, _, _⟩) from T6) (by decide) PL6 rfl rfl ?_), ⟨?_, ?_, .nil, fun e he => (by cases he), fun e he => (by cases he), .nil 0⟩, c1.lowered hok⟩
 · simp -implicitDefEqProofs [hf]
 · rw [lowered_get]; exact get_alloc_same (H.top.alloc _) _
 · rw [lowered_get, get_alloc_ne _ _ (by simp)]; exact get_alloc_same H.top _
theorem kWrong {p : Nat} {f t : List UInt8} (hf : Small f) (ht : Small t) : call T 28 [.ptr p 0, .agg [.str f, .str t]] H = some (.int .i64 (if rightB f t = true then 0 else 51), H) := by
 refine okR_eq (call_evK (show T 28 = some (.ir ⟨_, _, _, _, _⟩) from T28) (by decide) PL28 rfl rfl ?_)
 by_cases h : rightB f t = true
 · simp -implicitDefEqProofs [sRight hf ht, h, fin_pure]
 · simp -implicitDefEqProofs [sRight hf ht, h, fin_pure]
theorem kIn {p : Nat} {f t : List UInt8} : call T 29 [.ptr p 0, .agg [.str f, .str t]] H = some (.func (.func 56) [] [.ptr H.n 0, .ptr (H.n + 1) 0], ((H.top.alloc (.row false 1 [.ptr p 0])).alloc (.row false 2 [.str f, .str t])).lowered H) := by
 have hf : Go.Wam.fin H (.func (.func 56) [] [.ptr H.n 0, .ptr (H.n + 1) 0]) ((H.top.alloc (.row false 1 [.ptr p 0])).alloc (.row false 2 [.str f, .str t])) = ((H.top.alloc (.row false 1 [.ptr p 0])).alloc (.row false 2 [.str f, .str t])).lowered H := fin_keep (.inr (by simp [AV.okB]))
 refine okR_eq (call_evK (show T 29 = some (.ir ⟨_, _, _, _, _⟩) from T29) (by decide) PL29 rfl rfl ?_)
 simp -implicitDefEqProofs [hf]
theorem kKeys {p id c : Nat} {l : MM (List UInt8) (AV × Ch)} (hok : H.ok) (hS : StoreAt H p id c l) (hsz : l.length * 16 ≤ 140737488355328) :
    ∃ v K, call T 11 [.ptr p 0] H = some (v, K) ∧ View K 1 v (l.map fun e => [AV.str e.1]) ∧ Chg [] H K ∧ (l ≠ [] → v = .oslice (H.n + 1) 0 l.length l.length 1) ∧ (l = [] → v = .nils) := by
 have e1 := mKeys (H := H.top) (.map id) rfl rfl rfl
 have hp := AHeap.get_lt hS.box hok.1
 have hi := AHeap.get_lt hS.map hok.1
 generalize hK : (H.top.top.alloc (.row false 1 [.map id])).lowered H.top = K1 at e1
 have cK : Chg [] H.top K1 := by rw [← hK]; exact (Chg.alloc _ _).lowered (AHeap.ok.top hok.1)
 have g1 : K1.get H.n = some (.row false 1 [.map id]) := by rw [← hK, lowered_get]; exact get_alloc_same H.top.top _
 have g2 : K1.get id = some (.map (rowM AV.str (fun e => AV.agg (celCh e.1 e.2)) l) c) := by rw [cK.get id hi (by simp), top_get]; exact hS.map
 have n1 : K1.n = H.n + 1 := by rw [← hK]; rfl
 have rb := rdAt_row (H := H.top) (show H.top.get p = _ from hS.box)
 have lo : H.n ≤ K1.low := by rw [← hK]; simp only [AHeap.lowered]; split <;> exact Nat.le_refl _
 by_cases h0 : l = []
 · subst h0
   have e2 := kSorted0 (H := K1) g1 g2
   have hf : Go.Wam.fin H .nils K1 = H := fin_drop' lo rfl
   refine ⟨.nils, H, okR_eq (call_evK (show T 11 = some (.ir ⟨_, _, _, _, _⟩) from T11) (by decide) PL11 rfl rfl ?_), ?_, .refl _ _, fun h => absurd rfl h, fun _ => rfl⟩
   · simp -implicitDefEqProofs [rb, e1, e2, hf]
   · exact ⟨by simp [AV.sl], rfl, fun r hr => (by cases hr), fun h => (by simp at h)⟩
 · have e2 := kSorted (H := K1) g1 g2 hS.key hS.sorted hsz h0
   rw [n1] at e2
   have hf : Go.Wam.fin H (.oslice (H.n + 1) 0 l.length l.length 1) (K1.alloc (.row false 1 (l.map fun e => AV.str e.1))) = (K1.alloc (.row false 1 (l.map fun e => AV.str e.1))).lowered H := fin_keep (.inr (by simp [AV.okB]))
   have hv := keys_view (H := K1) (l.map (·.1))
   rw [n1] at hv
   simp only [List.map_map, List.length_map] at hv
   have hc : call T 11 [.ptr p 0] H = some (.oslice (H.n + 1) 0 l.length l.length 1, (K1.alloc (.row false 1 (l.map fun e => AV.str e.1))).lowered H) := by
    refine okR_eq (call_evK (show T 11 = some (.ir ⟨_, _, _, _, _⟩) from T11) (by decide) PL11 rfl rfl ?_)
    simp -implicitDefEqProofs [rb, e1, e2, hf]
   exact ⟨_, _, hc, hv.frame fun i => lowered_get _ _ _, ((cK.trans (AHeap.ok.top hok.1) (.alloc _ _) (by simp))).lowered hok, fun _ => rfl, fun h => absurd h h0⟩
theorem kRune (r : Int) : call T 50 [.int .i32 r] H = some (.bool (decide (r < 33) || decide (126 < r)), H) := by
 refine okR_eq (call_evK (show T 50 = some (.ir ⟨_, _, _, _, _⟩) from T50) (by decide) PL50 rfl rfl ?_)
 by_cases h1 : r < 33
 · simp -implicitDefEqProofs [h1, fin_pure]
 · by_cases h2 : 126 < r
   · simp -implicitDefEqProofs [h1, h2, fin_pure]
   · simp -implicitDefEqProofs [h1, h2, fin_pure]
theorem StoreAt.frame {K : AHeap} {p id c : Nat} {l : MM (List UInt8) (AV × Ch)} (hok : H.ok) (hS : StoreAt H p id c l) (cK : Chg [] H K) : StoreAt K p id c l :=
 ⟨(cK.get p (AHeap.get_lt hS.box hok.1) (by simp)).trans hS.box, (cK.get id (AHeap.get_lt hS.map hok.1) (by simp)).trans hS.map, hS.sorted, hS.key, fun e he => (hS.view e he).new hok.1 cK, hS.birth⟩
theorem StoreAt.top {p id c : Nat} {l : MM (List UInt8) (AV × Ch)} (hS : StoreAt H p id c l) : StoreAt H.top p id c l :=
 ⟨(top_get ..).trans hS.box, (top_get ..).trans hS.map, hS.sorted, hS.key, fun e he => (hS.view e he).top, hS.birth⟩
end
attribute [local simp] callN_yield
section
variable {H : AHeap}
theorem kSK {p id c : Nat} {l : MM (List UInt8) (AV × Ch)} (hok : H.ok) (hS : StoreAt H p id c l) (hsz : l.length * 16 ≤ 140737488355328) :
    ∃ K1 v H1, call T 35 [.map id] H = some (.func (.func 63) [] [.ptr H.n 0], K1) ∧ call T 34 [.func (.func 63) [] [.ptr H.n 0]] K1 = some (v, H1) ∧ View H1 1 v (l.map fun e => [AV.str e.1]) ∧ Chg [] H H1 ∧ (l ≠ [] → H.n ≤ sid v) ∧ H1.dfs = H.dfs := by
 have e1 := mKeys (H := H) (.map id) rfl rfl rfl
 have d1 := call_dfs e1
 have hi := AHeap.get_lt hS.map hok.1
 generalize hK : (H.top.alloc (.row false 1 [.map id])).lowered H = K1 at e1 d1
 have cK : Chg [] H K1 := by rw [← hK]; exact (Chg.alloc _ _).lowered hok
 have g1 : K1.get H.n = some (.row false 1 [.map id]) := by rw [← hK, lowered_get]; exact get_alloc_same H.top _
 have g2 : K1.get id = some (.map (rowM AV.str (fun e => AV.agg (celCh e.1 e.2)) l) c) := by rw [cK.get id hi (by simp)]; exact hS.map
 have n1 : K1.n = H.n + 1 := by rw [← hK]; rfl
 by_cases h0 : l = []
 · subst h0
   have e2 := kSorted0 (H := K1) g1 g2
   exact ⟨K1, .nils, K1, e1, e2, ⟨by simp [AV.sl], rfl, fun r hr => (by cases hr), fun h => (by simp at h)⟩, cK, fun h => absurd rfl h, d1⟩
 · have e2 := kSorted (H := K1) g1 g2 hS.key hS.sorted hsz h0
   have hv := keys_view (H := K1) (l.map (·.1))
   simp only [List.map_map, List.length_map] at hv
   exact ⟨K1, _, _, e1, e2, hv, cK.trans hok (.alloc _ _) (by simp), fun _ => by simp [sid, n1], (call_dfs e2).trans d1⟩
def hasE (f t : List UInt8) (e : List UInt8 × (AV × Ch) × Nat) : Bool := hasB f t e.1
def cntE (f t : List UInt8) (l : MM (List UInt8) (AV × Ch)) (j : Nat) : Nat := ((l.take j).filter (hasE f t)).length
theorem cntE_le (f t : List UInt8) (l : MM (List UInt8) (AV × Ch)) : cntE f t l l.length = (l.filter (hasE f t)).length := by unfold cntE; rw [List.take_length]
theorem cntE_succ {f t : List UInt8} {l : MM (List UInt8) (AV × Ch)} {j : Nat} {e : List UInt8 × (AV × Ch) × Nat} (h : l[j]? = some e) : cntE f t l (j + 1) = if hasE f t e = true then cntE f t l j + 1 else cntE f t l j := by
 unfold cntE
 rw [List.take_add_one, h, List.filter_append, List.length_append]
 by_cases hh : hasE f t e = true <;> simp [hh]
theorem cntE_get {f t : List UInt8} {l : MM (List UInt8) (AV × Ch)} {j : Nat} {e : List UInt8 × (AV × Ch) × Nat} (h : l[j]? = some e) (hh : hasE f t e = true) : (l.filter (hasE f t))[cntE f t l j]? = some e := by
 obtain ⟨hj, he⟩ := List.getElem?_eq_some_iff.1 h
 have h1 : l = l.take j ++ (e :: l.drop (j + 1)) := by
  have := List.drop_eq_getElem_cons hj
  rw [he] at this
  rw [← this, List.take_append_drop]
 conv => lhs; arg 1; rw [h1]
 unfold cntE
 rw [List.filter_append, List.getElem?_append_right (Nat.le_refl _), Nat.sub_self, List.filter_cons_of_pos hh]; rfl
set_option maxHeartbeats 4000000 in
theorem kIn1 {p id c y a b : Nat} {l : MM (List UInt8) (AV × Ch)} {f t : List UInt8} (hok : H.ok) (hS : StoreAt H p id c l) (hf : Small f) (ht : Small t) (hkl : ∀ e ∈ l, Small e.1)
    (ha : H.get a = some (.row false 1 [.ptr p 0])) (hb : H.get b = some (.row false 2 [.str f, .str t])) (hsz : l.length * 16 ≤ 140737488355328)
    (J : AHeap → Nat → AHeap → Prop) (Q : AHeap → AHeap → Prop) (F : List Nat) (hF : a ∉ F ∧ b ∉ F ∧ p ∉ F ∧ id ∉ F) (hFn : ∀ i ∈ F, i < H.n)
    (hst : ∀ H1, Chg [] H.top H1 → H1.dfs = [] → J H1 0 H1)
    (hch : ∀ H1 i K, J H1 i K → Chg F H1 K)
    (hstep : ∀ H1 i K e, Chg [] H.top H1 → H1.dfs = [] → J H1 i K → (l.filter (hasE f t))[i]? = some e → ∃ q K', call T yieldF [.ptr y 0, .str e.1, .agg (celCh e.2.1.1 e.2.1.2)] K = some (.bool q, K') ∧ K'.low < H.n ∧ (q = true → J H1 (i + 1) K') ∧ (q = false → Q H1 K')) :
    ∃ K', call T 56 [.yield y, .ptr a 0, .ptr b 0] H = some (.tuple [], K') ∧ ((l.filter (hasE f t) = [] ∧ K' = H) ∨ ∃ H1 K, Chg [] H.top H1 ∧ H1.dfs = [] ∧ K' = K.lowered H ∧ (J H1 (l.filter (hasE f t)).length K ∨ Q H1 K)) := by
 have hokT := AHeap.ok.top hok.1
 have hST : StoreAt H.top p id c l := hS.top
 obtain ⟨K1, v, H1, e1, e2, hV, c1, hv1, hd1⟩ := kSK hokT hST hsz
 have hd1 : H1.dfs = [] := hd1
 have ok1 := c1.ok hokT
 have lo1 : H1.low = H.n := by rw [c1.low_eq]; simp
 have hvn := hV.noL
 have hlen := hV.lenS
 rw [List.length_map] at hlen
 have pa := AHeap.get_lt ha hok.1
 have pb := AHeap.get_lt hb hok.1
 have pp := AHeap.get_lt hS.box hok.1
 have pi := AHeap.get_lt hS.map hok.1
 have at1 : ∀ {i : Nat} {K : AHeap}, J H1 i K → K.get a = some (.row false 1 [.ptr p 0]) ∧ K.get b = some (.row false 2 [.str f, .str t]) ∧ K.get p = some (.row false 1 [.map id]) ∧ K.get id = some (.map (rowM AV.str (fun e => AV.agg (celCh e.1 e.2)) l) c) ∧ View K 1 v (l.map fun e => [AV.str e.1]) := by
  intro i K hJ
  have cK := hch _ _ _ hJ
  have g : ∀ {j : Nat}, j < H.n → j ∉ F → K.get j = H.get j := fun {j} h1 h2 => by rw [cK.get j (Nat.lt_of_lt_of_le h1 c1.le) h2, c1.get j h1 (by simp), top_get]
  refine ⟨(g pa hF.1).trans ha, (g pb hF.2.1).trans hb, (g pp hF.2.2.1).trans hS.box, (g pi hF.2.2.2).trans hS.map, hV.chg ok1.1 cK fun h hm => ?_⟩
  have : l ≠ [] := by rintro rfl; simp at h
  have := hv1 this
  have := hFn _ hm
  simp only [top_n] at *; omega
 have hnn : l.length < 9223372036854775807 := by omega
 obtain ⟨x, st, s', f1, hQ, hp, hr, hH⟩ := loopK (T := T) (L := L56_0) rfl
  (fun n s => ∃ (j : Nat) (K : AHeap), j + n = l.length ∧ J H1 (cntE f t l j) K ∧ ((cntE f t l j = 0 ∧ K = H1) ∨ (0 < cntE f t l j ∧ K.low < H.n)) ∧ s = ⟨[(0, .v (.yield y)), (1, .v (.ptr a 0)), (2, .v (.ptr b 0)), (11, .v v), (12, .v (.int .i64 l.length)), (13, .v (.int .i64 j))], [], K⟩)
  (fun x s => (x = .exit 0 ∧ J H1 (cntE f t l l.length) s.H ∧ ((cntE f t l l.length = 0 ∧ s.H = H1) ∨ (0 < cntE f t l l.length ∧ s.H.low < H.n))) ∨ (x = .ret ∧ Q H1 s.H ∧ s.H.low < H.n ∧ 0 < cntE f t l l.length))
  (by
   rintro n _ ⟨j, K, hj, hJ, hlo, rfl⟩ P hI hX hR
   obtain ⟨ga, gb, gp, gi, hVK⟩ := at1 hJ
   have ra := rdAt_row ga
   have rb := rdAt_row gb
   have rp := rdAt_row gp
   by_cases hlt : j < l.length
   · have hlt' : (j : Int) < l.length := by omega
     have hw := wrap_id (n := (j : Int) + 1) (by omega) (by omega)
     obtain ⟨e, he⟩ : ∃ e, l[j]? = some e := ⟨l[j], List.getElem?_eq_getElem hlt⟩
     have hem : e ∈ l := List.mem_of_getElem? he
     have x1 := hVK.idx .i64 (n := j) (by omega) (by rw [List.length_map]; omega)
     have x2 := hVK.rd (i := j) (r := [AV.str e.1]) (by rw [List.getElem?_map, he]; rfl) false (k := 1) (f := 0) (by omega) (by omega) (by simp)
     simp only [Int.toNat_natCast, Nat.add_zero, Nat.mul_one] at x1 x2
     have x3 := sHas (H := K) hf ht (hkl e hem)
     have hlk : lookupA K .str false (.agg [.nils, (.bool false), (.int .i64 0), (.int .i64 0), (.str []), (.int .i64 0), (.int .i64 0), (.int .i64 0), (.int .i64 0), (.int .i64 0), (.str []), (.bool false)]) (.map id) (.str e.1) = some (.agg (celCh e.2.1.1 e.2.1.2)) := by
      rw [lookup_M KeyOk.str gi, mem_look ordS hS.sorted hem]; rfl
     have hs := cntE_succ (f := f) (t := t) he
     cases hh : hasB f t e.1 with
     | false =>
      rw [hh] at x3
      simp -implicitDefEqProofs [B56_0, hlt', hw, x1, x2, x3, ra, rb, rp]
      refine hI _ _ _ (n - 1) (by omega) ?_
      rw [if_neg (by unfold hasE; rw [hh]; simp)] at hs
      exact ⟨j + 1, K, by omega, by rw [hs]; exact hJ, by rw [hs]; exact hlo, by simp⟩
     | true =>
      rw [hh] at x3
      have hhe : hasE f t e = true := hh
      rw [if_pos hhe] at hs
      obtain ⟨q, K', y1, y2, y3, y4⟩ := hstep H1 _ K e c1 hd1 hJ (cntE_get he hhe)
      cases q with
      | true =>
       simp -implicitDefEqProofs [B56_0, hlt', hw, x1, x2, x3, ra, rb, rp, hlk, y1]
       refine hI _ _ _ (n - 1) (by omega) ?_
       exact ⟨j + 1, K', by omega, by rw [hs]; exact y3 rfl, .inr ⟨by omega, y2⟩, by simp⟩
      | false =>
       simp -implicitDefEqProofs [B56_0, hlt', hw, x1, x2, x3, ra, rb, rp, hlk, y1]
       refine hR _ ?_
       refine .inr ⟨rfl, y4 rfl, y2, ?_⟩
       have := cntE_get he hhe
       rw [cntE_le]
       have := (List.getElem?_eq_some_iff.1 this).1
       omega
   · have hj' : j = l.length := by omega
     subst hj'
     simp -implicitDefEqProofs [B56_0]
     refine hX _ _ ?_
     exact .inl ⟨rfl, hJ, hlo⟩)
  l.length ⟨[(0, .v (.yield y)), (1, .v (.ptr a 0)), (2, .v (.ptr b 0)), (11, .v v), (12, .v (.int .i64 l.length)), (13, .v (.int .i64 0))], [], H1⟩ (by simp [hvn]) ⟨0, H1, by omega, hst _ c1 hd1, .inl ⟨rfl, rfl⟩, by simp⟩
 have hfn : ∀ {P : AV × AHeap → Prop}, _ → OkR (call T 56 [.yield y, .ptr a 0, .ptr b 0] H) P := fun {P} h => call_evK (show T 56 = some (.ir ⟨_, _, _, _, _⟩) from T56) (by decide) PL56 rfl rfl h
 have ra := rdAt_row (H := H.top) ((top_get ..).trans ha)
 have rp := rdAt_row (H := H.top) ((top_get ..).trans hS.box)
 simp only [top_n] at e1 e2
 simp only [toSt_eq, List.map_cons, List.map_nil, av_v, av_l] at f1
 have hc : call T 56 [.yield y, .ptr a 0, .ptr b 0] H = some (.tuple [], Go.Wam.fin H (.tuple []) s'.H) := by
  refine okR_eq (hfn ?_)
  rcases hQ with ⟨rfl, h1, h2⟩ | ⟨rfl, h1, h2, h3⟩
  · simp -implicitDefEqProofs [ra, rp, e1, e2, hlen, hvn, f1, hH]
  · simp -implicitDefEqProofs [ra, rp, e1, e2, hlen, hvn, f1, hH]
 refine ⟨_, hc, ?_⟩
 rw [cntE_le] at hQ
 rcases hQ with ⟨rfl, h1, ⟨h2, h3⟩ | ⟨h2, h3⟩⟩ | ⟨rfl, h1, h2, h3⟩
 · exact .inl ⟨List.eq_nil_of_length_eq_zero h2, by rw [h3]; exact fin_drop' (by rw [lo1]; exact Nat.le_refl _) (by simp)⟩
 · exact .inr ⟨H1, s'.H, c1, hd1, fin_keep (.inl h3), .inl h1⟩
 · exact .inr ⟨H1, s'.H, c1, hd1, fin_keep (.inl h2), .inr h1⟩
end
end Go.Proofs.Ytgokjbjbdnbcdaa
set_option linter.unusedVariables false
set_option linter.unusedSimpArgs false
namespace Go.Proofs.Ytgokjbjbdnbcdaa
open Go.Wam
abbrev KC := List UInt8 × Ch
abbrev KP := List UInt8 × List UInt8
def readL (a l : Stp) (id ep : Int) : List KC → List KP → List Stp → List KP × List Stp × Option Mt
 | [], out, un => (out, un, none)
 | x :: r, out, un =>
  if out.length = 50 then (out, un, none)
  else if (readC x.2 a l id ep).2.2.2 = 81 then (out, un, some (readC x.2 a l id ep).2.2.1)
  else if (readC x.2 a l id ep).2.2.2 = 82 then readL a l id ep r out (un ++ [(readC x.2 a l id ep).1.at_])
  else if (readC x.2 a l id ep).2.1 = true then readL a l id ep r (out ++ [(x.1, (readC x.2 a l id ep).1.val)]) un
  else readL a l id ep r out un
def errL (q : List KP × List Stp × Option Mt) : Int := if q.2.2.isSome = true then 81 else if q.2.1 = [] then 0 else 82
def pairL (q : List KP × List Stp × Option Mt) : List KP := if errL q = 0 then q.1 else []
section
variable (a l : Stp) (id ep : Int)
theorem readC_err (c : Ch) : (readC c a l id ep).2.2.2 = 0 ∨ (readC c a l id ep).2.2.2 = 81 ∨ ((readC c a l id ep).2.2.2 = 82 ∧ (readC c a l id ep).2.1 = false) := by
 unfold readC
 repeat' split
 all_goals simp
end
end Go.Proofs.Ytgokjbjbdnbcdaa
set_option linter.unusedVariables false
set_option linter.unusedSimpArgs false
namespace Go.Proofs.Ytgokjbjbdnbcdaa
open Go.Wam
attribute [local simp] seqK_normal seqK_exit seqK_ret blockK_normal blockK_exit blockK_ret condO_bool evK_skip evK_exit evK_ret evK_keep evK_cond evK_block evK_seq_seq evK_seq_cond evK_seq_block evK_seq_loop evK_seq_skip evK_seq_keep evK_seq_exit evK_seq_ret prK_eq toSt_eq av_l av_v valS_v valT_v valS_u av_u valO_tmp
 nl_eq nl_none nl_if nlR_eq boxC_eq stL_eq storeP_ptr loadP_ptr fldP_ptr idxP_ptr inN_int callN_func strV_str fillC_nil fillC_cons pickV_bool guardK_bool kB_eq chk_some ifaceV_eq funcV_eq natV_int notL_noL leaveK_ret leaveK_normal rvsK_nil rvsK_cons rvK_tmp rvC_l rvC_v rvK_cell enterK_eq ok_l ok_v ok_u norm_eq norm_l norm_v norm_u
 Go.Wam.look zipI prune packA rd undefA allNoL convI convS lenStr lenMap extA fldV idxStr idxAgg idxS_slice idxS_oslice unA beq_same beqL_same AV.beq AV.beqL sliceV nilC clearW
 strOp aeqF_nil aeqF_cons andA_some i_add i_sub i_mul i_lss i_leq i_gtr i_geq i_quo i_rem i_eql i_neq s_eql s_neq s_lss
 s_leq s_gtr s_geq s_add e_bool n_bool e_nilp n_nilp e_ptr n_ptr e_lptr n_lptr e_agg n_agg
 e_nils n_nils e_slice n_slice e_oslice n_oslice e_eslice n_eslice e_xslice n_xslice e_nilm n_nilm e_map n_map
 e_nilFunc n_nilFunc e_func n_func q_int q_bool q_str q_struct q_ptr0 q_ptrL0 q_ptrR0 q_ptrL1 q_ptrR1 q_slice0
 q_sliceL0 q_sliceR0 q_sliceL1 q_sliceR1 q_sliceL2 q_sliceR2 q_sliceL3 q_sliceR3 q_map0 q_mapL0 q_mapR0 q_func0 q_funcL0 q_funcR0
 okR_some get_alloc_eq rdAt_alloc_eq set_alloc_eq set_alloc_ne get_alloc_ne rdAt_alloc_ne
attribute [local congr] bind_cg guardK_cg kB_cg condO_cg evK_cg
attribute [local simp] callN_yield ofSt_eq ofAV_v
def envRd (b : Nat) (w : AV) : List (Nat × AV) := [(8, .ptr b 0), (9, .ptr (b + 1) 0), (10, .ptr (b + 2) 0), (11, .ptr (b + 3) 0), (12, .ptr (b + 4) 0), (13, .ptr (b + 5) 0), (14, .ptr (b + 6) 0), (15, .ptr (b + 7) 0), (17, .ptr (b + 8) 0), (18, .ptr (b + 9) 0), (35, w)]
noncomputable def iaRd : IC := .seq (.region O16_7) (.keep [8, 9, 10, 11, 12, 13, 14, 15, 17, 18, 19, 37] [] (.region O16_8))
noncomputable def loopRd (b : Nat) (w : AV) (ls : LoopState) (pend : Option AExit) : AObj := .loop ls pend (envRd b w) [36, 37] iaRd Y16_0
def rowUn (s : Stp) : List AV := [.int .i64 s.1, .int .i64 s.2]
def rowP (x : KP) : List AV := [.str x.1, .str x.2]
structure RdBox (K : AHeap) (b : Nat) (w : AV) (at_ lim : Stp) (id ep : Int) (ls : LoopState) (pend : Option AExit) (c4 : AV) (m : Mt) (e : Int) (ov uv : AV) : Prop where
 g0 : K.get b = some (.row false 2 [.int .i64 at_.1, .int .i64 at_.2])
 g1 : K.get (b + 1) = some (.row false 2 [.int .i64 lim.1, .int .i64 lim.2])
 g2 : K.get (b + 2) = some (.row false 1 [.int .i64 id])
 g3 : K.get (b + 3) = some (.row false 1 [.int .i64 ep])
 g4 : K.get (b + 4) = some (.row false 1 [.nils])
 g5 : K.get (b + 5) = some (.row false 2 [.int .i64 0, .int .i64 0])
 g6 : K.get (b + 6) = some (.row false 5 (celMt m))
 g7 : K.get (b + 7) = some (.row false 1 [.int .i64 e])
 g8 : K.get (b + 8) = some (.row false 1 [ov])
 g9 : K.get (b + 9) = some (.row false 1 [uv])
 gl : K.get (b + 13) = some (loopRd b w ls pend)
theorem RdBox.frame {K L : AHeap} {b : Nat} {w : AV} {at_ lim : Stp} {id ep : Int} {ls : LoopState} {pend : Option AExit} {c4 : AV} {m : Mt} {e : Int} {ov uv : AV} (B : RdBox K b w at_ lim id ep ls pend c4 m e ov uv) (h : ∀ i, i ≤ b + 13 → L.get i = K.get i) : RdBox L b w at_ lim id ep ls pend c4 m e ov uv :=
 ⟨(h _ (by omega)).trans B.g0, (h _ (by omega)).trans B.g1, (h _ (by omega)).trans B.g2, (h _ (by omega)).trans B.g3, (h _ (by omega)).trans B.g4, (h _ (by omega)).trans B.g5, (h _ (by omega)).trans B.g6, (h _ (by omega)).trans B.g7, (h _ (by omega)).trans B.g8, (h _ (by omega)).trans B.g9, (h _ (by omega)).trans B.gl⟩
theorem RdBox.loop {K L : AHeap} {b : Nat} {w : AV} {at_ lim : Stp} {id ep : Int} {ls ls' : LoopState} {pend pend' : Option AExit} {c4 : AV} {m : Mt} {e : Int} {ov uv : AV} (B : RdBox K b w at_ lim id ep ls pend c4 m e ov uv) (h : ∀ i, i < b + 13 → L.get i = K.get i) (hl : L.get (b + 13) = some (loopRd b w ls' pend')) : RdBox L b w at_ lim id ep ls' pend' c4 m e ov uv :=
 ⟨(h _ (by omega)).trans B.g0, (h _ (by omega)).trans B.g1, (h _ (by omega)).trans B.g2, (h _ (by omega)).trans B.g3, (h _ (by omega)).trans B.g4, (h _ (by omega)).trans B.g5, (h _ (by omega)).trans B.g6, (h _ (by omega)).trans B.g7, (h _ (by omega)).trans B.g8, (h _ (by omega)).trans B.g9, hl⟩
theorem RdBox.out {K L : AHeap} {b : Nat} {w : AV} {at_ lim : Stp} {id ep : Int} {ls ls' : LoopState} {pend pend' : Option AExit} {c4 : AV} {m : Mt} {e : Int} {ov ov' uv : AV} (B : RdBox K b w at_ lim id ep ls pend c4 m e ov uv) (h : ∀ i, i < b + 13 → i ≠ b + 8 → L.get i = K.get i) (h8 : L.get (b + 8) = some (.row false 1 [ov'])) (hl : L.get (b + 13) = some (loopRd b w ls' pend')) : RdBox L b w at_ lim id ep ls' pend' c4 m e ov' uv :=
 ⟨(h _ (by omega) (by omega)).trans B.g0, (h _ (by omega) (by omega)).trans B.g1, (h _ (by omega) (by omega)).trans B.g2, (h _ (by omega) (by omega)).trans B.g3, (h _ (by omega) (by omega)).trans B.g4, (h _ (by omega) (by omega)).trans B.g5, (h _ (by omega) (by omega)).trans B.g6, (h _ (by omega) (by omega)).trans B.g7, h8, (h _ (by omega) (by omega)).trans B.g9, hl⟩
theorem RdBox.uns {K L : AHeap} {b : Nat} {w : AV} {at_ lim : Stp} {id ep : Int} {ls ls' : LoopState} {pend pend' : Option AExit} {c4 : AV} {m : Mt} {e : Int} {ov uv uv' : AV} (B : RdBox K b w at_ lim id ep ls pend c4 m e ov uv) (h : ∀ i, i < b + 13 → i ≠ b + 9 → L.get i = K.get i) (h9 : L.get (b + 9) = some (.row false 1 [uv'])) (hl : L.get (b + 13) = some (loopRd b w ls' pend')) : RdBox L b w at_ lim id ep ls' pend' c4 m e ov uv' :=
 ⟨(h _ (by omega) (by omega)).trans B.g0, (h _ (by omega) (by omega)).trans B.g1, (h _ (by omega) (by omega)).trans B.g2, (h _ (by omega) (by omega)).trans B.g3, (h _ (by omega) (by omega)).trans B.g4, (h _ (by omega) (by omega)).trans B.g5, (h _ (by omega) (by omega)).trans B.g6, (h _ (by omega) (by omega)).trans B.g7, (h _ (by omega) (by omega)).trans B.g8, h9, hl⟩
section
variable {K : AHeap}
set_option maxHeartbeats 16000000 in
theorem rdRound {b : Nat} {w : AV} {at_ lim : Stp} {id ep : Int} {ov uv : AV} {o : List KP} {u : List Stp} {k : List UInt8} {v : AV} {c : Ch} (hok : K.ok) (hb : b + 13 < K.n) (hwn : w.notL = true)
    (B : RdBox K b w at_ lim id ep .ready none .nils zMt 0 ov uv) (hO : Go.Wam.Own K 2 ov (o.map rowP)) (hU : Go.Wam.Own K 2 uv (u.map rowUn)) (hOn : ∀ i ∈ sown ov, b + 13 < i) (hUn : ∀ i ∈ sown uv, b + 13 < i) (hd : ∀ i ∈ sown ov, i ∉ sown uv)
    (ho : o.length ≤ 50) (hu : u.length < 4398046511104) (hS : SV K 5 v (c.L.map rowVe)) (hvb : 0 < c.L.length → sid v ≠ b + 13) (hl : c.L.length < 1000000000000000) :
    ∃ q K', call T yieldF [.ptr (b + 13) 0, .str k, .agg (celCh v c)] K = some (.bool q, K') ∧ K'.ok ∧ K'.low ≤ b + 13 ∧ Chg ([b + 4, b + 5, b + 6, b + 7, b + 8, b + 9, b + 13] ++ sown ov ++ sown uv) K K' ∧
     ((o.length = 50 ∧ q = false ∧ RdBox K' b w at_ lim id ep .done (some (.exit 0)) .nils zMt 0 ov uv ∧ Go.Wam.Own K' 2 ov (o.map rowP) ∧ Go.Wam.Own K' 2 uv (u.map rowUn)) ∨
      (o.length ≠ 50 ∧ (readC c at_ lim id ep).2.2.2 = 81 ∧ q = false ∧ RdBox K' b w at_ lim id ep .done (some .ret) .nils (readC c at_ lim id ep).2.2.1 81 ov uv) ∨
      (o.length ≠ 50 ∧ (readC c at_ lim id ep).2.2.2 = 82 ∧ q = true ∧ ∃ uv', RdBox K' b w at_ lim id ep .ready none .nils zMt 0 ov uv' ∧ Go.Wam.Own K' 2 ov (o.map rowP) ∧ Go.Wam.Own K' 2 uv' ((u ++ [(readC c at_ lim id ep).1.at_]).map rowUn) ∧ ∀ i ∈ sown uv', i ∈ sown uv ∨ K.n ≤ i) ∨
      (o.length ≠ 50 ∧ (readC c at_ lim id ep).2.2.2 = 0 ∧ q = true ∧ (readC c at_ lim id ep).2.1 = true ∧ ∃ ov', RdBox K' b w at_ lim id ep .ready none .nils zMt 0 ov' uv ∧ Go.Wam.Own K' 2 ov' ((o ++ [(k, (readC c at_ lim id ep).1.val)]).map rowP) ∧ Go.Wam.Own K' 2 uv (u.map rowUn) ∧ ∀ i ∈ sown ov', i ∈ sown ov ∨ K.n ≤ i) ∨
      (o.length ≠ 50 ∧ (readC c at_ lim id ep).2.2.2 = 0 ∧ q = true ∧ (readC c at_ lim id ep).2.1 = false ∧ RdBox K' b w at_ lim id ep .ready none .nils zMt 0 ov uv ∧ Go.Wam.Own K' 2 ov (o.map rowP) ∧ Go.Wam.Own K' 2 uv (u.map rowUn))) := by
 obtain ⟨K0, hK0⟩ : ∃ K0, K0 = (K.withd []).set (b + 13) (loopRd b w .busy none) := ⟨_, rfl⟩
 have gl0 : (K.withd []).get (b + 13) = some (loopRd b w .ready none) := by rw [withd_get]; exact B.gl
 have hI : ∀ e l, yI (call T) (den T) Y16_0 (b + 13) K.dfs .normal ⟨e, l, K.withd []⟩ = evK (call T) (den T) Y16_0 ⟨e, l, K0⟩ (yK (b + 13) K.dfs) := fun e l => by
  rw [hK0]; exact yI_normal (C := call T) (D := den T) (ib := Y16_0) (d := K.dfs) gl0 e l
 have hYe := fun s k => evK_unf (T := T) (R := AV × AHeap) Y16_0.eq_1 s k
 have hY : ∀ x s, s.H.dfs = [] → s.H.get (b + 13) = some (loopRd b w .busy none) → yK (b + 13) K.dfs x s = some (.bool (yieldT x), (s.H.set (b + 13) (loopRd b w (yLs x) (yPend x))).withd K.dfs) := fun x s h1 h2 => yK_eq h1 h2
 have wok := withd_ok [] hok
 have c0 : Chg [b + 13] (K.withd []) K0 := by rw [hK0]; exact .set _ _ _
 have c0' : Chg [b + 13] K K0 := ((Chg.withd K []).mono (by simp)).trans hok c0 (by simp)
 have ok0 := c0.ok wok
 have d0 : K0.dfs = [] := by rw [hK0]; rfl
 have n0 : K0.n = K.n := by rw [hK0]; rfl
 have lo0 : K0.low ≤ b + 13 := by rw [hK0, AHeap.set_low]; split <;> omega
 have gn : ∀ j, j ≠ b + 13 → K0.get j = K.get j := fun j hj => by rw [hK0, get_set_ne _ _ hj, withd_get]
 have gb : K0.get (b + 13) = some (loopRd b w .busy none) := by rw [hK0]; exact get_set_same _ _ wok.1 (by rw [gl0]; rfl)
 have r0 := rdAt_row ((gn b (by omega)).trans B.g0)
 have r1 := rdAt_row ((gn (b + 1) (by omega)).trans B.g1)
 have r2 := rdAt_row ((gn (b + 2) (by omega)).trans B.g2)
 have r3 := rdAt_row ((gn (b + 3) (by omega)).trans B.g3)
 have g8 := (gn (b + 8) (by omega)).trans B.g8
 have g9 := (gn (b + 9) (by omega)).trans B.g9
 have r8 := rdAt_row g8
 have r9 := rdAt_row g9
 have hO0 : Go.Wam.Own K0 2 ov (o.map rowP) := hO.frame fun i hi => gn i (by have := hOn i hi; omega)
 have hU0 : Go.Wam.Own K0 2 uv (u.map rowUn) := hU.frame fun i hi => gn i (by have := hUn i hi; omega)
 have hS0 : SV K0 5 v (c.L.map rowVe) := ⟨hS.view.frame fun h => gn _ (hvb (by simpa using h)), by rw [n0]; exact hS.ok⟩
 have hvn := hS.view.noL
 have hvc := hS.view.cells
 have hon := hO.view.noL
 have hun := hU.view.noL
 have lo := hO.view.lenS
 rw [List.length_map] at lo
 have hcall : ∀ {P : AV × AHeap → Prop}, _ → OkR (call T yieldF [.ptr (b + 13) 0, .str k, .agg (celCh v c)] K) P := fun {P} h => yield_evKI (T := T) (vs := [.str k, .agg (celCh v c)]) B.gl rfl h
 obtain ⟨L, op, ⟨mid, mep, manc, mw, mg⟩, seq, iat, ival, igone⟩ := c
 have er := vRead (H := K0) hS0 hl op mid mep manc mw mg seq iat ival igone at_ lim id ep
 unfold celCh celIt at hcall ⊢
 simp only at hcall ⊢ er hS0 hS hl
 generalize hq : readC ⟨L, op, ⟨mid, mep, manc, mw, mg⟩, seq, iat, ival, igone⟩ at_ lim id ep = q at er ⊢
 have hqe := readC_err at_ lim id ep ⟨L, op, ⟨mid, mep, manc, mw, mg⟩, seq, iat, ival, igone⟩
 rw [hq] at hqe
 obtain ⟨⟨rat, rval, rgone, rby⟩, rb, ⟨nid, nep, nanc, nw, ng⟩, re⟩ := q
 simp only [outR, rowVe, celMt] at er hqe ⊢
 have g4 := (gn (b + 4) (by omega)).trans B.g4
 have g5 := (gn (b + 5) (by omega)).trans B.g5
 have g6 := (gn (b + 6) (by omega)).trans B.g6
 have g7 := (gn (b + 7) (by omega)).trans B.g7
 simp only [celMt] at g6
 have fin : ∀ (X : AHeap) (y : AObj), X.ok → X.low ≤ b + 13 → X.n ≥ K.n → Chg ([b + 4, b + 5, b + 6, b + 7, b + 8, b + 9, b + 13] ++ sown ov ++ sown uv) K X → (X.get (b + 13)).isSome = true →
     ((X.set (b + 13) y).withd K.dfs).ok ∧ ((X.set (b + 13) y).withd K.dfs).low ≤ b + 13 ∧ Chg ([b + 4, b + 5, b + 6, b + 7, b + 8, b + 9, b + 13] ++ sown ov ++ sown uv) K ((X.set (b + 13) y).withd K.dfs) ∧ (∀ j, j ≠ b + 13 → ((X.set (b + 13) y).withd K.dfs).get j = X.get j) ∧ ((X.set (b + 13) y).withd K.dfs).get (b + 13) = some y := by
  intro X y h1 h2 h3 h4 h5
  have s1 := (Chg.set X (b + 13) y).ok h1
  refine ⟨withd_ok _ s1, ?_, (h4.trans hok (.set _ _ _) (by simp)).trans hok (.withd _ _) (by simp), fun j hj => ?_, ?_⟩
  · rw [withd_low, AHeap.set_low]; split <;> omega
  · rw [withd_get, get_set_ne _ _ hj]
  · rw [withd_get]; exact get_set_same _ _ h1.1 h5
 by_cases h50 : o.length = 50
 · rw [h50] at lo
   obtain ⟨f1, f2, f3, f4, f5⟩ := fin K0 (loopRd b w .done (some (.exit 0))) ok0 lo0 (by omega) (c0'.mono (by simp)) (by rw [gb]; rfl)
   refine ⟨false, ((K0.set (b + 13) (loopRd b w .done (some (.exit 0)))).withd K.dfs), okR_eq (hcall ?_), f1, f2, f3, .inl ⟨h50, rfl, B.loop (fun i hi => (f4 i (by omega)).trans (gn i (by omega))) f5, hO0.frame fun i hi => f4 i (by have := hOn i hi; omega), hU0.frame fun i hi => f4 i (by have := hUn i hi; omega)⟩⟩
   simp -implicitDefEqProofs [iaRd, envRd, hYe, hvn, hvc, hwn, hI, hY, r8, lo, hon, d0, gb, yieldT, yLs, yPend]
 have h50' : ¬ (o.length : Int) = 50 := by omega
 have ne : ∀ i j : Nat, i ≠ j → b + i ≠ b + j := fun i j h => by omega
 rcases hqe with rfl | rfl | ⟨rfl, rfl⟩
 · cases rb with
   | true =>
    have cA := Chg.alloc K0 (.row false 2 [.str k, .str rval])
    have okA := cA.ok ok0
    obtain ⟨ov', K2, a1, o1, c1, n1, l1, vn⟩ := (hO0.new ok0.1 cA).append' (bytes := 32) okA (one_view K0 2 [.str k, .str rval] rfl) (by omega) (by rw [List.length_map]; simp; omega)
    have ok2 := c1.ok okA
    have d2 : K2.dfs = [] := (appendA_dfs a1).trans d0
    have on2 : K0.n + 1 ≤ K2.n := c1.le
    have g2' : ∀ j, j ≤ b + 13 → K2.get j = K0.get j := fun j hj => by
     rw [c1.get j (by have : (K0.alloc (.row false 2 [.str k, .str rval])).n = K0.n + 1 := rfl; omega) (fun h => by have := hOn j h; omega), get_alloc_lt _ _ (by omega)]
    have h8 := (g2' (b + 8) (by omega)).trans g8
    have hb2 := (g2' (b + 13) (by omega)).trans gb
    have vc := o1.view.cells
    obtain ⟨f1, f2, f3, f4, f5⟩ := fin (K2.set (b + 8) (.row false 1 [ov'])) (loopRd b w .ready none) ((Chg.set _ _ _).ok ok2) (by rw [AHeap.set_low]; have := c1.lo; have : (K0.alloc (.row false 2 [.str k, .str rval])).low = K0.low := rfl; split <;> omega) (by simp; omega)
     (((((c0'.mono (by simp)).trans hok (cA.mono (by simp : ∀ i ∈ [], i ∈ ([] : List Nat))) (by simp)).trans hok c1 (fun i hi => .inl (by simp [hi]))).trans hok (.set _ _ _) (by simp))) (by rw [get_set_ne _ _ (by omega), hb2]; rfl)
    refine ⟨true, (((K2.set (b + 8) (.row false 1 [ov'])).set (b + 13) (loopRd b w .ready none)).withd K.dfs), okR_eq (hcall ?_), f1, f2, f3, .inr (.inr (.inr (.inl ⟨h50, rfl, rfl, rfl, ov', B.out (fun i hi h => ?_) ?_ f5, ?_, ?_, fun i hi => ?_⟩)))⟩
    · simp -implicitDefEqProofs [iaRd, envRd, hYe, hvn, hvc, hwn, hI, hY, r0, r1, r2, r3, r8, lo, hon, h50', er, d0, gb, yieldT, yLs, yPend, a1, vn, vc, h8, d2, hb2, get_set_ne]
    · rw [f4 i (by omega), get_set_ne _ _ h, g2' i (by omega), gn i (by omega)]
    · rw [f4 _ (by omega)]; exact get_set_same _ _ ok2.1 (by rw [h8]; rfl)
    · rw [List.map_append]
      exact o1.frame fun i hi => by
       have hi' : b + 13 < i := by
        rcases n1 i hi with h | h
        · exact hOn i h
        · have : (K0.alloc (.row false 2 [.str k, .str rval])).n = K0.n + 1 := rfl
          omega
       rw [f4 i (by omega), get_set_ne _ _ (by omega)]
    · refine (hU0.new ok0.1 cA).frame fun i hi => ?_
      have := hUn i hi
      have hlt := hU0.lt ok0.1 i hi
      rw [f4 i (by omega), get_set_ne _ _ (by omega), c1.get i (Nat.lt_succ_of_lt hlt) (fun h => hd i h hi)]
    · rcases n1 i hi with h | h
      · exact .inl h
      · right; have : (K0.alloc (.row false 2 [.str k, .str rval])).n = K0.n + 1 := rfl
        omega
   | false =>
    obtain ⟨f1, f2, f3, f4, f5⟩ := fin K0 (loopRd b w .ready none) ok0 lo0 (by omega) (c0'.mono (by simp)) (by rw [gb]; rfl)
    refine ⟨true, ((K0.set (b + 13) (loopRd b w .ready none)).withd K.dfs), okR_eq (hcall ?_), f1, f2, f3, .inr (.inr (.inr (.inr ⟨h50, rfl, rfl, rfl, B.loop (fun i hi => (f4 i (by omega)).trans (gn i (by omega))) f5, hO0.frame fun i hi => f4 i (by have := hOn i hi; omega), hU0.frame fun i hi => f4 i (by have := hUn i hi; omega)⟩)))⟩
    simp -implicitDefEqProofs [iaRd, envRd, hYe, hvn, hvc, hwn, hI, hY, r0, r1, r2, r3, r8, lo, hon, h50', er, d0, gb, yieldT, yLs, yPend]
 · obtain ⟨X, hX⟩ : ∃ X, X = (((K0.set (b + 4) (.row false 1 [.nils])).set (b + 5) (.row false 2 [.int .i64 0, .int .i64 0])).set (b + 6) (.row false 5 [.int .i64 nid, .int .i64 nep, .str nanc, .int .i64 nw, .int .i64 ng])).set (b + 7) (.row false 1 [.int .i64 81]) := ⟨_, rfl⟩
   have hK : ∀ j, j < b + 4 ∨ (b + 7 < j) → X.get j = K0.get j := fun j hj => by
    rw [hX, get_set_ne _ _ (by omega), get_set_ne _ _ (by omega), get_set_ne _ _ (by omega), get_set_ne _ _ (by omega)]
   have c4 : Chg [b + 4] K0 (K0.set (b + 4) (.row false 1 [.nils])) := .set _ _ _
   have cX : Chg [b + 4, b + 5, b + 6, b + 7] K0 X := by
    rw [hX]
    exact ((((c4.mono (by simp)).trans ok0 (.set _ _ _) (by simp)).trans ok0 (.set _ _ _) (by simp)).trans ok0 (.set _ _ _) (by simp))
   have okX := cX.ok ok0
   have nX : X.n = K0.n := by rw [hX]; rfl
   have e4 : X.get (b + 4) = some (.row false 1 [.nils]) := by
    rw [hX, get_set_ne _ _ (by omega), get_set_ne _ _ (by omega), get_set_ne _ _ (by omega)]; exact get_set_same _ _ ok0.1 (by rw [g4]; rfl)
   have ok5 := (Chg.set K0 (b + 4) (.row false 1 [.nils])).ok ok0
   have e5 : X.get (b + 5) = some (.row false 2 [.int .i64 0, .int .i64 0]) := by
    rw [hX, get_set_ne _ _ (by omega), get_set_ne _ _ (by omega)]; exact get_set_same _ _ ok5.1 (by rw [get_set_ne _ _ (by omega), g5]; rfl)
   have ok6 := (Chg.set (K0.set (b + 4) (.row false 1 [.nils])) (b + 5) (.row false 2 [.int .i64 0, .int .i64 0])).ok ok5
   have e6 : X.get (b + 6) = some (.row false 5 [.int .i64 nid, .int .i64 nep, .str nanc, .int .i64 nw, .int .i64 ng]) := by
    rw [hX, get_set_ne _ _ (by omega)]; exact get_set_same _ _ ok6.1 (by rw [get_set_ne _ _ (by omega), get_set_ne _ _ (by omega), g6]; rfl)
   have ok7 := (Chg.set ((K0.set (b + 4) (.row false 1 [.nils])).set (b + 5) (.row false 2 [.int .i64 0, .int .i64 0])) (b + 6) (.row false 5 [.int .i64 nid, .int .i64 nep, .str nanc, .int .i64 nw, .int .i64 ng])).ok ok6
   have e7 : X.get (b + 7) = some (.row false 1 [.int .i64 81]) := by
    rw [hX]; exact get_set_same _ _ ok7.1 (by rw [get_set_ne _ _ (by omega), get_set_ne _ _ (by omega), get_set_ne _ _ (by omega), g7]; rfl)
   obtain ⟨f1, f2, f3, f4, f5⟩ := fin X (loopRd b w .done (some .ret)) okX (Nat.le_trans cX.lo lo0) (by omega) ((c0'.mono (by simp)).trans hok cX (fun i hi => .inl (by simp at hi ⊢; omega))) (by rw [hK _ (by omega), gb]; rfl)
   refine ⟨false, (X.set (b + 13) (loopRd b w .done (some .ret))).withd K.dfs, okR_eq (hcall ?_), f1, f2, f3, .inr (.inl ⟨h50, rfl, rfl, ?_⟩)⟩
   · rw [hX]
     simp -implicitDefEqProofs [iaRd, envRd, hYe, hvn, hvc, hwn, hI, hY, r0, r1, r2, r3, r8, lo, hon, h50', er, d0, gb, yieldT, yLs, yPend, g4, g5, g6, g7, get_set_ne]
   · have g : ∀ j, j < b + 4 ∨ (b + 7 < j ∧ j < b + 13) → ((X.set (b + 13) (loopRd b w .done (some .ret))).withd K.dfs).get j = K.get j := fun j hj => by rw [f4 j (by omega), hK j (by omega), gn j (by omega)]
     exact ⟨(g _ (by omega)).trans B.g0, (g _ (by omega)).trans B.g1, (g _ (by omega)).trans B.g2, (g _ (by omega)).trans B.g3, (f4 _ (by omega)).trans e4, (f4 _ (by omega)).trans e5, (f4 _ (by omega)).trans e6, (f4 _ (by omega)).trans e7, (g _ (by omega)).trans B.g8, (g _ (by omega)).trans B.g9, f5⟩
 · have cA := Chg.alloc K0 (.row false 2 [.int .i64 rat.1, .int .i64 rat.2])
   have okA := cA.ok ok0
   have lu := hun
   obtain ⟨uv', K2, a1, o1, c1, n1, l1, vn⟩ := (hU0.new ok0.1 cA).append' (bytes := 16) okA (one_view K0 2 [.int .i64 rat.1, .int .i64 rat.2] rfl) (by omega) (by rw [List.length_map]; simp; omega)
   have ok2 := c1.ok okA
   have d2 : K2.dfs = [] := (appendA_dfs a1).trans d0
   have on2 : K0.n + 1 ≤ K2.n := c1.le
   have nA : (K0.alloc (.row false 2 [.int .i64 rat.1, .int .i64 rat.2])).n = K0.n + 1 := rfl
   have g2' : ∀ j, j ≤ b + 13 → K2.get j = K0.get j := fun j hj => by
    rw [c1.get j (by omega) (fun h => by have := hUn j h; omega), get_alloc_lt _ _ (by omega)]
   have h9 := (g2' (b + 9) (by omega)).trans g9
   have hb2 := (g2' (b + 13) (by omega)).trans gb
   have vc := o1.view.cells
   obtain ⟨f1, f2, f3, f4, f5⟩ := fin (K2.set (b + 9) (.row false 1 [uv'])) (loopRd b w .ready none) ((Chg.set _ _ _).ok ok2) (by rw [AHeap.set_low]; have := c1.lo; have : (K0.alloc (.row false 2 [.int .i64 rat.1, .int .i64 rat.2])).low = K0.low := rfl; split <;> omega) (by simp; omega)
    (((((c0'.mono (by simp)).trans hok (cA.mono (by simp : ∀ i ∈ [], i ∈ ([] : List Nat))) (by simp)).trans hok c1 (fun i hi => .inl (by simp [hi]))).trans hok (.set _ _ _) (by simp))) (by rw [get_set_ne _ _ (by omega), hb2]; rfl)
   refine ⟨true, (((K2.set (b + 9) (.row false 1 [uv'])).set (b + 13) (loopRd b w .ready none)).withd K.dfs), okR_eq (hcall ?_), f1, f2, f3, .inr (.inr (.inl ⟨h50, rfl, rfl, uv', B.uns (fun i hi h => ?_) ?_ f5, ?_, ?_, fun i hi => ?_⟩))⟩
   · simp -implicitDefEqProofs [iaRd, envRd, hYe, hvn, hvc, hwn, hI, hY, r0, r1, r2, r3, r8, r9, lo, hon, hun, h50', er, d0, gb, yieldT, yLs, yPend, a1, vn, vc, h9, d2, hb2, get_set_ne]
   · rw [f4 i (by omega), get_set_ne _ _ h, g2' i (by omega), gn i (by omega)]
   · rw [f4 _ (by omega)]; exact get_set_same _ _ ok2.1 (by rw [h9]; rfl)
   · refine (hO0.new ok0.1 cA).frame fun i hi => ?_
     have := hOn i hi
     have hlt := hO0.lt ok0.1 i hi
     rw [f4 i (by omega), get_set_ne _ _ (by omega), c1.get i (Nat.lt_succ_of_lt hlt) (fun h => hd i hi h)]
   · rw [List.map_append]
     exact o1.frame fun i hi => by
      have hi' : b + 13 < i := by
       rcases n1 i hi with h | h
       · exact hUn i h
       · omega
      rw [f4 i (by omega), get_set_ne _ _ (by omega)]
   · rcases n1 i hi with h | h
     · exact .inl h
     · right; omega
end
attribute [local simp] callN_yield ofSt_eq ofAV_v
def kc (e : List UInt8 × (AV × Ch) × Nat) : KC := (e.1, e.2.1.2)
def inE (f t : List UInt8) (l : MM (List UInt8) (AV × Ch)) : List KC := (l.filter (hasE f t)).map kc
section
variable {H G : AHeap}
set_option maxHeartbeats 8000000 in
theorem rdRange {b p id0 c : Nat} {l : MM (List UInt8) (AV × Ch)} {f t : List UInt8} {at_ lim : Stp} {id ep : Int} {w : AV} (hok : H.ok) (hb : b = H.n) (hS : StoreAt H p id0 c l) (hf : Small f) (ht : Small t) (hkl : ∀ e ∈ l, Small e.1) (hsz : l.length < 1000000000) (hcl : ∀ e ∈ l, e.2.1.2.L.length < 1000000000)
    (hG : Chg [] H.top G) (hGn : G.n = b + 12) (hGd : G.dfs = []) (hw : w = .func (.func 56) [] [.ptr (b + 10) 0, .ptr (b + 11) 0])
    (g0 : G.get b = some (.row false 2 [.int .i64 at_.1, .int .i64 at_.2])) (g1 : G.get (b + 1) = some (.row false 2 [.int .i64 lim.1, .int .i64 lim.2])) (g2 : G.get (b + 2) = some (.row false 1 [.int .i64 id])) (g3 : G.get (b + 3) = some (.row false 1 [.int .i64 ep]))
    (g4 : G.get (b + 4) = some (.row false 1 [.nils])) (g5 : G.get (b + 5) = some (.row false 2 [.int .i64 0, .int .i64 0])) (g6 : G.get (b + 6) = some (.row false 5 (celMt zMt))) (g7 : G.get (b + 7) = some (.row false 1 [.int .i64 0])) (g8 : G.get (b + 8) = some (.row false 1 [.nils])) (g9 : G.get (b + 9) = some (.row false 1 [.nils]))
    (ga : G.get (b + 10) = some (.row false 1 [.ptr p 0])) (gb : G.get (b + 11) = some (.row false 2 [.str f, .str t])) :
    ∃ x G' o u mm, den T (.block 0 (.rangeF (.tmp 35) [36, 37] iaRd Y16_0)) ⟨envRd b w, [], G⟩ = some (x, ⟨envRd b w, [], G'⟩) ∧ G'.dfs = [.mark (b + 12)] ∧ G'.get (b + 12) = some .dfd ∧ Chg [] H.top G' ∧ readL at_ lim id ep (inE f t l) [] [] = (o, u, mm) ∧
     ((x = .normal ∧ mm = none ∧ ∃ ov uv, G'.get (b + 4) = some (.row false 1 [.nils]) ∧ G'.get (b + 5) = some (.row false 2 [.int .i64 0, .int .i64 0]) ∧ G'.get (b + 6) = some (.row false 5 (celMt zMt)) ∧ G'.get (b + 7) = some (.row false 1 [.int .i64 0]) ∧ G'.get (b + 8) = some (.row false 1 [ov]) ∧ G'.get (b + 9) = some (.row false 1 [uv]) ∧ Go.Wam.Own G' 2 ov (o.map rowP) ∧ Go.Wam.Own G' 2 uv (u.map rowUn) ∧ (∀ i ∈ sown ov, b + 14 ≤ i) ∧ (∀ i ∈ sown uv, b + 14 ≤ i) ∧ u.length ≤ l.length ∧ (o = [] → ov = .nils)) ∨
      (x = .ret ∧ ∃ m, mm = some m ∧ G'.get (b + 4) = some (.row false 1 [.nils]) ∧ G'.get (b + 5) = some (.row false 2 [.int .i64 0, .int .i64 0]) ∧ G'.get (b + 6) = some (.row false 5 (celMt m)) ∧ G'.get (b + 7) = some (.row false 1 [.int .i64 81]))) := by
 have hokT := AHeap.ok.top hok.1
 have okG := hG.ok hokT
 obtain ⟨G2, hG2⟩ : ∃ G2, G2 = (G.alloc .dfd).alloc (loopRd b w .ready none) := ⟨_, rfl⟩
 have n1 : (G.alloc .dfd).n = b + 13 := by simp [hGn]
 have n2 : G2.n = b + 14 := by rw [hG2]; simp [hGn]
 have cG2 : Chg [] G G2 := by rw [hG2]; exact (Chg.alloc _ _).trans okG (.alloc _ _) (by simp)
 have cH2 : Chg [] H.top G2 := hG.trans hokT cG2 (by simp)
 have ok2 := cG2.ok okG
 have q : ∀ j, j < b + 12 → G2.get j = G.get j := fun j hj => cG2.get j (by omega) (by simp)
 have gl : G2.get (b + 13) = some (loopRd b w .ready none) := by rw [hG2, ← n1]; exact get_alloc_same _ _
 have gd : G2.get (b + 12) = some .dfd := by
  rw [hG2, get_alloc_lt _ _ (by omega), ← hGn]; exact get_alloc_same _ _
 have B2 : RdBox G2 b w at_ lim id ep .ready none .nils zMt 0 .nils .nils :=
  ⟨(q _ (by omega)).trans g0, (q _ (by omega)).trans g1, (q _ (by omega)).trans g2, (q _ (by omega)).trans g3, (q _ (by omega)).trans g4, (q _ (by omega)).trans g5, (q _ (by omega)).trans g6, (q _ (by omega)).trans g7, (q _ (by omega)).trans g8, (q _ (by omega)).trans g9, gl⟩
 have hS2 : StoreAt G2 p id0 c l := hS.top.frame hokT cH2
 have hp := AHeap.get_lt hS.box hok.1
 have hi0 := AHeap.get_lt hS.map hok.1
 have wl : w.notL = true := by subst hw; rfl
 have hen : envNoL (envRd b w) = envRd b w := by subst hw; rfl
 obtain ⟨K', e1, e2⟩ := kIn1 (H := G2) (y := b + 13) (a := b + 10) (b := b + 11) ok2 hS2 hf ht hkl ((q _ (by omega)).trans ga) ((q _ (by omega)).trans gb) (by omega)
  (fun H1 i K => K.ok ∧ ∃ ov uv o u, RdBox K b w at_ lim id ep .ready none .nils zMt 0 ov uv ∧ Go.Wam.Own K 2 ov (o.map rowP) ∧ Go.Wam.Own K 2 uv (u.map rowUn) ∧ (∀ i ∈ sown ov, H1.n ≤ i) ∧ (∀ i ∈ sown uv, H1.n ≤ i) ∧ (∀ i ∈ sown ov, i ∉ sown uv) ∧ Chg [b + 4, b + 5, b + 6, b + 7, b + 8, b + 9, b + 13] H1 K ∧ readL at_ lim id ep ((inE f t l).drop i) o u = readL at_ lim id ep (inE f t l) [] [] ∧ o.length ≤ 50 ∧ u.length ≤ i ∧ (o = [] → ov = .nils))
  (fun H1 K => K.ok ∧ Chg [b + 4, b + 5, b + 6, b + 7, b + 8, b + 9, b + 13] H1 K ∧ ∃ ov uv o u, ((RdBox K b w at_ lim id ep .done (some (.exit 0)) .nils zMt 0 ov uv ∧ Go.Wam.Own K 2 ov (o.map rowP) ∧ Go.Wam.Own K 2 uv (u.map rowUn) ∧ (∀ i ∈ sown ov, H1.n ≤ i) ∧ (∀ i ∈ sown uv, H1.n ≤ i) ∧ u.length ≤ l.length ∧ (o = [] → ov = .nils) ∧ readL at_ lim id ep (inE f t l) [] [] = (o, u, none)) ∨
   ∃ m, RdBox K b w at_ lim id ep .done (some .ret) .nils m 81 ov uv ∧ readL at_ lim id ep (inE f t l) [] [] = (o, u, some m)))
  [b + 4, b + 5, b + 6, b + 7, b + 8, b + 9, b + 13] (by simp; omega) (by simp; omega)
  (fun H1 c1 d1 => ⟨c1.ok (AHeap.ok.top ok2.1), .nils, .nils, [], [], B2.frame fun i hi => (c1.get i (by simp; omega) (by simp)).trans (top_get ..), .nil _ _, .nil _ _, by simp, by simp, by simp, .refl _ _, by simp, by simp, by simp, by simp⟩)
  (fun H1 i K hJ => by obtain ⟨_, ov, uv, o, u, _, _, _, _, _, _, c1, _⟩ := hJ; exact c1)
  (by
   rintro H1 i K e c1 d1 ⟨okK, ov, uv, o, u, B, hO, hU, hOn, hUn, hd, cK, hr, ho, hu, hz⟩ he
   have hel : e ∈ l := (List.mem_filter.1 (List.mem_of_getElem? he)).1
   have hv0 := hS.view e hel
   have n3 : b + 14 ≤ H1.n := by have := c1.le; simp only [top_n] at this; omega
   have gK : ∀ j, j < b → K.get j = H.get j := fun j hj => by
    rw [cK.get j (by omega) (by simp; omega), c1.get j (by simp; omega) (by simp), top_get, cH2.get j (by simp; omega) (by simp), top_get]
   have hi : i < (l.filter (hasE f t)).length := (List.getElem?_eq_some_iff.1 he).1
   have hil : (l.filter (hasE f t)).length ≤ l.length := List.length_filter_le _ _
   have nK0 := cK.le
   have hvK : SV K 5 e.2.1.1 (e.2.1.2.L.map rowVe) := ⟨hv0.view.frame fun h => gK _ (by have := hv0.view.lt hok.1 h; omega), okB_sl hv0.view.sl hv0.ok (by omega)⟩
   have nK := cK.le
   obtain ⟨q, K', r1, r2, r3, r4, r5⟩ := rdRound (k := e.1) (v := e.2.1.1) (c := e.2.1.2) okK (by omega) wl B hO hU (fun i hi => by have := hOn i hi; omega) (fun i hi => by have := hUn i hi; omega) hd ho (by omega) hvK
    (fun h => by have := hv0.view.lt hok.1 (by simpa using h); omega) (by have := hcl e hel; omega)
   have cK' : Chg [b + 4, b + 5, b + 6, b + 7, b + 8, b + 9, b + 13] H1 K' := cK.trans (c1.ok (AHeap.ok.top ok2.1)) r4 (fun j hj => by
    rcases List.mem_append.1 hj with hj | hj
    · rcases List.mem_append.1 hj with hj | hj
      · exact .inl hj
      · exact .inr (hOn j hj)
    · exact .inr (hUn j hj))
   have hdrop : (inE f t l).drop i = kc e :: (inE f t l).drop (i + 1) := by
    unfold inE
    rw [List.drop_eq_getElem_cons (by rw [List.length_map]; exact hi), List.getElem_map]
    rw [(List.getElem?_eq_some_iff.1 he).2]
   rw [hdrop] at hr
   have key : kc e = (e.1, e.2.1.2) := rfl
   have hOK : ∀ i ∈ sown ov, i < K.n := hO.lt okK.1
   have hUK : ∀ i ∈ sown uv, i < K.n := hU.lt okK.1
   refine ⟨q, K', r1, by omega, ?_, ?_⟩
   · rintro rfl
     rcases r5 with ⟨_, h, _⟩ | ⟨_, _, h, _⟩ | ⟨h50, h82, _, uv', B', o1, o2, o3⟩ | ⟨h50, h0, _, hb, ov', B', o1, o2, o3⟩ | ⟨h50, h0, _, hb, B', o1, o2⟩
     · cases h
     · cases h
     · refine ⟨r2, ov, uv', o, _, B', o1, o2, hOn, fun j hj => ?_, fun j hj hj' => ?_, cK', ?_, ho, by simp; omega, hz⟩
       · rcases o3 j hj with h | h
         · exact hUn j h
         · omega
       · rcases o3 j hj' with h | h
         · exact hd j hj h
         · have := hOK j hj; omega
       · rw [← hr, readL, if_neg h50, key]; simp only [h82]; simp
     · refine ⟨r2, ov', uv, _, u, B', o1, o2, fun j hj => ?_, hUn, fun j hj hj' => ?_, cK', ?_, by simp; omega, by omega, by simp⟩
       · rcases o3 j hj with h | h
         · exact hOn j h
         · omega
       · rcases o3 j hj with h | h
         · exact hd j h hj'
         · have := hUK j hj'; omega
       · rw [← hr, readL, if_neg h50, key]; simp only [h0, hb]; simp
     · refine ⟨r2, ov, uv, o, u, B', o1, o2, hOn, hUn, hd, cK', ?_, ho, by omega, hz⟩
       rw [← hr, readL, if_neg h50, key]; simp only [h0, hb]; simp
   · rintro rfl
     rcases r5 with ⟨h50, _, B', o1, o2⟩ | ⟨h50, h81, _, B'⟩ | ⟨_, _, h, _⟩ | ⟨_, _, h, _⟩ | ⟨_, _, h, _⟩
     · exact ⟨r2, cK', ov, uv, o, u, .inl ⟨B', o1, o2, hOn, hUn, by omega, hz, by rw [← hr, readL, if_pos h50]⟩⟩
     · exact ⟨r2, cK', ov, uv, o, u, .inr ⟨_, B', by rw [← hr, readL, if_neg h50, key]; simp only [h81]; simp⟩⟩
     · cases h
     · cases h
     · cases h)
 have hc : ∀ {ls pend}, ls ≠ .busy → K'.get (b + 13) = some (loopRd b w ls pend) → den T (.block 0 (.rangeF (.tmp 35) [36, 37] iaRd Y16_0)) ⟨envRd b w, [], G⟩ = some (outBlock 0 (pend.getD .normal, ⟨envRd b w, [], (K'.set (b + 13) .dead).withd (.mark (b + 12) :: K'.dfs)⟩)) := fun {ls pend} h1 h2 => by
  have := den_range (T := T) (b := 0) (f := .tmp 35) (ps := [36, 37]) (ia := iaRd) (ib := Y16_0) (s := ⟨envRd b w, [], G⟩) (g := 56) (captured := [.ptr (b + 10) 0, .ptr (b + 11) 0]) (v := .tuple []) (K := K') (ls := ls) (pend := pend) (e := envRd b w) (ps' := [36, 37]) (ia' := iaRd) (ib' := Y16_0)
   (by subst hw; rfl) (by decide) (by rw [hen, hGn]; rw [show AObj.loop .ready none (envRd b w) [36, 37] iaRd Y16_0 = loopRd b w .ready none from rfl, ← hG2]; exact e1) (by rw [hGn]; exact h2) h1
  rw [hGn] at this
  exact this
 have d1 : K'.dfs = [] := (call_dfs e1).trans (by rw [hG2]; exact hGd)
 have l2 : G2.low = b := by rw [cH2.low_eq]; simp [hb]
 have fin : ∀ H1 K, Chg [] G2.top H1 → K.ok → Chg [b + 4, b + 5, b + 6, b + 7, b + 8, b + 9, b + 13] H1 K → K' = K.lowered G2 →
     Chg [] H.top ((K'.set (b + 13) .dead).withd (.mark (b + 12) :: K'.dfs)) ∧ ((K'.set (b + 13) .dead).withd (.mark (b + 12) :: K'.dfs)).get (b + 12) = some .dfd ∧ (∀ j, j ≠ b + 13 → ((K'.set (b + 13) .dead).withd (.mark (b + 12) :: K'.dfs)).get j = K.get j) := by
  intro H1 K c1 okK cK hK
  have g : ∀ j, j ≠ b + 13 → ((K'.set (b + 13) .dead).withd (.mark (b + 12) :: K'.dfs)).get j = K.get j := fun j hj => by rw [withd_get, get_set_ne _ _ hj, hK, lowered_get]
  have le1 := c1.le
  have le2 := cK.le
  simp only [top_n] at le1
  have lk : b ≤ K.low := cK.hi b (by rw [c1.low_eq]; simp; omega) (by simp)
  have lK' : K'.low = b := by rw [hK]; simp only [AHeap.lowered, l2]; split <;> omega
  have nK' : K'.n = K.n := by rw [hK]; rfl
  have low : ((K'.set (b + 13) .dead).withd (.mark (b + 12) :: K'.dfs)).low = b := by rw [withd_low, AHeap.set_low, lK', if_neg (by omega)]
  have okK' : K'.ok := ⟨by rw [hK]; exact lowered_wf _ okK.1, by omega⟩
  refine ⟨⟨by simp; omega, fun _ => withd_ok _ ((Chg.set _ _ _).ok okK'), fun j hj _ => ?_, by rw [low]; simp; omega, fun k hk _ => by rw [low]; simp at hk; omega⟩, ?_, g⟩
  · simp only [top_n] at hj
    rw [g j (by omega), cK.get j (by omega) (by simp; omega), c1.get j (by simp; omega) (by simp), top_get, cH2.get j (by simp; omega) (by simp)]
  · rw [g _ (by omega), cK.get _ (by omega) (by simp), c1.get _ (by simp; omega) (by simp), top_get]; exact gd
 rcases e2 with ⟨hE, hK⟩ | ⟨H1, K, c1, _, hK, hJ | hQ⟩
 · obtain ⟨k1, k2, k3⟩ := fin G2.top G2.top (.refl _ _) (AHeap.ok.top ok2.1) (.refl _ _) (by rw [hK]; exact AHeap.eq rfl rfl (by exact (if_neg (show ¬ G2.top.low < G2.low by simp; omega)).symm) rfl)
   have hIE : inE f t l = [] := by unfold inE; rw [hE]; rfl
   refine ⟨_, _, [], [], none, hc (ls := .ready) (pend := none) (by simp) (by rw [hK]; exact gl), by simp [d1], k2, k1, by rw [hIE]; rfl, .inl ⟨rfl, rfl, .nils, .nils, ?_, ?_, ?_, ?_, ?_, ?_, .nil _ _, .nil _ _, by simp, by simp, by simp, fun _ => rfl⟩⟩
   · rw [k3 _ (by omega), top_get]; exact B2.g4
   · rw [k3 _ (by omega), top_get]; exact B2.g5
   · rw [k3 _ (by omega), top_get]; exact B2.g6
   · rw [k3 _ (by omega), top_get]; exact B2.g7
   · rw [k3 _ (by omega), top_get]; exact B2.g8
   · rw [k3 _ (by omega), top_get]; exact B2.g9
 · obtain ⟨okK, ov, uv, o, u, B, hO, hU, hOn, hUn, hd, cK, hr, ho, hu, hz⟩ := hJ
   obtain ⟨k1, k2, k3⟩ := fin H1 K c1 okK cK hK
   have le1 := c1.le
   simp only [top_n] at le1
   rw [List.drop_of_length_le (by unfold inE; rw [List.length_map]; exact Nat.le_refl _)] at hr
   refine ⟨_, _, o, u, none, hc (ls := .ready) (pend := none) (by simp) (by rw [hK, lowered_get]; exact B.gl), by simp [d1], k2, k1, hr.symm, .inl ⟨rfl, rfl, ov, uv, (k3 _ (by omega)).trans B.g4, (k3 _ (by omega)).trans B.g5, (k3 _ (by omega)).trans B.g6, (k3 _ (by omega)).trans B.g7, (k3 _ (by omega)).trans B.g8, (k3 _ (by omega)).trans B.g9, ?_, ?_, ?_, ?_, ?_, hz⟩⟩
   · exact hO.frame fun i hi => k3 i (by have := hOn i hi; omega)
   · exact hU.frame fun i hi => k3 i (by have := hUn i hi; omega)
   · intro i hi; have := hOn i hi; omega
   · intro i hi; have := hUn i hi; omega
   · have := List.length_filter_le (hasE f t) l; omega
 · obtain ⟨okK, cK, ov, uv, o, u, ⟨B, hO, hU, hOn, hUn, hu, hz, hr⟩ | ⟨m, B, hr⟩⟩ := hQ
   · obtain ⟨k1, k2, k3⟩ := fin H1 K c1 okK cK hK
     have le1 := c1.le
     simp only [top_n] at le1
     refine ⟨_, _, o, u, none, hc (ls := .done) (pend := some (.exit 0)) (by simp) (by rw [hK, lowered_get]; exact B.gl), by simp [d1, outBlock], by simpa [outBlock] using k2, by simpa [outBlock] using k1, hr, .inl ⟨by simp [outBlock], rfl, ov, uv, (k3 _ (by omega)).trans B.g4, (k3 _ (by omega)).trans B.g5, (k3 _ (by omega)).trans B.g6, (k3 _ (by omega)).trans B.g7, (k3 _ (by omega)).trans B.g8, (k3 _ (by omega)).trans B.g9, ?_, ?_, ?_, ?_, hu, hz⟩⟩
     · exact hO.frame fun i hi => k3 i (by have := hOn i hi; omega)
     · exact hU.frame fun i hi => k3 i (by have := hUn i hi; omega)
     · intro i hi; have := hOn i hi; omega
     · intro i hi; have := hUn i hi; omega
   · obtain ⟨k1, k2, k3⟩ := fin H1 K c1 okK cK hK
     exact ⟨_, _, o, u, some m, hc (ls := .done) (pend := some .ret) (by simp) (by rw [hK, lowered_get]; exact B.gl), by simp [d1], k2, k1, hr, .inr ⟨rfl, m, rfl, (k3 _ (by omega)).trans B.g4, (k3 _ (by omega)).trans B.g5, (k3 _ (by omega)).trans B.g6, (k3 _ (by omega)).trans B.g7⟩⟩
end
attribute [local simp] callN_yield ofSt_eq ofAV_v
def maxL (u : List Stp) : Stp := match u with | [] => (0, 0) | x :: r => r.foldl maxS x
def mxL (u : List Stp) (i : Nat) : Stp := maxL (u.take i)
theorem mxL_succ {u : List Stp} {i : Nat} (h0 : 0 < i) (h : i < u.length) : mxL u (i + 1) = maxS (mxL u i) u[i] := by
 unfold mxL
 rw [List.take_add_one, List.getElem?_eq_getElem h]
 cases u with
 | nil => simp at h
 | cons x r =>
  obtain ⟨i, rfl⟩ : ∃ j, i = j + 1 := ⟨i - 1, by omega⟩
  simp only [List.take_succ_cons, List.cons_append, maxL, List.foldl_append]
  rfl
theorem cmp_gt (x y : Stp) : (0 < (if x.1 < y.1 then (-1 : Int) else if y.1 < x.1 then 1 else if x.2 < y.2 then -1 else if y.2 < x.2 then 1 else 0)) = (ltS y x = true) := by
 unfold ltS
 apply propext
 simp only [Bool.or_eq_true, Bool.and_eq_true, decide_eq_true_eq]
 repeat' split
 all_goals omega
section
variable {K : AHeap} {v : AV} {u : List Stp}
theorem rdUn (hV : View K 2 v (u.map rowUn)) {i : Nat} (h : i < u.length) : K.rdAt (sid v) true 2 (soff v + i * 2) = some (.agg [.int .i64 u[i].1, .int .i64 u[i].2]) := by
 have := hV.rd (i := i) (r := rowUn u[i]) (by rw [List.getElem?_map, List.getElem?_eq_getElem h]; rfl) true (k := 2) (f := 0) (by omega) (by omega) (by simp)
 simpa [rowUn, rd] using this
theorem ixUn (hV : View K 2 v (u.map rowUn)) {i : Nat} (h : i < u.length) : idxS 2 v (.int .i64 i) = some (.ptr (sid v) (soff v + i * 2)) := by
 have := hV.idx .i64 (n := i) (by omega) (by rw [List.length_map]; omega)
 simpa using this
set_option maxHeartbeats 2000000 in
theorem cMax (hV : View K 2 v (u.map rowUn)) (hl : u.length ≤ 1000000000000) (h0 : u ≠ []) :
    call T 38 [v, .func (.func 39) [] []] K = some (.agg [.int .i64 (maxL u).1, .int .i64 (maxL u).2], K) := by
 have hn : 0 < u.length := by cases u with | nil => exact absurd rfl h0 | cons => simp
 have hvn := hV.noL
 have hlen := hV.lenS
 rw [List.length_map] at hlen
 have hVT := hV.top
 obtain ⟨x, st, s', f1, ⟨rfl, hk⟩, hp, _, _⟩ := loopK (T := T) (L := L38_0) rfl
  (fun n s => ∃ i : Nat, 1 ≤ i ∧ i + n = u.length ∧ s = ⟨[(0, .v v), (1, .v (.func (.func 39) [] [])), (4, .l 4 0), (5, .l 5 0), (6, .v (.int .i64 i))], [(4, [.int .i64 0, .int .i64 0]), (5, [.int .i64 (mxL u i).1, .int .i64 (mxL u i).2])], K.top⟩)
  (fun x s => x = .exit 0 ∧ prK [4, 5] [4, 5] s = ⟨[(4, .l 4 0), (5, .l 5 0)], [(4, [.int .i64 0, .int .i64 0]), (5, [.int .i64 (maxL u).1, .int .i64 (maxL u).2])], K.top⟩)
  (by
   rintro n _ ⟨i, hi1, hi, rfl⟩ P hI hX hR
   by_cases hlt : i < u.length
   · have hlt' : (i : Int) < u.length := by omega
     have hw := wrap_id (n := (i : Int) + 1) (by omega) (by omega)
     have x1 := ixUn hVT hlt
     have x2 := rdUn hVT hlt
     have x3 := tCompare u[i] (mxL u i) K.top
     have hs := mxL_succ hi1 hlt
     have hgt := cmp_gt u[i] (mxL u i)
     generalize hz : (if u[i].1 < (mxL u i).1 then (-1 : Int) else if (mxL u i).1 < u[i].1 then 1 else if u[i].2 < (mxL u i).2 then -1 else if (mxL u i).2 < u[i].2 then 1 else 0) = z at x3 hgt
     unfold maxS at hs
     by_cases hg : ltS (mxL u i) u[i] = true
     · rw [if_pos hg] at hs
       have hz0 : 0 < z := by rw [hgt]; exact hg
       simp -implicitDefEqProofs [B38_0, hlt', hw, hlen, x1, x2, x3, hz0, hvn]
       refine hI _ _ _ (n - 1) (by omega) ?_
       exact ⟨i + 1, by omega, by omega, by rw [hs]; simp⟩
     · rw [if_neg hg] at hs
       have hz0 : ¬ 0 < z := by rw [hgt]; exact hg
       simp -implicitDefEqProofs [B38_0, hlt', hw, hlen, x1, x2, x3, hz0, hvn]
       refine hI _ _ _ (n - 1) (by omega) ?_
       exact ⟨i + 1, by omega, by omega, by rw [hs]; simp⟩
   · have hi' : i = u.length := by omega
     subst hi'
     simp -implicitDefEqProofs [B38_0, hlen, hvn]
     refine hX _ _ ?_
     exact ⟨rfl, by simp [mxL]⟩)
  (u.length - 1) ⟨[(0, .v v), (1, .v (.func (.func 39) [] [])), (4, .l 4 0), (5, .l 5 0), (6, .v (.int .i64 1))], [(4, [.int .i64 0, .int .i64 0]), (5, [.int .i64 u[0].1, .int .i64 u[0].2])], K.top⟩ (by simp [hvn]) ⟨1, by omega, by omega, by
   have : mxL u 1 = u[0] := by cases u with | nil => exact absurd rfl h0 | cons x r => rfl
   rw [this]; simp⟩
 have hk := (hp [4, 5] [4, 5]).trans (congrArg SK.norm hk)
 simp only [toSt_eq, List.map_cons, List.map_nil, av_v, av_l] at f1
 have x1 := ixUn hVT hn
 have x2 := rdUn hVT hn
 simp only [Int.natCast_zero, Nat.zero_mul, Nat.add_zero] at x1 x2
 have hg : ¬ (u.length : Int) < 1 := by omega
 refine okR_eq (call_evK (show T 38 = some (.ir ⟨_, _, _, _, _⟩) from T38) (by decide) PL38 rfl (by simp [hvn]) ?_)
 simp -implicitDefEqProofs [hlen, hvn, x1, x2, f1, hk, hg, fin_pure]
end
section
variable {H : AHeap}
def rdH (H : AHeap) (at_ lim : Stp) (id ep : Int) : AHeap := (((((((H.top.alloc (.row false 2 [.int .i64 at_.1, .int .i64 at_.2])).alloc (.row false 2 [.int .i64 lim.1, .int .i64 lim.2])).alloc (.row false 1 [.int .i64 id])).alloc (.row false 1 [.int .i64 ep])).alloc (.row false 1 [.nils])).alloc (.row false 2 [.int .i64 0, .int .i64 0])).alloc (.row false 5 [.int .i64 0, .int .i64 0, .str [], .int .i64 0, .int .i64 0])).alloc (.row false 1 [.int .i64 0])
def rdH2 (H : AHeap) (at_ lim : Stp) (id ep : Int) : AHeap := ((rdH H at_ lim id ep).alloc (.row false 1 [.nils])).alloc (.row false 1 [.nils])
def rdG (H : AHeap) (at_ lim : Stp) (id ep : Int) (p : Nat) (f t : List UInt8) : AHeap := (((rdH2 H at_ lim id ep).top.alloc (.row false 1 [.ptr p 0])).alloc (.row false 2 [.str f, .str t])).lowered (rdH2 H at_ lim id ep)
theorem rdH2_n (at_ lim : Stp) (id ep : Int) : (rdH2 H at_ lim id ep).n = H.n + 10 := by simp [rdH2, rdH]
theorem four {G : AHeap} {b : Nat} (okG : G.ok) (hb : b + 12 < G.n) (a4 a5 a6 a7 : AObj) (h4 : (G.get (b + 4)).isSome = true) (h5 : (G.get (b + 5)).isSome = true) (h6 : (G.get (b + 6)).isSome = true) (h7 : (G.get (b + 7)).isSome = true) {X KF : AHeap} (hX : X = (((G.set (b + 4) a4).set (b + 5) a5).set (b + 6) a6).set (b + 7) a7) (hK : KF = (X.withd []).set (b + 12) .dead) :
    X.get (b + 12) = G.get (b + 12) ∧ KF.get (b + 4) = some a4 ∧ KF.get (b + 5) = some a5 ∧ KF.get (b + 6) = some a6 ∧ KF.get (b + 7) = some a7 ∧ (∀ j, b + 12 < j → KF.get j = G.get j) ∧ X.dfs = G.dfs ∧ Chg [b + 4, b + 5, b + 6, b + 7, b + 12] G KF := by
 have c1 := Chg.set G (b + 4) a4
 have ok1 := c1.ok okG
 have c2 := Chg.set (G.set (b + 4) a4) (b + 5) a5
 have ok2 := c2.ok ok1
 have c3 := Chg.set ((G.set (b + 4) a4).set (b + 5) a5) (b + 6) a6
 have ok3 := c3.ok ok2
 have c4 := Chg.set (((G.set (b + 4) a4).set (b + 5) a5).set (b + 6) a6) (b + 7) a7
 have ok4 := c4.ok ok3
 rw [← hX] at c4 ok4
 have g : ∀ j, j ≠ b + 12 → KF.get j = X.get j := fun j hj => by rw [hK, get_set_ne _ _ hj, withd_get]
 have x7 : X.get (b + 7) = some a7 := by rw [hX]; exact get_set_same _ _ ok3.1 (by rw [get_set_ne _ _ (by omega), get_set_ne _ _ (by omega), get_set_ne _ _ (by omega)]; exact h7)
 have x6 : X.get (b + 6) = some a6 := by rw [hX, get_set_ne _ _ (by omega)]; exact get_set_same _ _ ok2.1 (by rw [get_set_ne _ _ (by omega), get_set_ne _ _ (by omega)]; exact h6)
 have x5 : X.get (b + 5) = some a5 := by rw [hX, get_set_ne _ _ (by omega), get_set_ne _ _ (by omega)]; exact get_set_same _ _ ok1.1 (by rw [get_set_ne _ _ (by omega)]; exact h5)
 have x4 : X.get (b + 4) = some a4 := by rw [hX, get_set_ne _ _ (by omega), get_set_ne _ _ (by omega), get_set_ne _ _ (by omega)]; exact get_set_same _ _ okG.1 h4
 have xo : ∀ j, b + 7 < j → X.get j = G.get j := fun j hj => by rw [hX, get_set_ne _ _ (by omega), get_set_ne _ _ (by omega), get_set_ne _ _ (by omega), get_set_ne _ _ (by omega)]
 refine ⟨xo _ (by omega), (g _ (by omega)).trans x4, (g _ (by omega)).trans x5, (g _ (by omega)).trans x6, (g _ (by omega)).trans x7, fun j hj => (g j (by omega)).trans (xo j (by omega)), by rw [hX]; rfl, ?_⟩
 rw [hK]
 exact (((((c1.mono (by simp)).trans okG c2 (by simp)).trans okG c3 (by simp)).trans okG c4 (by simp)).trans okG (Chg.withd X []) (by simp)).trans okG (.set _ _ _) (by simp)
def stR (q : List KP × List Stp × Option Mt) : Stp := if q.2.2.isSome = true then (0, 0) else maxL q.2.1
set_option maxHeartbeats 16000000 in
theorem kRead {p id0 c : Nat} {l : MM (List UInt8) (AV × Ch)} {f t : List UInt8} (at_ lim : Stp) (id ep : Int) (hok : H.ok) (hS : StoreAt H p id0 c l) (hf : Small f) (ht : Small t) (hkl : ∀ e ∈ l, Small e.1) (hsz : l.length < 1000000000) (hcl : ∀ e ∈ l, e.2.1.2.L.length < 1000000000) :
    ∃ v K s m, call T 16 [.ptr p 0, .agg [.str f, .str t], .agg [.int .i64 at_.1, .int .i64 at_.2], .agg [.int .i64 lim.1, .int .i64 lim.2], .int .i64 id, .int .i64 ep] H = some (.tuple [v, .agg [.int .i64 (s : Stp).1, .int .i64 s.2], .agg (celMt m), .int .i64 (if rightB f t = true then errL (readL at_ lim id ep (inE f t l) [] []) else 51)], K) ∧ NewL H K 2 v ((if rightB f t = true then pairL (readL at_ lim id ep (inE f t l) [] []) else []).map rowP)  ∧ (rightB f t = true → m = (readL at_ lim id ep (inE f t l) [] []).2.2.getD zMt ∧ s = stR (readL at_ lim id ep (inE f t l) [] [])) := by
 have hfn : ∀ {P : AV × AHeap → Prop}, _ → OkR (call T 16 [.ptr p 0, .agg [.str f, .str t], .agg [.int .i64 at_.1, .int .i64 at_.2], .agg [.int .i64 lim.1, .int .i64 lim.2], .int .i64 id, .int .i64 ep] H) P := fun {P} h => call_evKD (show T 16 = some (.ir ⟨_, _, _, _, _⟩) from T16) (by decide) rfl rfl h
 have ew := kWrong (H := rdH H at_ lim id ep) (p := p) hf ht
 unfold rdH at ew
 by_cases hr : rightB f t = true
 · rw [if_pos hr] at ew
   simp only [if_pos hr]
   have hokT := AHeap.ok.top hok.1
   have n2 := rdH2_n (H := H) at_ lim id ep
   have c8 : Chg [] H.top (rdH2 H at_ lim id ep) := by
    unfold rdH2 rdH
    exact (((((((((Chg.alloc _ _).trans hokT (.alloc _ _) (by simp)).trans hokT (.alloc _ _) (by simp)).trans hokT (.alloc _ _) (by simp)).trans hokT (.alloc _ _) (by simp)).trans hokT (.alloc _ _) (by simp)).trans hokT (.alloc _ _) (by simp)).trans hokT (.alloc _ _) (by simp)).trans hokT (.alloc _ _) (by simp)).trans hokT (.alloc _ _) (by simp)
   have ok8 := c8.ok hokT
   have cG : Chg [] H.top (rdG H at_ lim id ep p f t) := by
    unfold rdG
    exact c8.trans hokT (((Chg.alloc _ _).trans (AHeap.ok.top ok8.1) (.alloc _ _) (by simp)).lowered ok8) (by simp)
   have ei : call T 29 [.ptr p 0, .agg [.str f, .str t]] (rdH2 H at_ lim id ep) = some (.func (.func 56) [] [.ptr (H.n + 10) 0, .ptr (H.n + 11) 0], rdG H at_ lim id ep p f t) := by
    rw [kIn (H := rdH2 H at_ lim id ep), n2]; rfl
   obtain ⟨x, G', o, u, mm, f1, d', m', cG', hq, hcase⟩ := rdRange (G := rdG H at_ lim id ep p f t) (b := H.n) (at_ := at_) (lim := lim) (id := id) (ep := ep) (w := .func (.func 56) [] [.ptr (H.n + 10) 0, .ptr (H.n + 11) 0]) hok rfl hS hf ht hkl hsz hcl cG (by unfold rdG; simp [n2]) (by unfold rdG rdH2 rdH; rfl) rfl
    (by unfold rdG rdH2 rdH; simp +arith [AHeap.get_alloc, -get_alloc_eq, -get_alloc_ne]) (by unfold rdG rdH2 rdH; simp +arith [AHeap.get_alloc, -get_alloc_eq, -get_alloc_ne]) (by unfold rdG rdH2 rdH; simp +arith [AHeap.get_alloc, -get_alloc_eq, -get_alloc_ne]) (by unfold rdG rdH2 rdH; simp +arith [AHeap.get_alloc, -get_alloc_eq, -get_alloc_ne])
    (by unfold rdG rdH2 rdH; simp +arith [AHeap.get_alloc, -get_alloc_eq, -get_alloc_ne]) (by unfold rdG rdH2 rdH; simp +arith [AHeap.get_alloc, -get_alloc_eq, -get_alloc_ne]) (by unfold rdG rdH2 rdH; simp +arith [AHeap.get_alloc, -get_alloc_eq, -get_alloc_ne, zMt, celMt]) (by unfold rdG rdH2 rdH; simp +arith [AHeap.get_alloc, -get_alloc_eq, -get_alloc_ne])
    (by unfold rdG rdH2 rdH; simp +arith [AHeap.get_alloc, -get_alloc_eq, -get_alloc_ne]) (by unfold rdG rdH2 rdH; simp +arith [AHeap.get_alloc, -get_alloc_eq, -get_alloc_ne]) (by unfold rdG rdH2 rdH; simp +arith [AHeap.get_alloc, -get_alloc_eq, -get_alloc_ne]) (by unfold rdG rdH2 rdH; simp +arith [AHeap.get_alloc, -get_alloc_eq, -get_alloc_ne])
   have okG' := cG'.ok hokT
   have hbn : H.n + 12 < G'.n := by have := AHeap.get_lt m' okG'.1; omega
   unfold rdH2 rdH at ei
   simp only [iaRd, envRd] at f1
   rw [hq]
   rcases hcase with ⟨rfl, rfl, ov, uv, k4, k5, k6, k7, k8, k9, hO, hU, hOn, hUn, hul, hz⟩ | ⟨rfl, m, rfl, k4, k5, k6, k7⟩
   · have r8 := rdAt_row k8
     have r9 := rdAt_row k9
     have lu := hU.view.lenS
     rw [List.length_map] at lu
     have hun := hU.view.noL
     have hon := hO.view.noL
     have hoc := hO.view.cells
     have hOl : ∀ (KF : AHeap), G'.n ≤ KF.n → ∀ id, ov = .slice id 0 0 0 → id < KF.n := fun KF h id hid => by
      by_cases h0 : o = []
      · rw [hz h0] at hid; cases hid
      · obtain ⟨_, ⟨_, h1⟩ | ⟨_, _, _, h1, _⟩⟩ := hO
        · exact absurd (List.map_eq_nil_iff.1 h1) h0
        · rw [hid] at h1; cases h1
     by_cases hu : u = []
     · have hu0 : ¬ 1 ≤ u.length := by rw [hu]; simp
       have he : errL (o, u, none) = 0 := by simp [errL, hu]
       obtain ⟨X, hX⟩ : ∃ X, X = (((G'.set (H.n + 4) (.row false 1 [ov])).set (H.n + 5) (.row false 2 [.int .i64 0, .int .i64 0])).set (H.n + 6) (.row false 5 [.int .i64 0, .int .i64 0, .str [], .int .i64 0, .int .i64 0])).set (H.n + 7) (.row false 1 [.int .i64 0]) := ⟨_, rfl⟩
       obtain ⟨KF, hK⟩ : ∃ KF, KF = (X.withd []).set (H.n + 12) .dead := ⟨_, rfl⟩
       obtain ⟨y0, y4, y5, y6, y7, yo, yd, yc⟩ := four okG' hbn _ _ _ _ (by rw [k4]; rfl) (by rw [k5]; rfl) (by rw [k6]; rfl) (by rw [k7]; rfl) hX hK
       have z4 := rdAt_row y4
       have z5 := rdAt_row y5
       have z6 := rdAt_row y6
       have z7 := rdAt_row y7
       have hlv := fun e l => leaveDK_mark (rs := [.cell 12 false 1, .cell 13 true 2, .cell 14 true 5, .cell 15 false 1]) (H := H) (x := .ret) (e := e) (l := l) (yd.trans d') (y0.trans m')
       rw [← hK] at hlv
       rw [hX] at hlv
       refine ⟨ov, Go.Wam.fin H (.tuple [ov, .agg [.int .i64 0, .int .i64 0], .agg (celMt zMt), .int .i64 0]) KF, (0, 0), zMt, okR_eq (hfn ?_), ?_, fun _ => ⟨rfl, by simp [stR, hu, maxL]⟩⟩
       · rw [he]
         simp -implicitDefEqProofs +arith [ew, ei, evR_range, f1, r8, r9, lu, hun, hon, hoc, hu0, k4, k5, k6, k7, get_set_ne, hlv, z4, z5, z6, z7, zMt, celMt]
       · have hp : pairL (o, u, none) = o := by unfold pairL; rw [if_pos he]
         rw [hp]
         refine NewL.fin hok ⟨⟨?_, ?_⟩, cG'.trans hokT yc (by simp), fun h => ?_⟩ (fun h => by rw [okB_tuple, okL_cons] at h; simp only [Bool.and_eq_true] at h; exact h.1)
         · exact (hO.frame fun i hi => yo i (by have := hOn i hi; omega)).view
         · exact own_okB (hO.frame fun i hi => yo i (by have := hOn i hi; omega)) (yc.ok okG').1 (hOl KF yc.le)
         · have h1 := own_sid hO h
           have := hOn (sid ov) (by rw [h1]; simp)
           simp; omega
     · have hu0 : 1 ≤ u.length := by cases u with | nil => exact absurd rfl hu | cons => simp
       have he : errL (o, u, none) = 82 := by simp [errL, hu]
       have em := cMax (K := G') hU.view (by omega) hu
       obtain ⟨X, hX⟩ : ∃ X, X = (((G'.set (H.n + 4) (.row false 1 [.nils])).set (H.n + 5) (.row false 2 [.int .i64 (maxL u).1, .int .i64 (maxL u).2])).set (H.n + 6) (.row false 5 [.int .i64 0, .int .i64 0, .str [], .int .i64 0, .int .i64 0])).set (H.n + 7) (.row false 1 [.int .i64 82]) := ⟨_, rfl⟩
       obtain ⟨KF, hK⟩ : ∃ KF, KF = (X.withd []).set (H.n + 12) .dead := ⟨_, rfl⟩
       obtain ⟨y0, y4, y5, y6, y7, yo, yd, yc⟩ := four okG' hbn _ _ _ _ (by rw [k4]; rfl) (by rw [k5]; rfl) (by rw [k6]; rfl) (by rw [k7]; rfl) hX hK
       have z4 := rdAt_row y4
       have z5 := rdAt_row y5
       have z6 := rdAt_row y6
       have z7 := rdAt_row y7
       have hlv := fun e l => leaveDK_mark (rs := [.cell 12 false 1, .cell 13 true 2, .cell 14 true 5, .cell 15 false 1]) (H := H) (x := .ret) (e := e) (l := l) (yd.trans d') (y0.trans m')
       rw [← hK] at hlv
       rw [hX] at hlv
       refine ⟨.nils, Go.Wam.fin H (.tuple [.nils, .agg [.int .i64 (maxL u).1, .int .i64 (maxL u).2], .agg (celMt zMt), .int .i64 82]) KF, maxL u, zMt, okR_eq (hfn ?_), ?_, fun _ => ⟨rfl, by simp [stR]⟩⟩
       · rw [he]
         simp -implicitDefEqProofs +arith [ew, ei, evR_range, f1, r8, r9, lu, hun, hon, hoc, hu0, em, k4, k5, k6, k7, get_set_ne, hlv, z4, z5, z6, z7, zMt, celMt]
       · have hp : pairL (o, u, none) = [] := by unfold pairL; rw [he]; rfl
         rw [hp]
         exact NewL.fin hok ⟨.nil _ _, cG'.trans hokT yc (by simp), fun h => by simp at h⟩ (fun _ => by simp)
   · have he : errL (o, u, some m) = 81 := by simp [errL]
     have z4 := rdAt_row k4
     have z5 := rdAt_row k5
     have z6 := rdAt_row k6
     have z7 := rdAt_row k7
     have hlv := fun e l => leaveDK_mark (rs := [.cell 12 false 1, .cell 13 true 2, .cell 14 true 5, .cell 15 false 1]) (H := H) (x := .ret) (e := e) (l := l) d' m'
     obtain ⟨KF, hK⟩ : ∃ KF, KF = (G'.withd []).set (H.n + 12) .dead := ⟨_, rfl⟩
     rw [← hK] at hlv
     have cK : Chg [H.n + 12] G' KF := by rw [hK]; exact ((Chg.withd G' []).mono (by simp)).trans okG' (.set _ _ _) (by simp)
     have q4 : ∀ agg sz off j, j ≠ H.n + 12 → KF.rdAt j agg sz off = G'.rdAt j agg sz off := fun agg sz off j hj => rdAt_congr (by rw [hK, get_set_ne _ _ hj, withd_get]) ..
     refine ⟨.nils, Go.Wam.fin H (.tuple [.nils, .agg [.int .i64 0, .int .i64 0], .agg (celMt m), .int .i64 81]) KF, (0, 0), m, okR_eq (hfn ?_), ?_, fun _ => ⟨rfl, by simp [stR]⟩⟩
     · rw [he]
       unfold celMt at *
       simp -implicitDefEqProofs +arith [ew, ei, evR_range, f1, hlv, q4, z4, z5, z6, z7, celMt]
     · have hp : pairL (o, u, some m) = [] := by unfold pairL; rw [he]; rfl
       rw [hp]
       exact NewL.fin hok ⟨.nil _ _, cG'.trans hokT cK (by simp), fun h => by simp at h⟩ (fun _ => by simp)
 · rw [if_neg hr] at ew ⊢
   refine ⟨.nils, H, (0, 0), zMt, okR_eq (hfn ?_), ?_, fun h => absurd h hr⟩
   · simp -implicitDefEqProofs +arith [ew, leaveDK_nil, set_dfs, alloc_dfs, Go.Wam.fin, AHeap.set_low, zMt, celMt]
   · rw [if_neg hr]; exact .nil H 2
end
attribute [local simp] callN_yield ofSt_eq ofAV_v
abbrev ML := MM (List UInt8) (AV × Ch)
def fE : AV × Ch → AV := fun e => AV.agg (celCh e.1 e.2)
def unS (seen : List Nat) (l : ML) : ML := l.filter fun e => !seen.contains e.2.2
def inS (seen : List Nat) (l : ML) : ML := l.filter fun e => seen.contains e.2.2
theorem row_unS (seen : List Nat) (l : ML) : (rowM AV.str fE l).filter (fun e => !seen.contains e.2.2) = rowM AV.str fE (unS seen l) := by
 unfold rowM unS
 rw [List.filter_map]; rfl
theorem len_row (l : ML) : (rowM AV.str fE l).length = l.length := by simp [rowM]
theorem unS_step {seen : List Nat} {l : ML} (hn : (l.map (·.2.2)).Nodup) {e : List UInt8 × (AV × Ch) × Nat} (he : e ∈ unS seen l) : (unS (e.2.2 :: seen) l).length + 1 = (unS seen l).length := by
 induction l with
 | nil => cases he
 | cons x r ih =>
  rw [List.map_cons, List.nodup_cons] at hn
  by_cases hx : seen.contains x.2.2 = true
  · have h1 : unS seen (x :: r) = unS seen r := by unfold unS; rw [List.filter_cons_of_neg (by simpa using hx)]
    have h2 : unS (e.2.2 :: seen) (x :: r) = unS (e.2.2 :: seen) r := by
     unfold unS; rw [List.filter_cons_of_neg (by simp at hx; simp [hx])]
    rw [h1] at he ⊢
    rw [h2]; exact ih hn.2 he
  · have h1 : unS seen (x :: r) = x :: unS seen r := by unfold unS; rw [List.filter_cons_of_pos (by simpa using hx)]
    rw [h1] at he ⊢
    rcases List.mem_cons.1 he with rfl | he
    · have h2 : unS (e.2.2 :: seen) (e :: r) = unS seen r := by
        unfold unS; rw [List.filter_cons_of_neg (by simp)]
        refine List.filter_congr fun y hy => ?_
        have : y.2.2 ≠ e.2.2 := fun hh => hn.1 (List.mem_map.2 ⟨y, hy, hh⟩)
        simp [this]
      rw [h2]; rfl
    · have hxe : x.2.2 ≠ e.2.2 := fun hh => hn.1 (List.mem_map.2 ⟨e, (List.mem_filter.1 he).1, hh.symm⟩)
      have h2 : unS (e.2.2 :: seen) (x :: r) = x :: unS (e.2.2 :: seen) r := by
       unfold unS; rw [List.filter_cons_of_pos (by simp at hx; simp [hx, hxe])]
      rw [h2]
      simp only [List.length_cons]
      rw [ih hn.2 he]
theorem findB_row {l : ML} (hn : (l.map (·.2.2)).Nodup) {e : List UInt8 × (AV × Ch) × Nat} (he : e ∈ l) : findB e.2.2 (rowM AV.str fE l) = some (.str e.1, fE e.2.1, e.2.2) := by
 induction l with
 | nil => cases he
 | cons x r ih =>
  rw [List.map_cons, List.nodup_cons] at hn
  simp only [rowM, List.map_cons, findB]
  rcases List.mem_cons.1 he with rfl | he
  · simp
  · rw [if_neg (fun hh => hn.1 (List.mem_map.2 ⟨e, he, hh.symm⟩))]
    exact ih hn.2 he
def copyM (l2 l1 : ML) : ML := mapV (fun k x => (lookM k l2).getD x) l1
theorem copyM_nil (l1 : ML) : copyM [] l1 = l1 := by unfold copyM mapV; simp [lookM, findM]
theorem inS_nil (l : ML) : inS [] l = [] := by unfold inS; rw [List.filter_eq_nil_iff]; intro e _; simp
theorem copyM_step {seen : List Nat} {l1 l2 : ML} (hs1 : SortedM bytesLess l1) (hs2 : SortedM bytesLess l2) (hn : (l2.map (·.2.2)).Nodup) {e : List UInt8 × (AV × Ch) × Nat} (he : e ∈ unS seen l2) :
    repM e.1 e.2.1 (copyM (inS seen l2) l1) = copyM (inS (e.2.2 :: seen) l2) l1 := by
 have hel : e ∈ l2 := (List.mem_filter.1 he).1
 unfold copyM
 rw [rep_mapV ordS (hs1.mapV _), mapV_mapV]
 refine mapV_congr fun x hx => ?_
 have f1 := look_filter ordS x.1 (fun e => seen.contains e.2.2) hs2
 have f2 := look_filter ordS x.1 (fun y => (e.2.2 :: seen).contains y.2.2) hs2
 unfold lookM inS
 rw [f1, f2]
 by_cases h : x.1 = e.1
 · rw [if_pos h, h, mem_find ordS hs2 hel]; simp
 · rw [if_neg h]
   cases hf : findM x.1 l2 with
   | none => rfl
   | some q =>
    have hq := find_some_mem hf
    have hne : q.2 ≠ e.2.2 := fun hh => by
     have h1 : (x.1, q) = e := by
      have : ∀ {m : ML}, (m.map (·.2.2)).Nodup → ∀ {a b}, a ∈ m → b ∈ m → a.2.2 = b.2.2 → a = b := by
       intro m
       induction m with
       | nil => intro _ a b ha; cases ha
       | cons y m ih =>
        intro hn a b ha hb hab
        rw [List.map_cons, List.nodup_cons] at hn
        rcases List.mem_cons.1 ha with ha1 | ha1 <;> rcases List.mem_cons.1 hb with hb1 | hb1
        · rw [ha1, hb1]
        · exact absurd (List.mem_map.2 ⟨b, hb1, by rw [← hab, ha1]⟩) hn.1
        · exact absurd (List.mem_map.2 ⟨a, ha1, by rw [hab, hb1]⟩) hn.1
        · exact ih hn.2 ha1 hb1 hab
      exact this hn hq hel hh
     exact h (by rw [← h1])
    simp [hne]
section
variable {H : AHeap}
set_option maxHeartbeats 4000000 in
theorem kCopy {id1 id2 c1 c2 : Nat} {l1 l2 : ML} (hok : H.ok) (h1 : H.get id1 = some (.map (rowM AV.str fE l1) c1)) (h2 : H.get id2 = some (.map (rowM AV.str fE l2) c2)) (hne : id1 ≠ id2)
    (hs1 : SortedM bytesLess l1) (hs2 : SortedM bytesLess l2) (hb : BirthOk l2 c2) (hsub : ∀ e ∈ l2, (findM e.1 l1).isSome = true) :
    ∃ K, call T 31 [.map id1, .map id2] H = some (.tuple [], K) ∧ Chg [id1] H K ∧ K.get id1 = some (.map (rowM AV.str fE (copyM l2 l1)) c1) ∧ (l2 ≠ [] → K.low ≤ id1) := by
 have i1 := AHeap.get_lt h1 hok.1
 have i2 := AHeap.get_lt h2 hok.1
 obtain ⟨G, hG⟩ : ∃ G, G = H.top.alloc (.miter (some id2) c2 [] c2) := ⟨_, rfl⟩
 have hokT := AHeap.ok.top hok.1
 have okG : G.ok := by rw [hG]; exact (Chg.alloc _ _).ok hokT
 have nG : G.n = H.n + 1 := by rw [hG]; rfl
 have lG : G.low = H.n := by rw [hG]; rfl
 have gr : G.get H.n = some (.miter (some id2) c2 [] c2) := by rw [hG]; exact get_alloc_same H.top _
 have gj : ∀ j, j ≠ H.n → G.get j = H.get j := fun j hj => by rw [hG, get_alloc_ne H.top _ hj, top_get]
 obtain ⟨q, f1, q1, q2, q3, q4, q5, q6, q7, q8⟩ := den_mapR (T := T) (d0 := 8) (d1 := 9) (b := 0) (r := H.n) (id := id2) (since := c2) (it := .tmp 7) (ks := []) (ls := []) (body := M31_0)
  (fun k seen s => (unS seen l2).length = k ∧ Go.Wam.look 0 s.env = some (.map id1) ∧ Go.Wam.look 7 s.env = some (.ptr H.n 0) ∧ s.H.ok ∧ s.H.n = H.n + 1 ∧ s.H.dfs = [] ∧ s.H.low = (if seen = [] then H.n else id1) ∧ (∀ b ∈ seen, ∃ e ∈ l2, e.2.2 = b) ∧
   s.H.get H.n = some (.miter (some id2) c2 seen c2) ∧ s.H.get id1 = some (.map (rowM AV.str fE (copyM (inS seen l2) l1)) c1) ∧ ∀ j, j ≠ H.n → j ≠ id1 → s.H.get j = H.get j)
  (fun q => q.1 = .normal ∧ q.2.env = [] ∧ q.2.loc = [] ∧ q.2.H.n = H.n + 1 ∧ q.2.H.low = (if l2 = [] then H.n else id1) ∧ q.2.H.dfs = [] ∧ q.2.H.ok ∧ ∀ j, q.2.H.get j = if j = H.n then some .dead else if j = id1 then some (.map (rowM AV.str fE (copyM l2 l1)) c1) else H.get j)
  (by
   rintro k seen s ⟨hk, k0, k7, ok, n, d, lo, hsn, gr, g1, go⟩
   have g2 : s.H.get id2 = some (.map (rowM AV.str fE l2) c2) := by rw [go _ (by omega) (Ne.symm hne)]; exact h2
   refine ⟨k7, gr, _, g2, by rw [row_unS, len_row]; exact hk, ?_⟩
   rw [row_unS]
   rintro _ he0
   obtain ⟨e, he, rfl⟩ := List.mem_map.1 he0
   have hel : e ∈ l2 := (List.mem_filter.1 he).1
   have hlen := unS_step hb.nodup he
   refine ⟨k - 1, by omega, ?_⟩
   simp only
   obtain ⟨S, hS⟩ : ∃ S, S = s.H.set H.n (.miter (some id2) c2 (e.2.2 :: seen) c2) := ⟨_, rfl⟩
   have okS : S.ok := by rw [hS]; exact (Chg.set _ _ _).ok ok
   have nS : S.n = H.n + 1 := by rw [hS]; exact n
   have sr : S.get H.n = some (.miter (some id2) c2 (e.2.2 :: seen) c2) := by rw [hS]; exact get_set_same _ _ ok.1 (by rw [gr]; rfl)
   have s2 : S.get id2 = some (.map (rowM AV.str fE l2) c2) := by rw [hS, get_set_ne _ _ (by omega)]; exact g2
   have s1 : S.get id1 = some (.map (rowM AV.str fE (copyM (inS seen l2) l1)) c1) := by rw [hS, get_set_ne _ _ (by omega)]; exact g1
   have em : entryMA S (.ptr H.n 0) = some (.tuple [.str e.1, fE e.2.1]) := by
    simp only [entryMA, sr, s2, if_true, findB_row hb.nodup hel, Option.map_some]
   have hf : (findM e.1 (copyM (inS seen l2) l1)).isSome = true := by
    unfold copyM; rw [find_mapV]; have := hsub e hel; cases h : findM e.1 l1 with | none => rw [h] at this; cases this | some => rfl
   have hu : updA S .str (.map id1) (.str e.1) (fE e.2.1) = some (S.set id1 (.map (rowM AV.str fE (copyM (inS (e.2.2 :: seen) l2) l1)) c1)) := by
    rw [upd_M KeyOk.str s1 e.1 e.2.1 rfl]
    unfold putM tickM
    rw [if_pos hf, if_pos hf, copyM_step hs1 hs2 hb.nodup he]
   rw [← hS]
   have key : OkR (evK (call T) (den T) M31_0 (ofSt ⟨(9, .bool true) :: (8, .tuple [.bool true, .str e.1, fE e.2.1]) :: s.env, s.loc, S⟩) fun x s => some (x, s))
       fun r => r.1 = .normal ∧ Go.Wam.look 0 r.2.env = some (.v (.map id1)) ∧ Go.Wam.look 7 r.2.env = some (.v (.ptr H.n 0)) ∧ r.2.H = S.set id1 (.map (rowM AV.str fE (copyM (inS (e.2.2 :: seen) l2) l1)) c1) := by
    unfold fE celCh celIt at em hu ⊢
    simp -implicitDefEqProofs [M31_0, k0, k7, look_map, em, hu]
   obtain ⟨x, st', s', e1, h1', r, hr, p1, p2, p3, p4⟩ := evK_sim _ (ofSt_sim _) key
   cases hr
   simp only at p1 p2 p3 p4
   subst p1
   have hH : st'.H = S.set id1 (.map (rowM AV.str fE (copyM (inS (e.2.2 :: seen) l2) l1)) c1) := h1'.H.trans p4
   refine ⟨st', e1, by omega, by rw [h1'.env, p2]; rfl, by rw [h1'.env, p3]; rfl, by rw [hH]; exact (Chg.set _ _ _).ok okS, by rw [hH]; exact nS, by rw [hH, hS]; exact d, ?_, ?_, ?_, ?_, ?_⟩
   · rw [hH, AHeap.set_low, hS, AHeap.set_low, lo]
     simp only [reduceCtorEq, if_false]
     by_cases h : seen = []
     · simp [h]; omega
     · simp [h]; omega
   · intro b hb'
     rcases List.mem_cons.1 hb' with rfl | hb'
     · exact ⟨e, hel, rfl⟩
     · exact hsn b hb'
   · rw [hH, get_set_ne _ _ (by omega)]; exact sr
   · rw [hH]; exact get_set_same _ _ okS.1 (by rw [s1]; rfl)
   · intro j hj1 hj2
     rw [hH, get_set_ne _ _ hj2, hS, get_set_ne _ _ hj1]; exact go j hj1 hj2)
  (by
   rintro seen s ⟨hk, k0, k7, ok, n, d, lo, hsn, gr, g1, go⟩
   have hall : inS seen l2 = l2 := by
    unfold inS
    rw [List.filter_eq_self]
    intro e he
    cases h : seen.contains e.2.2 with
    | true => rfl
    | false =>
     have he' : e ∈ unS seen l2 := List.mem_filter.2 ⟨he, by simp at h; simpa using h⟩
     rw [List.eq_nil_of_length_eq_zero hk] at he'; cases he'
   have hem : seen = [] ↔ l2 = [] := by
    constructor
    · rintro rfl; rw [← hall]; unfold inS; simp
    · rintro rfl
      cases seen with
      | nil => rfl
      | cons b r => obtain ⟨e, he, _⟩ := hsn b (by simp); cases he
   refine ⟨(.normal, ⟨[], [], s.H.set H.n .dead⟩), by simp only [cleanA, gr]; rfl, rfl, rfl, rfl, n, ?_, d, (Chg.set _ _ _).ok ok, fun j => ?_⟩
   · simp only [AHeap.set_low, lo, hem]
     split <;> split <;> omega
   · simp only
     by_cases hj : j = H.n
     · subst hj; rw [if_pos rfl]; exact get_set_same _ _ ok.1 (by rw [gr]; rfl)
     · rw [if_neg hj, get_set_ne _ _ hj]
       by_cases hj1 : j = id1
       · subst hj1; rw [if_pos rfl, g1, hall]
       · rw [if_neg hj1]; exact go j hj hj1)
  (by
   rintro ⟨x, s⟩ ⟨x', s'⟩ ⟨a1, a2, a3, a4, a5, a6, a7, a8⟩ ⟨b1, b2, b3, b4, b5, b6, b7, b8⟩
   simp only at a1 a2 a3 a4 a5 a6 a8 b1 b2 b3 b4 b5 b6 b8
   exact ⟨a1.trans b1.symm, a2.trans b2.symm, a3.trans b3.symm, a4.trans b4.symm, a5.trans b5.symm, a6.trans b6.symm, fun i _ _ => (a8 i).trans (b8 i).symm⟩)
  _ [] ⟨[(0, .map id1), (7, .ptr H.n 0)], [], G⟩ ⟨rfl, rfl, rfl, okG, nG, by rw [hG]; rfl, by rw [if_pos rfl]; exact lG, by simp, gr, by rw [gj _ (by omega), h1, inS_nil, copyM_nil], fun j hj _ => gj j hj⟩
 obtain ⟨x, Q⟩ := q
 simp only at q1 q2 q3 q4 q5 q6 q7 q8
 subst q1
 refine ⟨Go.Wam.fin H (.tuple []) Q.H, okR_eq (call_evK (show T 31 = some (.ir ⟨_, _, _, _, _⟩) from T31) (by decide) PL31 rfl rfl ?_), ?_⟩
 · have em : rangeMA H.top (.map id2) = some (.ptr H.n 0, G) := by simp only [rangeMA, top_get, h2, hG]; rfl
   have hH : (ofSt Q).H = Q.H := rfl
   simp -implicitDefEqProofs [em, evR_mapR, f1, hH]
 by_cases h0 : l2 = []
 · have : Go.Wam.fin H (.tuple []) Q.H = H := fin_drop' (by rw [q5, if_pos h0]; exact Nat.le_refl _) (by simp)
   rw [this, h0, copyM_nil]
   exact ⟨.refl _ _, h1, fun h => absurd rfl h⟩
 · have lq : Q.H.low = id1 := by rw [q5, if_neg h0]
   have : Go.Wam.fin H (.tuple []) Q.H = Q.H.lowered H := fin_keep (.inl (by omega))
   rw [this]
   refine ⟨⟨by simp; omega, fun _ => ⟨lowered_wf _ q7.1, by simp only [AHeap.lowered]; have := hok.2; split <;> omega⟩, fun j hj hn => ?_, ?_, fun k k1 k2 => ?_⟩, ?_⟩
   · rw [lowered_get, q8, if_neg (by omega), if_neg (by simpa using hn)]
   · simp only [AHeap.lowered]; split <;> omega
   · have := k2 id1 (by simp); simp only [AHeap.lowered]; split <;> omega
   · exact ⟨by rw [lowered_get, q8, if_neg (by omega), if_pos rfl], fun _ => by simp only [AHeap.lowered]; split <;> omega⟩
def delB (c : Ch) : Bool := !c.op && decide (c.L = [])
def delS (seen : List Nat) (l : ML) : ML := l.filter fun e => !(seen.contains e.2.2 && delB e.2.1.2)
theorem kDel1 {v : AV} {c : Ch} {k : List UInt8} (hV : View H 5 v (c.L.map rowVe)) : call T 33 [.str k, .agg (celCh v c)] H = some (.bool (delB c), H) := by
 have hvn := hV.noL
 have hlen := hV.lenS
 rw [List.length_map] at hlen
 refine okR_eq (call_evK (show T 33 = some (.ir ⟨_, _, _, _, _⟩) from T33) (by decide) PL33 rfl rfl ?_)
 obtain ⟨L, op, i⟩ := c
 unfold delB celCh celIt
 cases op with
 | true => simp -implicitDefEqProofs [hvn, fin_pure]
 | false =>
  cases L with
  | nil => simp at hlen; simp -implicitDefEqProofs [hvn, hlen, fin_pure]
  | cons x r =>
   have : ¬ ((r.length : Int) + 1 = 0) := by omega
   simp at hlen
   simp -implicitDefEqProofs [hvn, hlen, fin_pure, this]
theorem unS_delS (seen : List Nat) (l : ML) : unS seen (delS seen l) = unS seen l := by
 unfold unS delS
 rw [List.filter_filter]
 refine List.filter_congr fun e he => ?_
 cases seen.contains e.2.2 <;> simp
theorem birth_inj : ∀ {m : ML}, (m.map (·.2.2)).Nodup → ∀ {a b}, a ∈ m → b ∈ m → a.2.2 = b.2.2 → a = b := by
 intro m
 induction m with
 | nil => intro _ a b ha; cases ha
 | cons y m ih =>
  intro hn a b ha hb hab
  rw [List.map_cons, List.nodup_cons] at hn
  rcases List.mem_cons.1 ha with ha1 | ha1 <;> rcases List.mem_cons.1 hb with hb1 | hb1
  · rw [ha1, hb1]
  · exact absurd (List.mem_map.2 ⟨b, hb1, by rw [← hab, ha1]⟩) hn.1
  · exact absurd (List.mem_map.2 ⟨a, ha1, by rw [hab, hb1]⟩) hn.1
  · exact ih hn.2 ha1 hb1 hab
theorem delS_step {seen : List Nat} {l : ML} (hs : SortedM bytesLess l) (hn : (l.map (·.2.2)).Nodup) {e : List UInt8 × (AV × Ch) × Nat} (he : e ∈ unS seen l) (hd : delB e.2.1.2 = true) : delM e.1 (delS seen l) = delS (e.2.2 :: seen) l := by
 have hel : e ∈ l := (List.mem_filter.1 he).1
 rw [del_filter ordS _ (show SortedM bytesLess (delS seen l) from hs.filter _)]
 unfold delS
 rw [List.filter_filter]
 refine List.filter_congr fun y hy => ?_
 by_cases h : y.2.2 = e.2.2
 · have := birth_inj hn hy hel h
   subst this
   simp [hd]
 · have hk : ¬ y.1 = e.1 := fun hh => by
     have h1 := mem_find ordS hs hy
     have h2 := mem_find ordS hs hel
     rw [hh, h2] at h1
     exact h (by rw [Option.some.inj h1])
   simp [h, hk]
theorem delS_keep {seen : List Nat} {l : ML} (hn : (l.map (·.2.2)).Nodup) {e : List UInt8 × (AV × Ch) × Nat} (he : e ∈ unS seen l) (hd : delB e.2.1.2 = false) : delS seen l = delS (e.2.2 :: seen) l := by
 have hel : e ∈ l := (List.mem_filter.1 he).1
 refine List.filter_congr fun y hy => ?_
 by_cases h : y.2.2 = e.2.2
 · have := birth_inj hn hy hel h
   subst this
   simp [hd]
 · simp [h]
def anyS (seen : List Nat) (l : ML) : Bool := l.any fun e => seen.contains e.2.2 && delB e.2.1.2
set_option maxHeartbeats 4000000 in
theorem kDelF {id c : Nat} {l : ML} (hok : H.ok) (h1 : H.get id = some (.map (rowM AV.str fE l) c)) (hs : SortedM bytesLess l) (hb : BirthOk l c) (hv : ∀ e ∈ l, SV H 5 e.2.1.1 (e.2.1.2.L.map rowVe)) :
    ∃ K, call T 32 [.map id, .func (.func 33) [] []] H = some (.tuple [], K) ∧ Chg [id] H K ∧ K.get id = some (.map (rowM AV.str fE (l.filter fun e => !delB e.2.1.2)) c) ∧ (l.any (fun e => delB e.2.1.2) = true → K.low ≤ id) := by
 have i1 := AHeap.get_lt h1 hok.1
 obtain ⟨G, hG⟩ : ∃ G, G = H.top.alloc (.miter (some id) c [] c) := ⟨_, rfl⟩
 have hokT := AHeap.ok.top hok.1
 have okG : G.ok := by rw [hG]; exact (Chg.alloc _ _).ok hokT
 have nG : G.n = H.n + 1 := by rw [hG]; rfl
 have lG : G.low = H.n := by rw [hG]; rfl
 have gr : G.get H.n = some (.miter (some id) c [] c) := by rw [hG]; exact get_alloc_same H.top _
 have gj : ∀ j, j ≠ H.n → G.get j = H.get j := fun j hj => by rw [hG, get_alloc_ne H.top _ hj, top_get]
 obtain ⟨q, f1, q1, q2, q3, q4, q5, q6, q7, q8⟩ := den_mapR (T := T) (d0 := 8) (d1 := 9) (b := 0) (r := H.n) (id := id) (since := c) (it := .tmp 7) (ks := []) (ls := []) (body := M32_0)
  (fun k seen s => (unS seen l).length = k ∧ Go.Wam.look 0 s.env = some (.map id) ∧ Go.Wam.look 1 s.env = some (.func (.func 33) [] []) ∧ Go.Wam.look 7 s.env = some (.ptr H.n 0) ∧ s.H.ok ∧ s.H.n = H.n + 1 ∧ s.H.dfs = [] ∧ s.H.low = (if anyS seen l = true then id else H.n) ∧
   s.H.get H.n = some (.miter (some id) c seen c) ∧ s.H.get id = some (.map (rowM AV.str fE (delS seen l)) c) ∧ ∀ j, j ≠ H.n → j ≠ id → s.H.get j = H.get j)
  (fun q => q.1 = .normal ∧ q.2.env = [] ∧ q.2.loc = [] ∧ q.2.H.n = H.n + 1 ∧ q.2.H.low = (if l.any (fun e => delB e.2.1.2) = true then id else H.n) ∧ q.2.H.dfs = [] ∧ q.2.H.ok ∧ ∀ j, q.2.H.get j = if j = H.n then some .dead else if j = id then some (.map (rowM AV.str fE (l.filter fun e => !delB e.2.1.2)) c) else H.get j)
  (by
   rintro k seen s ⟨hk, k0, kf, k7, ok, n, d, lo, gr, g1, go⟩
   refine ⟨k7, gr, _, g1, by rw [row_unS, len_row, unS_delS]; exact hk, ?_⟩
   rw [row_unS, unS_delS]
   rintro _ he0
   obtain ⟨e, he, rfl⟩ := List.mem_map.1 he0
   have hel : e ∈ l := (List.mem_filter.1 he).1
   have hed : e ∈ delS seen l := by
    have : e ∈ unS seen (delS seen l) := by rw [unS_delS]; exact he
    exact (List.mem_filter.1 this).1
   have hnd : ((delS seen l).map (·.2.2)).Nodup := (hb.filter _).nodup
   have hsd : SortedM bytesLess (delS seen l) := hs.filter _
   have hlen := unS_step hb.nodup he
   refine ⟨k - 1, by omega, ?_⟩
   simp only
   obtain ⟨S, hS⟩ : ∃ S, S = s.H.set H.n (.miter (some id) c (e.2.2 :: seen) c) := ⟨_, rfl⟩
   have okS : S.ok := by rw [hS]; exact (Chg.set _ _ _).ok ok
   have nS : S.n = H.n + 1 := by rw [hS]; exact n
   have sr : S.get H.n = some (.miter (some id) c (e.2.2 :: seen) c) := by rw [hS]; exact get_set_same _ _ ok.1 (by rw [gr]; rfl)
   have s1 : S.get id = some (.map (rowM AV.str fE (delS seen l)) c) := by rw [hS, get_set_ne _ _ (by omega)]; exact g1
   have so : ∀ j, j ≠ H.n → j ≠ id → S.get j = H.get j := fun j h1 h2 => by rw [hS, get_set_ne _ _ h1]; exact go j h1 h2
   have em : entryMA S (.ptr H.n 0) = some (.tuple [.str e.1, fE e.2.1]) := by
    simp only [entryMA, sr, s1, if_true, findB_row hnd hed, Option.map_some]
   have hve : View S 5 e.2.1.1 (e.2.1.2.L.map rowVe) := by
    have hv0 := (hv e hel).view
    refine hv0.frame fun h => so _ (by have := hv0.lt hok.1 h; omega) (fun hh => ?_)
    obtain ⟨ro, sz, cells, hg, _⟩ := hv0.row h
    rw [hh, h1] at hg; cases hg
   have ec := kDel1 (H := S) (k := e.1) hve
   have hda : delA S .str (.map id) (.str e.1) = some (S.set id (.map (rowM AV.str fE (delM e.1 (delS seen l))) c)) := del_M KeyOk.str s1 e.1
   rw [← hS]
   have key : OkR (evK (call T) (den T) M32_0 (ofSt ⟨(9, .bool true) :: (8, .tuple [.bool true, .str e.1, fE e.2.1]) :: s.env, s.loc, S⟩) fun x s => some (x, s))
       fun r => r.1 = .normal ∧ Go.Wam.look 0 r.2.env = some (.v (.map id)) ∧ Go.Wam.look 1 r.2.env = some (.v (.func (.func 33) [] [])) ∧ Go.Wam.look 7 r.2.env = some (.v (.ptr H.n 0)) ∧ r.2.H = (if delB e.2.1.2 = true then S.set id (.map (rowM AV.str fE (delM e.1 (delS seen l))) c) else S) := by
    unfold fE celCh celIt at em hda ⊢
    unfold celCh celIt at ec
    by_cases hd : delB e.2.1.2 = true
    · rw [hd] at ec
      simp -implicitDefEqProofs [M32_0, k0, kf, k7, look_map, em, hda, ec, hd]
    · have hd' : delB e.2.1.2 = false := by simpa using hd
      rw [hd'] at ec
      simp -implicitDefEqProofs [M32_0, k0, kf, k7, look_map, em, hda, ec, hd']
   obtain ⟨x, st', s', e1, h1', r, hr, p1, p2, pf, p3, p4⟩ := evK_sim _ (ofSt_sim _) key
   cases hr
   simp only at p1 p2 pf p3 p4
   subst p1
   have hH : st'.H = (if delB e.2.1.2 = true then S.set id (.map (rowM AV.str fE (delM e.1 (delS seen l))) c) else S) := h1'.H.trans p4
   have han : anyS (e.2.2 :: seen) l = (delB e.2.1.2 || anyS seen l) := by
    unfold anyS
    rw [Bool.eq_iff_iff]
    simp only [List.any_eq_true, Bool.or_eq_true, Bool.and_eq_true]
    constructor
    · rintro ⟨y, hy, h1, h2⟩
      by_cases h : y.2.2 = e.2.2
      · have := birth_inj hb.nodup hy hel h; subst this; exact .inl h2
      · exact .inr ⟨y, hy, by simp at h1; simp; exact h1.resolve_left h, h2⟩
    · rintro (h | ⟨y, hy, h1, h2⟩)
      · exact ⟨e, hel, by simp, h⟩
      · exact ⟨y, hy, by simp at h1; simp [h1], h2⟩
   have lS : S.low = (if anyS seen l = true then id else H.n) := by rw [hS, AHeap.set_low, lo]; split <;> split <;> omega
   refine ⟨st', e1, by omega, by rw [h1'.env, p2]; rfl, by rw [h1'.env, pf]; rfl, by rw [h1'.env, p3]; rfl, ?_, ?_, ?_, ?_, ?_, ?_, ?_⟩
   · rw [hH]; split
     · exact (Chg.set _ _ _).ok okS
     · exact okS
   · rw [hH]; split <;> exact nS
   · rw [hH]; split <;> (rw [hS]; exact d)
   · rw [hH, han]
     by_cases hd : delB e.2.1.2 = true
     · rw [if_pos hd, hd, AHeap.set_low, lS]
       simp only [Bool.true_or, if_true]
       by_cases h : anyS seen l = true
       · rw [if_pos h, if_neg (Nat.lt_irrefl _)]
       · rw [if_neg h, if_pos i1]
     · rw [if_neg hd, lS]
       have hd' : delB e.2.1.2 = false := by simpa using hd
       rw [hd', Bool.false_or]
   · rw [hH]; split
     · rw [get_set_ne _ _ (by omega)]; exact sr
     · exact sr
   · rw [hH]
     by_cases hd : delB e.2.1.2 = true
     · rw [if_pos hd, ← delS_step hs hb.nodup he hd]; exact get_set_same _ _ okS.1 (by rw [s1]; rfl)
     · rw [if_neg hd, ← delS_keep hb.nodup he (by simpa using hd)]; exact s1
   · intro j hj1 hj2
     rw [hH]; split
     · rw [get_set_ne _ _ hj2]; exact so j hj1 hj2
     · exact so j hj1 hj2)
  (by
   rintro seen s ⟨hk, k0, kf, k7, ok, n, d, lo, gr, g1, go⟩
   have hall : ∀ e ∈ l, seen.contains e.2.2 = true := fun e he => by
    cases h : seen.contains e.2.2 with
    | true => rfl
    | false =>
     have he' : e ∈ unS seen l := List.mem_filter.2 ⟨he, by simp at h; simpa using h⟩
     rw [List.eq_nil_of_length_eq_zero hk] at he'; cases he'
   have hds : delS seen l = l.filter fun e => !delB e.2.1.2 := List.filter_congr fun e he => by rw [hall e he, Bool.true_and]
   have hany : anyS seen l = l.any fun e => delB e.2.1.2 := by
    unfold anyS
    rw [Bool.eq_iff_iff]
    simp only [List.any_eq_true, Bool.and_eq_true]
    exact ⟨fun ⟨e, h1, _, h2⟩ => ⟨e, h1, h2⟩, fun ⟨e, h1, h2⟩ => ⟨e, h1, hall e h1, h2⟩⟩
   refine ⟨(.normal, ⟨[], [], s.H.set H.n .dead⟩), by simp only [cleanA, gr]; rfl, rfl, rfl, rfl, n, ?_, d, (Chg.set _ _ _).ok ok, fun j => ?_⟩
   · simp only [AHeap.set_low, lo, hany]
     split <;> split <;> omega
   · simp only
     by_cases hj : j = H.n
     · subst hj; rw [if_pos rfl]; exact get_set_same _ _ ok.1 (by rw [gr]; rfl)
     · rw [if_neg hj, get_set_ne _ _ hj]
       by_cases hj1 : j = id
       · subst hj1; rw [if_pos rfl, g1, hds]
       · rw [if_neg hj1]; exact go j hj hj1)
  (by
   rintro ⟨x, s⟩ ⟨x', s'⟩ ⟨a1, a2, a3, a4, a5, a6, a7, a8⟩ ⟨b1, b2, b3, b4, b5, b6, b7, b8⟩
   simp only at a1 a2 a3 a4 a5 a6 a8 b1 b2 b3 b4 b5 b6 b8
   exact ⟨a1.trans b1.symm, a2.trans b2.symm, a3.trans b3.symm, a4.trans b4.symm, a5.trans b5.symm, a6.trans b6.symm, fun i _ _ => (a8 i).trans (b8 i).symm⟩)
  _ [] ⟨[(0, .map id), (1, .func (.func 33) [] []), (7, .ptr H.n 0)], [], G⟩ ⟨rfl, rfl, rfl, rfl, okG, nG, by rw [hG]; rfl, by
   have : anyS [] l = false := by unfold anyS; simp
   rw [this]; exact lG, gr, by
   have : delS [] l = l := by unfold delS; simp
   rw [gj _ (by omega), h1, this], fun j hj _ => gj j hj⟩
 obtain ⟨x, Q⟩ := q
 simp only at q1 q2 q3 q4 q5 q6 q7 q8
 subst q1
 refine ⟨Go.Wam.fin H (.tuple []) Q.H, okR_eq (call_evK (show T 32 = some (.ir ⟨_, _, _, _, _⟩) from T32) (by decide) PL32 rfl rfl ?_), ?_⟩
 · have em : rangeMA H.top (.map id) = some (.ptr H.n 0, G) := by simp only [rangeMA, top_get, h1, hG]; rfl
   have hH : (ofSt Q).H = Q.H := rfl
   simp -implicitDefEqProofs [em, evR_mapR, f1, hH]
 by_cases h0 : l.any (fun e => delB e.2.1.2) = true
 · have lq : Q.H.low = id := by rw [q5, if_pos h0]
   have : Go.Wam.fin H (.tuple []) Q.H = Q.H.lowered H := fin_keep (.inl (by omega))
   rw [this]
   refine ⟨⟨by simp; omega, fun _ => ⟨lowered_wf _ q7.1, by simp only [AHeap.lowered]; have := hok.2; split <;> omega⟩, fun j hj hn => ?_, ?_, fun k k1 k2 => ?_⟩, ?_⟩
   · rw [lowered_get, q8, if_neg (by omega), if_neg (by simpa using hn)]
   · simp only [AHeap.lowered]; split <;> omega
   · have := k2 id (by simp); simp only [AHeap.lowered]; split <;> omega
   · exact ⟨by rw [lowered_get, q8, if_neg (by omega), if_pos rfl], fun _ => by simp only [AHeap.lowered]; split <;> omega⟩
 · have : Go.Wam.fin H (.tuple []) Q.H = H := fin_drop' (by rw [q5, if_neg h0]; exact Nat.le_refl _) (by simp)
   rw [this]
   refine ⟨.refl _ _, ?_, fun h => absurd h h0⟩
   have : l.filter (fun e => !delB e.2.1.2) = l := by
    rw [List.filter_eq_self]
    intro e he
    cases h : delB e.2.1.2 with
    | false => rfl
    | true => exact absurd (List.any_eq_true.2 ⟨e, he, h⟩) h0
   rw [this]; exact h1
end
attribute [local simp] callN_yield ofSt_eq ofAV_v
theorem resolveC_err (c : Ch) (id ep : Int) (cm : Bool) (a : Stp) : (resolveC c id ep cm a).2 = 0 ∨ (resolveC c id ep cm a).2 = 84 := by
 unfold resolveC
 repeat' split
 all_goals simp
def closes (id ep : Int) (cm : Bool) (a : Stp) (c : Ch) : Bool := c.op && !(resolveC c id ep cm a).1.op
def resA (id ep : Int) (cm : Bool) (a : Stp) : List KC → List KC → Option (List KC)
 | [], acc => some acc
 | x :: r, acc => if (resolveC x.2 id ep cm a).2 = 0 then resA id ep cm a r (if closes id ep cm a x.2 = true then (x.1, (resolveC x.2 id ep cm a).1) :: acc else acc) else none
def lookK (k : List UInt8) : List KC → Option Ch
 | [] => none
 | x :: r => if k = x.1 then some x.2 else lookK k r
def envRs (b p : Nat) (w : AV) : List (Nat × AV) := [(0, .ptr p 0), (8, .ptr b 0), (9, .ptr (b + 1) 0), (10, .ptr (b + 2) 0), (11, .ptr (b + 3) 0), (12, .ptr (b + 4) 0), (13, .ptr (b + 5) 0), (15, .ptr (b + 6) 0), (16, .ptr (b + 8) 0), (30, w)]
noncomputable def iaRs : IC := .seq (.region O10_7) (.keep [8, 9, 10, 11, 12, 13, 15, 16, 17, 32] [] (.region O10_8))
noncomputable def loopRs (b p : Nat) (w : AV) (ls : LoopState) (pend : Option AExit) : AObj := .loop ls pend (envRs b p w) [31, 32] iaRs Y10_0
structure RsBox (K : AHeap) (b p : Nat) (w : AV) (id ep : Int) (cm : Bool) (a : Stp) (ls : LoopState) (pend : Option AExit) (e : Int) (cnt : Nat) (l2 : ML) (c2 : Nat) : Prop where
 g0 : K.get b = some (.row false 1 [.int .i64 id])
 g1 : K.get (b + 1) = some (.row false 1 [.int .i64 ep])
 g2 : K.get (b + 2) = some (.row false 1 [.bool cm])
 g3 : K.get (b + 3) = some (.row false 2 [.int .i64 a.1, .int .i64 a.2])
 g4 : K.get (b + 4) = some (.row false 1 [.int .i64 0])
 g5 : K.get (b + 5) = some (.row false 1 [.int .i64 e])
 g6 : K.get (b + 6) = some (.row false 1 [.int .i64 cnt])
 g7 : K.get (b + 7) = some (.map (rowM AV.str fE l2) c2)
 g8 : K.get (b + 8) = some (.row false 1 [.map (b + 7)])
 gl : K.get (b + 12) = some (loopRs b p w ls pend)
theorem RsBox.frame {K L : AHeap} {b p : Nat} {w : AV} {id ep : Int} {cm : Bool} {a : Stp} {ls : LoopState} {pend : Option AExit} {e : Int} {cnt : Nat} {l2 : ML} {c2 : Nat} (B : RsBox K b p w id ep cm a ls pend e cnt l2 c2) (h : ∀ i, i ≤ b + 12 → L.get i = K.get i) : RsBox L b p w id ep cm a ls pend e cnt l2 c2 :=
 ⟨(h _ (by omega)).trans B.g0, (h _ (by omega)).trans B.g1, (h _ (by omega)).trans B.g2, (h _ (by omega)).trans B.g3, (h _ (by omega)).trans B.g4, (h _ (by omega)).trans B.g5, (h _ (by omega)).trans B.g6, (h _ (by omega)).trans B.g7, (h _ (by omega)).trans B.g8, (h _ (by omega)).trans B.gl⟩
section
variable {K : AHeap}
set_option maxHeartbeats 16000000 in
theorem rsRound {b p : Nat} {w : AV} {id ep : Int} {cm : Bool} {a : Stp} {cnt : Nat} {l2 : ML} {c2 : Nat} {k : List UInt8} {v : AV} {c : Ch} (hok : K.ok) (hb : b + 12 < K.n) (hwn : w.notL = true)
    (B : RsBox K b p w id ep cm a .ready none 0 cnt l2 c2) (hS : SV K 5 v (c.L.map rowVe)) (hvb : 0 < c.L.length → sid v ≠ b + 12) (hl : c.L.length < 1000000000000) (hc : cnt < 1000000000000) :
    ∃ q K', call T yieldF [.ptr (b + 12) 0, .str k, .agg (celCh v c)] K = some (.bool q, K') ∧ K'.ok ∧ K'.low ≤ b + 12 ∧ Chg [b + 4, b + 5, b + 6, b + 7, b + 12] K K' ∧
     (((resolveC c id ep cm a).2 = 84 ∧ q = false ∧ RsBox K' b p w id ep cm a .done (some .ret) 84 cnt l2 c2) ∨
      ((resolveC c id ep cm a).2 = 0 ∧ closes id ep cm a c = false ∧ q = true ∧ RsBox K' b p w id ep cm a .ready none 0 cnt l2 c2) ∨
      ((resolveC c id ep cm a).2 = 0 ∧ closes id ep cm a c = true ∧ q = true ∧ ∃ v', RsBox K' b p w id ep cm a .ready none 0 (cnt + 1) (putM bytesLess k (v', (resolveC c id ep cm a).1) c2 l2) (tickM k c2 l2) ∧ SV K' 5 v' ((resolveC c id ep cm a).1.L.map rowVe) ∧ (0 < (resolveC c id ep cm a).1.L.length → K.n ≤ sid v'))) := by
 obtain ⟨K0, hK0⟩ : ∃ K0, K0 = (K.withd []).set (b + 12) (loopRs b p w .busy none) := ⟨_, rfl⟩
 have gl0 : (K.withd []).get (b + 12) = some (loopRs b p w .ready none) := by rw [withd_get]; exact B.gl
 have hI : ∀ e l, yI (call T) (den T) Y10_0 (b + 12) K.dfs .normal ⟨e, l, K.withd []⟩ = evK (call T) (den T) Y10_0 ⟨e, l, K0⟩ (yK (b + 12) K.dfs) := fun e l => by
  rw [hK0]; exact yI_normal (C := call T) (D := den T) (ib := Y10_0) (d := K.dfs) gl0 e l
 have hYe := fun s k => evK_unf (T := T) (R := AV × AHeap) Y10_0.eq_1 s k
 have hY : ∀ x s, s.H.dfs = [] → s.H.get (b + 12) = some (loopRs b p w .busy none) → yK (b + 12) K.dfs x s = some (.bool (yieldT x), (s.H.set (b + 12) (loopRs b p w (yLs x) (yPend x))).withd K.dfs) := fun x s h1 h2 => yK_eq h1 h2
 have wok := withd_ok [] hok
 have c0 : Chg [b + 12] (K.withd []) K0 := by rw [hK0]; exact .set _ _ _
 have c0' : Chg [b + 12] K K0 := ((Chg.withd K []).mono (by simp)).trans hok c0 (by simp)
 have ok0 := c0.ok wok
 have d0 : K0.dfs = [] := by rw [hK0]; rfl
 have n0 : K0.n = K.n := by rw [hK0]; rfl
 have lo0 : K0.low ≤ b + 12 := by rw [hK0, AHeap.set_low]; split <;> omega
 have gn : ∀ j, j ≠ b + 12 → K0.get j = K.get j := fun j hj => by rw [hK0, get_set_ne _ _ hj, withd_get]
 have gb : K0.get (b + 12) = some (loopRs b p w .busy none) := by rw [hK0]; exact get_set_same _ _ wok.1 (by rw [gl0]; rfl)
 have r0 := rdAt_row ((gn b (by omega)).trans B.g0)
 have r1 := rdAt_row ((gn (b + 1) (by omega)).trans B.g1)
 have r2 := rdAt_row ((gn (b + 2) (by omega)).trans B.g2)
 have r3 := rdAt_row ((gn (b + 3) (by omega)).trans B.g3)
 have hS0 : SV K0 5 v (c.L.map rowVe) := ⟨hS.view.frame fun h => gn _ (hvb (by simpa using h)), by rw [n0]; exact hS.ok⟩
 have hvn := hS.view.noL
 have hvc := hS.view.cells
 have hcall : ∀ {P : AV × AHeap → Prop}, _ → OkR (call T yieldF [.ptr (b + 12) 0, .str k, .agg (celCh v c)] K) P := fun {P} h => yield_evKI (T := T) (vs := [.str k, .agg (celCh v c)]) B.gl rfl h
 obtain ⟨v', K1, er, m1⟩ := vResolve ok0 hS0 hl id ep cm a
 have d1 : K1.dfs = [] := (call_dfs er).trans d0
 have ok1 := m1.chg.ok ok0
 have le1 := m1.chg.le
 have c1' : Chg [b + 12] K K1 := c0'.trans hok m1.chg (by simp)
 have lo1 : K1.low ≤ b + 12 := Nat.le_trans m1.chg.lo lo0
 have q1 : ∀ j, j ≠ b + 12 → j < K.n → K1.get j = K.get j := fun j h1 h2 => (m1.chg.get j (by omega) (by simp)).trans (gn j h1)
 have gb1 : K1.get (b + 12) = some (loopRs b p w .busy none) := (m1.chg.get _ (by omega) (by simp)).trans gb
 have g4 := (q1 (b + 4) (by omega) (by omega)).trans B.g4
 have g5 := (q1 (b + 5) (by omega) (by omega)).trans B.g5
 have g6 := (q1 (b + 6) (by omega) (by omega)).trans B.g6
 have g7 := (q1 (b + 7) (by omega) (by omega)).trans B.g7
 have g8 := (q1 (b + 8) (by omega) (by omega)).trans B.g8
 have r6 := rdAt_row g6
 have r8 := rdAt_row g8
 have vn' := m1.sv.view.noL
 have vc' := m1.sv.view.cells
 have hqe := resolveC_err c id ep cm a
 unfold closes
 generalize hq : resolveC c id ep cm a = q at er hqe m1 ⊢
 obtain ⟨⟨dL, dop, di⟩, re⟩ := q
 obtain ⟨L, op, ci⟩ := c
 unfold celCh celIt at hcall er ⊢
 simp only [outV, celCh, celIt] at er hqe m1 ⊢
 have fin : ∀ (X : AHeap) (y : AObj), X.ok → X.low ≤ b + 12 → Chg [b + 4, b + 5, b + 6, b + 7, b + 12] K X → (X.get (b + 12)).isSome = true →
     ((X.set (b + 12) y).withd K.dfs).ok ∧ ((X.set (b + 12) y).withd K.dfs).low ≤ b + 12 ∧ Chg [b + 4, b + 5, b + 6, b + 7, b + 12] K ((X.set (b + 12) y).withd K.dfs) ∧ (∀ j, j ≠ b + 12 → ((X.set (b + 12) y).withd K.dfs).get j = X.get j) ∧ ((X.set (b + 12) y).withd K.dfs).get (b + 12) = some y := by
  intro X y h1 h2 h4 h5
  have s1 := (Chg.set X (b + 12) y).ok h1
  refine ⟨withd_ok _ s1, ?_, (h4.trans hok (.set _ _ _) (by simp)).trans hok (.withd _ _) (by simp), fun j hj => ?_, ?_⟩
  · rw [withd_low, AHeap.set_low]; split <;> omega
  · rw [withd_get, get_set_ne _ _ hj]
  · rw [withd_get]; exact get_set_same _ _ h1.1 h5
 rcases hqe with rfl | rfl
 · cases hcl : (op && !dop) with
   | false =>
    obtain ⟨f1, f2, f3, f4, f5⟩ := fin K1 (loopRs b p w .ready none) ok1 lo1 (c1'.mono (by simp)) (by rw [gb1]; rfl)
    have g : ∀ j, j < b + 12 → ((K1.set (b + 12) (loopRs b p w .ready none)).withd K.dfs).get j = K.get j := fun j hj => (f4 j (by omega)).trans (q1 j (by omega) (by omega))
    refine ⟨true, ((K1.set (b + 12) (loopRs b p w .ready none)).withd K.dfs), okR_eq (hcall ?_), f1, f2, f3, .inr (.inl ⟨rfl, rfl, rfl, (g _ (by omega)).trans B.g0, (g _ (by omega)).trans B.g1, (g _ (by omega)).trans B.g2, (g _ (by omega)).trans B.g3, (g _ (by omega)).trans B.g4, (g _ (by omega)).trans B.g5, (g _ (by omega)).trans B.g6, (g _ (by omega)).trans B.g7, (g _ (by omega)).trans B.g8, f5⟩)⟩
    cases op with
    | false => simp -implicitDefEqProofs [iaRs, envRs, hYe, hvn, hvc, hwn, hI, hY, r0, r1, r2, r3, er, vn', vc', d1, gb1, yieldT, yLs, yPend]
    | true =>
     have : dop = true := by simpa using hcl
     subst this
     simp -implicitDefEqProofs [iaRs, envRs, hYe, hvn, hvc, hwn, hI, hY, r0, r1, r2, r3, er, vn', vc', d1, gb1, yieldT, yLs, yPend]
   | true =>
    simp only [Bool.and_eq_true, Bool.not_eq_true'] at hcl
    obtain ⟨rfl, rfl⟩ := hcl
    have hu := upd_M (f := fE) KeyOk.str g7 k (v', (⟨dL, false, di⟩ : Ch)) rfl
    have hw := wrap_id (n := (cnt : Int) + 1) (by omega) (by omega)
    unfold fE celCh celIt at hu
    simp only at hu
    obtain ⟨X1, hX1⟩ : ∃ X, X = K1.set (b + 7) (.map (rowM AV.str fE (putM bytesLess k (v', (⟨dL, false, di⟩ : Ch)) c2 l2)) (tickM k c2 l2)) := ⟨_, rfl⟩
    have hu' : updA K1 .str (.map (b + 7)) (.str k) (.agg (v' :: .bool false :: [.int .i64 di.m.id, .int .i64 di.m.ep, .str di.m.anc, .int .i64 di.m.w, .int .i64 di.m.g, .int .i64 di.seq, .int .i64 di.at_.1, .int .i64 di.at_.2, .str di.val, .bool di.gone])) = some X1 := by
     rw [hX1]; exact hu
    have cc1 : Chg [b + 7] K1 X1 := by rw [hX1]; exact .set _ _ _
    have okX1 := cc1.ok ok1
    have h6 : X1.get (b + 6) = some (.row false 1 [.int .i64 cnt]) := by rw [hX1, get_set_ne _ _ (by omega)]; exact g6
    have rX6 := rdAt_row h6
    have dX1 : X1.dfs = [] := by rw [hX1]; exact d1
    have h12 : X1.get (b + 12) = some (loopRs b p w .busy none) := by rw [hX1, get_set_ne _ _ (by omega)]; exact gb1
    obtain ⟨X, hX⟩ : ∃ X, X = X1.set (b + 6) (.row false 1 [.int .i64 ((cnt : Int) + 1)]) := ⟨_, rfl⟩
    have cX : Chg [b + 6, b + 7] K1 X := by rw [hX]; exact (cc1.mono (by simp)).trans ok1 (.set _ _ _) (by simp)
    have okX := cX.ok ok1
    have hK : ∀ j, j ≠ b + 6 → j ≠ b + 7 → X.get j = K1.get j := fun j h1 h2 => by rw [hX, get_set_ne _ _ h1, hX1, get_set_ne _ _ h2]
    have e6 : X.get (b + 6) = some (.row false 1 [.int .i64 ((cnt : Int) + 1)]) := by rw [hX]; exact get_set_same _ _ okX1.1 (by rw [h6]; rfl)
    have e7 : X.get (b + 7) = some (.map (rowM AV.str fE (putM bytesLess k (v', (⟨dL, false, di⟩ : Ch)) c2 l2)) (tickM k c2 l2)) := by rw [hX, get_set_ne _ _ (by omega), hX1]; exact get_set_same _ _ ok1.1 (by rw [g7]; rfl)
    obtain ⟨f1, f2, f3, f4, f5⟩ := fin X (loopRs b p w .ready none) okX (Nat.le_trans cX.lo lo1) ((c1'.mono (by simp)).trans hok cX (fun i hi => .inl (by simp at hi ⊢; omega))) (by rw [hK _ (by omega) (by omega), gb1]; rfl)
    have g : ∀ j, j < b + 12 → j ≠ b + 6 → j ≠ b + 7 → ((X.set (b + 12) (loopRs b p w .ready none)).withd K.dfs).get j = K.get j := fun j hj h1 h2 => by rw [f4 j (by omega), hK j h1 h2, q1 j (by omega) (by omega)]
    refine ⟨true, ((X.set (b + 12) (loopRs b p w .ready none)).withd K.dfs), okR_eq (hcall ?_), f1, f2, f3, .inr (.inr ⟨rfl, rfl, rfl, v', ⟨(g _ (by omega) (by omega) (by omega)).trans B.g0, (g _ (by omega) (by omega) (by omega)).trans B.g1, (g _ (by omega) (by omega) (by omega)).trans B.g2, (g _ (by omega) (by omega) (by omega)).trans B.g3, (g _ (by omega) (by omega) (by omega)).trans B.g4, (g _ (by omega) (by omega) (by omega)).trans B.g5, (f4 _ (by omega)).trans e6, (f4 _ (by omega)).trans e7, (g _ (by omega) (by omega) (by omega)).trans B.g8, f5⟩, ?_, ?_⟩)⟩
    · rw [hX]
      simp -implicitDefEqProofs [iaRs, envRs, hYe, hvn, hvc, hwn, hI, hY, r0, r1, r2, r3, r6, r8, er, vn', vc', d1, gb1, yieldT, yLs, yPend, hu', rX6, h6, hw, dX1, h12, get_set_ne, set_dfs]
    · refine ⟨m1.sv.view.frame fun h => ?_, okB_sl m1.sv.view.sl m1.sv.ok (by simp; have := cX.le; omega)⟩
      have hn := m1.new h
      rw [f4 _ (by omega), hK _ (by omega) (by omega)]
    · intro h; have := m1.new (by simpa using h); omega
 · obtain ⟨X, hX⟩ : ∃ X, X = (K1.set (b + 4) (.row false 1 [.int .i64 0])).set (b + 5) (.row false 1 [.int .i64 84]) := ⟨_, rfl⟩
   have c1 := Chg.set K1 (b + 4) (.row false 1 [.int .i64 0])
   have ok2 := c1.ok ok1
   have cX : Chg [b + 4, b + 5] K1 X := by rw [hX]; exact (c1.mono (by simp)).trans ok1 (.set _ _ _) (by simp)
   have okX := cX.ok ok1
   have hK : ∀ j, j ≠ b + 4 → j ≠ b + 5 → X.get j = K1.get j := fun j h1 h2 => by rw [hX, get_set_ne _ _ h2, get_set_ne _ _ h1]
   have e5 : X.get (b + 5) = some (.row false 1 [.int .i64 84]) := by rw [hX]; exact get_set_same _ _ ok2.1 (by rw [get_set_ne _ _ (by omega), g5]; rfl)
   have e4 : X.get (b + 4) = some (.row false 1 [.int .i64 0]) := by rw [hX, get_set_ne _ _ (by omega)]; exact get_set_same _ _ ok1.1 (by rw [g4]; rfl)
   obtain ⟨f1, f2, f3, f4, f5⟩ := fin X (loopRs b p w .done (some .ret)) okX (Nat.le_trans cX.lo lo1) ((c1'.mono (by simp)).trans hok cX (fun i hi => .inl (by simp at hi ⊢; omega))) (by rw [hK _ (by omega) (by omega), gb1]; rfl)
   have g : ∀ j, j < b + 12 → j ≠ b + 4 → j ≠ b + 5 → ((X.set (b + 12) (loopRs b p w .done (some .ret))).withd K.dfs).get j = K.get j := fun j hj h1 h2 => by rw [f4 j (by omega), hK j h1 h2, q1 j (by omega) (by omega)]
   refine ⟨false, ((X.set (b + 12) (loopRs b p w .done (some .ret))).withd K.dfs), okR_eq (hcall ?_), f1, f2, f3, .inl ⟨rfl, rfl, (g _ (by omega) (by omega) (by omega)).trans B.g0, (g _ (by omega) (by omega) (by omega)).trans B.g1, (g _ (by omega) (by omega) (by omega)).trans B.g2, (g _ (by omega) (by omega) (by omega)).trans B.g3, (f4 _ (by omega)).trans e4, (f4 _ (by omega)).trans e5, (g _ (by omega) (by omega) (by omega)).trans B.g6, (g _ (by omega) (by omega) (by omega)).trans B.g7, (g _ (by omega) (by omega) (by omega)).trans B.g8, f5⟩⟩
   rw [hX]
   simp -implicitDefEqProofs [iaRs, envRs, hYe, hvn, hvc, hwn, hI, hY, r0, r1, r2, r3, er, vn', vc', d1, gb1, yieldT, yLs, yPend, g4, g5, get_set_ne, set_dfs]
end
end Go.Proofs.Ytgokjbjbdnbcdaa
