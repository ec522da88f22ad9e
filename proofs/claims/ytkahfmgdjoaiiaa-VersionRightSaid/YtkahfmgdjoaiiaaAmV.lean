/- The abstract machine: functions of the package slices, at any element. No condition. -/
import Derived.Test.YtkahfmgdjoaiiaaAmU
set_option linter.unusedVariables false
set_option linter.unusedSimpArgs false
namespace Go.Wam

/-- An element, of its cells. -/
def el (agg : Bool) (r : List AV) : AV := if agg = true then .agg r else r.headD .nilp
theorem rd_el {agg : Bool} {sz : Nat} {r : List AV} (hr : r.length = sz) (h0 : 0 < sz) (h1 : agg = false → sz = 1) : rd agg sz 0 r = some (el agg r) := by
  cases agg with
  | true => simp only [rd, el, if_true, List.drop_zero]; rw [if_pos (by omega), ← hr, List.take_length]
  | false =>
    have := h1 rfl
    subst this
    match r, hr with
    | [x], _ => rfl

def isNils : AV → Bool
  | .nils => true
  | _ => false
theorem eql_nils {sz : Nat} {v : AV} (h : v.sl sz = true) : binA .eql .slice v .nils = some (.bool (isNils v)) := by
  cases v <;> first | (simp [AV.sl] at h; done) | simp [binA, aeq, isNils]
theorem neq_nils {sz : Nat} {v : AV} (h : v.sl sz = true) : binA .neq .slice v .nils = some (.bool !isNils v) := by
  cases v <;> first | (simp [AV.sl] at h; done) | simp [binA, aeq, isNils]

attribute [local simp] den_seq den_region den_regionD0 den_regionD1 den_condB condB_bool den_block den_keep den_ret den_skip den_exit sops_cons sops_nil sopsR_cons sopsR_nil goR_eq readOk trace_cons trace_nil Opd.ev evs Go.Wam.look St.put enterA zipI leaveR_ret leaveR_normal rvs RV.ev
  st_guard guardB_bool st_move st_pick pickB_bool st_allocL st_alloc st_boxL st_box st_build st_buildSlice st_load st_store st_nilCheck nilC st_bin st_un st_convI convI st_convS convS st_convB convB st_mkIface st_mkFunc st_mkMap st_mkSlice mkSl st_slice st_fieldAddr fldA st_field fldV st_idx idxS_slice idxS_oslice st_idxArr idxArr st_idxStr idxStr st_idxAgg idxAgg st_extract extA st_call callA_func st_len st_lenStr lenStr st_lenArr st_lenMap st_append st_clear clearV st_maxs st_mins
  load_ptr load_lptr storeA rd wr goOn_normal goOn_exit goOn_ret outBlock_normal outBlock_exit outBlock_ret prune freeL_nil freeL_cons frV_lptr frV_tuple frV_noL fillA allNoL packA unA checkAt ev_load wantedA beq_same beqL_same AV.beq AV.beqL drawCond freshD readsOk isRead undefA optInt optIntO
  strOp aeqF_nil aeqF_cons andA_some i_add i_sub i_mul i_lss i_leq i_gtr i_geq i_quo i_rem i_eql i_neq s_eql s_neq s_lss
  s_leq s_gtr s_geq s_add e_bool n_bool e_nilp n_nilp e_ptr n_ptr e_lptr n_lptr e_agg n_agg
  e_nils n_nils e_slice n_slice e_oslice n_oslice e_eslice n_eslice e_xslice n_xslice e_nilm n_nilm e_map n_map
  e_nilFunc n_nilFunc e_func n_func q_int q_bool q_str q_struct q_ptr0 q_ptrL0 q_ptrR0 q_ptrL1 q_ptrR1 q_slice0
  q_sliceL0 q_sliceR0 q_sliceL1 q_sliceR1 q_sliceL2 q_sliceR2 q_sliceL3 q_sliceR3 q_map0 q_mapL0 q_mapR0 q_func0 q_funcL0 q_funcR0
  okR_some guardB_tuple get_alloc_eq rdAt_alloc_eq set_alloc_eq set_alloc_ne get_alloc_ne rdAt_alloc_ne
variable {T : FuncId → Option FnDef} {k : FuncId} {H : AHeap} {sz bytes : Nat} {v : AV} {rows : List (List AV)} {zero : List AV}

/-! ## IndexFunc, ContainsFunc -/
def indexFuncL (agg : Bool) (sz : Nat) : IC :=
  .keep [0, 1, 7, 8] [] (.seq (.region [⟨some 9, .bin .lss .none (.tmp 8) (.tmp 7), none⟩])
  (.keep [0, 1, 7, 8, 9] [] (.seq (.cond (.tmp 9)
    (.skip)
    (.exit 0))
  (.keep [0, 1, 7, 8] [] (.seq (.block 1 (.seq (.region [⟨some 10, .move (.tmp 8), none⟩,
       ⟨some 5, .move (.tmp 10), none⟩])
    (.keep [0, 1, 5, 7, 8] [] (.seq (.region [⟨some 11, .move (.tmp 1), none⟩,
       ⟨some 12, .move (.tmp 0), none⟩,
       ⟨some 13, .move (.tmp 5), none⟩,
       ⟨some 14, .indexAddr none sz (.tmp 12) (.tmp 13), none⟩,
       ⟨some 15, .load agg sz (.tmp 14), none⟩,
       ⟨some 16, .call (.tmp 11) [(.tmp 15)], none⟩])
    (.keep [0, 1, 5, 7, 8, 16] [] (.cond (.tmp 16)
     (.seq (.region [⟨some 17, .move (.tmp 5), none⟩,
        ⟨some 4, .move (.tmp 17), none⟩])
     (.keep [4] [] (.ret)))
     (.skip)))))))
  (.keep [0, 1, 7, 8] [] (.region [⟨some 18, .bin .add .none (.tmp 8) (.const (.int .i64 1)), none⟩,
    ⟨some 8, .move (.tmp 18), none⟩])))))))
def indexFuncIR (agg : Bool) (sz : Nat) : FnIR := ⟨19, 2, [.tmp 4], [],
  .seq (.region [⟨some 4, .move (.const (.int .i64 0)), none⟩])
  (.keep [0, 1] [] (.seq (.seq (.region [⟨some 6, .move (.tmp 0), none⟩,
      ⟨some 7, .len .slice (.tmp 6), none⟩,
      ⟨some 8, .move (.const (.int .i64 0)), none⟩])
   (.keep [0, 1, 7, 8] [] (.block 0 (.loop (indexFuncL agg sz)))))
  (.keep [] [] (.seq (.region [⟨some 4, .move (.const (.int .i64 (-1))), none⟩])
  (.keep [4] [] (.ret))))))⟩

/-- The first place where p holds; -1. -/
def idxB (p : List AV → Bool) (rows : List (List AV)) : Int :=
  match rows.findIdx? p with
  | some i => i
  | none => -1
theorem idxB_nonneg (p : List AV → Bool) (rows : List (List AV)) : (0 ≤ idxB p rows) = (rows.any p = true) := by
  unfold idxB
  cases h : rows.findIdx? p with
  | none =>
    rw [List.findIdx?_eq_none_iff] at h
    simp
    exact h
  | some i =>
    have := List.findIdx?_eq_some_iff_findIdx_eq.1 h
    have h2 := List.findIdx_lt_length.1 (by rw [this.2]; exact this.1)
    simp
    exact h2

section
variable {agg : Bool} {g : FuncId} {fs cap : List AV} {p : List AV → Bool}
theorem indexFunc_loop (hz : 0 < sz) (h1 : agg = false → sz = 1) (hV : View H sz v rows) (hl : rows.length < 9223372036854775807)
    (hp : ∀ r ∈ rows, call T g (fs ++ (el agg r :: cap)) H = some (.bool (p r), H)) (hn : ∀ r ∈ rows, (el agg r).noL = true) :
    ∃ x s', den T (.loop (indexFuncL agg sz)) ⟨[(0, v), (1, .func (.func g) fs cap), (7, .int .i64 rows.length), (8, .int .i64 0)], [], H⟩ = some (x, s') ∧
      s'.H = H ∧ ((rows.findIdx? p = none ∧ x = .exit 0) ∨ (∃ i : Nat, rows.findIdx? p = some i ∧ x = .ret ∧ Go.Wam.look 4 s'.env = some (.int .i64 i))) := by
  refine loop_inv (I := fun n st => ∃ i : Nat, i + n = rows.length ∧ st = ⟨[(0, v), (1, .func (.func g) fs cap), (7, .int .i64 rows.length), (8, .int .i64 i)], [], H⟩ ∧ (∀ j (hj : j < rows.length), j < i → p rows[j] = false)) _ ?_ rows.length _ ⟨0, by omega, by simp [prS], by omega⟩
  rintro n _ ⟨i, hi, rfl, hall⟩ P hI hX hR
  by_cases hlt : i < rows.length
  · have hw := wrap_id (n := (i : Int) + 1) (by omega) (by omega)
    have hg : rows[i]? = some rows[i] := List.getElem?_eq_getElem hlt
    have hm : rows[i] ∈ rows := List.getElem_mem hlt
    have e1 := hV.idx .i64 (n := i) (by omega) (by omega)
    have e2 := hV.rd hg agg (k := sz) (f := 0) (by omega) hz h1
    rw [rd_el (hV.each _ hm) hz h1] at e2
    simp only [Int.toNat_natCast, Nat.add_zero] at e1 e2
    have e3 := hp _ hm
    have e4 := hn _ hm
    by_cases h2 : p rows[i] = true
    · simp -implicitDefEqProofs [hlt, e1, e2, e3, e4, h2]
      refine hR _ ?_
      refine ⟨rfl, .inr ⟨i, ?_, rfl, by simp⟩⟩
      rw [List.findIdx?_eq_some_iff_getElem]
      exact ⟨hlt, h2, fun j hj => by simp [hall j (by omega) hj]⟩
    · simp -implicitDefEqProofs [hlt, e1, e2, e3, e4, h2, hw]
      refine hI _ _ _ (n - 1) (by omega) ?_
      refine ⟨i + 1, by omega, by simp, fun j hj hji => ?_⟩
      by_cases hji2 : j = i
      · subst hji2; simpa using h2
      · exact hall j hj (by omega)
  · simp -implicitDefEqProofs [hlt]
    refine hX _ _ ?_
    refine ⟨rfl, .inl ⟨?_, rfl⟩⟩
    rw [List.findIdx?_eq_none_iff]
    intro r hr
    obtain ⟨j, hj, rfl⟩ := List.mem_iff_getElem.1 hr
    exact hall j hj (by omega)

theorem indexFunc (hT : T k = some (.ir (indexFuncIR agg sz))) (hz : 0 < sz) (h1 : agg = false → sz = 1) (hV : View H sz v rows) (hl : rows.length < 9223372036854775807)
    (hp : ∀ r ∈ rows, call T g (fs ++ (el agg r :: cap)) H.top = some (.bool (p r), H.top)) (hn : ∀ r ∈ rows, (el agg r).noL = true) :
    call T k [v, .func (.func g) fs cap] H = some (.int .i64 (idxB p rows), H) := by
  rw [call_at (show T k = some (.ir ⟨_, _, _, _, _⟩) from hT)]
  obtain ⟨x, ⟨e, l, K⟩, h, hk, hx⟩ := indexFunc_loop (T := T) hz h1 hV.top hl hp hn
  simp only at hk
  subst hk
  rcases hx with ⟨h2, rfl⟩ | ⟨i, h2, rfl, h3⟩
  · simp -implicitDefEqProofs [hV.lenS, h, fin_pure, idxB, h2]
  · simp only at h3
    simp -implicitDefEqProofs [hV.lenS, h, h3, fin_pure, idxB, h2]

def containsFuncIR (j : FuncId) : FnIR := ⟨9, 2, [.tmp 4], [],
  .seq (.region [⟨some 4, .move (.const (.bool false)), none⟩])
  (.keep [0, 1] [] (.seq (.region [⟨some 5, .move (.tmp 0), none⟩,
     ⟨some 6, .move (.tmp 1), none⟩,
     ⟨some 7, .call (.func j) [(.tmp 5), (.tmp 6)], none⟩,
     ⟨some 8, .bin .geq .none (.tmp 7) (.const (.int .i64 0)), none⟩,
     ⟨some 4, .move (.tmp 8), none⟩])
  (.keep [4] [] (.ret))))⟩
theorem containsFunc {j : FuncId} (hT : T k = some (.ir (containsFuncIR j))) (hJ : T j = some (.ir (indexFuncIR agg sz))) (hz : 0 < sz) (h1 : agg = false → sz = 1) (hV : View H sz v rows) (hl : rows.length < 9223372036854775807)
    (hp : ∀ r ∈ rows, call T g (fs ++ (el agg r :: cap)) H.top = some (.bool (p r), H.top)) (hn : ∀ r ∈ rows, (el agg r).noL = true) (hv : v.noL = true) :
    call T k [v, .func (.func g) fs cap] H = some (.bool (rows.any p), H) := by
  rw [call_at (show T k = some (.ir ⟨_, _, _, _, _⟩) from hT)]
  have e := indexFunc hJ hz h1 hV.top hl hp hn
  have e2 := idxB_nonneg p rows
  cases ha : rows.any p with
  | true => rw [ha] at e2; simp -implicitDefEqProofs [e, e2, hv, fin_pure]
  | false => rw [ha] at e2; simp -implicitDefEqProofs [e, e2, hv, fin_pure]
end

theorem View.noL (h : View H sz v rows) : v.noL = true := by
  have := h.sl
  cases v <;> first | rfl | (simp [AV.sl] at this)

theorem View.cells (h : View H sz v rows) : v.cells = [v] := by
  have := h.sl
  cases v <;> first | rfl | (simp [AV.sl] at this)

/-! ## Clone -/
def cloneIR (sz bytes : Nat) : FnIR := ⟨8, 1, [.tmp 2], [],
  .seq (.region [⟨some 2, .move (.const .nils), none⟩])
  (.keep [0] [] (.seq (.seq (.region [⟨some 3, .move (.tmp 0), none⟩,
      ⟨some 4, .bin .eql .slice (.tmp 3) (.const .nils), none⟩])
   (.keep [0, 4] [] (.cond (.tmp 4)
    (.seq (.region [⟨some 2, .move (.const .nils), none⟩])
    (.keep [2] [] (.ret)))
    (.skip))))
  (.keep [0] [] (.seq (.region [⟨some 5, .buildSlice sz 0 [] [], none⟩,
     ⟨some 6, .move (.tmp 0), none⟩,
     ⟨some 7, .append sz bytes (.tmp 5) (.tmp 6), none⟩,
     ⟨some 2, .move (.tmp 7), none⟩])
  (.keep [2] [] (.ret))))))⟩

/-- A list that was just made, and what stood stays. -/
structure MadeL (H K : AHeap) (sz : Nat) (v : AV) (rows : List (List AV)) : Prop where
  view : View K sz v rows
  chg : Chg [] H K
  new : 0 < rows.length → H.n ≤ sid v

theorem clone_run (hok : H.ok) (hz : 0 < sz) (hV : View H sz v rows) (hn : isNils v = false) (hb : rows.length * bytes ≤ 2 ^ 47) :
    ∃ v' K, appendA (H.alloc (.row false sz [])) sz bytes (.slice H.n 0 0 0) v = some (v', K) ∧ MadeL H K sz v' rows ∧ isNils v' = false ∧ v'.okB H.n = false ∧ v'.noL = true ∧ K.low = H.low ∧ v'.okB K.n = true ∧ Own K sz v' rows ∧ (∀ i ∈ sown v', H.n ≤ i) := by
  have hV' := hV.alloc hok.1 (.row false sz [])
  have hfl : rows.flatten.length = rows.length * sz := flatten_len hV.each
  simp only [appendA, hV'.first]
  by_cases h0 : rows.length = 0
  · have : rows = [] := List.length_eq_zero_iff.1 h0
    subst this
    refine ⟨.slice H.n 0 0 0, H.alloc (.row false sz []), by rw [if_pos (by simp)], ⟨⟨by simp [AV.sl], rfl, fun r hr => (by cases hr), fun h => (by simp at h)⟩, .alloc _ _, fun h => (by simp at h)⟩, rfl, by simp [AV.okB], rfl, rfl, by rw [AV.okB]; exact decide_eq_true (by show H.n < H.n + 1; omega), .lit _ _ _, by simp⟩
  · rw [if_neg (by omega), if_neg (by rw [Nat.zero_add]; omega), if_neg (by omega)]
    simp only [cutA, get_alloc_same, Nat.zero_mul, Nat.zero_add, Nat.le_refl, List.length_nil, if_true, List.drop_zero, List.take_zero, List.nil_append]
    have c1 := Chg.alloc H (.row false sz [])
    have c2 := Chg.alloc (H.alloc (.row false sz [])) (.row false sz rows.flatten)
    refine ⟨_, _, rfl, ⟨⟨by simp [AV.sl], rfl, hV.each, fun _ => ⟨false, sz, rows.flatten, ?_, ?_, ?_⟩⟩, c1.trans hok c2 (by simp), fun _ => ?_⟩, rfl, ?_, rfl, rfl, by rw [AV.okB]; exact decide_eq_true (by show H.n + 1 < H.n + 1 + 1; omega), ⟨hV.each, .inr ⟨_, rows.length, [], rfl, Nat.le_refl _, by simp, by rw [List.append_nil]; exact get_alloc_same (H.alloc _) _⟩⟩, fun i hi => by simp at hi; omega⟩
    · exact get_alloc_same (H.alloc _) _
    · rw [soff_oslice, hfl]; omega
    · rw [soff_oslice, List.drop_zero, ← hfl, List.take_length]
    · show H.n ≤ H.n + 1; omega
    · rw [AV.okB]; exact decide_eq_false (by show ¬ H.n + 1 < H.n; omega)

theorem clone (hT : T k = some (.ir (cloneIR sz bytes))) (hok : H.ok) (hz : 0 < sz) (hV : View H sz v rows) (hb : rows.length * bytes ≤ 2 ^ 47) :
    ∃ v' K, call T k [v] H = some (v', K) ∧ MadeL H K sz v' rows ∧ isNils v' = isNils v ∧ v'.noL = true ∧ K.low = H.low ∧ v'.okB K.n = true ∧ Own K sz v' rows ∧ (∀ i ∈ sown v', H.n ≤ i) := by
  rw [call_at (show T k = some (.ir ⟨_, _, _, _, _⟩) from hT)]
  cases hn : isNils v with
  | true =>
    have : v = .nils := by cases v <;> simp_all [isNils]
    subst this
    have h0 := hV.len
    simp only [slen_nils] at h0
    have : rows = [] := List.length_eq_zero_iff.1 h0.symm
    subst this
    refine ⟨.nils, H, ?_, ⟨hV, .refl _ _, fun h => by simp at h⟩, rfl, rfl, rfl, by simp, .nil _ _, by simp⟩
    simp -implicitDefEqProofs [fin_pure]
  | false =>
    obtain ⟨v', K, e, m, n1, n2, n3, n4, n6, n7, n8⟩ := clone_run (H := H.top) (AHeap.ok.top hok.1) hz hV.top hn hb
    have e2 := eql_nils hV.sl
    have n5 : Go.Wam.fin H v' K = K.lowered H.low := fin_keep (.inr n2)
    have nl := hV.noL
    refine ⟨v', K.lowered H.low, ?_, ⟨m.view.frame (fun _ => rfl), m.chg.lowered hok, m.new⟩, n1, n3, ?_, n6, n7.frame fun _ _ => rfl, n8⟩
    · simp only [top_n] at e
      simp -implicitDefEqProofs [e2, hn, nl, e, n3, n5]
    · simp only [AHeap.lowered, n4, top_low]; have := hok.2; split <;> omega

/-! ## Delete, of one -/
def deleteIR (sz bytes : Nat) (zero : List AV) : FnIR := ⟨33, 3, [.tmp 6], [],
  .seq (.region [⟨some 6, .move (.const .nils), none⟩])
  (.keep [0, 1, 2] [] (.seq (.region [⟨some 8, .move (.tmp 0), none⟩,
     ⟨some 9, .move (.tmp 1), none⟩,
     ⟨some 10, .move (.tmp 2), none⟩,
     ⟨some 11, .move (.tmp 0), none⟩,
     ⟨some 12, .len .slice (.tmp 11), none⟩,
     ⟨some 13, .slice (.slice sz) (.tmp 8) (some (.tmp 9)) (some (.tmp 10)) (some (.tmp 12)), none⟩])
  (.keep [0, 1, 2] [] (.seq (.seq (.region [⟨some 14, .move (.tmp 1), none⟩,
      ⟨some 15, .move (.tmp 2), none⟩,
      ⟨some 16, .bin .eql .int (.tmp 14) (.tmp 15), none⟩])
   (.keep [0, 1, 2, 16] [] (.cond (.tmp 16)
    (.seq (.region [⟨some 17, .move (.tmp 0), none⟩,
       ⟨some 6, .move (.tmp 17), none⟩])
    (.keep [6] [] (.ret)))
    (.skip))))
  (.keep [0, 1, 2] [] (.seq (.region [⟨some 18, .move (.tmp 0), none⟩,
     ⟨some 19, .len .slice (.tmp 18), none⟩,
     ⟨some 7, .move (.tmp 19), none⟩])
  (.keep [0, 1, 2, 7] [] (.seq (.regionD [⟨some 20, .move (.tmp 0), none⟩,
     ⟨some 21, .move (.tmp 1), none⟩,
     ⟨some 22, .slice (.slice sz) (.tmp 20) none (some (.tmp 21)) none, none⟩,
     ⟨some 23, .move (.tmp 0), none⟩,
     ⟨some 24, .move (.tmp 2), none⟩,
     ⟨some 25, .slice (.slice sz) (.tmp 23) (some (.tmp 24)) none none, none⟩,
     ⟨some 26, .append sz bytes (.tmp 22) (.tmp 25), none⟩,
     ⟨some 0, .move (.tmp 26), none⟩] [])
  (.keep [0, 7] [] (.seq (.region [⟨some 27, .move (.tmp 0), none⟩,
     ⟨some 28, .move (.tmp 0), none⟩,
     ⟨some 29, .len .slice (.tmp 28), none⟩,
     ⟨some 30, .move (.tmp 7), none⟩,
     ⟨some 31, .slice (.slice sz) (.tmp 27) (some (.tmp 29)) (some (.tmp 30)) none, none⟩,
     ⟨none, .clear sz zero (.tmp 31), none⟩])
  (.keep [0] [] (.seq (.region [⟨some 32, .move (.tmp 0), none⟩,
     ⟨some 6, .move (.tmp 32), none⟩])
  (.keep [6] [] (.ret))))))))))))))⟩

/-- What append does in Delete. -/
theorem delete_app {id kc n i : Nat} {cells : List AV} (hi : i < n) (hk : n ≤ kc) (hg : H.get id = some (.row false sz cells)) (hl : n * sz ≤ cells.length) (hb : n * bytes ≤ 2 ^ 47) :
    ∃ w, sliceA (.slice sz) (.oslice id 0 n kc sz) (i + 1) none none = some w ∧
      appendA H sz bytes (.oslice id 0 i kc sz) w = some (.oslice id 0 (n - 1) kc sz, if i + 1 = n then H else H.set id (.row false sz (wr (i * sz) ((cells.drop ((i + 1) * sz)).take ((n - (i + 1)) * sz)) cells))) := by
  have hin : inB n kc (i + 1) none none = true := by simp [inB]; omega
  by_cases h1 : i + 1 = n
  · subst h1
    refine ⟨if i + 1 < kc then .oslice id ((i + 1) * sz) 0 (kc - (i + 1)) sz else .eslice id 0 (i + 1) sz, ?_, ?_⟩
    · simp [sliceA, hin]; split <;> rfl
    · have : firstA H sz (if i + 1 < kc then .oslice id ((i + 1) * sz) 0 (kc - (i + 1)) sz else .eslice id 0 (i + 1) sz) = some (0, []) := by split <;> simp [firstA]
      simp [appendA, this]
  · have hlt : i + 1 < kc := by omega
    have e1 : (i + 1) * sz + (n - (i + 1)) * sz = n * sz := by rw [← Nat.add_mul]; congr 1; omega
    have e2 : i + (n - (i + 1)) = n - 1 := by omega
    refine ⟨.oslice id ((i + 1) * sz) (n - (i + 1)) (kc - (i + 1)) sz, by simp [sliceA, hin, hlt], ?_⟩
    have hf : firstA H sz (.oslice id ((i + 1) * sz) (n - (i + 1)) (kc - (i + 1)) sz) = some (n - (i + 1), (cells.drop ((i + 1) * sz)).take ((n - (i + 1)) * sz)) := by
      simp only [firstA]; rw [if_neg (by omega)]; simp only [cutA, hg]; rw [if_pos (by omega)]; rfl
    have h3 : (n - 1) * bytes ≤ 2 ^ 47 := Nat.le_trans (Nat.mul_le_mul_right _ (Nat.sub_le _ _)) hb
    have h4 : (n - 1) * sz ≤ cells.length := Nat.le_trans (Nat.mul_le_mul_right _ (Nat.sub_le _ _)) hl
    simp only [appendA, hf, ne_eq, not_true, if_false, e2, hg, Nat.zero_add]
    rw [if_neg (by omega), if_neg (by omega), if_pos h4, if_neg h1, Nat.max_eq_left (by omega)]

theorem delete_cells {rows : List (List AV)} {rest zero : List AV} {i : Nat} (he : ∀ r ∈ rows, r.length = sz) (hi : i < rows.length) (hz : zero.length = sz) :
    wr ((rows.length - 1) * sz) zero (if i + 1 = rows.length then rows.flatten ++ rest else wr (i * sz) (((rows.flatten ++ rest).drop ((i + 1) * sz)).take ((rows.length - (i + 1)) * sz)) (rows.flatten ++ rest)) = (rows.eraseIdx i).flatten ++ (zero ++ rest) := by
  have hsp : rows = rows.take i ++ (rows[i] :: rows.drop (i + 1)) := by rw [List.getElem_cons_drop, List.take_append_drop]
  have ha : (rows.take i).flatten.length = i * sz := by
    rw [flatten_len (sz := sz) (fun r hr => he r (List.mem_of_mem_take hr)), List.length_take, Nat.min_eq_left (by omega)]
  have hb : (rows.drop (i + 1)).flatten.length = (rows.length - (i + 1)) * sz := by
    rw [flatten_len (sz := sz) (fun r hr => he r (List.mem_of_mem_drop hr)), List.length_drop]
  have hc : rows[i].length = sz := he _ (List.getElem_mem hi)
  have herase : rows.eraseIdx i = rows.take i ++ rows.drop (i + 1) := List.eraseIdx_eq_take_drop_succ ..
  have hfl : rows.flatten = (rows.take i).flatten ++ (rows[i] ++ (rows.drop (i + 1)).flatten) := by
    conv => lhs; rw [hsp]
    rw [List.flatten_append, List.flatten_cons]
  have e1 : (i + 1) * sz = i * sz + sz := by rw [Nat.add_mul, Nat.one_mul]
  have e2 : (rows.length - 1) * sz = i * sz + (rows.length - (i + 1)) * sz := by rw [← Nat.add_mul]; congr 1; omega
  rw [herase, List.flatten_append, hfl]
  generalize (rows.take i).flatten = A at *
  generalize hB : (rows.drop (i + 1)).flatten = B at *
  generalize rows[i] = C at *
  split
  · rename_i h
    have hB0 : B = [] := List.length_eq_zero_iff.1 (by rw [hb, ← h]; simp)
    subst hB0
    have : (rows.length - 1) * sz = A.length := by rw [ha]; congr 1; omega
    rw [this, List.append_nil, List.append_nil, List.append_assoc]
    rw [wr_append _ _ _ _ rfl, List.drop_append_of_le_length (by omega), List.drop_of_length_le (by omega)]
    simp
  · have d1 : ((A ++ (C ++ B)) ++ rest).drop ((i + 1) * sz) = B ++ rest := by
      have : (i + 1) * sz = (A ++ C).length := by rw [List.length_append, ha, hc, e1]
      rw [this, ← List.append_assoc, List.append_assoc (A ++ C), List.drop_left]
    rw [d1, ← hb, List.take_left]
    have d2 : wr (i * sz) B ((A ++ (C ++ B)) ++ rest) = A ++ B ++ ((C ++ B ++ rest).drop B.length) := by
      rw [List.append_assoc A, wr_append _ _ _ _ ha]
    rw [d2]
    have d3 : (rows.length - 1) * sz = (A ++ B).length := by rw [List.length_append, ha, hb, e2]
    have d4 : ((C ++ B ++ rest).drop B.length).drop zero.length = rest := by
      have : B.length + zero.length = (C ++ B).length := by rw [List.length_append, hc, hz]; omega
      rw [List.drop_drop, this, List.drop_left]
    rw [d3, wr_append _ _ _ _ rfl, d4]
    simp only [List.append_assoc]

theorem delete (hT : T k = some (.ir (deleteIR sz bytes zero))) (hok : H.ok) (hz : 0 < sz) (hzl : zero.length = sz) (hO : Own H sz v rows) {i : Nat} (hi : i < rows.length) (hb : rows.length * bytes ≤ 2 ^ 47) (hl : rows.length < 9223372036854775807) :
    ∃ v' K, call T k [v, .int .i64 i, .int .i64 (i + 1)] H = some (v', K) ∧ Own K sz v' (rows.eraseIdx i) ∧ Chg (sown v) H K ∧ sown v' = sown v ∧ v ≠ .nils ∧ K.low ≤ sid v ∧ v'.noL = true := by
  obtain ⟨he, ⟨_, rfl⟩ | ⟨id, kc, rest, rfl, hk, hkr, hg⟩⟩ := hO
  · simp at hi
  have hfl : rows.flatten.length = rows.length * sz := flatten_len he
  have hlt := AHeap.get_lt hg hok.1
  obtain ⟨w, hw, ha⟩ := delete_app (H := H.top) (bytes := bytes) (n := rows.length) hi hk hg (by rw [List.length_append]; omega) hb
  have hs1 : inB rows.length kc i (some (i + 1)) (some rows.length) = true := by simp [inB]; omega
  have hs2 : inB rows.length kc 0 (some i) none = true := by simp [inB]; omega
  have hs3 : inB (rows.length - 1) kc (rows.length - 1) (some rows.length) none = true := by simp [inB]; omega
  have hkc : 0 < kc := by omega
  have hkc2 : rows.length - 1 < kc := by omega
  have hn : rows.length - (rows.length - 1) = 1 := by omega
  have hcl := delete_cells (rest := rest) he hi hzl
  have hcell : (if i + 1 = rows.length then rows.flatten ++ rest else wr (i * sz) (((rows.flatten ++ rest).drop ((i + 1) * sz)).take ((rows.length - (i + 1)) * sz)) (rows.flatten ++ rest)).length = (rows.flatten ++ rest).length := by
    split
    · rfl
    · have e1 : (i + 1) * sz + (rows.length - (i + 1)) * sz = rows.length * sz := by rw [← Nat.add_mul]; congr 1; omega
      have e2 : i * sz ≤ (i + 1) * sz := Nat.mul_le_mul_right _ (Nat.le_succ _)
      rw [wr_length _ _ _ (by simp only [List.length_take, List.length_drop, List.length_append]; omega)]
  generalize hC1 : (if i + 1 = rows.length then rows.flatten ++ rest else wr (i * sz) (((rows.flatten ++ rest).drop ((i + 1) * sz)).take ((rows.length - (i + 1)) * sz)) (rows.flatten ++ rest)) = C1 at hcl hcell
  generalize hK1 : (if i + 1 = rows.length then H.top else H.top.set id (.row false sz (wr (i * sz) (((rows.flatten ++ rest).drop ((i + 1) * sz)).take ((rows.length - (i + 1)) * sz)) (rows.flatten ++ rest)))) = K1 at ha
  have g1 : K1.get id = some (.row false sz C1) := by
    rw [← hK1, ← hC1]
    split
    · exact hg
    · exact get_set_same _ _ (by rw [top_get, hg]; rfl)
  have c1 : Chg [id] H.top K1 := by
    rw [← hK1]
    split
    · exact .refl _ _
    · exact .set _ _ _
  have n1 : K1.n = H.n := by rw [← hK1]; split <;> rfl
  have s1 : sliceA (.slice sz) (.oslice id 0 rows.length kc sz) i (some (i + 1)) (some rows.length) = some (.slice id (if rows.length = i then 0 else 0 + i * sz) (i + 1 - i) (rows.length - i)) := by simp [sliceA, hs1]
  have s2 : sliceA (.slice sz) (.oslice id 0 rows.length kc sz) 0 (some i) none = some (.oslice id 0 i kc sz) := by simp [sliceA, hs2, hkc]
  have s3 : sliceA (.slice sz) (.oslice id 0 (rows.length - 1) kc sz) (rows.length - 1) (some rows.length) none = some (.oslice id ((rows.length - 1) * sz) 1 (kc - (rows.length - 1)) sz) := by simp [sliceA, hs3, hkc2, hn]
  have h01 : (0 : Int) ≤ i + 1 := by omega
  have h02 : ¬ (i : Int) = i + 1 := by omega
  have h03 : ((i : Int) + 1).toNat = i + 1 := by omega
  have hfit : (rows.length - 1) * sz + sz ≤ C1.length := by
    rw [hcell, List.length_append, hfl]
    have : (rows.length - 1) * sz + sz = rows.length * sz := by rw [← Nat.succ_mul]; congr 1; omega
    omega
  have hcl2 := hcl
  unfold wr at hcl2
  rw [hzl] at hcl2
  have hwn : w.noL = true := by
    simp only [sliceA] at hw
    rw [if_neg (by simp)] at hw
    split at hw
    · split at hw <;> (cases hw; rfl)
    · cases hw
  have c2 := Chg.set K1 id (.row false sz ((rows.eraseIdx i).flatten ++ (zero ++ rest)))
  have hlow : (K1.set id (.row false sz ((rows.eraseIdx i).flatten ++ (zero ++ rest)))).low ≤ id := by rw [AHeap.set_low]; split <;> omega
  have hfin : Go.Wam.fin H (.oslice id 0 (rows.length - 1) kc sz) (K1.set id (.row false sz ((rows.eraseIdx i).flatten ++ (zero ++ rest)))) = (K1.set id (.row false sz ((rows.eraseIdx i).flatten ++ (zero ++ rest)))).lowered H.low := fin_keep (.inl (by omega))
  refine ⟨.oslice id 0 (rows.length - 1) kc sz, _, ?_, ⟨fun r hr => he r (List.mem_of_mem_eraseIdx hr), .inr ⟨id, kc, zero ++ rest, ?_, ?_, ?_, ?_⟩⟩, (c1.trans (AHeap.ok.top hok.1) c2 (by simp)).lowered hok, rfl, by simp, ?_, rfl⟩
  · rw [call_at (show T k = some (.ir ⟨_, _, _, _, _⟩) from hT)]
    simp -implicitDefEqProofs [s1, s2, s3, hw, ha, h01, h02, h03, g1, hfit, clearA, hzl, zerosA, hcl2, hfin]
  · rw [List.length_eraseIdx_of_lt hi]
  · rw [List.length_eraseIdx_of_lt hi]; omega
  · rw [List.length_eraseIdx_of_lt hi, List.length_append, hzl]
    have : (rows.length - 1) * sz + sz = rows.length * sz := by rw [← Nat.succ_mul]; congr 1; omega
    omega
  · rw [lowered_get]; exact get_set_same _ _ (by rw [g1]; rfl)
  · simp only [AHeap.lowered, sid_oslice]; split <;> omega

/-! ## Behind a call -/
theorem Own.fin {H K : AHeap} {sz : Nat} {v V : AV} {rows : List (List AV)} (h : Own K sz v rows) (hn : (∃ i ∈ sown v, True) → V.okB H.n = false) : Own (Go.Wam.fin H V K) sz v rows := by
  have hk : ∀ x, Go.Wam.fin H V K = x → (V.okB H.n = false → x = K.lowered H.low) := fun x hx hb => by rw [← hx]; exact fin_keep (.inr hb)
  obtain ⟨he, ⟨rfl | ⟨id, rfl⟩, rfl⟩ | ⟨id, kc, rest, rfl, h1, h2, hg⟩⟩ := h
  · exact .nil _ _
  · exact .lit _ _ _
  · rw [fin_keep (.inr (hn ⟨id, by simp⟩))]
    exact ⟨he, .inr ⟨id, kc, rest, rfl, h1, h2, hg⟩⟩
theorem Own.okB {K : AHeap} {n sz : Nat} {v : AV} {rows : List (List AV)} (h : Own K sz v rows) (hn : ∀ i ∈ sown v, n ≤ i) : (∃ i ∈ sown v, True) → v.okB n = false := by
  rintro ⟨i, hi, _⟩
  obtain ⟨he, ⟨rfl | ⟨id, rfl⟩, rfl⟩ | ⟨id, kc, rest, rfl, h1, h2, hg⟩⟩ := h
  · cases hi
  · cases hi
  · have := hn id (by simp)
    rw [AV.okB]; simp; omega

end Go.Wam
