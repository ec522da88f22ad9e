/- SpanKeys. No condition. -/
import Derived.Test.YtdnnpgmekbnlbaaG5KS05X
set_option linter.unusedVariables false
set_option linter.unusedSimpArgs false
namespace Go.Proofs.Ytdnnpgmekbnlbaa
open Go.Wam

attribute [local simp] den_seq den_region den_regionD0 den_regionD1 den_condB condB_bool den_block den_keep den_ret den_skip den_exit sops_cons sops_nil sopsR_cons sopsR_nil goR_eq readOk trace_cons trace_nil Opd.ev evs Go.Wam.look St.put enterA zipI leaveR_ret leaveR_normal rvs RV.ev
  st_guard guardB_bool st_move st_pick pickB_bool st_allocL st_alloc st_boxL st_box st_build st_buildSlice st_load st_store st_nilCheck nilC st_bin st_un st_convI convI st_convS convS st_convB convB st_mkIface st_mkFunc st_mkMap st_mkSlice mkSl st_slice st_fieldAddr fldA st_field fldV st_idx idxS_slice idxS_oslice st_idxArr idxArr st_idxStr idxStr st_idxAgg idxAgg st_extract extA st_call callA_func st_len st_lenStr lenStr st_lenArr st_lenMap st_append st_clear clearV st_maxs st_mins
  load_ptr load_lptr storeA rd wr goOn_normal goOn_exit goOn_ret outBlock_normal outBlock_exit outBlock_ret prune freeL_nil freeL_cons frV_lptr frV_tuple frV_noL fillA allNoL packA unA checkAt ev_load wantedA beq_same beqL_same AV.beq AV.beqL drawCond freshD readsOk isRead undefA optInt optIntO
  strOp aeqF_nil aeqF_cons andA_some i_add i_sub i_mul i_lss i_leq i_gtr i_geq i_quo i_rem i_eql i_neq s_eql s_neq s_lss
  s_leq s_gtr s_geq s_add e_bool n_bool e_nilp n_nilp e_ptr n_ptr e_lptr n_lptr e_agg n_agg
  e_nils n_nils e_slice n_slice e_oslice n_oslice e_eslice n_eslice e_xslice n_xslice e_nilm n_nilm e_map n_map
  e_nilFunc n_nilFunc e_func n_func q_int q_bool q_str q_struct q_ptr0 q_ptrL0 q_ptrR0 q_ptrL1 q_ptrR1 q_slice0
  q_sliceL0 q_sliceR0 q_sliceL1 q_sliceR1 q_sliceL2 q_sliceR2 q_sliceL3 q_sliceR3 q_map0 q_mapL0 q_mapR0 q_func0 q_funcL0 q_funcR0
  okR_some guardB_tuple get_alloc_eq rdAt_alloc_eq set_alloc_eq set_alloc_ne get_alloc_ne rdAt_alloc_ne
theorem small_of {s : List UInt8} (h : Txt s) : Small s := by have := h.len; unfold Small; omega
theorem fit_txt {f t : List UInt8} (h : fitB f t = true) : Txt f ∧ Txt t := by
  unfold fitB at h
  simp only [Bool.and_eq_true, decide_eq_true_eq] at h
  exact ⟨⟨h.1⟩, ⟨h.2⟩⟩
theorem law_of {f : FuncId} {args : List AV} {H : AHeap} (h : OkR (call T f args H) fun r => r.1 = .bool true) : ∃ K, call T f args H = some (.bool true, K) := by
  obtain ⟨⟨v, K⟩, e, h⟩ := h
  simp only at h
  subst h
  exact ⟨K, e⟩
section
variable {H : AHeap} {lv : AV} {l : List (List UInt8)} {f t : List UInt8}
theorem sk_loop (hok : H.ok) (hV : View H 1 lv (l.map sR)) (hl : l.length ≤ 1000000) (hsm : ∀ s ∈ l, Small s) :
    ∃ z s', den T (.loop L8_0) ⟨[(1, lv), (2, .lptr 2 0), (6, .int .i64 0)], [(2, [.str f, .str t])], H⟩ = some (z, s') ∧
      ((z = .exit 0 ∧ s'.H = H ∧ Go.Wam.look 1 s'.env = some lv ∧ Go.Wam.look 2 s'.env = some (.lptr 2 0) ∧ Go.Wam.look 2 s'.loc = some [.str f, .str t]) ∨ (z = .ret ∧ Go.Wam.look 4 s'.env = some (.bool true))) := by
  refine loop_inv (I := fun q st => ∃ i : Nat, i + q = l.length ∧ st = ⟨[(1, lv), (2, .lptr 2 0), (6, .int .i64 i)], [(2, [.str f, .str t])], H⟩) _ ?_ l.length _ ⟨0, by omega, by simp [prS]⟩
  rintro q _ ⟨i, hi, rfl⟩ P hI hX hR
  have e0 := hV.lenS
  rw [List.length_map] at e0
  have hvn := hV.noL
  have ea := sAlive hok
  by_cases hlt : i < l.length
  · have hw := wrap_id (n := (i : Int) + 1) (by omega) (by omega)
    have r4 : ∀ s, rd false 1 0 (sR s) = some (.str s) := fun _ => rfl
    have e1 := hV.idx .i64 (n := i) (by omega) (by rw [List.length_map]; omega)
    have e2 := hV.rd (i := i) (r := sR l[i]) (by rw [List.getElem?_map, List.getElem?_eq_getElem hlt]; rfl) false (k := 1) (f := 0) (by omega) (by omega) (by simp)
    rw [r4] at e2
    simp only [Int.toNat_natCast, Nat.add_zero, Nat.mul_one] at e1 e2
    by_cases h2 : (200 : Int) < l[i].length
    · simp -implicitDefEqProofs [e0, hlt, hvn, e1, e2, h2, ea]
      refine hR _ ?_
      exact .inr ⟨rfl, by simp⟩
    · simp -implicitDefEqProofs [e0, hlt, hvn, e1, e2, h2, hw]
      refine hI _ _ _ (q - 1) (by omega) ?_
      exact ⟨i + 1, by omega, by simp⟩
  · simp -implicitDefEqProofs [e0, hlt, hvn]
    refine hX _ _ ?_
    exact .inl ⟨rfl, rfl, by simp, by simp, by simp⟩

theorem nKeys (hok : H.ok) (hV : View H 1 lv (l.map sR)) (hsm : ∀ s ∈ l, Small s) : OkR (call T 8 [.agg [.str f, .str t], lv] H) fun r => r.1 = .bool true := by
  rw [call_at (show T 8 = some (.ir ⟨_, _, _, _, _⟩) from T8)]
  have hokT := AHeap.ok.top hok.1
  have e1 := sFits f t H.top
  have ea := sAlive hokT
  have e0 := hV.lenS
  rw [List.length_map] at e0
  have hvn := hV.noL
  by_cases h1 : fitB f t = true
  · obtain ⟨tf, tt⟩ := fit_txt h1
    by_cases h2 : l.length ≤ 200
    · have h2' : ¬ (200 : Int) < l.length := by omega
      have h2'' : ¬ 200 < l.length := by omega
      obtain ⟨z, ⟨e, lo, K⟩, f1, ⟨rfl, hK, g1, g2, gl⟩ | ⟨rfl, g4⟩⟩ := sk_loop (f := f) (t := t) hokT hV.top (by omega) hsm
      · simp only at hK g1 g2 gl
        subst hK
        have cA := Chg.alloc H.top (.row false 1 [])
        have okA := cA.ok hokT
        obtain ⟨w1, K1, a1, O1, c1, n1, _, w1n⟩ := (Own.lit (H.top.alloc (.row false 1 [])) 1 H.n).append' (bytes := 16) okA (hV.top.alloc (show H.top.wf from hok.1) (.row false 1 [])) (by omega) (by rw [List.length_map]; simp; omega)
        have ok1 := c1.ok okA
        rw [sown_slice] at c1 n1
        rw [List.nil_append] at O1
        have c01 : Chg [] H.top K1 := cA.trans hokT c1 (by simp)
        obtain ⟨o, x, K2, k2, f2, O2, c2, n2⟩ := sKeysOf (f := f) (t := t) ok1 (small_of tf) (small_of tt) (hV.top.new hokT.1 c01) (by omega) hsm
        have ok2 := c2.ok ok1
        have c02 := c01.trans hokT c2 (by simp)
        have ea2 := sAlive ok2
        obtain ⟨o3, y, K3, f3, k3, O3, c3, n3, l3⟩ := rKeys (f := f) (t := t) ok2 (small_of tf) (small_of tt) hsm (hV.top.new hokT.1 c02) (by omega)
        have ok3 := c3.ok ok2
        have ho : o3 = o := k3.unique k2
        subst ho
        have f4 := rSame (O2.view.new ok2.1 c3) O3.view (by omega)
        have f5 := rSame (hV.top.new hokT.1 (c02.trans hokT c3 (by simp))) ((O1.view.new ok1.1 c2).new ok2.1 c3) (by omega)
        have hxn := O2.view.noL
        have hyn := O3.view.noL
        simp -implicitDefEqProofs [e1, h1, e0, hvn, h2', h2'', f1, g1, g2, gl, a1, w1n, f2, hxn, ea2, f3, hyn, f4, f5]
      · simp only at g4
        simp -implicitDefEqProofs [e1, h1, e0, hvn, h2', h2'', f1, g4]
    · have h2' : (200 : Int) < l.length := by omega
      have h2'' : 200 < l.length := by omega
      simp -implicitDefEqProofs [e1, h1, e0, hvn, h2', h2'', ea]
  · simp -implicitDefEqProofs [e1, h1, hvn, ea]
end
def spSh : Sh := .pair .str (.pair .str .unit)
theorem sp_cells {H : AHeap} {l : List AV} (h : IsC H spSh l) : ∃ f t, l = [.str f, .str t] := by
  obtain ⟨a, b, rfl, ⟨f, rfl, _⟩, c, d, rfl, ⟨t, rfl, _⟩, rfl⟩ := h
  exact ⟨f, t, rfl⟩
theorem texts_of {H : AHeap} {rows : List (List AV)} (h : ∀ r ∈ rows, IsC H .str r) : ∃ l : List (List UInt8), rows = l.map sR ∧ ∀ s ∈ l, Small s := by
  induction rows with
  | nil => exact ⟨[], rfl, by simp⟩
  | cons r rows ih =>
    obtain ⟨l, e, hs⟩ := ih fun r hr => h r (by simp [hr])
    obtain ⟨s, rfl, hl⟩ := h r (by simp)
    refine ⟨s :: l, by rw [e]; rfl, fun x hx => ?_⟩
    rcases List.mem_cons.1 hx with rfl | hx
    · exact Nat.lt_of_le_of_lt hl (by decide)
    · exact hs x hx
theorem lawKeys : Law T 8 [spSh, .slice 1 16 .str] := by
  intro H ls hw hl ha
  obtain ⟨x, y, rfl, hx, ⟨v, rows, rfl, hv, _, _, hc⟩⟩ := args2 ha
  obtain ⟨f, t, rfl⟩ := sp_cells hx
  obtain ⟨l, rfl, hs⟩ := texts_of hc
  exact law_of (nKeys ⟨hw, by omega⟩ hv.view hs)
end Go.Proofs.Ytdnnpgmekbnlbaa
