/- What is read of a chain. No condition. -/
import Derived.Test.YtkahfmgdjoaiiaaV08S08C
set_option linter.unusedVariables false
set_option linter.unusedSimpArgs false
namespace Go.Proofs.Ytkahfmgdjoaiiaa
open Go.Wam

attribute [local simp] seqK_normal seqK_exit seqK_ret blockK_normal blockK_exit blockK_ret condO_bool evK_skip evK_exit evK_ret evK_keep evK_cond evK_block evK_seq_seq evK_seq_cond evK_seq_block evK_seq_loop evK_seq_skip evK_seq_keep evK_seq_exit evK_seq_ret prK_eq toSt_eq av_l av_v valS_v valT_v valS_u av_u valO_tmp
  nl_eq nl_none nl_if nlR_eq boxC_eq stL_eq storeP_ptr loadP_ptr fldP_ptr idxP_ptr inN_int callN_func strV_str fillC_nil fillC_cons pickV_bool guardK_bool kB_eq chk_some ifaceV_eq funcV_eq natV_int notL_noL leaveK_ret leaveK_normal rvsK_nil rvsK_cons rvK_tmp rvC_l rvC_v rvK_cell enterK_eq ok_l ok_v ok_u norm_eq norm_l norm_v norm_u
  Go.Wam.look zipI prune packA rd undefA allNoL convI convS lenStr lenMap extA fldV idxStr idxAgg idxS_slice idxS_oslice unA beq_same beqL_same AV.beq AV.beqL sliceV nilC clearW
  strOp aeqF_nil aeqF_cons andA_some i_add i_sub i_mul i_lss i_leq i_gtr i_geq i_quo i_rem i_eql i_neq s_eql s_neq s_lss
  s_leq s_gtr s_geq s_add e_bool n_bool e_nilp n_nilp e_ptr n_ptr e_lptr n_lptr e_agg n_agg
  e_nils n_nils e_slice n_slice e_oslice n_oslice e_eslice n_eslice e_xslice n_xslice e_nilm n_nilm e_map n_map
  e_nilFunc n_nilFunc e_func n_func q_int q_bool q_str q_struct q_ptr0 q_ptrL0 q_ptrR0 q_ptrL1 q_ptrR1 q_slice0
  q_sliceL0 q_sliceR0 q_sliceL1 q_sliceR1 q_sliceL2 q_sliceR2 q_sliceL3 q_sliceR3 q_map0 q_mapL0 q_mapR0 q_func0 q_funcL0 q_funcR0
  okR_some get_alloc_eq rdAt_alloc_eq set_alloc_eq set_alloc_ne get_alloc_ne rdAt_alloc_ne
attribute [local congr] bind_cg guardK_cg kB_cg condO_cg evK_cg
def zVe : Ve := ⟨(0, 0), [], false, 0⟩
def zMt : Mt := ⟨0, 0, [], 0, 0⟩
def atV (L : List Ve) (k : Nat) : Ve := (L[k]?).getD zVe
theorem atV_get {L : List Ve} {k : Nat} (h : k < L.length) : L[k]? = some (atV L k) := by unfold atV; rw [List.getElem?_eq_getElem h]; rfl
/-- Is the intent one's own? Is it another's, not above a limit? -/
def ownI (c : Ch) (id ep : Int) : Bool := c.op && (decide (c.i.m.id = id) && decide (c.i.m.ep = ep))
def othI (c : Ch) (id : Int) (l : Stp) : Bool := c.op && (decide (¬ c.i.m.id = id) && uptoB c.i.at_ l)
def readC (c : Ch) (a l : Stp) (id ep : Int) : Ve × Bool × Mt × Int :=
  if ownI c id ep = true then (if c.i.gone = true then (zVe, false, zMt, 0) else (⟨c.i.at_, c.i.val, false, id⟩, true, zMt, 0))
  else if othI c id l = true then (zVe, false, c.i.m, 81)
  else if aboveN c.L a < aboveN c.L l then (⟨(atV c.L (aboveN c.L l - 1)).at_, [], false, 0⟩, false, zMt, 82)
  else if aboveN c.L a = 0 ∨ (atV c.L (aboveN c.L a - 1)).gone = true then (zVe, false, zMt, 0)
  else (atV c.L (aboveN c.L a - 1), true, zMt, 0)
def outR (r : Ve × Bool × Mt × Int) : AV := .tuple [.agg (rowVe r.1), .bool r.2.1, .agg (celMt r.2.2.1), .int .i64 r.2.2.2]
section
variable {H : AHeap} {v : AV} {L : List Ve}
theorem idxP (hV : View H 5 v (L.map rowVe)) {k : Nat} (h1 : 0 < k) (h2 : k ≤ L.length) : idxS 5 v (.int .i64 ((k : Int) - 1)) = some (.ptr (sid v) (soff v + (k - 1) * 5)) := by
  have := hV.idx .i64 (n := (k : Int) - 1) (by omega) (by rw [List.length_map]; omega)
  rw [this]; congr 3; omega
theorem rdP (hV : View H 5 v (L.map rowVe)) {k : Nat} (h1 : 0 < k) (h2 : k ≤ L.length) (agg : Bool) {sz f : Nat} (h3 : f + sz ≤ 5) (h4 : 0 < sz) (h5 : agg = false → sz = 1) : H.rdAt (sid v) agg sz (soff v + (k - 1) * 5 + f) = rd agg sz f (rowVe (atV L (k - 1))) :=
  hV.rd (i := k - 1) (by rw [List.getElem?_map, atV_get (by omega)]; rfl) agg h3 h4 h5
set_option maxHeartbeats 8000000 in
theorem vRead (hS : SV H 5 v (L.map rowVe)) (hl : L.length < 1000000000000000) (op : Bool) (mid mep : Int) (manc : List UInt8) (mw mg seq : Int) (iat : Stp) (ival : List UInt8) (igone : Bool) (a l : Stp) (id ep : Int) :
    call T 19 [.agg [v, .bool op, .int .i64 mid, .int .i64 mep, .str manc, .int .i64 mw, .int .i64 mg, .int .i64 seq, .int .i64 iat.1, .int .i64 iat.2, .str ival, .bool igone], .agg [.int .i64 a.1, .int .i64 a.2], .agg [.int .i64 l.1, .int .i64 l.2], .int .i64 id, .int .i64 ep] H = some (outR (readC ⟨L, op, ⟨⟨mid, mep, manc, mw, mg⟩, seq, iat, ival, igone⟩⟩ a l id ep), H) := by
  refine okR_eq (call_evK (show T 19 = some (.ir ⟨_, _, _, _, _⟩) from T19) rfl rfl ?_)
  have hV := hS.view
  have hvo := hS.ok
  have hv1 := hV.one
  have hvn := hV.noL
  have hvc := hV.cells
  have ea := vAbove (H := H.top) a hV.top hl op ⟨⟨mid, mep, manc, mw, mg⟩, seq, iat, ival, igone⟩
  have el := vAbove (H := H.top) l hV.top hl op ⟨⟨mid, mep, manc, mw, mg⟩, seq, iat, ival, igone⟩
  have eu := vUpto iat l H.top
  have la := aboveN_le L a
  have ll := aboveN_le L l
  unfold readC ownI othI outR
  simp only [celIt] at ea el
  generalize aboveN L a = k at *
  generalize aboveN L l = n at *
  have hw1 := wrap_id (n := (n : Int) - 1) (by omega) (by omega)
  have hw2 := wrap_id (n := (k : Int) - 1) (by omega) (by omega)
  have gn := fun h : 0 < n => idxP hV h ll
  have gk := fun h : 0 < k => idxP hV h la
  have rn := fun h : 0 < n => rdP hV h ll true (sz := 2) (f := 0) (by omega) (by omega) (by simp)
  have rk1 := fun h : 0 < k => rdP hV h la false (sz := 1) (f := 3) (by omega) (by omega) (by simp)
  have rk2 := fun h : 0 < k => rdP hV h la true (sz := 5) (f := 0) (by omega) (by omega) (by simp)
  simp only [rowVe, Nat.add_zero] at rn rk1 rk2
  clear hV hl
  by_cases h1 : op = true ∧ mid = id ∧ mep = ep
  · obtain ⟨rfl, rfl, rfl⟩ := h1
    cases igone <;> simp -implicitDefEqProofs [hvn, hvc, fin_pure, zVe, zMt, rowVe, celMt]
  by_cases h2 : op = true ∧ ¬ mid = id ∧ uptoB iat l = true
  · obtain ⟨rfl, h2, h3⟩ := h2
    rw [h3] at eu
    simp -implicitDefEqProofs [hvn, hvc, h2, h3, eu, fin_pure, zVe, zMt, rowVe, celMt]
  have ho : ∀ {P : Prop}, (op = false → P) → (op = true → mid = id → ¬ mep = ep → P) → (op = true → ¬ mid = id → uptoB iat l = false → P) → P := fun {P} p1 p2 p3 => by
    cases op with
    | false => exact p1 rfl
    | true =>
      by_cases h4 : mid = id
      · exact p2 rfl h4 fun h => h1 ⟨rfl, h4, h⟩
      · refine p3 rfl h4 ?_
        cases hu : uptoB iat l with | false => rfl | true => exact absurd ⟨rfl, h4, hu⟩ h2
  clear h1 h2
  by_cases h3 : k < n
  · have g1 := gn (by omega)
    have g2 := rn (by omega)
    clear gn rn gk rk1 rk2
    refine ho (fun h => ?_) (fun h h' h'' => ?_) (fun h h' h'' => ?_)
    · subst h
      simp -implicitDefEqProofs [hvn, hvc, hvo, hv1, h3, ea, el, g1, g2, hw1, fin_pure, zVe, zMt, rowVe, celMt]
    · subst h h'
      simp -implicitDefEqProofs [hvn, hvc, hvo, hv1, h3, h'', ea, el, g1, g2, hw1, fin_pure, zVe, zMt, rowVe, celMt]
    · subst h
      rw [h''] at eu
      simp -implicitDefEqProofs [hvn, hvc, hvo, hv1, h3, h', h'', eu, ea, el, g1, g2, hw1, fin_pure, zVe, zMt, rowVe, celMt]
  by_cases h6 : k = 0
  · have h6' : (k = 0) = True := eq_true h6
    have h6'' : ((k : Int) = 0) = True := eq_true (by omega)
    clear gn rn gk rk1 rk2
    refine ho (fun h => ?_) (fun h h' h'' => ?_) (fun h h' h'' => ?_)
    · subst h
      simp -implicitDefEqProofs [hvn, hvc, hvo, hv1, h3, ea, el, h6', h6'', fin_pure, zVe, zMt, rowVe, celMt]
    · subst h h'
      simp -implicitDefEqProofs [hvn, hvc, hvo, hv1, h3, h'', ea, el, h6', h6'', fin_pure, zVe, zMt, rowVe, celMt]
    · subst h
      rw [h''] at eu
      simp -implicitDefEqProofs [hvn, hvc, hvo, hv1, h3, h', h'', eu, ea, el, h6', h6'', fin_pure, zVe, zMt, rowVe, celMt]
  · have g1 := gk (by omega)
    have g2 := rk1 (by omega)
    have g3 := rk2 (by omega)
    have h6' : ¬ (k : Int) = 0 := by omega
    clear gn rn gk rk1 rk2
    generalize atV L (k - 1) = x at *
    obtain ⟨xat, xval, xgone, xby⟩ := x
    refine ho (fun h => ?_) (fun h h' h'' => ?_) (fun h h' h'' => ?_)
    · subst h
      cases xgone <;> simp -implicitDefEqProofs [hvn, hvc, hvo, hv1, h3, ea, el, g1, g2, g3, h6, h6', hw2, fin_pure, zVe, zMt, rowVe, celMt]
    · subst h h'
      cases xgone <;> simp -implicitDefEqProofs [hvn, hvc, hvo, hv1, h3, h'', ea, el, g1, g2, g3, h6, h6', hw2, fin_pure, zVe, zMt, rowVe, celMt]
    · subst h
      rw [h''] at eu
      cases xgone <;> simp -implicitDefEqProofs [hvn, hvc, hvo, hv1, h3, h', h'', eu, ea, el, g1, g2, g3, h6, h6', hw2, fin_pure, zVe, zMt, rowVe, celMt]
end
end Go.Proofs.Ytkahfmgdjoaiiaa
