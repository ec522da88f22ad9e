/- Write lays an intent. No condition. -/
import Derived.Test.YtkahfmgdjoaiiaaV08S08E
set_option linter.unusedVariables false
set_option linter.unusedSimpArgs false
namespace Go.Proofs.Ytkahfmgdjoaiiaa
open Go.Wam

attribute [local simp] seqK_normal seqK_exit seqK_ret blockK_normal blockK_exit blockK_ret condO_bool evK_skip evK_exit evK_ret evK_keep evK_cond evK_block evK_seq_seq evK_seq_cond evK_seq_block evK_seq_loop evK_seq_skip evK_seq_keep evK_seq_exit evK_seq_ret prK_eq toSt_eq av_l av_v valS_v valT_v valS_u av_u valO_tmp
  nl_eq nl_none nl_if nlR_eq boxC_eq stL_eq storeP_ptr loadP_ptr fldP_ptr idxP_ptr inN_int callN_func strV_str fillC_nil fillC_cons pickV_bool guardK_bool kB_eq chk_some ifaceV_eq funcV_eq natV_int notL_noL leaveK_ret leaveK_normal rvsK_nil rvsK_cons rvK_tmp rvC_l rvC_v rvK_cell enterK_eq ok_l ok_v ok_u norm_eq norm_l norm_v norm_u
  Go.Wam.look zipI prune packA rd undefA allNoL convI convS lenStr lenMap extA fldV idxStr idxAgg idxS_slice idxS_oslice unA beq_same beqL_same AV.beq AV.beqL sliceV nilC clearW
  strOp aeqF_nil aeqF_cons andA_some i_add i_sub i_mul i_lss i_leq i_gtr i_geq i_quo i_rem i_eql i_neq s_eql s_neq s_lss
  s_leq s_gtr s_geq s_add e_bool n_bool e_nilp n_nilp e_ptr n_ptr e_lptr n_lptr e_agg n_agg
  e_nils n_nils e_slice n_slice e_oslice n_oslice e_eslice n_eslice e_xslice n_xslice e_nilm n_nilm e_map n_map
  e_nilFunc n_nilFunc e_func n_func q_int q_bool q_str q_struct q_ptr0 q_ptrL0 q_ptrR0 q_ptrL1 q_ptrR1 q_slice0
  q_sliceL0 q_sliceR0 q_sliceL1 q_sliceR1 q_sliceL2 q_sliceR2 q_sliceL3 q_sliceR3 q_map0 q_mapL0 q_mapR0 q_func0 q_funcL0 q_funcR0
  okR_some get_alloc_eq rdAt_alloc_eq set_alloc_eq set_alloc_ne get_alloc_ne rdAt_alloc_ne
attribute [local congr] bind_cg guardK_cg kB_cg condO_cg evK_cg
/-- The least stamp that an intent may have. -/
def upS (L : List Ve) (s : Stp) : Stp := if L = [] then s else maxS s (nextS (lastS L)).1
def leastC (L : List Ve) (op : Bool) (ia s : Stp) : Stp × Int :=
  if ¬ L = [] ∧ ¬ (nextS (lastS L)).2 = 0 then ((0, 0), (nextS (lastS L)).2)
  else if rightT (if op = true then maxS (upS L s) ia else upS L s) = true then (if op = true then maxS (upS L s) ia else upS L s, 0) else ((0, 0), 31)
section
variable {H : AHeap} {v : AV} {L : List Ve}
theorem vLeast (hS : SV H 5 v (L.map rowVe)) (hl : L.length < 2932031007403) (op : Bool) (c2 c3 c4 c5 c6 c7 : AV) (ia s : Stp) (c10 c11 : AV) :
    call T 34 [.agg [v, .bool op, c2, c3, c4, c5, c6, c7, .int .i64 ia.1, .int .i64 ia.2, c10, c11], .agg [.int .i64 s.1, .int .i64 s.2]] H = some (.tuple [.agg [.int .i64 (leastC L op ia s).1.1, .int .i64 (leastC L op ia s).1.2], .int .i64 (leastC L op ia s).2], H) := by
  refine okR_eq (call_evK (show T 34 = some (.ir ⟨_, _, _, _, _⟩) from T34) rfl rfl ?_)
  have hvn := hS.view.noL
  have hvc := hS.view.cells
  have el := vLast hS.top (by omega) [.bool op, c2, c3, c4, c5, c6, c7, .int .i64 ia.1, .int .i64 ia.2, c10, c11] rfl
  have en := tNext (lastS L) H.top
  have em := tMax s (nextS (lastS L)).1 H.top
  have em2 := tMax (upS L s) ia H.top
  have er := tRight (if op = true then maxS (upS L s) ia else upS L s) H.top
  unfold leastC
  by_cases h0 : L = []
  · have hu : upS L s = s := by unfold upS; rw [if_pos h0]
    rw [hu] at em2 er ⊢
    simp only [h0, if_true, ne_eq, not_true, decide_false] at el
    simp only [h0, not_true, false_and, if_false]
    cases op with
    | true =>
      simp only [if_true] at er ⊢
      cases hr : rightT (maxS s ia) <;> rw [hr] at er <;> simp -implicitDefEqProofs [hvn, hvc, el, em2, er, fin_pure]
    | false =>
      simp only [Bool.false_eq_true, if_false] at er ⊢
      cases hr : rightT s <;> rw [hr] at er <;> simp -implicitDefEqProofs [hvn, hvc, el, er, fin_pure]
  · have hu : upS L s = maxS s (nextS (lastS L)).1 := by unfold upS; rw [if_neg h0]
    rw [hu] at em2 er ⊢
    simp only [h0, if_false, ne_eq, not_false_eq_true, decide_true] at el
    by_cases h1 : (nextS (lastS L)).2 = 0
    · rw [h1] at en
      simp only [h1, not_true, and_false, if_false]
      cases op with
      | true =>
        simp only [if_true] at er ⊢
        cases hr : rightT (maxS (maxS s (nextS (lastS L)).1) ia) <;> rw [hr] at er <;> simp -implicitDefEqProofs [hvn, hvc, el, en, em, em2, er, fin_pure]
      | false =>
        simp only [Bool.false_eq_true, if_false] at er ⊢
        cases hr : rightT (maxS s (nextS (lastS L)).1) <;> rw [hr] at er <;> simp -implicitDefEqProofs [hvn, hvc, el, en, em, er, fin_pure]
    · rw [if_pos ⟨h0, h1⟩]
      simp -implicitDefEqProofs [hvn, hvc, el, en, h1, fin_pure]
theorem vWrite1 (x : Ve) (i : It) (id : Nat) (hg : H.get id = some (.row false 10 (celIt i))) :
    call T 32 [.agg (rowVe x), .ptr id 0] H = some (.bool (decide (x.by_ = i.m.id)), H) := by
  refine okR_eq (call_evK (show T 32 = some (.ir ⟨_, _, _, _, _⟩) from T32) rfl rfl ?_)
  have r := rdAt_row (H := H.top) (show H.top.get id = _ from hg)
  unfold rowVe
  unfold celIt at r
  simp -implicitDefEqProofs [r, fin_pure]
end
/-- A write: a chain, its stamp, whose intent is in the way, the error. -/
def zCh : Ch := ⟨[], false, zIt⟩
def writeC (c : Ch) (i : It) : Ch × Stp × Mt × Int :=
  if c.op = true ∧ ¬ c.i.m.id = i.m.id then (zCh, (0, 0), c.i.m, 81)
  else if c.L.any (fun x => decide (x.by_ = i.m.id)) = true then (zCh, (0, 0), zMt, 83)
  else if c.op = true ∧ i.m.ep < c.i.m.ep then (zCh, (0, 0), zMt, 84)
  else if c.op = true ∧ c.i.m.ep = i.m.ep ∧ i.seq ≤ c.i.seq then (c, c.i.at_, zMt, 0)
  else if (leastC c.L c.op c.i.at_ i.at_).2 = 0 then (⟨c.L, true, { i with at_ := (leastC c.L c.op c.i.at_ i.at_).1 }⟩, (leastC c.L c.op c.i.at_ i.at_).1, zMt, 0)
  else (zCh, (0, 0), zMt, 31)
def outW (v : AV) (r : Ch × Stp × Mt × Int) : AV := .tuple [.agg (celCh v r.1), .agg [.int .i64 r.2.1.1, .int .i64 r.2.1.2], .agg (celMt r.2.2.1), .int .i64 r.2.2.2]
section
variable {H : AHeap} {v : AV} {c : Ch}
set_option maxHeartbeats 8000000 in
theorem vWrite (hok : H.ok) (hS : SV H 5 v (c.L.map rowVe)) (hl : c.L.length < 2932031007403) (i : It) :
    ∃ v' K, call T 14 [.agg (celCh v c), .agg (celIt i)] H = some (outW v' (writeC c i), K) ∧ NewL H K 5 v' ((writeC c i).1.L.map rowVe) := by
  have hokT := AHeap.ok.top hok.1
  have hvn := hS.view.noL
  have hvc := hS.view.cells
  have hvo := hS.ok
  have hv1 := hS.view.one
  have cA := Chg.alloc H.top (.row false 10 (celIt i))
  have okA := cA.ok hokT
  have hA := hS.top.new hokT.1 cA
  have hvoA := hA.ok
  simp only [AHeap.alloc_n, top_n] at hvoA
  have hgA : (H.top.alloc (.row false 10 (celIt i))).get H.n = some (.row false 10 (celIt i)) := get_alloc_same H.top _
  have rA := rdAt_row hgA
  have ec := containsFunc (T := T) (k := 31) (j := 47) (agg := true) (g := 32) (fs := []) (cap := [.ptr H.n 0]) (p := fun r => match r with | [_, _, _, _, .int .i64 b] => decide (b = i.m.id) | _ => false)
    T31 T47 (by omega) (by simp) hA.view (by rw [List.length_map]; omega)
    (fun r hr => by obtain ⟨s, hs, rfl⟩ := List.mem_map.1 hr; exact vWrite1 s i H.n (show (H.top.alloc _).top.get H.n = _ from hgA)) (fun r hr => by obtain ⟨s, hs, rfl⟩ := List.mem_map.1 hr; rfl) hvn
  have e2 : ((c.L.map rowVe).any fun r => match r with | [_, _, _, _, .int .i64 b] => decide (b = i.m.id) | _ => false) = c.L.any fun x => decide (x.by_ = i.m.id) := by
    rw [List.any_map]; rfl
  rw [e2] at ec
  obtain ⟨L, op, ci⟩ := c
  simp only at hS hl hA ec
  have call_w : ∀ {P : AV × AHeap → Prop}, _ → OkR (call T 14 [.agg (celCh v ⟨L, op, ci⟩), .agg (celIt i)] H) P := fun {P} h => call_evK (show T 14 = some (.ir ⟨_, _, _, _, _⟩) from T14) rfl rfl h
  unfold celCh celIt at *

  unfold writeC
  simp only
  by_cases h1 : op = true ∧ ¬ ci.m.id = i.m.id
  · rw [if_pos h1]
    obtain ⟨rfl, h1⟩ := h1
    exact ⟨.nils, H, okR_eq (call_w (by simp -implicitDefEqProofs [hvn, hvc, rA, h1, fin_drop, outW, celCh, zCh, celIt, zIt, celMt])), .nil H 5⟩
  rw [if_neg h1]
  have ho : ∀ {P : Prop}, (op = false → P) → (op = true → ci.m.id = i.m.id → P) → P := fun {P} p1 p2 => by
    cases op with
    | false => exact p1 rfl
    | true => exact p2 rfl (by by_cases h : ci.m.id = i.m.id; exact h; exact absurd ⟨rfl, h⟩ h1)
  by_cases h2 : (L.any fun x => decide (x.by_ = i.m.id)) = true
  · rw [if_pos h2]
    rw [h2] at ec
    refine ho (fun h => ?_) (fun h h' => ?_)
    · subst h
      exact ⟨.nils, H, okR_eq (call_w (by simp -implicitDefEqProofs [hvn, hvc, rA, ec, fin_drop, outW, celCh, zCh, celIt, zIt, celMt, zMt])), .nil H 5⟩
    · subst h
      exact ⟨.nils, H, okR_eq (call_w (by simp -implicitDefEqProofs [hvn, hvc, rA, ec, eq_true h', fin_drop, outW, celCh, zCh, celIt, zIt, celMt, zMt])), .nil H 5⟩
  rw [if_neg h2]
  have h2' : (L.any fun x => decide (x.by_ = i.m.id)) = false := by simpa using h2
  rw [h2'] at ec
  clear h2 h2'
  by_cases h3 : op = true ∧ i.m.ep < ci.m.ep
  · rw [if_pos h3]
    obtain ⟨rfl, h3⟩ := h3
    refine ho (fun h => by cases h) (fun _ h' => ?_)
    exact ⟨.nils, H, okR_eq (call_w (by simp -implicitDefEqProofs [hvn, hvc, rA, ec, eq_true h', h3, fin_drop, outW, celCh, zCh, celIt, zIt, celMt, zMt])), .nil H 5⟩
  rw [if_neg h3]
  by_cases h4 : op = true ∧ ci.m.ep = i.m.ep ∧ i.seq ≤ ci.seq
  · rw [if_pos h4]
    obtain ⟨rfl, h4, h5⟩ := h4
    refine ho (fun h => by cases h) (fun _ h' => ?_)
    obtain ⟨v', K, e5, m⟩ := vCopied okA hA hl [.bool true, .int .i64 ci.m.id, .int .i64 ci.m.ep, .str ci.m.anc, .int .i64 ci.m.w, .int .i64 ci.m.g, .int .i64 ci.seq, .int .i64 ci.at_.1, .int .i64 ci.at_.2, .str ci.val, .bool ci.gone] rfl
    have vn' := m.sv.view.noL
    have h3' : ¬ i.m.ep < ci.m.ep := fun h => h3 ⟨rfl, h⟩
    refine ⟨v', Go.Wam.fin H (outW v' (⟨L, true, ci⟩, ci.at_, zMt, 0)) K, okR_eq (call_w ?_), NewL.fin hok (m.toNewL.trans hokT cA) (fun h => ?_)⟩
    · simp -implicitDefEqProofs [hvn, hvc, hvoA, hv1, rA, ec, eq_true h', h3', eq_true h4, h5, e5, vn', outW, celCh, celIt, celMt, zMt]
    · unfold outW celCh at h; rw [okB_tuple, okL_cons] at h; simp only [Bool.and_eq_true] at h; exact okB_head h.1
  rw [if_neg h4]
  have el := vLeast hA hl op (.int .i64 ci.m.id) (.int .i64 ci.m.ep) (.str ci.m.anc) (.int .i64 ci.m.w) (.int .i64 ci.m.g) (.int .i64 ci.seq) ci.at_ i.at_ (.str ci.val) (.bool ci.gone)
  generalize leastC L op ci.at_ i.at_ = q at *
  obtain ⟨⟨q1, q2⟩, qe⟩ := q
  simp only at el ⊢
  have tail : ∀ {P : Prop}, (op = false → P) → (op = true → ci.m.id = i.m.id → ¬ i.m.ep < ci.m.ep → (¬ ci.m.ep = i.m.ep ∨ (ci.m.ep = i.m.ep ∧ ci.seq < i.seq)) → P) → P := fun {P} p1 p2 => ho p1 fun h h' => p2 h h' (fun h'' => h3 ⟨h, h''⟩) (by
    by_cases h5 : ci.m.ep = i.m.ep
    · exact .inr ⟨h5, by by_cases h6 : i.seq ≤ ci.seq; exact absurd ⟨h, h5, h6⟩ h4; omega⟩
    · exact .inl h5)
  clear ho h1 h3 h4
  by_cases hq : qe = 0
  · subst hq
    rw [if_pos rfl]
    obtain ⟨v', K, e5, m⟩ := vCopied okA hA hl [.bool op, .int .i64 ci.m.id, .int .i64 ci.m.ep, .str ci.m.anc, .int .i64 ci.m.w, .int .i64 ci.m.g, .int .i64 ci.seq, .int .i64 ci.at_.1, .int .i64 ci.at_.2, .str ci.val, .bool ci.gone] rfl
    have vn' := m.sv.view.noL
    have vc' := m.sv.view.cells
    have v1' := m.sv.view.one
    have vo' := m.sv.ok
    have rK := rdAt_row (show K.get H.n = _ from by rw [m.chg.get H.n (by simp) (by simp)]; exact hgA)
    refine ⟨v', Go.Wam.fin H (outW v' (⟨L, true, { i with at_ := (q1, q2) }⟩, (q1, q2), zMt, 0)) K, okR_eq (call_w ?_), NewL.fin hok (m.toNewL.trans hokT cA) (fun h => ?_)⟩
    · refine tail (fun h => ?_) (fun h h' h'' h5 => ?_)
      · subst h
        simp -implicitDefEqProofs [hvn, hvc, hvoA, hv1, rA, ec, el, e5, vn', vc', v1', vo', rK, outW, celCh, celIt, celMt, zMt]
      · subst h
        rcases h5 with h5 | ⟨h5, h6⟩
        · simp -implicitDefEqProofs [hvn, hvc, hvoA, hv1, rA, ec, el, e5, vn', vc', v1', vo', rK, eq_true h', h'', h5, outW, celCh, celIt, celMt, zMt]
        · have h6' : ¬ i.seq ≤ ci.seq := by omega
          simp -implicitDefEqProofs [hvn, hvc, hvoA, hv1, rA, ec, el, e5, vn', vc', v1', vo', rK, eq_true h', h'', eq_true h5, h6', outW, celCh, celIt, celMt, zMt]
    · unfold outW celCh at h; rw [okB_tuple, okL_cons] at h; simp only [Bool.and_eq_true] at h; exact okB_head h.1
  · rw [if_neg hq]
    refine ⟨.nils, H, okR_eq (call_w ?_), .nil H 5⟩
    refine tail (fun h => ?_) (fun h h' h'' h5 => ?_)
    · subst h
      simp -implicitDefEqProofs [hvn, hvc, hvoA, hv1, rA, ec, el, hq, fin_drop, outW, celCh, zCh, celIt, zIt, celMt, zMt]
    · subst h
      rcases h5 with h5 | ⟨h5, h6⟩
      · simp -implicitDefEqProofs [hvn, hvc, hvoA, hv1, rA, ec, el, hq, eq_true h', h'', h5, fin_drop, outW, celCh, zCh, celIt, zIt, celMt, zMt]
      · have h6' : ¬ i.seq ≤ ci.seq := by omega
        simp -implicitDefEqProofs [hvn, hvc, hvoA, hv1, rA, ec, el, hq, eq_true h', h'', eq_true h5, h6', fin_drop, outW, celCh, zCh, celIt, zIt, celMt, zMt]
end
end Go.Proofs.Ytkahfmgdjoaiiaa
