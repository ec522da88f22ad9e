/- What the document's latches tell. No condition. -/
import Derived.Test.YtglfchdpcididaaC11S11K
set_option linter.unusedVariables false
set_option linter.unusedSimpArgs false
namespace Go.Proofs.Ytglfchdpcididaa
open Go.Wam

attribute [local simp] den_seq den_region den_regionD0 den_regionD1 den_condB condB_bool den_block den_keep den_ret den_skip den_exit sops_cons sops_nil sopsR_cons sopsR_nil goR_eq readOk trace_cons trace_nil Opd.ev evs Go.Wam.look St.put enterA zipI leaveR_ret leaveR_normal rvs RV.ev
  st_guard guardB_bool st_move st_pick pickB_bool st_allocL st_alloc st_boxL st_box st_build st_buildSlice st_load st_store st_nilCheck nilC st_bin st_un st_convI convI st_convS convS st_convB convB st_mkIface st_mkFunc st_mkMap st_mkSlice mkSl st_slice st_fieldAddr fldA st_field fldV st_idx idxS_slice idxS_oslice st_idxArr idxArr st_idxStr idxStr st_idxAgg idxAgg st_extract extA st_call callA_func st_len st_lenStr lenStr st_lenArr st_lenMap st_append st_clear clearV st_maxs st_mins
  load_ptr load_lptr storeA rd wr goOn_normal goOn_exit goOn_ret outBlock_normal outBlock_exit outBlock_ret prune freeL_nil freeL_cons frV_lptr frV_tuple frV_noL fillA allNoL packA unA checkAt ev_load wantedA beq_same beqL_same AV.beq AV.beqL drawCond freshD readsOk isRead undefA optInt optIntO
  strOp aeqF_nil aeqF_cons andA_some i_add i_sub i_mul i_lss i_leq i_gtr i_geq i_quo i_rem i_eql i_neq s_eql s_neq s_lss
  s_leq s_gtr s_geq s_add e_bool n_bool e_nilp n_nilp e_ptr n_ptr e_lptr n_lptr e_agg n_agg
  e_nils n_nils e_slice n_slice e_oslice n_oslice e_eslice n_eslice e_xslice n_xslice e_nilm n_nilm e_map n_map
  e_nilFunc n_nilFunc e_func n_func q_int q_bool q_str q_struct q_ptr0 q_ptrL0 q_ptrR0 q_ptrL1 q_ptrR1 q_slice0
  q_sliceL0 q_sliceR0 q_sliceL1 q_sliceR1 q_sliceL2 q_sliceR2 q_sliceL3 q_sliceR3 q_map0 q_mapL0 q_mapR0 q_func0 q_funcL0 q_funcR0
  okR_some guardB_tuple get_alloc_eq rdAt_alloc_eq set_alloc_eq set_alloc_ne get_alloc_ne rdAt_alloc_ne
def rowCl (a : Cl) (xv : AV) : List AV := [.int .i64 a.n, xv, .bool a.w]

/-! ## Do two collide? -/
section
variable {H : AHeap} {a b : Cl} {xv yv : AV}
theorem rcoll_in (hx : Sps H xv a.x) (hy : Sps H yv b.x) (hxo : xv.okB H.n = true) (hyo : yv.okB H.n = true) {i : Nat} (hi : i < a.x.length) :
    ∃ z s', den T (.loop L74_0) ⟨[(2, .lptr 2 0), (3, .lptr 3 0), (5, .int .i64 i), (6, .int .i64 0)], [(2, rowCl a xv), (3, rowCl b yv)], H⟩ = some (z, s') ∧ s'.H = H ∧
      ((b.x.any (meetS a.x[i]) = true ∧ z = .ret ∧ Go.Wam.look 4 s'.env = some (.bool true)) ∨
       (b.x.any (meetS a.x[i]) = false ∧ z = .exit 2 ∧ Go.Wam.look 2 s'.env = some (.lptr 2 0) ∧ Go.Wam.look 3 s'.env = some (.lptr 3 0) ∧ Go.Wam.look 5 s'.env = some (.int .i64 i) ∧ Go.Wam.look 2 s'.loc = some (rowCl a xv) ∧ Go.Wam.look 3 s'.loc = some (rowCl b yv))) := by
  have hxl := hx.len
  have hyl := hy.len
  unfold maxL at hxl hyl
  refine loop_inv (I := fun m st => ∃ k : Nat, k + m = b.x.length ∧ st = ⟨[(2, .lptr 2 0), (3, .lptr 3 0), (5, .int .i64 i), (6, .int .i64 k)], [(2, rowCl a xv), (3, rowCl b yv)], H⟩ ∧ (b.x.take k).any (meetS a.x[i]) = false) _ ?_ b.x.length _ ⟨0, by omega, by simp [prS], by simp⟩
  rintro m _ ⟨k, hk, rfl, hall⟩ P hI hX hR
  have e0 := hy.view.lenS
  rw [List.length_map] at e0
  have hvn := hx.view.noL
  have hun := hy.view.noL
  by_cases hlt : k < b.x.length
  · have hw := wrap_id (n := (k : Int) + 1) (by omega) (by omega)
    have e1 := hx.view.idx .i64 (n := i) (by omega) (by rw [List.length_map]; omega)
    have e2 := hx.view.rd (i := i) (r := rowSp a.x[i]) (by rw [List.getElem?_map, List.getElem?_eq_getElem hi]; rfl) true (k := 2) (f := 0) (by omega) (by omega) (by simp)
    have e3 := hy.view.idx .i64 (n := k) (by omega) (by rw [List.length_map]; omega)
    have e4 := hy.view.rd (i := k) (r := rowSp b.x[k]) (by rw [List.getElem?_map, List.getElem?_eq_getElem hlt]; rfl) true (k := 2) (f := 0) (by omega) (by omega) (by simp)
    have hs := hx.small a.x[i] (List.getElem_mem hi)
    have ht := hy.small b.x[k] (List.getElem_mem hlt)
    have e5 := rMeet hs.1 hs.2 ht.1 ht.2 H
    have e6 : meetB a.x[i].1 a.x[i].2 b.x[k].1 b.x[k].2 = meetS a.x[i] b.x[k] := rfl
    rw [e6] at e5
    have r1 : rd true 2 0 (rowSp a.x[i]) = some (.agg [.str a.x[i].1, .str a.x[i].2]) := rfl
    have r2 : rd true 2 0 (rowSp b.x[k]) = some (.agg [.str b.x[k].1, .str b.x[k].2]) := rfl
    rw [r1] at e2
    rw [r2] at e4
    simp only [Int.toNat_natCast, Nat.add_zero] at e1 e2 e3 e4
    have ht2 : (b.x.take (k + 1)).any (meetS a.x[i]) = ((b.x.take k).any (meetS a.x[i]) || meetS a.x[i] b.x[k]) := by rw [List.take_succ_eq_append_getElem hlt, List.any_append]; simp
    rw [hall, Bool.false_or] at ht2
    generalize meetS a.x[i] b.x[k] = q at *
    cases hb : q with
    | true =>
      subst hb
      simp -implicitDefEqProofs [rowCl, e0, hlt, e1, e2, e3, e4, e5, hvn, hun, hxo, hyo]
      refine hR _ ?_
      refine ⟨rfl, .inl ⟨?_, rfl, by simp⟩⟩
      obtain ⟨z, hz, hz2⟩ := List.any_eq_true.1 ht2
      exact List.any_eq_true.2 ⟨z, List.mem_of_mem_take hz, hz2⟩
    | false =>
      subst hb
      simp -implicitDefEqProofs [rowCl, e0, hlt, e1, e2, e3, e4, e5, hvn, hun, hw, hxo, hyo]
      refine hI _ _ _ (m - 1) (by omega) ?_
      exact ⟨k + 1, by omega, by simp [rowCl], ht2⟩
  · have hky : k = b.x.length := by omega
    rw [hky, List.take_length] at hall
    simp -implicitDefEqProofs [rowCl, e0, hlt]
    refine hX _ _ ?_
    exact ⟨rfl, .inr ⟨hall, rfl, by simp, by simp, by simp, by simp [rowCl], by simp [rowCl]⟩⟩

theorem rcoll_out (hx : Sps H xv a.x) (hy : Sps H yv b.x) (hxo : xv.okB H.n = true) (hyo : yv.okB H.n = true) :
    ∃ z s', den T (.loop L74_1) ⟨[(2, .lptr 2 0), (3, .lptr 3 0), (5, .int .i64 0)], [(2, rowCl a xv), (3, rowCl b yv)], H⟩ = some (z, s') ∧ s'.H = H ∧
      ((meetsB a.x b.x = true ∧ z = .ret ∧ Go.Wam.look 4 s'.env = some (.bool true)) ∨ (meetsB a.x b.x = false ∧ z = .exit 0)) := by
  have hxl := hx.len
  unfold maxL at hxl
  refine loop_inv (I := fun m st => ∃ i : Nat, i + m = a.x.length ∧ st = ⟨[(2, .lptr 2 0), (3, .lptr 3 0), (5, .int .i64 i)], [(2, rowCl a xv), (3, rowCl b yv)], H⟩ ∧ meetsB (a.x.take i) b.x = false) _ ?_ a.x.length _ ⟨0, by omega, by simp [prS], by simp [meetsB]⟩
  rintro m _ ⟨i, hi, rfl, hall⟩ P hI hX hR
  have e0 := hx.view.lenS
  rw [List.length_map] at e0
  by_cases hlt : i < a.x.length
  · have hw := wrap_id (n := (i : Int) + 1) (by omega) (by omega)
    have ht2 : meetsB (a.x.take (i + 1)) b.x = (meetsB (a.x.take i) b.x || b.x.any (meetS a.x[i])) := by unfold meetsB; rw [List.take_succ_eq_append_getElem hlt, List.any_append]; simp
    rw [hall, Bool.false_or] at ht2
    obtain ⟨z, ⟨e, lo, K⟩, h, hK, ⟨hb, rfl, h4⟩ | ⟨hb, rfl, h2, h3, h5, h6, h7⟩⟩ := rcoll_in hx hy hxo hyo hlt
    · simp only at hK h4
      subst hK
      simp only [rowCl] at h
      simp -implicitDefEqProofs [rowCl, e0, hlt, h, h4]
      refine hR _ ?_
      refine ⟨rfl, .inl ⟨?_, rfl, by simp [h4]⟩⟩
      exact List.any_eq_true.2 ⟨a.x[i], List.getElem_mem hlt, hb⟩
    · simp only at hK h2 h3 h5 h6 h7
      subst hK
      rw [hb] at ht2
      simp only [rowCl] at h h6 h7
      simp -implicitDefEqProofs [rowCl, e0, hlt, h, h2, h3, h5, h6, h7, hw]
      refine hI _ _ _ (m - 1) (by omega) ?_
      exact ⟨i + 1, by omega, by simp [rowCl, h2, h3, h6, h7], ht2⟩
  · have hix : i = a.x.length := by omega
    rw [hix, List.take_length] at hall
    simp -implicitDefEqProofs [rowCl, e0, hlt]
    refine hX _ _ ?_
    exact ⟨rfl, .inr ⟨hall, rfl⟩⟩

theorem rCollide (hx : Sps H xv a.x) (hy : Sps H yv b.x) (hxo : xv.okB H.n = true) (hyo : yv.okB H.n = true) :
    call T 74 [.agg (rowCl a xv), .agg (rowCl b yv)] H = some (.bool (collC a b), H) := by
  rw [call_at (show T 74 = some (.ir ⟨_, _, _, _, _⟩) from T74)]
  have hvn := hx.view.noL
  have hun := hy.view.noL
  have hcc : collC a b = ((a.w || b.w) && meetsB a.x b.x) := rfl
  have run := rcoll_out hx.top hy.top hxo hyo
  cases haw : a.w with
  | false =>
    cases hbw : b.w with
    | false => simp -implicitDefEqProofs [rowCl, haw, hbw, hvn, hun, fin_pure, hcc]
    | true =>
      obtain ⟨z, ⟨e, lo, K⟩, h, hK, ⟨hb, rfl, h4⟩ | ⟨hb, rfl⟩⟩ := run
      · simp only at hK h4
        subst hK
        simp only [rowCl, haw, hbw] at h
        simp -implicitDefEqProofs [rowCl, haw, hbw, hvn, hun, h, h4, hb, fin_pure, hcc]
      · simp only at hK
        subst hK
        simp only [rowCl, haw, hbw] at h
        simp -implicitDefEqProofs [rowCl, haw, hbw, hvn, hun, h, hb, fin_pure, hcc]
  | true =>
    obtain ⟨z, ⟨e, lo, K⟩, h, hK, ⟨hb, rfl, h4⟩ | ⟨hb, rfl⟩⟩ := run
    · simp only at hK h4
      subst hK
      simp only [rowCl, haw] at h
      simp -implicitDefEqProofs [rowCl, haw, hvn, hun, h, h4, hb, fin_pure, hcc]
    · simp only at hK
      subst hK
      simp only [rowCl, haw] at h
      simp -implicitDefEqProofs [rowCl, haw, hvn, hun, h, hb, fin_pure, hcc]
end

/-! ## The document's latches, as they stand -/
structure ClIn where
  c : Cl
  xv : AV
def rowRef (p : ClIn) : List AV := rowCl p.c p.xv
structure RefX (H : AHeap) (m : Nat) (ps : List ClIn) (F : List Nat) (v : AV) : Prop where
  obj : H.get m = some (.row false 1 [v])
  view : View H 3 v (ps.map rowRef)
  vok : v.okB H.n = true
  each : ∀ p ∈ ps, Sps H p.xv p.c.x ∧ p.xv.okB H.n = true ∧ (0 < p.c.x.length → sid p.xv ∈ F ∧ sid p.xv ≠ m)
  vF : 0 < ps.length → sid v ∈ F ∧ sid v ≠ m
  mF : m ∈ F
  lt : ∀ i ∈ F, i < H.n
  many : ps.length ≤ 1000000
def RefRep (H : AHeap) (m : Nat) (L : List Cl) (F : List Nat) : Prop := ∃ ps v, L = ps.map (·.c) ∧ RefX H m ps F v

section
variable {H K : AHeap} {m : Nat} {ps : List ClIn} {F G : List Nat} {v : AV}
theorem RefX.chg (hw : H.wf) (h : RefX H m ps F v) (c : Chg G H K) (hf : ∀ i ∈ F, i ∉ G) : RefX K m ps F v where
  obj := by rw [c.get m (h.lt _ h.mF) (hf _ h.mF)]; exact h.obj
  view := h.view.chg hw c fun hr => hf _ (h.vF (by simpa using hr)).1
  vok := okB_sl h.view.sl h.vok c.le
  each := fun p hp => by
    obtain ⟨h1, h2, h3⟩ := h.each p hp
    exact ⟨h1.chg hw c fun hr => hf _ (h3 hr).1, okB_sl h1.view.sl h2 c.le, h3⟩
  vF := h.vF
  mF := h.mF
  lt := fun i hi => Nat.lt_of_lt_of_le (h.lt i hi) c.le
  many := h.many
theorem RefX.top (h : RefX H m ps F v) : RefX H.top m ps F v := ⟨h.obj, h.view.top, h.vok, fun p hp => ⟨(h.each p hp).1.top, (h.each p hp).2⟩, h.vF, h.mF, h.lt, h.many⟩
theorem RefRep.chg {L : List Cl} (hw : H.wf) (h : RefRep H m L F) (c : Chg G H K) (hf : ∀ i ∈ F, i ∉ G) : RefRep K m L F := by
  obtain ⟨ps, v, h1, h2⟩ := h; exact ⟨ps, v, h1, h2.chg hw c hf⟩

theorem rfind_loop (h : RefX H m ps F v) (n : Int) :
    ∃ z s', den T (.loop L61_0) ⟨[(0, .ptr m 0), (1, .int .i64 n), (5, .int .i64 0)], [], H⟩ = some (z, s') ∧ s'.H = H ∧
      (((ps.map (·.c)).findIdx? (fun a => decide (a.n = n)) = none ∧ z = .exit 0) ∨ (∃ i : Nat, (ps.map (·.c)).findIdx? (fun a => decide (a.n = n)) = some i ∧ z = .ret ∧ Go.Wam.look 4 s'.env = some (.int .i64 i))) := by
  have hmany := h.many
  refine loop_inv (I := fun q st => ∃ i : Nat, i + q = ps.length ∧ st = ⟨[(0, .ptr m 0), (1, .int .i64 n), (5, .int .i64 i)], [], H⟩ ∧ (∀ j (hj : j < ps.length), j < i → decide (ps[j].c.n = n) = false)) _ ?_ ps.length _ ⟨0, by omega, by simp [prS], by omega⟩
  rintro q _ ⟨i, hi, rfl, hall⟩ P hI hX hR
  have e0 := h.view.lenS
  rw [List.length_map] at e0
  have hvn := h.view.noL
  have r0 := rdAt_row h.obj
  by_cases hlt : i < ps.length
  · have hw := wrap_id (n := (i : Int) + 1) (by omega) (by omega)
    have e1 := h.view.idx .i64 (n := i) (by omega) (by rw [List.length_map]; omega)
    have e2 := h.view.rd (i := i) (r := rowRef ps[i]) (by rw [List.getElem?_map, List.getElem?_eq_getElem hlt]; rfl) false (k := 1) (f := 0) (by omega) (by omega) (by simp)
    have e3 : rd false 1 0 (rowRef ps[i]) = some (.int .i64 ps[i].c.n) := rfl
    rw [e3] at e2
    simp only [Int.toNat_natCast, Nat.add_zero] at e1 e2
    by_cases h2 : ps[i].c.n = n
    · have hf : (ps.map (·.c)).findIdx? (fun a => decide (a.n = n)) = some i := by
        rw [List.findIdx?_eq_some_iff_getElem]
        exact ⟨by simpa using hlt, by simp [h2], fun j hj => by have := hall j (by omega) hj; simp at this ⊢; exact this⟩
      rw [h2] at e2
      simp -implicitDefEqProofs [r0, e0, hlt, hvn, e1, e2]
      refine hR _ ?_
      exact ⟨rfl, .inr ⟨i, hf, rfl, by simp⟩⟩
    · simp -implicitDefEqProofs [r0, e0, hlt, hvn, e1, e2, h2, hw]
      refine hI _ _ _ (q - 1) (by omega) ?_
      refine ⟨i + 1, by omega, by simp, fun j hj hji => ?_⟩
      by_cases hji2 : j = i
      · subst hji2; exact decide_eq_false h2
      · exact hall j hj (by omega)
  · have hf : (ps.map (·.c)).findIdx? (fun a => decide (a.n = n)) = none := by
      rw [List.findIdx?_eq_none_iff]
      intro c hc
      obtain ⟨p, hp, rfl⟩ := List.mem_map.1 hc
      obtain ⟨j, hj, rfl⟩ := List.mem_iff_getElem.1 hp
      exact hall j hj (by omega)
    simp -implicitDefEqProofs [r0, e0, hlt, hvn]
    refine hX _ _ ?_
    exact ⟨rfl, .inl ⟨hf, rfl⟩⟩

theorem RefX.find (h : RefX H m ps F v) (n : Int) : call T 61 [.ptr m 0, .int .i64 n] H = some (.int .i64 (findI (ps.map (·.c)) n), H) := by
  rw [call_at (show T 61 = some (.ir ⟨_, _, _, _, _⟩) from T61)]
  obtain ⟨z, ⟨e, lo, K⟩, f, hK, hx⟩ := rfind_loop h.top n
  simp only at hK
  subst hK
  rcases hx with ⟨h2, rfl⟩ | ⟨i, h2, rfl, h3⟩
  · simp -implicitDefEqProofs [f, fin_pure, findI, h2]
  · simp only at h3
    simp -implicitDefEqProofs [f, h3, fin_pure, findI, h2]

theorem ahead_any (L : List Cl) {i : Nat} {a : Cl} (hi : L[i]? = some a) : decide (aheadC L i = 0) = !(L.take i).any fun b => collC b a := by
  unfold aheadC
  rw [hi]
  simp only
  cases h : (L.take i).any fun b => collC b a with
  | true =>
    obtain ⟨b, hb, h2⟩ := List.any_eq_true.1 h
    refine decide_eq_false fun h0 => ?_
    rw [List.countP_eq_zero] at h0
    exact h0 b hb (by rw [collC_comm]; exact h2)
  | false =>
    refine decide_eq_true ?_
    rw [List.countP_eq_zero]
    intro b hb h2
    have := List.any_eq_false.1 h b hb
    rw [collC_comm] at this
    exact this h2

theorem rat_loop (h : RefX H m ps F v) {i : Nat} (hi : i < ps.length) :
    ∃ z s', den T (.loop L63_0) ⟨[(0, .ptr m 0), (1, .int .i64 i), (5, .int .i64 0)], [], H⟩ = some (z, s') ∧ s'.H = H ∧
      ((((ps.map (·.c)).take i).any (fun b => collC b ps[i].c) = false ∧ z = .exit 0) ∨ (((ps.map (·.c)).take i).any (fun b => collC b ps[i].c) = true ∧ z = .ret ∧ Go.Wam.look 4 s'.env = some (.bool false))) := by
  have hmany := h.many
  refine loop_inv (I := fun q st => ∃ k : Nat, k + q = i ∧ st = ⟨[(0, .ptr m 0), (1, .int .i64 i), (5, .int .i64 k)], [], H⟩ ∧ ((ps.map (·.c)).take k).any (fun b => collC b ps[i].c) = false) _ ?_ i _ ⟨0, by omega, by simp [prS], by simp⟩
  rintro q _ ⟨k, hk, rfl, hall⟩ P hI hX hR
  have hvn := h.view.noL
  have hvo := h.vok
  have r0 := rdAt_row h.obj
  by_cases hlt : k < i
  · have hw := wrap_id (n := (k : Int) + 1) (by omega) (by omega)
    have hkl : k < ps.length := by omega
    have e1 := h.view.idx .i64 (n := k) (by omega) (by rw [List.length_map]; omega)
    have e2 := h.view.rd (i := k) (r := rowRef ps[k]) (by rw [List.getElem?_map, List.getElem?_eq_getElem hkl]; rfl) true (k := 3) (f := 0) (by omega) (by omega) (by simp)
    have e3 := h.view.idx .i64 (n := i) (by omega) (by rw [List.length_map]; omega)
    have e4 := h.view.rd (i := i) (r := rowRef ps[i]) (by rw [List.getElem?_map, List.getElem?_eq_getElem hi]; rfl) true (k := 3) (f := 0) (by omega) (by omega) (by simp)
    obtain ⟨a1, a2, _⟩ := h.each ps[k] (List.getElem_mem hkl)
    obtain ⟨b1, b2, _⟩ := h.each ps[i] (List.getElem_mem hi)
    have e5 := rCollide a1 b1 a2 b2
    have r1 : rd true 3 0 (rowRef ps[k]) = some (.agg (rowCl ps[k].c ps[k].xv)) := rfl
    have r2 : rd true 3 0 (rowRef ps[i]) = some (.agg (rowCl ps[i].c ps[i].xv)) := rfl
    rw [r1] at e2
    rw [r2] at e4
    have o1 : ((AV.agg (rowCl ps[k].c ps[k].xv)).okB H.n) = true := by
      simp only [rowCl, okB_agg, okL_cons, okL_nil, okB_int, okB_bool, a2]
      have : ps[k].xv.one = true := by have := a1.view.sl; revert this; cases ps[k].xv <;> simp [AV.sl]
      simp [this]
    have o2 : ((AV.agg (rowCl ps[i].c ps[i].xv)).okB H.n) = true := by
      simp only [rowCl, okB_agg, okL_cons, okL_nil, okB_int, okB_bool, b2]
      have : ps[i].xv.one = true := by have := b1.view.sl; revert this; cases ps[i].xv <;> simp [AV.sl]
      simp [this]
    have hltI : (k : Int) < i := by omega
    have ht2 : ((ps.map (·.c)).take (k + 1)).any (fun b => collC b ps[i].c) = (((ps.map (·.c)).take k).any (fun b => collC b ps[i].c) || collC ps[k].c ps[i].c) := by
      rw [List.take_succ_eq_append_getElem (by simpa using hkl), List.any_append]; simp
    rw [hall, Bool.false_or] at ht2
    simp only [Int.toNat_natCast, Nat.add_zero] at e1 e2 e3 e4
    generalize rowCl ps[k].c ps[k].xv = c1 at *
    generalize rowCl ps[i].c ps[i].xv = c2 at *
    generalize collC ps[k].c ps[i].c = b at *
    simp only [okB_agg, Bool.and_eq_true] at o1 o2
    cases b with
    | true =>
      simp -implicitDefEqProofs [r0, hlt, hvn, hvo, e1, e2, e3, e4, e5, o1, o2]
      refine hR _ ?_
      refine ⟨rfl, .inr ⟨?_, rfl, by simp⟩⟩
      obtain ⟨z, hz, hz2⟩ := List.any_eq_true.1 ht2
      exact List.any_eq_true.2 ⟨z, (List.take_subset_take_left _ (by omega)) hz, hz2⟩
    | false =>
      simp -implicitDefEqProofs [r0, hlt, hvn, hvo, e1, e2, e3, e4, e5, o1, o2, hw]
      refine hI _ _ _ (q - 1) (by omega) ?_
      exact ⟨k + 1, by omega, by simp, ht2⟩
  · have hki : k = i := by omega
    subst hki
    simp -implicitDefEqProofs [Nat.lt_irrefl]
    refine hX _ _ ?_
    exact ⟨rfl, .inl ⟨hall, rfl⟩⟩

theorem RefX.at (h : RefX H m ps F v) {i : Nat} (hi : i < ps.length) : call T 63 [.ptr m 0, .int .i64 i] H = some (.bool (decide (aheadC (ps.map (·.c)) i = 0)), H) := by
  rw [call_at (show T 63 = some (.ir ⟨_, _, _, _, _⟩) from T63)]
  rw [ahead_any (a := ps[i].c) _ (by rw [List.getElem?_map, List.getElem?_eq_getElem hi]; rfl)]
  obtain ⟨z, ⟨e, lo, K⟩, f, hK, ⟨h2, rfl⟩ | ⟨h2, rfl, h3⟩⟩ := rat_loop h.top hi
  · simp only at hK
    subst hK
    simp -implicitDefEqProofs [f, fin_pure, h2]
  · simp only at hK h3
    subst hK
    simp -implicitDefEqProofs [f, h3, fin_pure, h2]

theorem RefX.free (h : RefX H m ps F v) (n : Int) : call T 43 [.ptr m 0, .int .i64 n] H = some (.bool (freeP (ps.map (·.c)) n), H) := by
  rw [call_at (show T 43 = some (.ir ⟨_, _, _, _, _⟩) from T43)]
  have e1 := h.top.find n
  unfold findI at e1
  unfold freeP
  cases hf : (ps.map (·.c)).findIdx? (fun a => decide (a.n = n)) with
  | none => rw [hf] at e1; simp -implicitDefEqProofs [e1, fin_pure]
  | some i =>
    rw [hf] at e1
    simp only at e1
    have hi := (List.findIdx?_eq_some_iff_getElem.1 hf).1
    rw [List.length_map] at hi
    have e2 := h.top.at hi
    have h3 : ¬ (i : Int) < 0 := by omega
    simp -implicitDefEqProofs [e1, e2, h3, fin_pure]
end
end Go.Proofs.Ytglfchdpcididaa
