/- What a cache tells. No condition. -/
import Derived.Test.YtdnnpgmekbnlbaaC10S10
set_option linter.unusedVariables false
set_option linter.unusedSimpArgs false
namespace Go.Proofs.Ytdnnpgmekbnlbaa
open Go.Wam

attribute [local simp] den_seq den_region den_regionD0 den_regionD1 den_condB condB_bool den_block den_keep den_ret den_skip den_exit sops_cons sops_nil sopsR_cons sopsR_nil goR_eq readOk trace_cons trace_nil Opd.ev evs Go.Wam.look St.put enterA zipI leaveR_ret leaveR_normal rvs RV.ev
  st_guard guardB_bool st_move st_pick pickB_bool st_allocL st_alloc st_boxL st_box st_build st_buildSlice st_load st_store st_nilCheck nilC st_bin st_un st_convI convI st_convS convS st_convB convB st_mkIface st_mkFunc st_mkMap st_mkSlice mkSl st_slice st_fieldAddr fldA st_field fldV st_idx idxS_slice idxS_oslice st_idxArr idxArr st_idxStr idxStr st_idxAgg idxAgg st_extract extA st_call callA_func st_len st_lenStr lenStr st_lenArr st_lenMap st_append st_clear clearV st_maxs st_mins
  load_ptr load_lptr storeA rd wr goOn_normal goOn_exit goOn_ret outBlock_normal outBlock_exit outBlock_ret prune freeL_nil freeL_cons frV_lptr frV_tuple frV_noL fillA allNoL packA unA checkAt ev_load wantedA beq_same beqL_same AV.beq AV.beqL drawCond freshD readsOk isRead undefA optInt optIntO
  strOp aeqF_nil aeqF_cons andA_some i_add i_sub i_mul i_lss i_leq i_gtr i_geq i_quo i_rem i_eql i_neq s_eql s_neq s_lss
  s_leq s_gtr s_geq s_add e_bool n_bool e_nilp n_nilp e_ptr n_ptr e_lptr n_lptr e_agg n_agg
  e_nils n_nils e_slice n_slice e_oslice n_oslice e_eslice n_eslice e_xslice n_xslice e_nilm n_nilm e_map n_map
  e_nilFunc n_nilFunc e_func n_func q_int q_bool q_str q_struct q_ptr0 q_ptrL0 q_ptrR0 q_ptrL1 q_ptrR1 q_slice0
  q_sliceL0 q_sliceR0 q_sliceL1 q_sliceR1 q_sliceL2 q_sliceR2 q_sliceL3 q_sliceR3 q_map0 q_mapL0 q_mapR0 q_func0 q_funcL0 q_funcR0
  okR_some guardB_tuple get_alloc_eq rdAt_alloc_eq set_alloc_eq set_alloc_ne get_alloc_ne rdAt_alloc_ne
structure Sn where
  f : List UInt8
  t : List UInt8
  a : Stp
def rowSn (s : Sn) : List AV := [.str s.f, .str s.t, .int .i64 s.a.1, .int .i64 s.a.2]
def SmallN (s : Sn) : Prop := Small s.f ∧ Small s.t
def cObj (lo : Stp) (v : AV) : AObj := .row false 3 [.int .i64 lo.1, .int .i64 lo.2, v]
structure CRep (K : AHeap) (c : Nat) (lo : Stp) (L : List Sn) (v : AV) : Prop where
  obj : K.get c = some (cObj lo v)
  own : Own K 4 v (L.map rowSn)
  ne : ∀ j ∈ sown v, j ≠ c
  vok : v.okB K.n = true
  clt : c < K.n
  small : ∀ s ∈ L, SmallN s
/-- Up to when it was read. -/
def mostF (lo : Stp) (L : List Sn) (f t : List UInt8) : Stp := L.foldl (fun out s => if meetB s.f s.t f t = true then maxS out s.a else out) lo
theorem mostF_snoc (lo : Stp) (L : List Sn) (s : Sn) (f t : List UInt8) : mostF lo (L ++ [s]) f t = if meetB s.f s.t f t = true then maxS (mostF lo L f t) s.a else mostF lo L f t := by
  unfold mostF; rw [List.foldl_append]; rfl

section
variable {K : AHeap} {c : Nat} {lo : Stp} {L : List Sn} {v : AV} {f t : List UInt8} {a : Stp}
theorem CRep.chg {K' : AHeap} {G : List Nat} (hw : K.wf) (h : CRep K c lo L v) (ch : Chg G K K') (hc : c ∉ G) (hv : ∀ j ∈ sown v, j ∉ G) : CRep K' c lo L v :=
  ⟨by rw [ch.get c h.clt hc]; exact h.obj, h.own.chg hw ch hv, h.ne, okB_sl h.own.view.sl h.vok ch.le, Nat.lt_of_lt_of_le h.clt ch.le, h.small⟩
theorem CRep.top (h : CRep K c lo L v) : CRep K.top c lo L v := ⟨h.obj, h.own.frame fun _ _ => rfl, h.ne, h.vok, h.clt, h.small⟩
theorem cNew0 (hl : K.low ≤ K.n) : call T 14 [.agg [.int .i64 a.1, .int .i64 a.2]] K = some (.ptr K.n 0, K.alloc (cObj a .nils)) := by
  rw [call_at (show T 14 = some (.ir ⟨_, _, _, _, _⟩) from T14)]
  have := fin_alloc (H := K) (v := .ptr K.n 0) (x := cObj a .nils) hl (by simp)
  unfold cObj at *
  simp -implicitDefEqProofs [this]
theorem cNew (hok : K.ok) : call T 14 [.agg [.int .i64 a.1, .int .i64 a.2]] K.top = some (.ptr K.n 0, K.top.alloc (cObj a .nils)) ∧ CRep (K.top.alloc (cObj a .nils)) K.n a [] .nils :=
  ⟨cNew0 (K := K.top) (Nat.le_refl _), ⟨get_alloc_same _ _, .nil _ _, by simp, by simp, by simp, by simp⟩⟩
theorem cLen (h : CRep K c lo L v) : call T 24 [.ptr c 0] K = some (.int .i64 L.length, K) := by
  rw [call_at (show T 24 = some (.ir ⟨_, _, _, _, _⟩) from T24)]
  have e0 := h.own.view.lenS
  rw [List.length_map] at e0
  have hvn := h.own.view.noL
  have r := rdAt_row h.top.obj
  simp -implicitDefEqProofs [r, e0, hvn, fin_pure]
theorem cLow (h : CRep K c lo L v) : call T 21 [.ptr c 0] K = some (.agg [.int .i64 lo.1, .int .i64 lo.2], K) := by
  rw [call_at (show T 21 = some (.ir ⟨_, _, _, _, _⟩) from T21)]
  have r := rdAt_row h.top.obj
  simp -implicitDefEqProofs [r, fin_pure]
theorem most_loop (hO : View K 4 v (L.map rowSn)) (hs : ∀ s ∈ L, SmallN s) (hf : Small f) (ht : Small t) (hl : L.length ≤ 1000000) :
    ∃ z s', den T (.loop L20_0) ⟨[(3, .lptr 3 0), (4, .lptr 4 0), (5, .lptr 5 0), (23, v), (24, .int .i64 L.length), (25, .int .i64 0)], [(3, [.str f, .str t]), (4, [.int .i64 0, .int .i64 0]), (5, [.int .i64 lo.1, .int .i64 lo.2])], K⟩ = some (z, s') ∧
      z = .exit 0 ∧ s'.H = K ∧ Go.Wam.look 4 s'.env = some (.lptr 4 0) ∧ Go.Wam.look 5 s'.env = some (.lptr 5 0) ∧ Go.Wam.look 4 s'.loc = some [.int .i64 0, .int .i64 0] ∧ Go.Wam.look 5 s'.loc = some [.int .i64 (mostF lo L f t).1, .int .i64 (mostF lo L f t).2] := by
  refine loop_inv (I := fun q st => ∃ i : Nat, i + q = L.length ∧ st = ⟨[(3, .lptr 3 0), (4, .lptr 4 0), (5, .lptr 5 0), (23, v), (24, .int .i64 L.length), (25, .int .i64 i)], [(3, [.str f, .str t]), (4, [.int .i64 0, .int .i64 0]), (5, [.int .i64 (mostF lo (L.take i) f t).1, .int .i64 (mostF lo (L.take i) f t).2])], K⟩) _ ?_ L.length _ ⟨0, by omega, by simp [prS, mostF]⟩
  rintro q _ ⟨i, hi, rfl⟩ P hI hX hR
  have hvn := hO.noL
  by_cases hlt : i < L.length
  · have hw := wrap_id (n := (i : Int) + 1) (by omega) (by omega)
    have e1 := hO.idx .i64 (n := i) (by omega) (by rw [List.length_map]; omega)
    have e2 := hO.rd (i := i) (r := rowSn L[i]) (by rw [List.getElem?_map, List.getElem?_eq_getElem hlt]; rfl) true (k := 4) (f := 0) (by omega) (by omega) (by simp)
    rw [show rd true 4 0 (rowSn L[i]) = some (.agg [.str L[i].f, .str L[i].t, .int .i64 L[i].a.1, .int .i64 L[i].a.2]) from rfl] at e2
    simp only [Int.toNat_natCast, Nat.add_zero] at e1 e2
    obtain ⟨h1, h2⟩ := hs L[i] (List.getElem_mem hlt)
    have e3 := sMeet h1 h2 hf ht K
    have e4 := tMax (mostF lo (L.take i) f t) L[i].a K
    have hsn := mostF_snoc lo (L.take i) L[i] f t
    rw [← List.take_succ_eq_append_getElem hlt] at hsn
    generalize mostF lo (L.take i) f t = out at *
    generalize hx : L[i] = x at *
    cases hm : meetB x.f x.t f t with
    | true =>
      rw [hm] at e3
      rw [hm, if_pos rfl] at hsn
      simp -implicitDefEqProofs [hlt, e1, e2, e3, e4, hvn, hw]
      refine hI _ _ _ (q - 1) (by omega) ?_
      exact ⟨i + 1, by omega, by simp [hsn]⟩
    | false =>
      rw [hm] at e3
      rw [hm, if_neg (by simp)] at hsn
      simp -implicitDefEqProofs [hlt, e1, e2, e3, hvn, hw]
      refine hI _ _ _ (q - 1) (by omega) ?_
      exact ⟨i + 1, by omega, by simp [hsn]⟩
  · have hil : i = L.length := by omega
    subst hil
    rw [List.take_length]
    simp -implicitDefEqProofs [Nat.lt_irrefl]
    refine hX _ _ ?_
    exact ⟨rfl, rfl, by simp, by simp, by simp, by simp⟩
def mostR (lo : Stp) (L : List Sn) (f t : List UInt8) : Stp := if rightB f t = true then mostF lo L f t else (0, 0)
theorem cMost (h : CRep K c lo L v) (hf : Small f) (ht : Small t) (hl : L.length ≤ 1000000) :
    call T 20 [.ptr c 0, .agg [.str f, .str t]] K = some (.agg [.int .i64 (mostR lo L f t).1, .int .i64 (mostR lo L f t).2], K) := by
  rw [call_at (show T 20 = some (.ir ⟨_, _, _, _, _⟩) from T20)]
  have r := rdAt_row h.top.obj
  have e1 := sRight hf ht K.top
  have e0 := h.own.view.lenS
  rw [List.length_map] at e0
  have hvn := h.own.view.noL
  unfold mostR
  cases hr : rightB f t with
  | true =>
    rw [hr] at e1
    rw [if_pos rfl]
    obtain ⟨z, ⟨e, l2, K2⟩, f1, rfl, hK, g4, g5, q4, q5⟩ := most_loop (lo := lo) h.top.own.view h.small hf ht hl
    simp only at hK g4 g5 q4 q5
    subst hK
    generalize mostF lo L f t = out at *
    simp -implicitDefEqProofs [r, e0, e1, hvn, f1, g4, g5, q4, q5, fin_pure]
  | false =>
    rw [hr] at e1
    simp only [Bool.false_eq_true, if_false]
    simp -implicitDefEqProofs [e1, fin_pure]

def addE (f t : List UInt8) (a : Stp) : Int := if rightB f t = true then (if rightT a = true then 0 else 31) else 51
/-- Is there something to write down? -/
def addW (lo : Stp) (f t : List UInt8) (a : Stp) : Bool := rightB f t && (rightT a && ltS lo a)
theorem CRep.add_no (h : CRep K c lo L v) (hf : Small f) (ht : Small t) (hw : addW lo f t a = false) : call T 16 [.ptr c 0, .agg [.str f, .str t], .agg [.int .i64 a.1, .int .i64 a.2]] K = some (.int .i64 (addE f t a), K) := by
  rw [call_at (show T 16 = some (.ir ⟨_, _, _, _, _⟩) from T16)]
  have r := rdAt_row h.top.obj
  have e1 := sRight hf ht K.top
  have e2 := tRight a K.top
  have e3 := tLess lo a K.top
  unfold addW at hw
  unfold addE
  cases h1 : rightB f t with
  | false => rw [h1] at e1; simp -implicitDefEqProofs [e1, fin_pure]
  | true =>
    cases h2 : rightT a with
    | false => rw [h1] at e1; rw [h2] at e2; simp -implicitDefEqProofs [e1, e2, fin_pure]
    | true =>
      rw [h1, h2] at hw
      simp only [Bool.true_and] at hw
      rw [h1] at e1
      rw [h2] at e2
      rw [hw] at e3
      simp -implicitDefEqProofs [r, e1, e2, e3, fin_pure]
theorem CRep.add_room (hok : K.ok) (h : CRep K c lo L v) (hf : Small f) (ht : Small t) (hw : addW lo f t a = true) (hl : L.length < 16) :
    ∃ K' v', call T 16 [.ptr c 0, .agg [.str f, .str t], .agg [.int .i64 a.1, .int .i64 a.2]] K = some (.int .i64 0, K') ∧ CRep K' c lo (L ++ [⟨f, t, a⟩]) v' ∧ Chg (c :: sown v) K K' ∧ (∀ j ∈ sown v', j ∈ sown v ∨ K.n ≤ j) := by
  have hokT := AHeap.ok.top hok.1
  have hT := h.top
  have r := rdAt_row hT.obj
  have e1 := sRight hf ht K.top
  have e2 := tRight a K.top
  have e3 := tLess lo a K.top
  unfold addW at hw
  simp only [Bool.and_eq_true] at hw
  rw [hw.1] at e1
  rw [hw.2.1] at e2
  rw [hw.2.2] at e3
  have cT := Chg.alloc K.top (.row false 4 (rowSn ⟨f, t, a⟩))
  have okT := cT.ok hokT
  have htmp : View (K.top.alloc (.row false 4 (rowSn ⟨f, t, a⟩))) 4 (.slice K.n 0 1 1) [rowSn ⟨f, t, a⟩] :=
    ⟨by simp [AV.sl], rfl, by simp [rowSn], fun _ => ⟨false, 4, _, get_alloc_same _ _, by simp [rowSn], by simp [rowSn]⟩⟩
  obtain ⟨v', K2, ha, hO2, c2, n2, _⟩ := (hT.own.new hokT.1 cT).append (bytes := 48) okT htmp (by simp) (by omega) (by rw [List.length_map]; simp; omega)
  have ok2 := c2.ok okT
  have cc : c ∉ sown v := fun hc => h.ne c hc rfl
  have clt : c < K.n := h.clt
  have hg2 : K2.get c = some (cObj lo v) := by rw [c2.get c (by simp; omega) cc, cT.get c clt (by simp)]; exact h.obj
  have c3 := Chg.set K2 c (cObj lo v')
  have c03 : Chg (c :: sown v) K.top (K2.set c (cObj lo v')) := (((cT.mono (G := c :: sown v) (by simp)).trans hokT c2 (fun j hj => .inl (by simp [hj]))).trans hokT c3 (by simp))
  have hfin := fin_keep (H := K) (K := K2.set c (cObj lo v')) (v := .int .i64 0) (.inl (by rw [AHeap.set_low]; split <;> omega))
  have hvn := h.own.view.noL
  have hvn' := hO2.view.noL
  have hvc := hO2.view.cells
  have hl2 := hO2.view.lenS
  rw [List.length_append, List.length_map] at hl2
  have hne' : ∀ j ∈ sown v', j ≠ c := fun j hj => by
    rcases n2 j hj with e | e
    · exact h.ne j e
    · simp only [AHeap.alloc_n, top_n] at e; omega
  have hg3 : (K2.set c (cObj lo v')).get c = some (cObj lo v') := get_set_same _ _ (by rw [hg2]; rfl)
  have r3 := rdAt_row hg3
  have hv'o : v'.okB K2.n = true := own_okB hO2 ok2.1 (fun id hid => by have := own_sid hO2 (by simp); rw [hid] at this; cases this)
  refine ⟨(K2.set c (cObj lo v')).lowered K.low, v', ?_, ⟨by rw [lowered_get]; exact hg3, ?_, hne', hv'o, ?_, ?_⟩, c03.lowered hok, fun j hj => ?_⟩
  · have hlt : ¬ (16 : Int) < (L.length : Int) + 1 := by omega
    have hlen : (((L.length + [rowSn ⟨f, t, a⟩].length : Nat)) : Int) = (L.length : Int) + 1 := by simp
    rw [hlen] at hl2
    have hvo := h.vok
    rw [call_at (show T 16 = some (.ir ⟨_, _, _, _, _⟩) from T16)]
    unfold cObj at *
    simp only [rowSn] at ha
    simp -implicitDefEqProofs [r, e1, e2, e3, hvn, hvo, ha, hvn', hvc, hg2, r3, hl2, hlt, clt, hfin]
  · have := hO2.frame (K := (K2.set c (cObj lo v')).lowered K.low) (fun j hj => by rw [lowered_get, get_set_ne _ _ (hne' j hj)])
    rw [List.map_append]; exact this
  · have := c03.le
    simp only [top_n] at this
    exact Nat.lt_of_lt_of_le clt this
  · intro s hs
    rcases List.mem_append.1 hs with hs | hs
    · exact h.small s hs
    · simp at hs; subst hs; exact ⟨hf, ht⟩
  · rcases n2 j hj with e | e
    · exact .inl e
    · simp only [AHeap.alloc_n, top_n] at e; exact .inr (by omega)
end
end Go.Proofs.Ytdnnpgmekbnlbaa
