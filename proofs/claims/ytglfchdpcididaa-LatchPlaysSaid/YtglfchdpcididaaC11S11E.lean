/- Latches that a function made for itself; the live question of latches. No condition. -/
import Derived.Test.YtglfchdpcididaaC11S11D
set_option linter.unusedVariables false
set_option linter.unusedSimpArgs false
namespace Go.Proofs.Ytglfchdpcididaa
open Go.Wam

attribute [local simp] den_seq den_region den_regionD0 den_regionD1 den_condB condB_bool den_block den_keep den_ret den_skip den_exit sops_cons sops_nil sopsR_cons sopsR_nil goR_eq readOk trace_cons trace_nil Opd.ev evs Go.Wam.look St.put enterA zipI leaveR_ret leaveR_normal rvs RV.ev
  st_guard guardB_bool st_move st_pick pickB_bool st_allocL st_alloc st_boxL st_box st_build st_buildSlice st_load st_store st_nilCheck nilC st_bin st_un st_convI convI st_convS convS st_convB convB st_mkIface st_mkFunc st_mkMap st_mkSlice mkSl st_slice st_fieldAddr fldA st_field fldV st_idx idxS_slice idxS_oslice st_idxArr idxArr st_idxStr idxStr st_idxAgg idxAgg st_extract extA st_call callA_func st_len st_lenStr lenStr st_lenArr st_lenMap st_append st_clear clearV st_maxs st_mins
  load_ptr load_lptr storeA rd wr goOn_normal goOn_exit goOn_ret outBlock_normal outBlock_exit outBlock_ret prune freeL_nil freeL_cons frV_lptr frV_tuple frV_noL fillA allNoL packA unA checkAt ev_load wantedA beq_same beqL_same AV.beq AV.beqL drawCond freshD readsOk isRead undefA optInt optIntO
  strOp aeqF_nil aeqF_cons andA_some i_add i_sub i_mul i_lss i_leq i_gtr i_geq i_quo i_rem i_eql i_neq s_eql s_neq s_lss
  s_leq s_gtr s_geq s_add e_bool n_bool e_nilp n_nilp e_ptr n_ptr e_lptr n_lptr e_agg n_agg
  e_nils n_nils e_slice n_slice e_oslice n_oslice e_eslice n_eslice e_xslice n_xslice e_nilm n_nilm e_map n_map
  e_nilFunc n_nilFunc e_func n_func q_int q_bool q_str q_struct q_ptr0 q_ptrL0 q_ptrR0 q_ptrL1 q_ptrR1 q_slice0
  q_sliceL0 q_sliceR0 q_sliceL1 q_sliceR1 q_sliceL2 q_sliceR2 q_sliceL3 q_sliceR3 q_map0 q_mapL0 q_mapR0 q_func0 q_funcL0 q_funcR0
  okR_some guardB_tuple get_alloc_eq rdAt_alloc_eq set_alloc_eq set_alloc_ne get_alloc_ne rdAt_alloc_ne
structure LatIn (H K : AHeap) (l : Nat) (L : List Cl) : Prop where
  ok : K.ok
  chg : Chg [] H K
  rep : ∃ F, LatRep K l L F ∧ ∀ i ∈ F, H.n ≤ i

def claimR (L : List Cl) (n : Int) (x : List Sp) (w : Bool) : Bool := decide (claimE L n x = 0) && decide (L.countP (collC ⟨n, x, w⟩) = 0)
def claimL (L : List Cl) (n : Int) (x : List Sp) (w : Bool) : List Cl := if claimE L n x = 0 then L ++ [⟨n, x, w⟩] else L
def dropE (L : List Cl) (n : Int) : Int := match dropI L n with | some _ => 0 | none => 111
def dropL (L : List Cl) (n : Int) : List Cl := match dropI L n with | some i => L.eraseIdx i | none => L
def dropF (L : List Cl) (n : Int) : List Cl := match dropI L n with
  | some i => (match L[i]? with
    | some g => freedTo L g i (L.length - (i + 1))
    | none => [])
  | none => []

section
variable {H K : AHeap} {l : Nat} {L : List Cl}
theorem LatIn.new (hok : H.ok) : LatIn H (H.alloc (.row false 1 [.nils])) H.n [] :=
  ⟨(Chg.alloc H _).ok hok, .alloc _ _, [H.n], .empty hok, by simp⟩
theorem LatIn.trans {F : List Nat} {K' : AHeap} (hok : H.ok) (c : Chg [] H K) (c' : Chg F K K') (hF : ∀ i ∈ F, H.n ≤ i) : Chg [] H K' := c.trans hok c' fun i hi => .inr (hF i hi)
theorem LatIn.other {K' : AHeap} (hok : H.ok) (h : LatIn H K l L) (c : Chg [] K K') : LatIn H K' l L := by
  obtain ⟨F, hF, hn⟩ := h.rep
  exact ⟨c.ok h.ok, h.chg.trans hok c (by simp), F, hF.chg h.ok.1 c (fun _ _ => by simp), hn⟩

theorem LatIn.claim {x : List Sp} {xv : AV} {n : Int} {w : Bool} (hok : H.ok) (h : LatIn H K l L) (hx : Sps K xv x) (hm : L.length < 1000000) :
    ∃ K', call T 32 [.ptr l 0, .int .i64 n, xv, .bool w] K = some (.tuple [.bool (claimR L n x w), .int .i64 (claimE L n x)], K') ∧ LatIn H K' l (claimL L n x w) := by
  obtain ⟨F, ⟨v, ids, hF⟩, hn⟩ := h.rep
  unfold claimR claimL
  by_cases he : claimE L n x = 0
  · obtain ⟨K', F', h1, h2, h3, h4, _⟩ := hF.claim h.ok hx he hm
    refine ⟨K', by rw [h1, he]; simp, h3.ok h.ok, LatIn.trans hok h.chg h3 hn, F', by rw [if_pos he]; exact h2, fun i hi => ?_⟩
    rcases h4 i hi with h | h
    · exact hn i h
    · have := LatIn.chg ‹LatIn H K l L› |>.le; omega
  · exact ⟨K, by rw [hF.claim_no h.ok hx he, decide_eq_false he, Bool.false_and], h.ok, h.chg, F, by rw [if_neg he]; exact ⟨v, ids, hF⟩, hn⟩

theorem LatIn.drop {n : Int} (hok : H.ok) (h : LatIn H K l L) (hm : L.length < 1000000) :
    ∃ out K', call T 33 [.ptr l 0, .int .i64 n] K = some (.tuple [out, .int .i64 (dropE L n)], K') ∧ LatIn H K' l (dropL L n) ∧ Own K' 1 out ((dropF L n).map numRow) ∧ (∀ j ∈ sown out, K.n ≤ j) := by
  obtain ⟨F, ⟨v, ids, hF⟩, hn⟩ := h.rep
  unfold dropE dropL dropF
  cases hd : dropI L n with
  | none => exact ⟨.nils, K, hF.drop_no h.ok hd, ⟨h.ok, h.chg, F, ⟨v, ids, hF⟩, hn⟩, .nil _ _, by simp⟩
  | some i =>
    obtain ⟨out, K', F', h1, h2, h3, h4, h5, h6⟩ := hF.drop h.ok hd hm
    refine ⟨out, K', h1, ⟨h3.ok h.ok, LatIn.trans hok h.chg h3 hn, F', h2, fun i hi => hn i (h4 i hi)⟩, ?_, h6⟩
    simp only [List.getElem?_eq_getElem (dropI_lt hd)]
    exact h5

theorem LatIn.free (h : LatIn H K l L) (n : Int) : call T 35 [.ptr l 0, .int .i64 n] K = some (.bool (freeP L n), K) := by
  obtain ⟨F, ⟨v, ids, hF⟩, hn⟩ := h.rep
  exact hF.free h.ok n

theorem LatIn.claims (hok : H.ok) (h : LatIn H K l L) (hm : L.length < 1000000) :
    ∃ out K', call T 41 [.ptr l 0] K = some (out, K') ∧ LatIn H K' l L ∧ Own K' 1 out (L.map numRow) ∧ Chg [] K K' ∧ (∀ j ∈ sown out, K.n ≤ j) := by
  obtain ⟨F, ⟨v, ids, hF⟩, hn⟩ := h.rep
  obtain ⟨out, K', h1, h2, h3, h4⟩ := hF.claims h.ok (by omega)
  exact ⟨out, K', h1, h.other hok h3, h2, h3, h4⟩

/-- A list of spans that is written out. -/
theorem sps_lit (hok : K.ok) (s : Sp) (hs : SmallS s) : Sps (K.alloc (.row false 2 (rowSp s))) (.slice K.n 0 1 1) [s] :=
  ⟨⟨by simp [AV.sl], rfl, by simp [rowSp], fun _ => ⟨false, 2, _, get_alloc_same _ _, by simp [rowSp], by simp [rowSp]⟩⟩, by simp [hs], by simp [maxL]⟩
end

set_option maxRecDepth 8000 in
theorem sAlive {H : AHeap} (hok : H.ok) : call T 30 [] H = some (.bool true, H) := by
  have hokT := AHeap.ok.top hok.1
  have b0 := LatIn.new hokT
  have e0 : call T 29 [] H.top = some (.ptr H.n 0, H.top.alloc (.row false 1 [.nils])) := by
    rcases sNew (H := H.top) with ⟨K, ⟨h, rfl⟩ | h⟩
    · exact h
    · exact absurd (Nat.le_refl _) h
  have lit : ∀ {K : AHeap} {L : List Cl} (s : Sp), LatIn H.top K H.n L → SmallS s → LatIn H.top (K.alloc (.row false 2 (rowSp s))) H.n L ∧ Sps (K.alloc (.row false 2 (rowSp s))) (.slice K.n 0 1 1) [s] :=
    fun s h hs => ⟨h.other hokT (.alloc _ _), sps_lit h.ok s hs⟩
  obtain ⟨a1, a2⟩ := lit ([97], [99]) b0 (by simp [SmallS, Small])
  obtain ⟨K1, e1, b1⟩ := a1.claim (n := 1) (w := true) hokT a2 (by simp)
  obtain ⟨a3, a4⟩ := lit ([98], []) b1 (by simp [SmallS, Small])
  obtain ⟨K2, e2, b2⟩ := a3.claim (n := 2) (w := false) hokT a4 (by decide)
  obtain ⟨a5, a6⟩ := lit ([99], []) b2 (by simp [SmallS, Small])
  obtain ⟨K3, e3, b3⟩ := a5.claim (n := 3) (w := true) hokT a6 (by decide)
  obtain ⟨out, K4, e4, b4, hO, _⟩ := b3.drop (n := 1) hokT (by decide)
  have e5 := b4.free 2
  have c1 : claimR [] 1 [([97], [99])] true = true := by decide
  have d1 : claimE [] 1 [([97], [99])] = 0 := by decide
  have c2 : claimR (claimL [] 1 [([97], [99])] true) 2 [([98], [])] false = false := by decide
  have d2 : claimE (claimL [] 1 [([97], [99])] true) 2 [([98], [])] = 0 := by decide
  have c3 : claimR (claimL (claimL [] 1 [([97], [99])] true) 2 [([98], [])] false) 3 [([99], [])] true = true := by decide
  have d3 : claimE (claimL (claimL [] 1 [([97], [99])] true) 2 [([98], [])] false) 3 [([99], [])] = 0 := by decide
  have d4 : dropE (claimL (claimL (claimL [] 1 [([97], [99])] true) 2 [([98], [])] false) 3 [([99], [])] true) 1 = 0 := by decide
  have c5 : freeP (dropL (claimL (claimL (claimL [] 1 [([97], [99])] true) 2 [([98], [])] false) 3 [([99], [])] true) 1) 2 = true := by decide
  have c6 : (dropF (claimL (claimL (claimL [] 1 [([97], [99])] true) 2 [([98], [])] false) 3 [([99], [])] true) 1).map numRow = [[.int .i64 2]] := by rfl
  rw [c1, d1] at e1
  rw [c2, d2] at e2
  rw [c3, d3] at e3
  rw [d4] at e4
  rw [c5] at e5
  rw [c6] at hO
  have f1 := hO.view.lenS
  have f2 := hO.view.idx .i64 (n := 0) (by omega) (by simp)
  have f3 := hO.view.rd (i := 0) (r := [.int .i64 2]) rfl false (k := 1) (f := 0) (by omega) (by omega) (by simp)
  simp only [Int.toNat_zero, Nat.zero_mul, Nat.add_zero, List.length_cons, List.length_nil] at f1 f2 f3
  have f4 := hO.view.noL
  have hlow : H.n ≤ K4.low := b4.chg.hi H.n (by simp) (by simp)
  have hfin := fin_drop' (v := .bool true) hlow rfl
  simp only [rowSp, AHeap.alloc_n, top_n] at e1 e2 e3
  rw [call_at (show T 30 = some (.ir ⟨_, _, _, _, _⟩) from T30)]
  simp -implicitDefEqProofs [e0, e1, e2, e3, e4, e5, f1, f2, f3, f4, rd, hfin]
end Go.Proofs.Ytglfchdpcididaa
