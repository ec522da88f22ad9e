/- Keys of a span, and the live question. No condition. -/
import Derived.Test.YtdnnpgmekbnlbaaG5KS05EK
set_option linter.unusedVariables false
set_option linter.unusedSimpArgs false
namespace Go.Proofs.Ytdnnpgmekbnlbaa
open Go.Wam

attribute [local simp] den_seq den_region den_regionD0 den_regionD1 den_condB condB_bool den_block den_keep den_ret den_skip den_exit sops_cons sops_nil sopsR_cons sopsR_nil goR_eq readOk trace_cons trace_nil Opd.ev evs Go.Wam.look St.put enterA zipI leaveR_ret leaveR_normal rvs RV.ev
  st_guard guardB_bool st_move st_pick pickB_bool st_allocL st_alloc st_boxL st_box st_build st_buildSlice st_load st_store st_nilCheck nilC st_bin st_un st_convI convI st_convS convS st_convB convB st_mkIface st_mkFunc st_mkMap st_mkSlice mkSl st_slice st_fieldAddr fldA st_field fldV st_idx idxS_slice idxS_oslice st_idxArr idxArr st_idxStr idxStr st_idxAgg idxAgg st_extract extA st_call callA_func st_len st_lenStr lenStr st_lenArr st_lenMap st_append st_clear clearV st_maxs st_mins
  load_ptr load_lptr storeA rd wr goOn_normal goOn_exit goOn_ret outBlock_normal outBlock_exit outBlock_ret prune freeL_nil freeL_cons frV_lptr frV_tuple frV_noL fillA allNoL packA unA checkAt ev_load wantedA beq_same beqL_same AV.beq AV.beqL drawCond freshD readsOk isRead undefA optInt optIntO
  strOp aeqF_nil aeqF_cons andA_some i_add i_sub i_mul i_lss i_leq i_gtr i_geq i_quo i_rem i_eql i_neq s_eql s_neq s_lss
  s_leq s_gtr s_geq s_add e_bool n_bool e_nilp n_nilp e_ptr n_ptr e_lptr n_lptr e_agg n_agg
  e_nils n_nils e_slice n_slice e_oslice n_oslice e_eslice n_eslice e_xslice n_xslice e_nilm n_nilm e_map n_map
  e_nilFunc n_nilFunc e_func n_func q_int q_bool q_str q_struct q_ptr0 q_ptrL0 q_ptrR0 q_ptrL1 q_ptrR1 q_slice0
  q_sliceL0 q_sliceR0 q_sliceL1 q_sliceR1 q_sliceL2 q_sliceR2 q_sliceL3 q_sliceR3 q_map0 q_mapL0 q_mapR0 q_func0 q_funcL0 q_funcR0
  okR_some guardB_tuple get_alloc_eq rdAt_alloc_eq set_alloc_eq set_alloc_ne get_alloc_ne rdAt_alloc_ne
section
variable {H K : AHeap} {v : AV} {l : List (List UInt8)}
theorem sClone (hok : H.ok) (hV : View H 1 v (l.map sR)) (hl : l.length ≤ 2 ^ 43) :
    ∃ v' K, call T 50 [v] H = some (v', K) ∧ Own K 1 v' (l.map sR) ∧ Chg [] H K ∧ (∀ j ∈ sown v', H.n ≤ j) ∧ v'.okB K.n = true := by
  rw [call_at (show T 50 = some (.ir ⟨_, _, _, _, _⟩) from T50)]
  have hokT := AHeap.ok.top hok.1
  have hvn := hV.noL
  have e2 := eql_nils hV.sl
  cases hn : isNils v with
  | true =>
    have : v = .nils := by cases v <;> simp_all [isNils]
    subst this
    have h0 := hV.len
    simp only [slen_nils, List.length_map] at h0
    have : l = [] := List.length_eq_zero_iff.1 h0.symm
    subst this
    refine ⟨.nils, H, ?_, .nil _ _, .refl _ _, by simp, by simp⟩
    simp -implicitDefEqProofs [fin_pure]
  | false =>
    have cA := Chg.alloc H.top (.row false 1 [])
    have okA := cA.ok hokT
    obtain ⟨v', K, a1, O1, c1, n1, _, vn⟩ := (Own.lit (H.top.alloc (.row false 1 [])) 1 H.n).append' (bytes := 16) okA (hV.top.alloc (show H.top.wf from hok.1) _) (by omega) (by rw [List.length_map]; simp; omega)
    have ok1 := c1.ok okA
    have hvo : v'.okB K.n = true := append_okB (Own.lit (H.top.alloc (.row false 1 [])) 1 H.n) (hV.top.alloc (show H.top.wf from hok.1) _) ok1.1 a1 O1 (by rw [AV.okB]; exact decide_eq_true (by simp))
    rw [List.nil_append] at O1
    rw [sown_slice] at c1 n1
    have c01 : Chg [] H.top K := cA.trans hokT c1 (by simp)
    have n1' : ∀ j ∈ sown v', H.n ≤ j := fun j hj => by rcases n1 j hj with h | h; cases h; simp only [AHeap.alloc_n, top_n] at h; omega
    have hb : v'.okB H.n = false := by
      by_cases h0 : 0 < l.length
      · exact O1.okB n1' ⟨sid v', by rw [own_sid O1 (by simpa using h0)]; simp, trivial⟩
      · have : l = [] := List.length_eq_zero_iff.1 (by omega)
        subst this
        have hf := (hV.top.alloc (show H.top.wf from hok.1) (.row false 1 [])).first
        simp [appendA, hf] at a1
        obtain ⟨rfl, rfl⟩ := a1
        rw [AV.okB]; exact decide_eq_false (by simp)
    have hfin := fin_keep (H := H) (K := K) (v := v') (.inr hb)
    refine ⟨v', K.lowered H.low, ?_, O1.frame (fun _ _ => rfl), c01.lowered hok, n1', hvo⟩
    simp -implicitDefEqProofs [e2, hn, hvn, a1, vn, hfin]

/-- The keys of a list that a span has; what Sort and Compact do to these is handed in. -/
def keep (f t : List UInt8) (l : List (List UInt8)) : List (List UInt8) := l.filter (fun s => hasB f t s)
theorem sKeys {f t : List UInt8} {m o : List (List UInt8)} (hok : H.ok) (hf : Small f) (ht : Small t) (hV : View H 1 v (l.map sR)) (hl : l.length ≤ 2 ^ 43) (hsm : ∀ s ∈ l, Small s)
    (hs : SortsTo (keep f t l) m) (hc : CompactsTo m o) :
    ∃ v' K, call T 37 [.agg [.str f, .str t], v] H = some (v', K) ∧ Own K 1 v' (o.map sR) ∧ Chg [] H K ∧ (∀ j ∈ sown v', H.n ≤ j) := by
  rw [call_at (show T 37 = some (.ir ⟨_, _, _, _, _⟩) from T37)]
  have hokT := AHeap.ok.top hok.1
  have cA := Chg.alloc H.top (.row false 2 [.str f, .str t])
  have okA := cA.ok hokT
  obtain ⟨v1, K1, f1, O1, c1, n1, b1⟩ := sClone okA (hV.top.alloc (show H.top.wf from hok.1) (.row false 2 [.str f, .str t])) hl
  have ok1 := c1.ok okA
  have hg1 : K1.get H.n = some (.row false 2 [.str f, .str t]) := by rw [c1.get H.n (by simp) (by simp)]; exact get_alloc_same _ _
  have hfn : ∀ K2 : AHeap, K2.get H.n = some (.row false 2 [.str f, .str t]) → ∀ s ∈ l, call T 51 ([] ++ (.str s :: [.ptr H.n 0])) K2 = some (.bool (!hasB f t s), K2) := fun K2 hg s hs => by
    rw [List.nil_append, call_at (show T 51 = some (.ir ⟨_, _, _, _, _⟩) from T51)]
    have r := rdAt_row (H := K2.top) (show K2.top.get H.n = _ from hg)
    simp -implicitDefEqProofs [r, sHas hf ht (hsm s hs), fin_pure]
  have n1' : ∀ j ∈ sown v1, H.n < j := fun j hj => by have := n1 j hj; simp at this; omega
  obtain ⟨v2, K2, f2, O2, c2, s2, vn2, b2⟩ := sDeleteFunc (g := 51) (fs := []) (cap := [.ptr H.n 0]) (p := fun s => !hasB f t s) ok1 O1 (by omega)
    (fun K hC s hs => hfn K (by rw [hC.get H.n (by have := c1.le; simp only [top_n, AHeap.alloc_n] at *; omega) (fun hi => by have := n1' _ hi; omega)]; exact hg1) s hs) (fun s hs => hfn _ (show K1.top.top.get H.n = _ from hg1) s hs) b1
  have ok2 := c2.ok ok1
  have hk : l.filter (fun s => !(fun s => !hasB f t s) s) = keep f t l := by unfold keep; simp
  rw [hk] at O2
  obtain ⟨u, K3, f3, O3, c3⟩ := hs K2 v2 ok2 O2 b2
  have ok3 := c3.ok ok2
  obtain ⟨v4, K4, f4, O4, c4, s4⟩ := hc K3 v2 ok3 O3 (okB_sl O2.view.sl b2 c3.le)
  have c04 : Chg [] H.top K4 := by
    have c01 : Chg [] H.top K1 := cA.trans hokT c1 (by simp)
    have hn : ∀ j ∈ sown v2, j ∈ ([] : List Nat) ∨ H.top.n ≤ j := fun j hj => by rw [s2] at hj; have := n1' j hj; exact .inr (by simp; omega)
    exact ((c01.trans hokT c2 (fun j hj => .inr (by have := n1' j hj; simp; omega))).trans hokT c3 hn).trans hokT c4 hn
  have hn4 : ∀ j ∈ sown v4, H.n ≤ j := fun j hj => by rw [s4, s2] at hj; have := n1' j hj; omega
  have v1n := O1.view.noL
  have v4n := O4.view.noL
  refine ⟨v4, Go.Wam.fin H v4 K4, ?_, O4.fin (O4.okB hn4), c04.fin hok v4, hn4⟩
  simp -implicitDefEqProofs [hV.noL, f1, v1n, f2, vn2, f3, f4, v4n]
end

/-! ## The live question -/
def aliveL : List (List UInt8) := [[103], [97], [103]]
theorem sAlive {H : AHeap} (hok : H.ok) : call T 28 [] H = some (.bool true, H) := by
  have hokT := AHeap.ok.top hok.1
  have cT := Chg.alloc H.top (.row false 1 [.str [103], .str [97], .str [103]])
  have hV : View (H.top.alloc (.row false 1 [.str [103], .str [97], .str [103]])) 1 (.slice H.n 0 3 3) (aliveL.map sR) :=
    ⟨by simp [AV.sl], rfl, sR_len _, fun _ => ⟨false, 1, _, get_alloc_same _ _, by simp [aliveL], by simp [aliveL, sR]⟩⟩
  have hsm : ∀ s : List UInt8, s.length ≤ 2 → Small s := fun s h => by unfold Small; omega
  have hk : keep [102] [109] aliveL = [[103], [103]] := by decide
  obtain ⟨v', K, f1, O1, c1, n1⟩ := sKeys (f := [102]) (t := [109]) (cT.ok hokT) (hsm _ (by simp)) (hsm _ (by simp)) hV (by simp [aliveL]) (by intro s hs; simp [aliveL] at hs; rcases hs with rfl | rfl | rfl <;> exact hsm _ (by simp)) (by rw [hk]; exact sorts _ (by simp)) (compacts _ (by rw [srt_len]; simp))
  have e1 := sClip (f := [98]) (t := [109]) (f' := [102]) (t' := [123]) (hsm _ (by simp)) (hsm _ (by simp)) (hsm _ (by simp)) (hsm _ (by simp)) H.top
  have e2 := sHas (f := [102]) (t := [109]) (k := [102, 122]) (hsm _ (by simp)) (hsm _ (by simp)) (hsm _ (by simp)) H.top
  have e3 := sHas (f := [102]) (t := [109]) (k := [109]) (hsm _ (by simp)) (hsm _ (by simp)) (hsm _ (by simp)) H.top
  have e4 := sMeet (f := [102]) (t := [109]) (f' := [103]) (t' := []) (hsm _ (by simp)) (hsm _ (by simp)) (hsm _ (by simp)) (hsm _ (by simp)) H.top
  have e5 := sRight (f := [97]) (t := [123]) (hsm _ (by simp)) (hsm _ (by simp)) H.top
  have e6 := sAll H.top
  rw [show clipB [98] [109] [102] [123] = (([102], [109]), true) by decide] at e1
  rw [show hasB [102] [109] [102, 122] = true by decide] at e2
  rw [show hasB [102] [109] [109] = false by decide] at e3
  rw [show meetB [102] [109] [103] [] = true by decide] at e4
  rw [show rightB [97] [123] = true by decide] at e5
  have hl := O1.view.lenS
  have vn := O1.view.noL
  rw [show (cpt (srt [[103], [103]]) (srt [[103], [103]]).length).map sR = [sR [103]] by rw [show srt [[103], [103]] = [[103], [103]] by simp [srt, List.mergeSort, List.MergeSort.Internal.splitInTwo]]; rfl] at hl
  simp only [List.length_cons, List.length_nil] at hl
  have hfin := fin_drop' (H := H) (K := K) (v := .bool true) ((cT.trans hokT c1 (by simp)).hi H.n (by simp) (by simp)) (by simp)
  rw [call_at (show T 28 = some (.ir ⟨_, _, _, _, _⟩) from T28)]
  simp -implicitDefEqProofs [e1, e2, e3, e4, e5, e6, f1, hl, vn, hfin]
end Go.Proofs.Ytdnnpgmekbnlbaa
