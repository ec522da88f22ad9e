/- The statement StoreEach, as it is given. No condition. -/
import Derived.Test.YtgokjbjbdnbcdaaEe
import Derived.Laws.RangeAny
import Derived.Laws.RangeString
import Derived.Test.YtgokjbjbdnbcdaaEc
import Derived.Test.YtgokjbjbdnbcdaaEd
import Derived.Test.YtgokjbjbdnbcdaaRows
import Derived.KernelRfl
import Derived.JoinedOf
import Derived.WalkKit
import Derived.ProofKit
import Derived.OpenShut
import Derived.ShutString
import Derived.ChangeOld
import Derived.Below
import Derived.SizedLaws
set_option linter.unusedVariables false
set_option linter.unusedSimpArgs false
namespace Go.Proofs.Ytgokjbjbdnbcdaa
open Go.Wam
attribute [local simp] seqK_normal seqK_exit seqK_ret blockK_normal blockK_exit blockK_ret condO_bool evK_skip evK_exit evK_ret evK_keep evK_cond evK_block evK_seq_seq evK_seq_cond evK_seq_block evK_seq_loop evK_seq_skip evK_seq_keep evK_seq_exit evK_seq_ret prK_eq toSt_eq av_l av_v valS_v valT_v valS_u av_u valO_tmp
 nl_eq nl_none nl_if nlR_eq boxC_eq stL_eq storeP_ptr loadP_ptr fldP_ptr idxP_ptr inN_int callN_func strV_str fillC_nil fillC_cons pickV_bool guardK_bool kB_eq chk_some ifaceV_eq funcV_eq natV_int notL_noL leaveK_ret leaveK_normal rvsK_nil rvsK_cons rvK_tmp rvC_l rvC_v rvK_cell enterK_eq ok_l ok_v ok_u norm_eq norm_l norm_v norm_u
 Go.Wam.look zipI prune packA rd undefA allNoL convI convS lenStr lenMap extA fldV idxStr idxAgg idxS_slice idxS_oslice unA beq_same beqL_same AV.beq AV.beqL sliceV nilC clearW
 strOp aeqF_nil aeqF_cons andA_some i_add i_sub i_mul i_lss i_leq i_gtr i_geq i_quo i_rem i_eql i_neq s_eql s_neq s_lss
 s_leq s_gtr s_geq s_add e_bool n_bool e_nilp n_nilp e_ptr n_ptr e_lptr n_lptr e_agg n_agg
 e_nils n_nils e_slice n_slice e_oslice n_oslice e_eslice n_eslice e_xslice n_xslice e_nilm n_nilm e_map n_map
 e_nilFunc n_nilFunc e_func n_func q_int q_bool q_str q_struct q_ptr0 q_ptrL0 q_ptrR0 q_ptrL1 q_ptrR1 q_slice0
 q_sliceL0 q_sliceR0 q_sliceL1 q_sliceR1 q_sliceL2 q_sliceR2 q_sliceL3 q_sliceR3 q_map0 q_mapL0 q_mapR0 q_func0 q_funcL0 q_funcR0
 okR_some get_alloc_eq rdAt_alloc_eq set_alloc_eq set_alloc_ne get_alloc_ne rdAt_alloc_ne
attribute [local congr] bind_cg guardK_cg kB_cg condO_cg evK_cg
attribute [local simp] callN_yield ofSt_eq ofAV_v
section
variable {H G : AHeap}
set_option maxHeartbeats 8000000 in
theorem rsRange {b p id0 c : Nat} {l : ML} {f t : List UInt8} {id ep : Int} {cm : Bool} {a : Stp} {w : AV} (hok : H.ok) (hb : b = H.n) (hS : StoreAt H p id0 c l) (hf : Small f) (ht : Small t) (hkl : ∀ e ∈ l, Small e.1) (hsz : l.length < 1000000000) (hcl : ∀ e ∈ l, e.2.1.2.L.length < 1000000000)
    (hG : Chg [] H.top G) (hGn : G.n = b + 11) (hGd : G.dfs = []) (hw : w = .func (.func 56) [] [.ptr (b + 9) 0, .ptr (b + 10) 0])
    (g0 : G.get b = some (.row false 1 [.int .i64 id])) (g1 : G.get (b + 1) = some (.row false 1 [.int .i64 ep])) (g2 : G.get (b + 2) = some (.row false 1 [.bool cm])) (g3 : G.get (b + 3) = some (.row false 2 [.int .i64 a.1, .int .i64 a.2]))
    (g4 : G.get (b + 4) = some (.row false 1 [.int .i64 0])) (g5 : G.get (b + 5) = some (.row false 1 [.int .i64 0])) (g6 : G.get (b + 6) = some (.row false 1 [.int .i64 0])) (g7 : G.get (b + 7) = some (.map [] 0)) (g8 : G.get (b + 8) = some (.row false 1 [.map (b + 7)]))
    (ga : G.get (b + 9) = some (.row false 1 [.ptr p 0])) (gb : G.get (b + 10) = some (.row false 2 [.str f, .str t])) :
    ∃ x G', den T (.block 0 (.rangeF (.tmp 30) [31, 32] iaRs Y10_0)) ⟨envRs b p w, [], G⟩ = some (x, ⟨envRs b p w, [], G'⟩) ∧ G'.dfs = [.mark (b + 11)] ∧ G'.get (b + 11) = some .dfd ∧ Chg [] H.top G' ∧ G'.get (b + 4) = some (.row false 1 [.int .i64 0]) ∧
     ((x = .normal ∧ ∃ l2 c2 acc, resA id ep cm a (inE f t l) [] = some acc ∧ G'.get (b + 5) = some (.row false 1 [.int .i64 0]) ∧ G'.get (b + 6) = some (.row false 1 [.int .i64 (acc.length : Nat)]) ∧ G'.get (b + 7) = some (.map (rowM AV.str fE l2) c2) ∧ G'.get (b + 8) = some (.row false 1 [.map (b + 7)]) ∧
         SortedM bytesLess l2 ∧ BirthOk l2 c2 ∧ (∀ k, (lookM k l2).map Prod.snd = lookK k acc) ∧ (∀ e ∈ l2, SV G' 5 e.2.1.1 (e.2.1.2.L.map rowVe) ∧ (0 < (e.2.1.2.L.map rowVe).length → b + 13 ≤ sid e.2.1.1)) ∧ (∀ e ∈ l2, e.1 ∈ l.map (·.1)) ∧ acc.length ≤ l.length) ∨
      (x = .ret ∧ resA id ep cm a (inE f t l) [] = none ∧ G'.get (b + 5) = some (.row false 1 [.int .i64 84]))) := by
 have hokT := AHeap.ok.top hok.1
 have okG := hG.ok hokT
 obtain ⟨G2, hG2⟩ : ∃ G2, G2 = (G.alloc .dfd).alloc (loopRs b p w .ready none) := ⟨_, rfl⟩
 have n1 : (G.alloc .dfd).n = b + 12 := by simp [hGn]
 have n2 : G2.n = b + 13 := by rw [hG2]; simp [hGn]
 have cG2 : Chg [] G G2 := by rw [hG2]; exact (Chg.alloc _ _).trans okG (.alloc _ _) (by simp)
 have cH2 : Chg [] H.top G2 := hG.trans hokT cG2 (by simp)
 have ok2 := cG2.ok okG
 have q : ∀ j, j < b + 11 → G2.get j = G.get j := fun j hj => cG2.get j (by omega) (by simp)
 have gl : G2.get (b + 12) = some (loopRs b p w .ready none) := by rw [hG2, ← n1]; exact get_alloc_same _ _
 have gd : G2.get (b + 11) = some .dfd := by
  rw [hG2, get_alloc_lt _ _ (by omega), ← hGn]; exact get_alloc_same _ _
 have B2 : RsBox G2 b p w id ep cm a .ready none 0 0 [] 0 :=
  ⟨(q _ (by omega)).trans g0, (q _ (by omega)).trans g1, (q _ (by omega)).trans g2, (q _ (by omega)).trans g3, (q _ (by omega)).trans g4, (q _ (by omega)).trans g5, (q _ (by omega)).trans g6, (q _ (by omega)).trans g7, (q _ (by omega)).trans g8, gl⟩
 have hS2 : StoreAt G2 p id0 c l := hS.top.frame hokT cH2
 have hp := AHeap.get_lt hS.box hok.1
 have hi0 := AHeap.get_lt hS.map hok.1
 have wl : w.notL = true := by subst hw; rfl
 have hen : envNoL (envRs b p w) = envRs b p w := by subst hw; rfl
 obtain ⟨K', e1, e2⟩ := kIn1 (H := G2) (y := b + 12) (a := b + 9) (b := b + 10) ok2 hS2 hf ht hkl ((q _ (by omega)).trans ga) ((q _ (by omega)).trans gb) (by omega)
  (fun H1 i K => K.ok ∧ Chg [b + 4, b + 5, b + 6, b + 7, b + 12] H1 K ∧ ∃ l2 c2 acc, RsBox K b p w id ep cm a .ready none 0 acc.length l2 c2 ∧ SortedM bytesLess l2 ∧ BirthOk l2 c2 ∧ (∀ k, (lookM k l2).map Prod.snd = lookK k acc) ∧ (∀ e ∈ l2, SV K 5 e.2.1.1 (e.2.1.2.L.map rowVe) ∧ (0 < e.2.1.2.L.length → H1.n ≤ sid e.2.1.1)) ∧ (∀ e ∈ l2, e.1 ∈ l.map (·.1)) ∧ resA id ep cm a ((inE f t l).drop i) acc = resA id ep cm a (inE f t l) [] ∧ acc.length ≤ i)
  (fun H1 K => K.ok ∧ Chg [b + 4, b + 5, b + 6, b + 7, b + 12] H1 K ∧ (∃ cnt l2 c2, RsBox K b p w id ep cm a .done (some .ret) 84 cnt l2 c2) ∧ resA id ep cm a (inE f t l) [] = none)
  [b + 4, b + 5, b + 6, b + 7, b + 12] (by simp; omega) (by simp; omega)
  (fun H1 c1 d1 => ⟨c1.ok (AHeap.ok.top ok2.1), .refl _ _, [], 0, [], B2.frame fun i hi => (c1.get i (by simp; omega) (by simp)).trans (top_get ..), .nil, .nil 0, fun k => rfl, by simp, by simp, rfl, by simp⟩)
  (fun H1 i K hJ => hJ.2.1)
  (by
   rintro H1 i K e c1 d1 ⟨okK, cK, l2, c2, acc, B, hs2, hb2, hlk, hv2, hk2, hr, ha⟩ he
   have hel : e ∈ l := (List.mem_filter.1 (List.mem_of_getElem? he)).1
   have hv0 := hS.view e hel
   have n3 : b + 13 ≤ H1.n := by have := c1.le; simp only [top_n] at this; omega
   have gK : ∀ j, j < b → K.get j = H.get j := fun j hj => by
    rw [cK.get j (by omega) (by simp; omega), c1.get j (by simp; omega) (by simp), top_get, cH2.get j (by simp; omega) (by simp), top_get]
   have hi : i < (l.filter (hasE f t)).length := (List.getElem?_eq_some_iff.1 he).1
   have hil : (l.filter (hasE f t)).length ≤ l.length := List.length_filter_le _ _
   have nK0 := cK.le
   have hvK : SV K 5 e.2.1.1 (e.2.1.2.L.map rowVe) := ⟨hv0.view.frame fun h => gK _ (by have := hv0.view.lt hok.1 h; omega), okB_sl hv0.view.sl hv0.ok (by omega)⟩
   obtain ⟨q, K', r1, r2, r3, r4, r5⟩ := rsRound (k := e.1) (v := e.2.1.1) (c := e.2.1.2) okK (by omega) wl B hvK
    (fun h => by have := hv0.view.lt hok.1 (by simpa using h); omega) (by have := hcl e hel; omega) (by omega)
   have cK' : Chg [b + 4, b + 5, b + 6, b + 7, b + 12] H1 K' := cK.trans (c1.ok (AHeap.ok.top ok2.1)) r4 (fun j hj => .inl hj)
   have hv2' : ∀ e ∈ l2, SV K' 5 e.2.1.1 (e.2.1.2.L.map rowVe) ∧ (0 < e.2.1.2.L.length → H1.n ≤ sid e.2.1.1) := fun x hx => by
    obtain ⟨h1, h2⟩ := hv2 x hx
    refine ⟨⟨h1.view.frame fun h => ?_, okB_sl h1.view.sl h1.ok r4.le⟩, h2⟩
    have h3 := h2 (by simpa using h)
    exact r4.get _ (h1.view.lt okK.1 h) (by simp; omega)
   have hdrop : (inE f t l).drop i = kc e :: (inE f t l).drop (i + 1) := by
    unfold inE
    rw [List.drop_eq_getElem_cons (by rw [List.length_map]; exact hi), List.getElem_map]
    rw [(List.getElem?_eq_some_iff.1 he).2]
   rw [hdrop] at hr
   have key : kc e = (e.1, e.2.1.2) := rfl
   refine ⟨q, K', r1, by omega, ?_, ?_⟩
   · rintro rfl
     rcases r5 with ⟨_, h, _⟩ | ⟨h0, hcl0, _, B'⟩ | ⟨h0, hcl0, _, v', B', s1, s2⟩
     · cases h
     · refine ⟨r2, cK', l2, c2, acc, B', hs2, hb2, hlk, hv2', hk2, ?_, by omega⟩
       rw [← hr, resA, key]; simp only [h0, hcl0]; simp
     · refine ⟨r2, cK', _, _, (e.1, (resolveC e.2.1.2 id ep cm a).1) :: acc, B', hs2.put ordS, hb2.put _ _, fun k => ?_, fun x hx => ?_, fun x hx => ?_, ?_, by simp; omega⟩
       · rw [look_put]
         simp only [lookK]
         by_cases hk : k = e.1
         · rw [if_pos hk, if_pos hk]; rfl
         · rw [if_neg hk, if_neg hk]; exact hlk k
       · have hx' : x.2.1 = (v', (resolveC e.2.1.2 id ep cm a).1) ∨ x ∈ l2 := by
           unfold putM at hx
           split at hx
           · rw [rep_mapV ordS hs2] at hx
             obtain ⟨y, hy, rfl⟩ := List.mem_map.1 hx
             by_cases hyk : y.1 = e.1
             · left; simp [hyk]
             · right; simp only [hyk, if_false]; exact hy
           · rcases ins_mem.1 hx with rfl | hx
             · exact .inl rfl
             · exact .inr hx
         rcases hx' with hx' | hx'
         · rw [hx']
           exact ⟨s1, fun h => Nat.le_trans nK0 (s2 h)⟩
         · exact hv2' x hx'
       · have hx' : x.1 = e.1 ∨ x ∈ l2 := by
           unfold putM at hx
           split at hx
           · rw [rep_mapV ordS hs2] at hx
             obtain ⟨y, hy, rfl⟩ := List.mem_map.1 hx
             by_cases hyk : y.1 = e.1
             · exact .inl hyk
             · right; simp only [hyk, if_false]; exact hy
           · rcases ins_mem.1 hx with rfl | hx
             · exact .inl rfl
             · exact .inr hx
         rcases hx' with hx' | hx'
         · rw [hx']; exact List.mem_map.2 ⟨e, hel, rfl⟩
         · exact hk2 x hx'
       · rw [← hr, resA, key]; simp only [h0, hcl0]; simp
   · rintro rfl
     rcases r5 with ⟨h0, _, B'⟩ | ⟨_, _, h, _⟩ | ⟨_, _, h, _⟩
     · exact ⟨r2, cK', ⟨_, _, _, B'⟩, by rw [← hr, resA, key]; simp only [h0]; simp⟩
     · cases h
     · cases h)
 have hc : ∀ {ls pend}, ls ≠ .busy → K'.get (b + 12) = some (loopRs b p w ls pend) → den T (.block 0 (.rangeF (.tmp 30) [31, 32] iaRs Y10_0)) ⟨envRs b p w, [], G⟩ = some (outBlock 0 (pend.getD .normal, ⟨envRs b p w, [], (K'.set (b + 12) .dead).withd (.mark (b + 11) :: K'.dfs)⟩)) := fun {ls pend} h1 h2 => by
  have := den_range (T := T) (b := 0) (f := .tmp 30) (ps := [31, 32]) (ia := iaRs) (ib := Y10_0) (s := ⟨envRs b p w, [], G⟩) (g := 56) (captured := [.ptr (b + 9) 0, .ptr (b + 10) 0]) (v := .tuple []) (K := K') (ls := ls) (pend := pend) (e := envRs b p w) (ps' := [31, 32]) (ia' := iaRs) (ib' := Y10_0)
   (by subst hw; rfl) (by decide) (by rw [hen, hGn]; rw [show AObj.loop .ready none (envRs b p w) [31, 32] iaRs Y10_0 = loopRs b p w .ready none from rfl, ← hG2]; exact e1) (by rw [hGn]; exact h2) h1
  rw [hGn] at this
  exact this
 have d1 : K'.dfs = [] := (call_dfs e1).trans (by rw [hG2]; exact hGd)
 have l2' : G2.low = b := by rw [cH2.low_eq]; simp [hb]
 have fin : ∀ H1 K, Chg [] G2.top H1 → K.ok → Chg [b + 4, b + 5, b + 6, b + 7, b + 12] H1 K → K' = K.lowered G2 →
     Chg [] H.top ((K'.set (b + 12) .dead).withd (.mark (b + 11) :: K'.dfs)) ∧ ((K'.set (b + 12) .dead).withd (.mark (b + 11) :: K'.dfs)).get (b + 11) = some .dfd ∧ (∀ j, j ≠ b + 12 → ((K'.set (b + 12) .dead).withd (.mark (b + 11) :: K'.dfs)).get j = K.get j) := by
  intro H1 K c1 okK cK hK
  have g : ∀ j, j ≠ b + 12 → ((K'.set (b + 12) .dead).withd (.mark (b + 11) :: K'.dfs)).get j = K.get j := fun j hj => by rw [withd_get, get_set_ne _ _ hj, hK, lowered_get]
  have le1 := c1.le
  have le2 := cK.le
  simp only [top_n] at le1
  have lk : b ≤ K.low := cK.hi b (by rw [c1.low_eq]; simp; omega) (by simp)
  have lK' : K'.low = b := by rw [hK]; simp only [AHeap.lowered, l2']; split <;> omega
  have nK' : K'.n = K.n := by rw [hK]; rfl
  have low : ((K'.set (b + 12) .dead).withd (.mark (b + 11) :: K'.dfs)).low = b := by rw [withd_low, AHeap.set_low, lK', if_neg (by omega)]
  have okK' : K'.ok := ⟨by rw [hK]; exact lowered_wf _ okK.1, by omega⟩
  refine ⟨⟨by simp; omega, fun _ => withd_ok _ ((Chg.set _ _ _).ok okK'), fun j hj _ => ?_, by rw [low]; simp; omega, fun k hk _ => by rw [low]; simp at hk; omega⟩, ?_, g⟩
  · simp only [top_n] at hj
    rw [g j (by omega), cK.get j (by omega) (by simp; omega), c1.get j (by simp; omega) (by simp), top_get, cH2.get j (by simp; omega) (by simp)]
  · rw [g _ (by omega), cK.get _ (by omega) (by simp), c1.get _ (by simp; omega) (by simp), top_get]; exact gd
 rcases e2 with ⟨hE, hK⟩ | ⟨H1, K, c1, _, hK, hJ | hQ⟩
 · obtain ⟨k1, k2, k3⟩ := fin G2.top G2.top (.refl _ _) (AHeap.ok.top ok2.1) (.refl _ _) (by rw [hK]; exact AHeap.eq rfl rfl (by exact (if_neg (show ¬ G2.top.low < G2.low by simp; omega)).symm) rfl)
   have hIE : inE f t l = [] := by unfold inE; rw [hE]; rfl
   refine ⟨_, _, hc (ls := .ready) (pend := none) (by simp) (by rw [hK]; exact gl), by simp [d1], k2, k1, ?_, .inl ⟨rfl, [], 0, [], by rw [hIE]; rfl, ?_, ?_, ?_, ?_, .nil, .nil 0, fun k => rfl, by simp, by simp, by simp⟩⟩
   · rw [k3 _ (by omega), top_get]; exact B2.g4
   · rw [k3 _ (by omega), top_get]; exact B2.g5
   · rw [k3 _ (by omega), top_get]; exact B2.g6
   · rw [k3 _ (by omega), top_get]; exact B2.g7
   · rw [k3 _ (by omega), top_get]; exact B2.g8
 · obtain ⟨okK, cK, l2, c2, acc, B, hs2, hb2, hlk, hv2, hk2, hr, ha⟩ := hJ
   obtain ⟨k1, k2, k3⟩ := fin H1 K c1 okK cK hK
   have le1 := c1.le
   simp only [top_n] at le1
   rw [List.drop_of_length_le (by unfold inE; rw [List.length_map]; exact Nat.le_refl _)] at hr
   refine ⟨_, _, hc (ls := .ready) (pend := none) (by simp) (by rw [hK, lowered_get]; exact B.gl), by simp [d1], k2, k1, (k3 _ (by omega)).trans B.g4, .inl ⟨rfl, l2, c2, acc, hr.symm, (k3 _ (by omega)).trans B.g5, (k3 _ (by omega)).trans B.g6, (k3 _ (by omega)).trans B.g7, (k3 _ (by omega)).trans B.g8, hs2, hb2, hlk, fun e he => ?_, hk2, ?_⟩⟩
   · obtain ⟨h1, h2⟩ := hv2 e he
     refine ⟨⟨h1.view.frame fun h => k3 _ (by have := h2 (by simpa using h); omega), okB_sl h1.view.sl h1.ok ?_⟩, fun h => by have := h2 (by simpa using h); omega⟩
     rw [hK]; exact Nat.le_refl _
   · have := List.length_filter_le (hasE f t) l; omega
 · obtain ⟨okK, cK, ⟨cnt, l2, c2, B⟩, hr⟩ := hQ
   obtain ⟨k1, k2, k3⟩ := fin H1 K c1 okK cK hK
   exact ⟨_, _, hc (ls := .done) (pend := some .ret) (by simp) (by rw [hK, lowered_get]; exact B.gl), by simp [d1], k2, k1, (k3 _ (by omega)).trans B.g4, .inr ⟨rfl, hr, (k3 _ (by omega)).trans B.g5⟩⟩
def rsH (H : AHeap) (id ep : Int) (cm : Bool) (a : Stp) : AHeap := (((((H.top.alloc (.row false 1 [.int .i64 id])).alloc (.row false 1 [.int .i64 ep])).alloc (.row false 1 [.bool cm])).alloc (.row false 2 [.int .i64 a.1, .int .i64 a.2])).alloc (.row false 1 [.int .i64 0])).alloc (.row false 1 [.int .i64 0])
def rsH2 (H : AHeap) (id ep : Int) (cm : Bool) (a : Stp) : AHeap := (((rsH H id ep cm a).alloc (.row false 1 [.int .i64 0])).alloc (.map [] 0)).alloc (.row false 1 [.map (H.n + 7)])
def rsG (H : AHeap) (id ep : Int) (cm : Bool) (a : Stp) (p : Nat) (f t : List UInt8) : AHeap := (((rsH2 H id ep cm a).top.alloc (.row false 1 [.ptr p 0])).alloc (.row false 2 [.str f, .str t])).lowered (rsH2 H id ep cm a)
theorem rsH2_n (id ep : Int) (cm : Bool) (a : Stp) : (rsH2 H id ep cm a).n = H.n + 9 := by simp [rsH2, rsH]
def resS (acc : List KC) (l : List KC) : List KC := (l.map fun x => (x.1, (lookK x.1 acc).getD x.2)).filter fun x => !delB x.2
set_option maxHeartbeats 16000000 in
theorem kResolve {p id0 c : Nat} {l : ML} {f t : List UInt8} (id ep : Int) (cm : Bool) (a : Stp) (hok : H.ok) (hS : StoreAt H p id0 c l) (hf : Small f) (ht : Small t) (hkl : ∀ e ∈ l, Small e.1) (hsz : l.length < 1000000000) (hcl : ∀ e ∈ l, e.2.1.2.L.length < 1000000000) :
    ∃ (n e : Int) (K : AHeap) (l' : ML), call T 10 [.ptr p 0, .agg [.str f, .str t], .int .i64 id, .int .i64 ep, .bool cm, .agg [.int .i64 a.1, .int .i64 a.2]] H = some (.tuple [.int .i64 n, .int .i64 e], K) ∧ StoreAt K p id0 c l' ∧ Chg [id0] H K ∧
     ((rightB f t = false ∧ e = 51 ∧ n = 0 ∧ l' = l) ∨ (rightB f t = true ∧ resA id ep cm a (inE f t l) [] = none ∧ e = 84 ∧ n = 0 ∧ l' = l) ∨
      (rightB f t = true ∧ ∃ acc, resA id ep cm a (inE f t l) [] = some acc ∧ e = 0 ∧ n = acc.length ∧ l'.map kc = resS acc (l.map kc))) := by
 have hfn : ∀ {P : AV × AHeap → Prop}, _ → OkR (call T 10 [.ptr p 0, .agg [.str f, .str t], .int .i64 id, .int .i64 ep, .bool cm, .agg [.int .i64 a.1, .int .i64 a.2]] H) P := fun {P} h => call_evKD (show T 10 = some (.ir ⟨_, _, _, _, _⟩) from T10) (by decide) rfl rfl h
 have ew := kWrong (H := rsH H id ep cm a) (p := p) hf ht
 unfold rsH at ew
 by_cases hr : rightB f t = true
 · rw [if_pos hr] at ew
   have hokT := AHeap.ok.top hok.1
   have n2 := rsH2_n (H := H) id ep cm a
   have c8 : Chg [] H.top (rsH2 H id ep cm a) := by
    unfold rsH2 rsH
    exact ((((((((Chg.alloc _ _).trans hokT (.alloc _ _) (by simp)).trans hokT (.alloc _ _) (by simp)).trans hokT (.alloc _ _) (by simp)).trans hokT (.alloc _ _) (by simp)).trans hokT (.alloc _ _) (by simp)).trans hokT (.alloc _ _) (by simp)).trans hokT (.alloc _ _) (by simp)).trans hokT (.alloc _ _) (by simp)
   have ok8 := c8.ok hokT
   have cG : Chg [] H.top (rsG H id ep cm a p f t) := by
    unfold rsG
    exact c8.trans hokT (((Chg.alloc _ _).trans (AHeap.ok.top ok8.1) (.alloc _ _) (by simp)).lowered ok8) (by simp)
   have ei : call T 29 [.ptr p 0, .agg [.str f, .str t]] (rsH2 H id ep cm a) = some (.func (.func 56) [] [.ptr (H.n + 9) 0, .ptr (H.n + 10) 0], rsG H id ep cm a p f t) := by
    rw [kIn (H := rsH2 H id ep cm a), n2]; rfl
   obtain ⟨x, G', f1, d', m', cG', k4, hcase⟩ := rsRange (G := rsG H id ep cm a p f t) (b := H.n) (id := id) (ep := ep) (cm := cm) (a := a) (w := .func (.func 56) [] [.ptr (H.n + 9) 0, .ptr (H.n + 10) 0]) hok rfl hS hf ht hkl hsz hcl cG (by unfold rsG; simp [n2]) (by unfold rsG rsH2 rsH; rfl) rfl
    (by unfold rsG rsH2 rsH; simp +arith [AHeap.get_alloc, -get_alloc_eq, -get_alloc_ne]) (by unfold rsG rsH2 rsH; simp +arith [AHeap.get_alloc, -get_alloc_eq, -get_alloc_ne]) (by unfold rsG rsH2 rsH; simp +arith [AHeap.get_alloc, -get_alloc_eq, -get_alloc_ne]) (by unfold rsG rsH2 rsH; simp +arith [AHeap.get_alloc, -get_alloc_eq, -get_alloc_ne])
    (by unfold rsG rsH2 rsH; simp +arith [AHeap.get_alloc, -get_alloc_eq, -get_alloc_ne]) (by unfold rsG rsH2 rsH; simp +arith [AHeap.get_alloc, -get_alloc_eq, -get_alloc_ne]) (by unfold rsG rsH2 rsH; simp +arith [AHeap.get_alloc, -get_alloc_eq, -get_alloc_ne]) (by unfold rsG rsH2 rsH; simp +arith [AHeap.get_alloc, -get_alloc_eq, -get_alloc_ne])
    (by unfold rsG rsH2 rsH; simp +arith [AHeap.get_alloc, -get_alloc_eq, -get_alloc_ne]) (by unfold rsG rsH2 rsH; simp +arith [AHeap.get_alloc, -get_alloc_eq, -get_alloc_ne]) (by unfold rsG rsH2 rsH; simp +arith [AHeap.get_alloc, -get_alloc_eq, -get_alloc_ne])
   have okG' := cG'.ok hokT
   have hbn : H.n + 11 < G'.n := by have := AHeap.get_lt m' okG'.1; omega
   unfold rsH2 rsH at ei
   simp only [iaRs, envRs] at f1
   have hp := AHeap.get_lt hS.box hok.1
   have hi0 := AHeap.get_lt hS.map hok.1
   have hpi : p ≠ id0 := fun h => by have h1 := hS.box; rw [h, hS.map] at h1; cases h1
   have pG : G'.get p = some (.row false 1 [.map id0]) := by rw [cG'.get p hp (by simp), top_get]; exact hS.box
   have rp := rdAt_row pG
   rcases hcase with ⟨rfl, l2, c2, acc, hq, k5, k6, k7, k8, hs2, hb2, hlk, hv2, hk2, hal⟩ | ⟨rfl, hq, k5⟩
   · have r8 := rdAt_row k8
     have iG : G'.get id0 = some (.map (rowM AV.str fE l) c) := by rw [cG'.get id0 hi0 (by simp), top_get]; exact hS.map
     have hvl : ∀ e ∈ l, SV G' 5 e.2.1.1 (e.2.1.2.L.map rowVe) := fun e he => (hS.view e he).top.new hokT.1 cG'
     obtain ⟨K2, ec, cc, gc, lc⟩ := kCopy okG' iG k7 (by omega) hS.sorted hs2 hb2 (fun e he => by
      obtain ⟨y, hy, hye⟩ := List.mem_map.1 (hk2 e he)
      rw [← hye, mem_find ordS hS.sorted hy]; rfl)
     have ok2 := cc.ok okG'
     have svK : ∀ {K : AHeap} {v : AV} {L : List Ve}, SV G' 5 v (L.map rowVe) → Chg [id0] G' K → SV K 5 v (L.map rowVe) := fun {K v L} h hc => by
      refine ⟨h.view.frame fun h0 => hc.get _ (h.view.lt okG'.1 h0) (fun hm => ?_), okB_sl h.view.sl h.ok hc.le⟩
      obtain ⟨ro, sz, cells, hg, _⟩ := h.view.row h0
      rw [show sid v = id0 by simpa using hm, iG] at hg; cases hg
     have hvc0 : ∀ e ∈ copyM l2 l, SV G' 5 e.2.1.1 (e.2.1.2.L.map rowVe) ∧ (0 < (e.2.1.2.L.map rowVe).length → sid e.2.1.1 < H.n ∨ H.n + 11 < sid e.2.1.1) := fun e he => by
      obtain ⟨y, hy, rfl⟩ := List.mem_map.1 he
      simp only
      cases hf2 : lookM y.1 l2 with
      | none => exact ⟨hvl y hy, fun h => .inl ((hS.view y hy).view.lt hok.1 h)⟩
      | some z =>
       unfold lookM at hf2
       cases hf3 : findM y.1 l2 with
       | none => rw [hf3] at hf2; cases hf2
       | some q =>
        rw [hf3] at hf2
        have := hv2 _ (find_some_mem hf3)
        cases hf2
        exact ⟨this.1, fun h => .inr (Nat.lt_of_lt_of_le (show H.n + 11 < H.n + 13 by omega) (this.2 h))⟩
     obtain ⟨K3, ed, cd, gd3, ld⟩ := kDelF ok2 gc (hS.sorted.mapV _) (hS.birth.mapV _) (fun e he => svK (hvc0 e he).1 cc)
     have ok3 := cd.ok ok2
     have cc3 : Chg [id0] G' K3 := cc.trans okG' cd (by simp)
     have p2 : K2.get p = some (.row false 1 [.map id0]) := (cc.get p (by omega) (by simpa using hpi)).trans pG
     have rp2 := rdAt_row p2
     have e3 : ∀ j, H.n ≤ j → j < G'.n → K3.get j = G'.get j := fun j h1 h2 => cc3.get j h2 (by simp; omega)
     have h4 := (e3 (H.n + 4) (by omega) (by omega)).trans k4
     have h5 := (e3 (H.n + 5) (by omega) (by omega)).trans k5
     have h6 := (e3 (H.n + 6) (by omega) (by omega)).trans k6
     have h11 := (e3 (H.n + 11) (by omega) (by omega)).trans m'
     have r6 := rdAt_row h6
     have dK3 : K3.dfs = [.mark (H.n + 11)] := (call_dfs ed).trans ((call_dfs ec).trans d')
     obtain ⟨X, hX⟩ : ∃ X, X = (K3.set (H.n + 4) (.row false 1 [.int .i64 acc.length])).set (H.n + 5) (.row false 1 [.int .i64 0]) := ⟨_, rfl⟩
     have c1 := Chg.set K3 (H.n + 4) (.row false 1 [.int .i64 acc.length])
     have ok4 := c1.ok ok3
     have cX : Chg [H.n + 4, H.n + 5] K3 X := by rw [hX]; exact (c1.mono (by simp)).trans ok3 (.set _ _ _) (by simp)
     have yd : X.dfs = [.mark (H.n + 11)] := by rw [hX]; exact dK3
     have y0 : X.get (H.n + 11) = some .dfd := by rw [hX, get_set_ne _ _ (by omega), get_set_ne _ _ (by omega)]; exact h11
     have hlv := fun e l => leaveDK_mark (rs := [.cell 12 false 1, .cell 13 false 1]) (H := H) (x := .ret) (e := e) (l := l) yd y0
     obtain ⟨KF, hK⟩ : ∃ KF, KF = (X.withd []).set (H.n + 11) .dead := ⟨_, rfl⟩
     rw [← hK] at hlv
     rw [hX] at hlv
     have cK : Chg [H.n + 4, H.n + 5, H.n + 11] K3 KF := by rw [hK]; exact ((cX.mono (by simp)).trans ok3 ((Chg.withd X []).mono (by simp : ∀ i ∈ [], i ∈ ([] : List Nat))) (by simp)).trans ok3 (.set _ _ _) (by simp)
     have w4 := rdAt_row (H := KF) (id := H.n + 4) (ro := false) (e := 1) (cells := [.int .i64 acc.length]) (by rw [hK, get_set_ne _ _ (by omega), withd_get, hX, get_set_ne _ _ (by omega)]; exact get_set_same _ _ ok3.1 (by rw [h4]; rfl))
     have w5 := rdAt_row (H := KF) (id := H.n + 5) (ro := false) (e := 1) (cells := [.int .i64 0]) (by rw [hK, get_set_ne _ _ (by omega), withd_get, hX]; exact get_set_same _ _ ok4.1 (by rw [get_set_ne _ _ (by omega), h5]; rfl))
     have cF : Chg [id0] H.top KF := ((cG'.mono (by simp)).trans hokT cc3 (by simp)).trans hokT cK (by simp)
     have gF : ∀ j, j < H.n ∨ H.n + 11 < j → KF.get j = K3.get j := fun j hj => by rw [hK, get_set_ne _ _ (by omega), withd_get, hX, get_set_ne _ _ (by omega), get_set_ne _ _ (by omega)]
     have b0 : AV.okB G'.n (.map id0) = true := by simp [AV.okB]; omega
     have b7 : AV.okB G'.n (.map (H.n + 7)) = true := by simp [AV.okB]; omega
     obtain ⟨l', hl'⟩ : ∃ l', l' = (copyM l2 l).filter fun e => !delB e.2.1.2 := ⟨_, rfl⟩
     have hkc : l'.map kc = resS acc (l.map kc) := by
      rw [hl']
      unfold resS copyM mapV
      rw [List.filter_map, List.map_map, List.map_map, List.filter_map]
      have : ∀ e : List UInt8 × (AV × Ch) × Nat, ((lookM e.1 l2).getD e.2.1).2 = (lookK e.1 acc).getD e.2.1.2 := fun e => by
       rw [← hlk e.1]; cases lookM e.1 l2 <;> rfl
      simp only [Function.comp_def, kc, this]
     refine ⟨acc.length, 0, Go.Wam.fin H (.tuple [.int .i64 acc.length, .int .i64 0]) KF, l', okR_eq (hfn ?_), ?_, cF.fin hok _, .inr (.inr ⟨hr, acc, hq, rfl, rfl, hkc⟩)⟩
     · simp -implicitDefEqProofs +arith [ew, ei, evR_range, f1, rp, r8, b0, b7, ec, rp2, ed, r6, h4, h5, get_set_ne, hlv, w4, w5]
     · by_cases hlow : KF.low < H.n
       · rw [fin_keep (.inl hlow)]
         have okF := cF.ok hokT
         refine ⟨?_, ?_, ?_, ?_, ?_, ?_⟩
         · rw [lowered_get, gF p (.inl hp), cd.get p (by have := cc.le; omega) (by simpa using hpi)]; exact p2
         · rw [lowered_get, gF id0 (.inl hi0), hl']; exact gd3
         · rw [hl']; exact (hS.sorted.mapV _).filter _
         · rw [hl']
           intro e he
           obtain ⟨y, hy, rfl⟩ := List.mem_map.1 (List.mem_filter.1 he).1
           exact hS.key y hy
         · rw [hl']
           intro e he
           obtain ⟨hh1, hh2⟩ := hvc0 e (List.mem_filter.1 he).1
           have h1 := svK hh1 cc3
           refine ⟨h1.view.frame fun h0 => ?_, okB_sl h1.view.sl h1.ok cK.le⟩
           rw [lowered_get]; exact gF _ (hh2 h0)
         · rw [hl']; exact (hS.birth.mapV _).filter _
       · rw [fin_drop' (by omega) (by simp)]
         have hl2 : l2 = [] := by
          by_cases h : l2 = []
          · exact h
          · have h1 := lc h
            have h2 := cd.lo
            have h3 := cK.lo
            omega
         have hnd : ¬ (copyM l2 l).any (fun e => delB e.2.1.2) = true := fun h => by
          have h1 := ld h
          have h3 := cK.lo
          omega
         have : l' = l := by
          rw [hl', hl2, copyM_nil]
          rw [hl2, copyM_nil] at hnd
          rw [List.filter_eq_self]
          intro e he
          cases h : delB e.2.1.2 with
          | false => rfl
          | true => exact absurd (List.any_eq_true.2 ⟨e, he, h⟩) hnd
         rw [this]; exact hS
   · have z4 := rdAt_row k4
     have z5 := rdAt_row k5
     have hlv := fun e l => leaveDK_mark (rs := [.cell 12 false 1, .cell 13 false 1]) (H := H) (x := .ret) (e := e) (l := l) d' m'
     obtain ⟨KF, hK⟩ : ∃ KF, KF = (G'.withd []).set (H.n + 11) .dead := ⟨_, rfl⟩
     rw [← hK] at hlv
     have cK : Chg [H.n + 11] G' KF := by rw [hK]; exact ((Chg.withd G' []).mono (by simp)).trans okG' (.set _ _ _) (by simp)
     have q4 : ∀ agg sz off j, j ≠ H.n + 11 → KF.rdAt j agg sz off = G'.rdAt j agg sz off := fun agg sz off j hj => rdAt_congr (by rw [hK, get_set_ne _ _ hj, withd_get]) ..
     have cF : Chg [] H.top KF := cG'.trans hokT cK (by simp)
     have hfin : Go.Wam.fin H (.tuple [.int .i64 0, .int .i64 84]) KF = H := fin_drop' (by rw [cF.low_eq]; simp) (by simp)
     refine ⟨0, 84, H, l, okR_eq (hfn ?_), hS, .refl _ _, .inr (.inl ⟨hr, hq, rfl, rfl, rfl⟩)⟩
     simp -implicitDefEqProofs +arith [ew, ei, evR_range, f1, hlv, q4, z4, z5, hfin]
 · rw [if_neg hr] at ew
   refine ⟨0, 51, H, l, okR_eq (hfn ?_), hS, .refl _ _, .inl ⟨by simpa using hr, rfl, rfl, rfl⟩⟩
   simp -implicitDefEqProofs +arith [ew, leaveDK_nil, set_dfs, alloc_dfs, Go.Wam.fin, AHeap.set_low]
end
attribute [local simp] callN_yield ofSt_eq ofAV_v
def badB (b : UInt8) : Bool := decide (b.toNat < 33) || decide (126 < b.toNat)
def badV (v : List UInt8) : Bool := v.any badB
section
variable {H : AHeap}
theorem next_siter {v : List UInt8} {pos : Nat} (h : pos < v.length) : nextA (H.top.alloc (.siter v pos)) (.ptr H.n 0) = some (.tuple [.bool true, .int .i64 pos, .int .i32 (Utf8.decode ⟨v.toArray⟩ pos).1], H.top.alloc (.siter v (pos + (Utf8.decode ⟨v.toArray⟩ pos).2))) := by
 have g : (H.top.alloc (.siter v pos)).get H.n = some (.siter v pos) := get_alloc_same H.top _
 simp only [nextA, g, if_pos h]
 rw [show H.n = H.top.n from rfl, set_alloc_same _ _ _ (by simp)]
theorem next_end {v : List UInt8} : nextA (H.top.alloc (.siter v v.length)) (.ptr H.n 0) = some (.tuple [.bool false], H.top.alloc (.siter v v.length)) := by
 have g : (H.top.alloc (.siter v v.length)).get H.n = some (.siter v v.length) := get_alloc_same H.top _
 simp only [nextA, g]
 rw [if_neg (Nat.lt_irrefl _)]
theorem rune_bad {v : List UInt8} {pos : Nat} (h : pos < v.length) : (decide (((Utf8.decode ⟨v.toArray⟩ pos).1 : Int) < 33) || decide (126 < ((Utf8.decode ⟨v.toArray⟩ pos).1 : Int))) = badB v[pos] ∧ (badB v[pos] = false → (Utf8.decode ⟨v.toArray⟩ pos).2 = 1) := by
 have hs : pos < (ByteArray.mk v.toArray).size := by simpa [ByteArray.size] using h
 have hg : (ByteArray.mk v.toArray)[pos]'hs = v[pos] := rfl
 by_cases ha : (v[pos]).toNat < 128
 · rw [Go.decode_ascii _ _ hs (by rw [hg]; exact ha), hg]
   refine ⟨?_, fun _ => rfl⟩
   unfold badB
   simp only
   congr 1
   · exact decide_eq_decide.2 (by omega)
   · exact decide_eq_decide.2 (by omega)
 · have := Go.decode_high _ _ hs (by rw [hg]; omega)
   have hb : badB v[pos] = true := by unfold badB; simp; omega
   rw [hb]
   refine ⟨?_, fun h => by cases h⟩
   simp only [Bool.or_eq_true, decide_eq_true_eq]
   omega
set_option maxHeartbeats 2000000 in
theorem sIdx {v : List UInt8} (hv : Small v) : ∃ i : Int, call T 79 [.str v, .func (.func 50) [] [], .bool true] H = some (.int .i64 i, H) ∧ (decide (0 ≤ i) = badV v) := by
 have hv : v.length < 9223372036854775807 := hv
 obtain ⟨x, st, s', f1, hQ, hp, hr, hH⟩ := loopK (T := T) (L := L79_0) rfl
  (fun n s => ∃ pos : Nat, pos + n = v.length ∧ (∀ b ∈ v.take pos, badB b = false) ∧ s = ⟨[(1, .v (.func (.func 50) [] [])), (2, .v (.bool true)), (10, .v (.ptr H.n 0))], [], H.top.alloc (.siter v pos)⟩)
  (fun x s => s.H.low = H.n ∧ ((x = .exit 0 ∧ badV v = false) ∨ (x = .ret ∧ badV v = true ∧ ∃ i : Nat, rvsK s [.tmp 6] = some [.int .i64 i])))
  (by
   rintro n _ ⟨pos, hn, hb, rfl⟩ P hI hX hR
   by_cases hlt : pos < v.length
   · have e1 := next_siter (H := H) hlt
     obtain ⟨e2, e3⟩ := rune_bad hlt
     generalize hd : Utf8.decode ⟨v.toArray⟩ pos = d at e1 e2 e3
     obtain ⟨r, wd⟩ := d
     simp only at e1 e2 e3
     have ek := kRune (H := H.top.alloc (.siter v (pos + wd))) (r : Int)
     rw [e2] at ek
     cases hbb : badB v[pos] with
     | true =>
      rw [hbb] at ek
      simp -implicitDefEqProofs [B79_0, e1, ek]
      refine hR _ ?_
      exact ⟨by simp, .inr ⟨rfl, List.any_eq_true.2 ⟨_, List.getElem_mem hlt, hbb⟩, pos, by simp⟩⟩
     | false =>
      rw [hbb] at ek
      have := e3 hbb
      subst this
      simp -implicitDefEqProofs [B79_0, e1, ek]
      refine hI _ _ _ (n - 1) (by omega) ?_
      refine ⟨pos + 1, by omega, fun b hb' => ?_, by simp⟩
      rw [List.take_add_one, List.getElem?_eq_getElem hlt] at hb'
      rcases List.mem_append.1 hb' with h | h
      · exact hb b h
      · simp at h; rw [h]; exact hbb
   · have hp' : pos = v.length := by omega
     subst hp'
     have e1 := next_end (H := H) (v := v)
     simp -implicitDefEqProofs [B79_0, e1]
     refine hX _ _ ?_
     refine ⟨by simp, .inl ⟨rfl, ?_⟩⟩
     rw [List.take_length] at hb
     unfold badV
     rw [List.any_eq_false]
     intro b h; rw [hb b h]; simp)
  v.length ⟨[(1, .v (.func (.func 50) [] [])), (2, .v (.bool true)), (10, .v (.ptr H.n 0))], [], H.top.alloc (.siter v 0)⟩ (by simp) ⟨0, by omega, by simp, by simp⟩
 have e0 : rangeH H.top (.str v) = some (.ptr H.n 0, H.top.alloc (.siter v 0)) := rfl
 simp only [toSt_eq, List.map_cons, List.map_nil, av_v, av_l] at f1
 obtain ⟨hlow, ⟨rfl, hb⟩ | ⟨rfl, hb, i, hi⟩⟩ := hQ
 · refine ⟨-1, okR_eq (call_evK (show T 79 = some (.ir ⟨_, _, _, _, _⟩) from T79) (by decide) PL79 rfl rfl ?_), by rw [hb]; rfl⟩
   have hf : Go.Wam.fin H (.int .i64 (-1)) s'.H = H := fin_drop' (by rw [hlow]; exact Nat.le_refl _) (by simp)
   have hk : prK [] [] (ofSt st) = ⟨[], [], s'.H⟩ := (hp [] []).trans rfl
   simp -implicitDefEqProofs [e0, f1, hk, hf]
 · refine ⟨i, okR_eq (call_evK (show T 79 = some (.ir ⟨_, _, _, _, _⟩) from T79) (by decide) PL79 rfl rfl ?_), by rw [hb]; simp⟩
   have hf : Go.Wam.fin H (.int .i64 i) s'.H = H := fin_drop' (by rw [hlow]; exact Nat.le_refl _) (by simp)
   have hk := hr _ _ hi
   simp -implicitDefEqProofs [e0, f1, hk, hH, hf]
def valB (v : List UInt8) (gone : Bool) : Bool := !badV v && (decide (v.length ≤ 16) && (!gone || decide (v = [])))
theorem kValued {v : List UInt8} (hv : Small v) (gone : Bool) : call T 25 [.str v, .bool gone] H = some (.bool (valB v gone), H) := by
 obtain ⟨i, e1, hi⟩ := sIdx (H := H.top) hv
 have hv : v.length < 9223372036854775807 := hv
 have e2 : call T 67 [.str v, .func (.func 50) [] []] H.top = some (.int .i64 i, H.top) := by
  refine okR_eq (call_evK (show T 67 = some (.ir ⟨_, _, _, _, _⟩) from T67) (by decide) PL67 rfl rfl ?_)
  have hf : Go.Wam.fin H.top (.int .i64 i) H.top = H.top := fin_drop' (by simp) (by simp)
  simp -implicitDefEqProofs [e1, hf]
 have e3 : call T 49 [.str v, .func (.func 50) [] []] H.top = some (.bool (badV v), H.top) := by
  refine okR_eq (call_evK (show T 49 = some (.ir ⟨_, _, _, _, _⟩) from T49) (by decide) PL49 rfl rfl ?_)
  have hf : Go.Wam.fin H.top (.bool (badV v)) H.top = H.top := fin_drop' (by simp) (by simp)
  simp -implicitDefEqProofs [e2, hf, hi]
 refine okR_eq (call_evK (show T 25 = some (.ir ⟨_, _, _, _, _⟩) from T25) (by decide) PL25 rfl rfl ?_)
 unfold valB
 cases hb : badV v with
 | true => rw [hb] at e3; simp -implicitDefEqProofs [e3, fin_pure]
 | false =>
  rw [hb] at e3
  by_cases hl : v.length ≤ 16
  · have hl' : (v.length : Int) ≤ 16 := by omega
    cases gone with
    | false => simp -implicitDefEqProofs [e3, fin_pure, hl, hl']
    | true =>
     by_cases h0 : v = []
     · subst h0; simp -implicitDefEqProofs [e3, fin_pure]
     · simp -implicitDefEqProofs [e3, fin_pure, hl, hl', h0]
  · have hl' : ¬ (v.length : Int) ≤ 16 := by omega
    simp -implicitDefEqProofs [e3, fin_pure, hl, hl']
set_option maxHeartbeats 8000000 in
theorem kPut {p id0 c : Nat} {l : ML} {k : List UInt8} (hok : H.ok) (hS : StoreAt H p id0 c l) (hk : Small k) (hkm : k.length ≤ maxLen) (i : It) (hv : Small i.val) (hcl : ∀ e ∈ l, e.2.1.2.L.length < 1000000000) :
    ∃ (s : Stp) (m : Mt) (e : Int) (K : AHeap) (l' : ML) (c' : Nat), call T 9 [.ptr p 0, .str k, .agg (celIt i)] H = some (.tuple [.agg [.int .i64 s.1, .int .i64 s.2], .agg (celMt m), .int .i64 e], K) ∧ StoreAt K p id0 c' l' ∧ Chg [id0] H K ∧
     ((keyB k = false ∧ s = (0, 0) ∧ m = zMt ∧ e = 51 ∧ l' = l) ∨ (keyB k = true ∧ valB i.val i.gone = false ∧ s = (0, 0) ∧ m = zMt ∧ e = 1 ∧ l' = l) ∨
      (keyB k = true ∧ valB i.val i.gone = true ∧ (s, m, e) = (writeC ((lookM k l).map Prod.snd |>.getD zCh) i).2 ∧
       ((e ≠ 0 ∧ l' = l) ∨ (e = 0 ∧ ∃ v', l' = putM bytesLess k (v', (writeC ((lookM k l).map Prod.snd |>.getD zCh) i).1) c l ∧ c' = tickM k c l)))) := by
 have hfn : ∀ {P : AV × AHeap → Prop}, _ → OkR (call T 9 [.ptr p 0, .str k, .agg (celIt i)] H) P := fun {P} h => call_evK (show T 9 = some (.ir ⟨_, _, _, _, _⟩) from T9) (by decide) PL9 rfl rfl h
 have ev := kValued (H := H.top) hv i.gone
 have ek := sKey hk H.top
 obtain ⟨⟨mid, mep, manc, mw, mg⟩, seq, iat, ival, igone⟩ := i
 unfold celIt at hfn
 simp only at hfn ev hv ⊢
 cases hkb : keyB k with
 | false =>
  rw [hkb] at ek
  refine ⟨(0, 0), zMt, 51, H, l, c, okR_eq (hfn ?_), hS, .refl _ _, .inl ⟨rfl, rfl, rfl, rfl, rfl⟩⟩
  cases hvb : valB ival igone with
  | false => rw [hvb] at ev; simp -implicitDefEqProofs [ev, ek, fin_pure, zMt, celMt]
  | true => rw [hvb] at ev; simp -implicitDefEqProofs [ev, ek, fin_pure, zMt, celMt]
 | true =>
  rw [hkb] at ek
  cases hvb : valB ival igone with
  | false =>
   rw [hvb] at ev
   refine ⟨(0, 0), zMt, 1, H, l, c, okR_eq (hfn ?_), hS, .refl _ _, .inr (.inl ⟨rfl, rfl, rfl, rfl, rfl, rfl⟩)⟩
   simp -implicitDefEqProofs [ev, ek, fin_pure, zMt, celMt]
  | true =>
   rw [hvb] at ev
   have hokT := AHeap.ok.top hok.1
   have hp := AHeap.get_lt hS.box hok.1
   have hi0 := AHeap.get_lt hS.map hok.1
   have hpi : p ≠ id0 := fun h => by have h1 := hS.box; rw [h, hS.map] at h1; cases h1
   have rp := rdAt_row (H := H.top) ((top_get ..).trans hS.box)
   have iT : H.top.get id0 = some (.map (rowM AV.str fE l) c) := (top_get ..).trans hS.map
   obtain ⟨v0, c0, hlk, hS0, hl0, hc0⟩ : ∃ v0 c0, lookupA H.top .str false (.agg [.nils, (.bool false), (.int .i64 0), (.int .i64 0), (.str []), (.int .i64 0), (.int .i64 0), (.int .i64 0), (.int .i64 0), (.int .i64 0), (.str []), (.bool false)]) (.map id0) (.str k) = some (.agg (celCh v0 c0)) ∧ SV H.top 5 v0 (c0.L.map rowVe) ∧ c0.L.length < 1000000000 ∧ c0 = ((lookM k l).map Prod.snd |>.getD zCh) := by
    rw [lookup_M KeyOk.str iT]
    cases hf : lookM k l with
    | none => exact ⟨.nils, zCh, rfl, .nil _ _, by simp [zCh], rfl⟩
    | some x =>
     have hf0 := hf
     unfold lookM at hf
     cases hf3 : findM k l with
     | none => rw [hf3] at hf; cases hf
     | some q =>
      rw [hf3] at hf
      have hm := find_some_mem hf3
      cases hf
      exact ⟨q.1.1, q.1.2, rfl, (hS.view _ hm).top, hcl _ hm, rfl⟩
   rw [← hc0]
   have hv0n := hS0.view.noL
   have hv0c := hS0.view.cells
   have hv01 := hS0.view.one
   have hv0k := hS0.ok
   simp only [top_n] at hv0k
   obtain ⟨v', K1, er, m1⟩ := vWrite (H := H.top) hokT hS0 (by omega) ⟨⟨mid, mep, manc, mw, mg⟩, seq, iat, ival, igone⟩
   have ok1 := m1.chg.ok hokT
   have vn' := m1.sv.view.noL
   have vc' := m1.sv.view.cells
   have v1' := m1.sv.view.one
   have vo' := m1.sv.ok
   have i1 : K1.get id0 = some (.map (rowM AV.str fE l) c) := (m1.chg.get _ hi0 (by simp)).trans iT
   have p1 : K1.get p = some (.row false 1 [.map id0]) := (m1.chg.get _ hp (by simp)).trans ((top_get ..).trans hS.box)
   have rp1 := rdAt_row p1
   have le1 := m1.chg.le
   have okm0 : AV.okB H.n (.map id0) = true := by simp [AV.okB]; omega
   have okm1 : AV.okB K1.n (.map id0) = true := by simp [AV.okB]; simp at le1; omega
   have hz : ∀ e ∈ l, SV K1 5 e.2.1.1 (e.2.1.2.L.map rowVe) := fun e he => (hS.view e he).top.new hokT.1 m1.chg
   generalize hw : writeC c0 ⟨⟨mid, mep, manc, mw, mg⟩, seq, iat, ival, igone⟩ = q at er m1 ⊢
   obtain ⟨⟨dL, dop, di⟩, s, m, e⟩ := q
   simp only [outW] at er m1 ⊢
   by_cases he : e = 0
   · subst he
     have hu := upd_M (f := fE) (lt := bytesLess) KeyOk.str i1 k (v', (⟨dL, dop, di⟩ : Ch)) rfl
     obtain ⟨KF, hK⟩ : ∃ KF, KF = K1.set id0 (.map (rowM AV.str fE (putM bytesLess k (v', (⟨dL, dop, di⟩ : Ch)) c l)) (tickM k c l)) := ⟨_, rfl⟩
     rw [← hK] at hu
     have cF : Chg [id0] K1 KF := by rw [hK]; exact .set _ _ _
     have okF := cF.ok ok1
     have lF : KF.low ≤ id0 := by rw [hK, AHeap.set_low]; split <;> omega
     have gF : ∀ j, j ≠ id0 → KF.get j = K1.get j := fun j hj => by rw [hK, get_set_ne _ _ hj]
     have svK : ∀ {v : AV} {L : List Ve}, SV K1 5 v (L.map rowVe) → SV KF 5 v (L.map rowVe) := fun {v L} h => by
      refine ⟨h.view.frame fun h0 => gF _ (fun hm => ?_), okB_sl h.view.sl h.ok cF.le⟩
      obtain ⟨ro, sz, cells, hg, _⟩ := h.view.row h0
      rw [hm, i1] at hg; cases hg
     refine ⟨s, m, 0, KF.lowered H, putM bytesLess k (v', (⟨dL, dop, di⟩ : Ch)) c l, tickM k c l, okR_eq (hfn ?_), ⟨?_, ?_, hS.sorted.put ordS, fun x hx => ?_, fun x hx => ?_, hS.birth.put _ _⟩, ?_, .inr (.inr ⟨by simp, by simp, by simp, .inr ⟨rfl, v', rfl, rfl⟩⟩)⟩
     · have hf : ∀ v : AV, Go.Wam.fin H v KF = KF.lowered H := fun v => fin_keep (.inl (by omega))
       unfold fE celCh celIt at hu
       unfold celCh celIt celMt at *
       simp -implicitDefEqProofs [ev, ek, rp, hlk, er, hv0n, hv0c, hv01, hv0k, vn', vc', v1', vo', okm0, okm1, rp1, hu, hf]
     · rw [lowered_get, gF _ hpi]; exact p1
     · rw [lowered_get, hK]; exact get_set_same _ _ ok1.1 (by rw [i1]; rfl)
     · have hx' : x.1 = k ∨ x ∈ l := by
         unfold putM at hx
         split at hx
         · rw [rep_mapV ordS hS.sorted] at hx
           obtain ⟨y, hy, rfl⟩ := List.mem_map.1 hx
           by_cases hyk : y.1 = k
           · exact .inl hyk
           · right; simp only [hyk, if_false]; exact hy
         · rcases ins_mem.1 hx with rfl | hx
           · exact .inl rfl
           · exact .inr hx
       rcases hx' with hx' | hx'
       · rw [hx']; exact hkm
       · exact hS.key x hx'
     · have hx' : x.2.1 = (v', (⟨dL, dop, di⟩ : Ch)) ∨ x ∈ l := by
         unfold putM at hx
         split at hx
         · rw [rep_mapV ordS hS.sorted] at hx
           obtain ⟨y, hy, rfl⟩ := List.mem_map.1 hx
           by_cases hyk : y.1 = k
           · left; simp [hyk]
           · right; simp only [hyk, if_false]; exact hy
         · rcases ins_mem.1 hx with rfl | hx
           · exact .inl rfl
           · exact .inr hx
       have : SV KF 5 x.2.1.1 (x.2.1.2.L.map rowVe) := by
        rcases hx' with hx' | hx'
        · rw [hx']; exact svK m1.sv
        · exact svK (hz x hx')
       exact ⟨this.view.frame fun _ => lowered_get .., this.ok⟩
     · exact ((m1.chg.mono (by simp)).trans hokT cF (by simp)).lowered hok
   · refine ⟨s, m, e, Go.Wam.fin H (.tuple [.agg [.int .i64 s.1, .int .i64 s.2], .agg (celMt m), .int .i64 e]) K1, l, c, okR_eq (hfn ?_), ?_, ?_, .inr (.inr ⟨by simp, by simp, by simp, .inl ⟨he, rfl⟩⟩)⟩
     · unfold celCh celIt celMt at *
       simp -implicitDefEqProofs [ev, ek, rp, hlk, er, he, hv0n, hv0c, hv01, hv0k, vn', vc', v1', vo', okm0]
     · rw [fin_drop' (by rw [m1.chg.low_eq]; simp) (by simp [celMt])]; exact hS
     · exact (m1.chg.mono (by simp)).fin hok _
end
attribute [local simp] callN_yield ofSt_eq ofAV_v
structure SAct where
 kd : Int
 id : Int
 ep : Int
 key : List UInt8
 f : List UInt8
 t : List UInt8
 i : It
 cm : Bool
 a : Stp
 b : Stp
def rowSA (x : SAct) : List AV := [.int .i64 x.kd, .int .i64 x.id, .int .i64 x.ep, .str x.key, .str x.f, .str x.t, .int .i64 x.i.m.id, .int .i64 x.i.m.ep, .str x.i.m.anc, .int .i64 x.i.m.w, .int .i64 x.i.m.g, .int .i64 x.i.seq, .int .i64 x.i.at_.1, .int .i64 x.i.at_.2, .str x.i.val, .bool x.i.gone, .bool x.cm, .int .i64 x.a.1, .int .i64 x.a.2, .int .i64 x.b.1, .int .i64 x.b.2]
def fitsB (x : SAct) : Bool := (decide (x.key.length ≤ 60) && (decide (x.f.length ≤ 60) && (decide (x.t.length ≤ 60) && (decide (x.i.val.length ≤ 60) && (decide (x.i.m.anc.length ≤ 60) && (decide (0 ≤ x.i.m.id) && (decide (x.i.m.id ≤ 1099511627776) && (decide (0 ≤ x.i.m.ep) && (decide (x.i.m.ep ≤ 1099511627776) && (decide (0 ≤ x.i.seq) && (decide (x.i.seq ≤ 1099511627776) && (keyB x.i.m.anc && rightT (x.i.m.w, x.i.m.g)))))))))))))
section
variable {H : AHeap}
set_option maxHeartbeats 8000000 in
theorem kFits (x : SAct) : call T 7 [.agg (rowSA x)] H = some (.bool (fitsB x), H) := by
 refine okR_eq (call_evK (show T 7 = some (.ir ⟨_, _, _, _, _⟩) from T7) (by decide) PL7 rfl rfl ?_)
 unfold fitsB rowSA
 by_cases hkey : ¬ x.key.length ≤ 60
 · have hkey' : ¬ (x.key.length : Int) ≤ 60 := by omega
   simp -implicitDefEqProofs [hkey, hkey', fin_pure]
 have hkey : x.key.length ≤ 60 := Classical.not_not.1 hkey
 have hkey' : (x.key.length : Int) ≤ 60 := by omega
 by_cases hf : ¬ x.f.length ≤ 60
 · have hf' : ¬ (x.f.length : Int) ≤ 60 := by omega
   simp -implicitDefEqProofs [hkey, hkey', hf, hf', fin_pure]
 have hf : x.f.length ≤ 60 := Classical.not_not.1 hf
 have hf' : (x.f.length : Int) ≤ 60 := by omega
 by_cases ht : ¬ x.t.length ≤ 60
 · have ht' : ¬ (x.t.length : Int) ≤ 60 := by omega
   simp -implicitDefEqProofs [hkey, hkey', hf, hf', ht, ht', fin_pure]
 have ht : x.t.length ≤ 60 := Classical.not_not.1 ht
 have ht' : (x.t.length : Int) ≤ 60 := by omega
 by_cases hv : ¬ x.i.val.length ≤ 60
 · have hv' : ¬ (x.i.val.length : Int) ≤ 60 := by omega
   simp -implicitDefEqProofs [hkey, hkey', hf, hf', ht, ht', hv, hv', fin_pure]
 have hv : x.i.val.length ≤ 60 := Classical.not_not.1 hv
 have hv' : (x.i.val.length : Int) ≤ 60 := by omega
 by_cases hc : ¬ x.i.m.anc.length ≤ 60
 · have hc' : ¬ (x.i.m.anc.length : Int) ≤ 60 := by omega
   simp -implicitDefEqProofs [hkey, hkey', hf, hf', ht, ht', hv, hv', hc, hc', fin_pure]
 have hc : x.i.m.anc.length ≤ 60 := Classical.not_not.1 hc
 have hc' : (x.i.m.anc.length : Int) ≤ 60 := by omega
 by_cases hi0 : ¬ 0 ≤ x.i.m.id
 · simp -implicitDefEqProofs [hkey, hkey', hf, hf', ht, ht', hv, hv', hc, hc', hi0, fin_pure]
 have hi0 : 0 ≤ x.i.m.id := Classical.not_not.1 hi0
 by_cases hi1 : ¬ x.i.m.id ≤ 1099511627776
 · simp -implicitDefEqProofs [hkey, hkey', hf, hf', ht, ht', hv, hv', hc, hc', hi0, hi1, fin_pure]
 have hi1 : x.i.m.id ≤ 1099511627776 := Classical.not_not.1 hi1
 by_cases he0 : ¬ 0 ≤ x.i.m.ep
 · simp -implicitDefEqProofs [hkey, hkey', hf, hf', ht, ht', hv, hv', hc, hc', hi0, hi1, he0, fin_pure]
 have he0 : 0 ≤ x.i.m.ep := Classical.not_not.1 he0
 by_cases he1 : ¬ x.i.m.ep ≤ 1099511627776
 · simp -implicitDefEqProofs [hkey, hkey', hf, hf', ht, ht', hv, hv', hc, hc', hi0, hi1, he0, he1, fin_pure]
 have he1 : x.i.m.ep ≤ 1099511627776 := Classical.not_not.1 he1
 by_cases hs0 : ¬ 0 ≤ x.i.seq
 · simp -implicitDefEqProofs [hkey, hkey', hf, hf', ht, ht', hv, hv', hc, hc', hi0, hi1, he0, he1, hs0, fin_pure]
 have hs0 : 0 ≤ x.i.seq := Classical.not_not.1 hs0
 by_cases hs1 : ¬ x.i.seq ≤ 1099511627776
 · simp -implicitDefEqProofs [hkey, hkey', hf, hf', ht, ht', hv, hv', hc, hc', hi0, hi1, he0, he1, hs0, hs1, fin_pure]
 have hs1 : x.i.seq ≤ 1099511627776 := Classical.not_not.1 hs1
 have ek := rKey (show Small x.i.m.anc by unfold Small; omega) H.top
 have er := tRight' (x.i.m.w, x.i.m.g) H.top
 cases hk : keyB x.i.m.anc with
 | false => rw [hk] at ek; simp -implicitDefEqProofs [hkey, hkey', hf, hf', ht, ht', hv, hv', hc, hc', hi0, hi1, he0, he1, hs0, hs1, ek, fin_pure]
 | true => rw [hk] at ek; simp -implicitDefEqProofs [hkey, hkey', hf, hf', ht, ht', hv, hv', hc, hc', hi0, hi1, he0, he1, hs0, hs1, ek, er, fin_pure]
end
attribute [local simp] callN_yield ofSt_eq ofAV_v
theorem look_mem2 {k : List UInt8} {acc : List KC} {d : Ch} (h : lookK k acc = some d) : (k, d) ∈ acc := by
 induction acc with
 | nil => cases h
 | cons x r ih =>
  simp only [lookK] at h
  split at h
  · rename_i hk; cases h; rw [hk]; simp
  · exact List.mem_cons_of_mem _ (ih h)
theorem resolveC_len (c : Ch) (id ep : Int) (cm : Bool) (a : Stp) : (resolveC c id ep cm a).1.L.length ≤ c.L.length + 1 := by
 unfold resolveC
 repeat' split
 all_goals simp [zCh]
theorem writeC_len (c : Ch) (i : It) : (writeC c i).1.L.length ≤ c.L.length := by
 unfold writeC
 repeat' split
 all_goals simp [zCh]
theorem resA_len {id ep : Int} {cm : Bool} {a : Stp} {N : Nat} : ∀ {E acc acc' : List KC}, resA id ep cm a E acc = some acc' → (∀ x ∈ E, x.2.L.length ≤ N) → (∀ x ∈ acc, x.2.L.length ≤ N + 1) → ∀ x ∈ acc', x.2.L.length ≤ N + 1
 | [], acc, acc', h, _, h2 => by cases h; exact h2
 | x :: r, acc, acc', h, h1, h2 => by
  rw [resA] at h
  split at h
  · refine resA_len h (fun y hy => h1 y (by simp [hy])) fun y hy => ?_
    split at hy
    · rcases List.mem_cons.1 hy with rfl | hy
      · have := resolveC_len x.2 id ep cm a
        have := h1 x (by simp)
        simp only; omega
      · exact h2 y hy
    · exact h2 y hy
  · cases h
structure Sized (l : ML) (n : Nat) : Prop where
 len : l.length ≤ n
 ch : ∀ e ∈ l, e.2.1.2.L.length ≤ n
 key : ∀ e ∈ l, e.1.length ≤ 60
theorem Sized.mono {l : ML} {n m : Nat} (h : Sized l n) (hm : n ≤ m) : Sized l m := ⟨Nat.le_trans h.len hm, fun e he => Nat.le_trans (h.ch e he) hm, h.key⟩
theorem Sized.put {l : ML} {n c : Nat} {k : List UInt8} {v : AV} {i : It} (hs : SortedM bytesLess l) (h : Sized l n) (hk : k.length ≤ 60) : Sized (putM bytesLess k (v, (writeC ((lookM k l).map Prod.snd |>.getD zCh) i).1) c l) (n + 1) := by
 have hw := writeC_len ((lookM k l).map Prod.snd |>.getD zCh) i
 have h0 : ((lookM k l).map Prod.snd |>.getD zCh).L.length ≤ n := by
  unfold lookM
  cases hf : findM k l with
  | none => simp [zCh]
  | some q => exact h.ch _ (find_some_mem hf)
 unfold putM
 split
 · refine ⟨by have : (repM k (v, (writeC ((lookM k l).map Prod.snd |>.getD zCh) i).1) l).length = l.length := by
                have := congrArg List.length (rep_keys k (v, (writeC ((lookM k l).map Prod.snd |>.getD zCh) i).1) l); simpa using this
              rw [this]; exact Nat.le_succ_of_le h.len, fun e he => ?_, fun e he => ?_⟩
   · rw [rep_mapV ordS hs] at he
     obtain ⟨y, hy, rfl⟩ := List.mem_map.1 he
     simp only
     split
     · simp only; omega
     · exact Nat.le_succ_of_le (h.ch y hy)
   · rw [rep_mapV ordS hs] at he
     obtain ⟨y, hy, rfl⟩ := List.mem_map.1 he
     exact h.key y hy
 · refine ⟨by rw [(ins_perm bytesLess _ l).length_eq]; simp; exact h.len, fun e he => ?_, fun e he => ?_⟩
   · rcases ins_mem.1 he with rfl | he
     · simp only; omega
     · exact Nat.le_succ_of_le (h.ch e he)
   · rcases ins_mem.1 he with rfl | he
     · exact hk
     · exact h.key e he
theorem Sized.res {l l' : ML} {n : Nat} {f t : List UInt8} {id ep : Int} {cm : Bool} {a : Stp} {acc : List KC} (h : Sized l n) (hr : resA id ep cm a (inE f t l) [] = some acc) (hl : l'.map kc = resS acc (l.map kc)) : Sized l' (n + 1) := by
 have ha := resA_len hr (N := n) (fun x hx => by
  obtain ⟨e, he, rfl⟩ := List.mem_map.1 hx
  exact h.ch e (List.mem_filter.1 he).1) (by simp)
 have hm : ∀ e ∈ l', kc e ∈ resS acc (l.map kc) := fun e he => by rw [← hl]; exact List.mem_map.2 ⟨e, he, rfl⟩
 have hm2 : ∀ e ∈ l', ∃ y ∈ l, e.1 = y.1 ∧ e.2.1.2 = (lookK y.1 acc).getD y.2.1.2 := fun e he => by
  have := hm e he
  unfold resS at this
  obtain ⟨z, hz, hze⟩ := List.mem_map.1 (List.mem_filter.1 this).1
  obtain ⟨y, hy, rfl⟩ := List.mem_map.1 hz
  refine ⟨y, hy, ?_, ?_⟩
  · have := congrArg Prod.fst hze; exact this.symm
  · have := congrArg Prod.snd hze; exact this.symm
 refine ⟨?_, fun e he => ?_, fun e he => ?_⟩
 · have h1 := congrArg List.length hl
   rw [List.length_map] at h1
   have h2 : (resS acc (l.map kc)).length ≤ l.length := by
    unfold resS
    refine Nat.le_trans (List.length_filter_le _ _) ?_
    simp
   have := h.len; omega
 · obtain ⟨y, hy, _, h2⟩ := hm2 e he
   rw [h2]
   cases hk : lookK y.1 acc with
   | none => exact Nat.le_succ_of_le (h.ch y hy)
   | some d => exact ha _ (look_mem2 hk)
 · obtain ⟨y, hy, h1, _⟩ := hm2 e he
   rw [h1]; exact h.key y hy
theorem fits_len {x : SAct} (h : fitsB x = true) : x.key.length ≤ 60 ∧ x.f.length ≤ 60 ∧ x.t.length ≤ 60 ∧ x.i.val.length ≤ 60 := by
 unfold fitsB at h
 simp only [Bool.and_eq_true, decide_eq_true_eq] at h
 exact ⟨h.1, h.2.1, h.2.2.1, h.2.2.2.1⟩
theorem small60 {s : List UInt8} (h : s.length ≤ 60) : Small s := by unfold Small; omega
section
variable {H : AHeap}
theorem rdSA {v : AV} {A : List SAct} (hV : View H 21 v (A.map rowSA)) {i : Nat} (h : i < A.length) : H.rdAt (sid v) true 21 (soff v + i * 21) = some (.agg (rowSA A[i])) := by
 have := hV.rd (i := i) (r := rowSA A[i]) (by rw [List.getElem?_map, List.getElem?_eq_getElem h]; rfl) true (k := 21) (f := 0) (by omega) (by omega) (by simp)
 simpa [rowSA, rd] using this
theorem ixSA {v : AV} {A : List SAct} (hV : View H 21 v (A.map rowSA)) {i : Nat} (h : i < A.length) : idxS 21 v (.int .i64 i) = some (.ptr (sid v) (soff v + i * 21)) := by
 have := hV.idx .i64 (n := i) (by omega) (by rw [List.length_map]; omega)
 simpa using this
end
attribute [local simp] callN_yield ofSt_eq ofAV_v
def chAt (l : ML) (k : List UInt8) : Ch := ((lookM k l).map Prod.snd).getD zCh
theorem look_kc (k : List UInt8) (l : ML) : (lookM k l).map Prod.snd = lookK k (l.map kc) := by
 unfold lookM
 induction l with
 | nil => rfl
 | cons e r ih =>
  simp only [findM, List.map_cons, lookK, kc]
  by_cases h : k = e.1
  · simp [h]
  · simp only [h, if_false]; exact ih
theorem chAt_kc (l : ML) (k : List UInt8) : chAt l k = (lookK k (l.map kc)).getD zCh := by unfold chAt; rw [look_kc]
theorem lookK_none {k : List UInt8} {acc : List KC} (h : ∀ x ∈ acc, x.1 ≠ k) : lookK k acc = none := by
 induction acc with
 | nil => rfl
 | cons x r ih =>
  simp only [lookK]
  rw [if_neg (fun hh => h x (by simp) hh.symm)]
  exact ih fun y hy => h y (by simp [hy])
theorem resA_key {id ep : Int} {cm : Bool} {a : Stp} {p : List UInt8 → Prop} : ∀ {E acc acc' : List KC}, resA id ep cm a E acc = some acc' → (∀ x ∈ E, p x.1) → (∀ x ∈ acc, p x.1) → ∀ x ∈ acc', p x.1
 | [], acc, acc', h, _, h2 => by cases h; exact h2
 | x :: r, acc, acc', h, h1, h2 => by
  rw [resA] at h
  split at h
  · refine resA_key h (fun y hy => h1 y (by simp [hy])) fun y hy => ?_
    split at hy
    · rcases List.mem_cons.1 hy with rfl | hy
      · exact h1 x (by simp)
      · exact h2 y hy
    · exact h2 y hy
  · cases h
theorem look_resS {acc : List KC} {k : List UInt8} (hk : lookK k acc = none) : ∀ {L : List KC}, (∀ x ∈ L, delB x.2 = false) → lookK k (resS acc L) = lookK k L
 | [], _ => rfl
 | x :: r, h => by
  have ih := look_resS hk (L := r) fun y hy => h y (by simp [hy])
  unfold resS at ih ⊢
  rw [List.map_cons, List.filter_cons]
  by_cases hx : k = x.1
  · have : (lookK x.1 acc).getD x.2 = x.2 := by rw [← hx, hk]; rfl
    simp only [this, h x (by simp), Bool.not_false, if_true, lookK]
    rw [if_pos hx, if_pos hx]
  · split
    · simp only [lookK]; rw [if_neg hx, if_neg hx]; exact ih
    · rw [ih]; simp only [lookK]; rw [if_neg hx]
def Live (l : ML) : Prop := ∀ e ∈ l, delB e.2.1.2 = false
theorem writeC_op {c : Ch} {i : It} (h : (writeC c i).2.2.2 = 0) : (writeC c i).1.op = true := by
 unfold writeC at h ⊢
 repeat' split at h
 all_goals first | (simp at h; done) | skip
 · rename_i h1 h2 h3 h4
   rw [if_neg h1, if_neg h2, if_neg h3, if_pos h4]; exact h4.1
 · rename_i h1 h2 h3 h4 h5
   rw [if_neg h1, if_neg h2, if_neg h3, if_neg h4, if_pos h5]
section
variable {H : AHeap}
theorem StoreAt.apart {K : AHeap} {p q id0 id1 c c1 : Nat} {l l1 : ML} (hok : H.ok) (hS : StoreAt H p id0 c l) (hT : StoreAt H q id1 c1 l1) (hne : id1 ≠ id0) (cK : Chg [id0] H K) : StoreAt K q id1 c1 l1 := by
 have hq : q ≠ id0 := fun h => by have h1 := hT.box; rw [h, hS.map] at h1; cases h1
 refine ⟨(cK.get q (AHeap.get_lt hT.box hok.1) (by simpa using hq)).trans hT.box, (cK.get id1 (AHeap.get_lt hT.map hok.1) (by simpa using hne)).trans hT.map, hT.sorted, hT.key, fun e he => ?_, hT.birth⟩
 have h := hT.view e he
 refine ⟨h.view.frame fun h0 => cK.get _ (h.view.lt hok.1 h0) (fun hm => ?_), okB_sl h.view.sl h.ok cK.le⟩
 obtain ⟨ro, sz, cells, hg, _⟩ := h.view.row h0
 rw [show sid e.2.1.1 = id0 by simpa using hm, hS.map] at hg; cases hg
theorem kCopyS {p id0 c : Nat} {l : ML} (hok : H.ok) (hS : StoreAt H p id0 c l) : ∃ K, call T 8 [.ptr p 0] H = some (.ptr (H.n + 1) 0, K) ∧ StoreAt K (H.n + 1) H.n c l ∧ Chg [] H K := by
 have rp := rdAt_row (H := H.top) ((top_get ..).trans hS.box)
 have ec : call T 24 [.map id0] H.top = some (.map H.n, H.top.alloc (.map (rowM AV.str fE l) c)) := by
  rw [call_prim T24 (by decide)]
  simp only [gCl, top_get, hS.map]
  rfl
 have hf : Go.Wam.fin H (.ptr (H.n + 1) 0) ((H.top.alloc (.map (rowM AV.str fE l) c)).alloc (.row false 1 [.map H.n])) = ((H.top.alloc (.map (rowM AV.str fE l) c)).alloc (.row false 1 [.map H.n])).lowered H := fin_keep (.inr (by simp [AV.okB]))
 have c1 : Chg [] H.top ((H.top.alloc (.map (rowM AV.str fE l) c)).alloc (.row false 1 [.map H.n])) := (Chg.alloc _ _).trans (AHeap.ok.top hok.1) (Chg.alloc _ _) (by simp)
 have cK := c1.lowered hok
 refine ⟨_, okR_eq (call_evK (show T 8 = some (.ir ⟨_, _, _, _, _⟩) from T8) (by decide) PL8 rfl rfl ?_), ⟨?_, ?_, hS.sorted, hS.key, fun e he => (hS.view e he).new hok.1 cK, hS.birth⟩, cK⟩
 · simp -implicitDefEqProofs [rp, ec, hf]
 · rw [lowered_get]; exact get_alloc_same (H.top.alloc _) _
 · rw [lowered_get, get_alloc_ne _ _ (by simp)]; exact get_alloc_same H.top _
theorem kChain {p id0 c : Nat} {l : ML} {k : List UInt8} (hok : H.ok) (hS : StoreAt H p id0 c l) (hcl : ∀ e ∈ l, e.2.1.2.L.length < 1000000000) :
    ∃ v K, call T 14 [.ptr p 0, .str k] H = some (.agg (celCh v (chAt l k)), K) ∧ NewO H K 5 v ((chAt l k).L.map rowVe) := by
 have rp := rdAt_row (H := H.top) ((top_get ..).trans hS.box)
 have iT : H.top.get id0 = some (.map (rowM AV.str fE l) c) := (top_get ..).trans hS.map
 obtain ⟨v0, hlk, hS0, hl0⟩ : ∃ v0, lookupA H.top .str false (.agg [.nils, (.bool false), (.int .i64 0), (.int .i64 0), (.str []), (.int .i64 0), (.int .i64 0), (.int .i64 0), (.int .i64 0), (.int .i64 0), (.str []), (.bool false)]) (.map id0) (.str k) = some (.agg (celCh v0 (chAt l k))) ∧ SV H 5 v0 ((chAt l k).L.map rowVe) ∧ (chAt l k).L.length < 1000000000 := by
  rw [lookup_M KeyOk.str iT]
  unfold chAt
  cases hf : lookM k l with
  | none => exact ⟨.nils, rfl, .nil _ _, by simp [zCh]⟩
  | some x =>
   unfold lookM at hf
   cases hf3 : findM k l with
   | none => rw [hf3] at hf; cases hf
   | some q =>
    rw [hf3] at hf
    have hm := find_some_mem hf3
    cases hf
    exact ⟨q.1.1, rfl, hS.view _ hm, hcl _ hm⟩
 obtain ⟨v', K, e1, m, _, hvn', low, vo, own, mine⟩ := clone (T := T) (H := H.top) (k := 36) (sz := 5) (bytes := 48) (by decide) T36 (AHeap.ok.top hok.1) (by omega) hS0.view.top (by rw [List.length_map]; omega)
 have hvn := hS0.view.noL
 have hvc := hS0.view.cells
 have hv1' := m.view.one
 have hvc' := m.view.cells
 refine ⟨v', Go.Wam.fin H (.agg (celCh v' (chAt l k))) K, okR_eq (call_evK (show T 14 = some (.ir ⟨_, _, _, _, _⟩) from T14) (by decide) PL14 rfl rfl ?_), NewO.fin hok ⟨⟨⟨m.view, vo⟩, m.chg, m.new⟩, own, mine⟩ okB_head⟩
 generalize chAt l k = C at *
 obtain ⟨L, op, ⟨mid, mep, manc, mw, mg⟩, seq, iat, ival, igone⟩ := C
 unfold celCh celIt at *
 simp -implicitDefEqProofs [rp, hlk, e1, hvn, hvc, hvn', hvc']
structure Acted (l l' : ML) (tch : List UInt8 → Bool) (e : Int) : Prop where
 live : Live l'
 same : ∀ k, (tch k = true ∧ e = 0) ∨ chAt l' k = chAt l k
 len : l'.length ≤ l.length + 1
 err : e ≠ 0 → l'.length = l.length
theorem eachPut {p id0 c n : Nat} {l : ML} (hok : H.ok) (hS : StoreAt H p id0 c l) (hz : Sized l n) (hn : n < 1000000) (hv : Live l) (x : SAct) (hx : fitsB x = true) :
    ∃ (s : Stp) (m : Mt) (e : Int) (K : AHeap) (l' : ML) (c' : Nat), call T 9 [.ptr p 0, .str x.key, .agg (celIt x.i)] H = some (.tuple [.agg [.int .i64 s.1, .int .i64 s.2], .agg (celMt m), .int .i64 e], K) ∧ StoreAt K p id0 c' l' ∧ Chg [id0] H K ∧ Sized l' (n + 1) ∧ Acted l l' (fun k => decide (k = x.key)) e ∧ l.length ≤ l'.length := by
 obtain ⟨h1, h2, h3, h4⟩ := fits_len hx
 obtain ⟨s, m, e, K, l', c', e1, e2, e3, e4⟩ := kPut hok hS (small60 h1) (by unfold maxLen; omega) x.i (small60 h4) (fun e he => by have := hz.ch e he; omega)
 have keep : l' = l → Sized l' (n + 1) ∧ Acted l l' (fun k => decide (k = x.key)) e ∧ l.length ≤ l'.length := by
  rintro rfl
  exact ⟨hz.mono (Nat.le_succ n), ⟨hv, fun k => .inr rfl, by omega, fun _ => rfl⟩, Nat.le_refl _⟩
 rcases e4 with ⟨_, _, _, _, hl⟩ | ⟨_, _, _, _, _, hl⟩ | ⟨_, _, hw, ⟨_, hl⟩ | ⟨he, v', hl, _⟩⟩
 · exact ⟨s, m, e, K, l', c', e1, e2, e3, keep hl⟩
 · exact ⟨s, m, e, K, l', c', e1, e2, e3, keep hl⟩
 · exact ⟨s, m, e, K, l', c', e1, e2, e3, keep hl⟩
 · subst he
   have hop := writeC_op (c := ((lookM x.key l).map Prod.snd |>.getD zCh)) (i := x.i) (by rw [← hw])
   have hlen : l.length ≤ l'.length ∧ l'.length ≤ l.length + 1 := by
    rw [hl]; unfold putM
    split
    · have : (repM x.key (v', (writeC ((lookM x.key l).map Prod.snd |>.getD zCh) x.i).1) l).length = l.length := by
        have := congrArg List.length (rep_keys x.key (v', (writeC ((lookM x.key l).map Prod.snd |>.getD zCh) x.i).1) l)
        simpa using this
      omega
    · rw [(ins_perm bytesLess _ l).length_eq]; simp
   refine ⟨s, m, 0, K, l', c', e1, e2, e3, by rw [hl]; exact hz.put hS.sorted h1, ⟨?_, fun k => ?_, hlen.2, fun h => absurd rfl h⟩, hlen.1⟩
   · rw [hl]
     intro y hy
     unfold putM at hy
     split at hy
     · rw [rep_mapV ordS hS.sorted] at hy
       obtain ⟨z, hz', rfl⟩ := List.mem_map.1 hy
       by_cases hzk : z.1 = x.key
       · simp only [hzk, if_true]; unfold delB; rw [hop]; rfl
       · simp only [hzk, if_false]; exact hv z hz'
     · rcases ins_mem.1 hy with rfl | hy
       · unfold delB; simp only; rw [hop]; rfl
       · exact hv y hy
   · by_cases hk : k = x.key
     · left; simp [hk]
     · right; unfold chAt; rw [hl, look_put, if_neg hk]
theorem eachRes {p id0 c n : Nat} {l : ML} (hok : H.ok) (hS : StoreAt H p id0 c l) (hz : Sized l n) (hn : n < 1000000) (hv : Live l) (x : SAct) (hx : fitsB x = true) :
    ∃ (m e : Int) (K : AHeap) (l' : ML), call T 10 [.ptr p 0, .agg [.str x.f, .str x.t], .int .i64 x.id, .int .i64 x.ep, .bool x.cm, .agg [.int .i64 x.a.1, .int .i64 x.a.2]] H = some (.tuple [.int .i64 m, .int .i64 e], K) ∧ StoreAt K p id0 c l' ∧ Chg [id0] H K ∧ Sized l' (n + 1) ∧ Acted l l' (fun k => hasB x.f x.t k) e := by
 obtain ⟨h1, h2, h3, h4⟩ := fits_len hx
 obtain ⟨m, e, K, l', e1, e2, e3, e4⟩ := kResolve x.id x.ep x.cm x.a hok hS (small60 h2) (small60 h3) (fun e he => small60 (hz.key e he)) (by have := hz.len; omega) (fun e he => by have := hz.ch e he; omega)
 have keep : l' = l → Sized l' (n + 1) ∧ Acted l l' (fun k => hasB x.f x.t k) e := by
  rintro rfl
  exact ⟨hz.mono (Nat.le_succ n), ⟨hv, fun k => .inr rfl, by omega, fun _ => rfl⟩⟩
 rcases e4 with ⟨_, _, _, hl⟩ | ⟨_, _, _, _, hl⟩ | ⟨_, acc, hr, he, _, hl⟩
 · exact ⟨m, e, K, l', e1, e2, e3, keep hl⟩
 · exact ⟨m, e, K, l', e1, e2, e3, keep hl⟩
 · have hlen : l'.length ≤ l.length := by
     have h1 := congrArg List.length hl
     rw [List.length_map] at h1
     have h2 : (resS acc (l.map kc)).length ≤ l.length := by
      unfold resS
      refine Nat.le_trans (List.length_filter_le _ _) ?_
      simp
     omega
   refine ⟨m, e, K, l', e1, e2, e3, hz.res hr hl, ⟨fun y hy => ?_, fun k => ?_, by omega, fun h => absurd he h⟩⟩
   · have : kc y ∈ resS acc (l.map kc) := by rw [← hl]; exact List.mem_map.2 ⟨y, hy, rfl⟩
     have := (List.mem_filter.1 this).2
     simpa [kc] using this
   · by_cases hk : hasB x.f x.t k = true
     · exact .inl ⟨hk, he⟩
     · right
       rw [chAt_kc, chAt_kc, hl, look_resS (lookK_none (resA_key (p := fun z => z ≠ k) hr (fun y hy => ?_) (by simp)))]
       · intro z hz'
         obtain ⟨y, hy, rfl⟩ := List.mem_map.1 hz'
         exact hv y hy
       · obtain ⟨z, hz', rfl⟩ := List.mem_map.1 hy
         have := (List.mem_filter.1 hz').2
         intro hh
         unfold hasE at this
         exact hk (by rw [← hh]; exact this)
end
section
variable {H : AHeap} {v w : AV} {L M : List Ve} {a b c : Ch}
theorem rSame (hS : SV H 5 v (a.L.map rowVe)) (hT : SV H 5 w (b.L.map rowVe)) (hl : a.L.length < 1000000000000) (hl' : b.L.length < 1000000000000) :
    call T 13 [.agg (celCh v a), .agg (celCh w b)] H = some (.bool (sameC a b), H) := by
 have hvn := hS.view.noL
 have hvc := hS.view.cells
 have hvo := hS.ok
 have hwn := hT.view.noL
 have hwc := hT.view.cells
 have hwo := hT.ok
 have e0 := lenV hS.view
 have e0' := lenV hT.view
 have call_w : ∀ {P : AV × AHeap → Prop}, _ → OkR (call T 13 [.agg (celCh v a), .agg (celCh w b)] H) P := fun {P} h => call_evK (show T 13 = some (.ir ⟨_, _, _, _, _⟩) from T13) (by decide) PL13 rfl rfl h
 refine okR_eq (call_w ?_)
 clear call_w
 have e2 := neIt a.i b.i
 obtain ⟨L, op, i⟩ := a
 obtain ⟨M, oq, j⟩ := b
 simp only at hS hT hl hl' e0 e0' e2
 unfold sameC
 by_cases h1 : op = oq
 rotate_left
 · have h1' : (op == oq) = false := by simpa using h1
   unfold celCh celIt
   simp -implicitDefEqProofs [hvn, hvc, hwn, hwc, h1', fin_pure]
 subst h1
 by_cases h2 : i = j
 rotate_left
 · unfold eIt at e2
   rw [decide_eq_false h2] at e2
   unfold celCh
   unfold celIt at *
   simp -implicitDefEqProofs [-n_agg, hvn, hvc, hwn, hwc, e2, h2, fin_pure]
 rw [decide_eq_true h2] at e2
 unfold eIt at e2
 by_cases hlen : L.length = M.length
 rotate_left
 · have hlen' : ¬ (L.length : Int) = M.length := by omega
   have hne : ¬ L = M := fun h => hlen (by rw [h])
   unfold celCh
   unfold celIt at *
   simp -implicitDefEqProofs [-n_agg, hvn, hvc, hwn, hwc, e0, e0', e2, eq_true h2, hlen', hne, fin_pure]
 have hlen' : ((L.length : Int) = M.length) = True := eq_true (by omega)
 obtain ⟨x, st, s', f1, ⟨q0, q1⟩, hp, hr, hH⟩ := loopK (T := T) (L := L13_0) rfl
  (fun n s => ∃ k : Nat, k + n = L.length ∧ (∀ j, j < k → atV L j = atV M j) ∧ s = ⟨[(2, .l 2 0), (3, .l 3 0), (5, .v (.int .i64 k))], [(2, celCh v ⟨L, op, i⟩), (3, celCh w ⟨M, op, j⟩)], H.top⟩)
  (fun x s => s.H = H.top ∧ ((x = .exit 0 ∧ L = M ∧ prK [] [] s = ⟨[], [], H.top⟩) ∨ (x = .ret ∧ ¬ L = M ∧ rvsK s [.tmp 4] = some [.bool false])))
  (by
   rintro n _ ⟨k, hi, hall, rfl⟩ P hI hX hR
   by_cases hlt : k < L.length
   · have hlt' : (k : Int) < L.length := by omega
     have hw := wrap_id (n := (k : Int) + 1) (by omega) (by omega)
     have e1 := ixV hS.view hlt
     have e2 := rdV hS.top.view hlt
     have e3 := ixV hT.view (i := k) (by omega)
     have e4 := rdV hT.top.view (i := k) (by omega)
     have e5 := neVe (atV L k) (atV M k)
     have k1 := okRow H.n (atV L k)
     have k2 := okRow H.n (atV M k)
     unfold celCh at *
     by_cases he : atV L k = atV M k
     · rw [he] at e5 e2 k1
       simp only [decide_true, Bool.not_true] at e5
       generalize rowVe (atV M k) = ry at *
       simp -implicitDefEqProofs [B13_0, hvn, hwn, hvo, hwo, e0, hlt', e1, e2, e3, e4, e5, k1, k2, hw]
       refine hI _ _ _ (n - 1) (by omega) ?_
       refine ⟨k + 1, by omega, fun j hj => ?_, by simp⟩
       by_cases hji : j = k
       · subst hji; exact he
       · exact hall j (by omega)
     · simp only [he, decide_false, Bool.not_false] at e5
       generalize rowVe (atV L k) = rx at *
       generalize rowVe (atV M k) = ry at *
       simp -implicitDefEqProofs [B13_0, hvn, hwn, hvo, hwo, e0, hlt', e1, e2, e3, e4, e5, k1, k2, hw]
       refine hR _ ?_
       exact ⟨rfl, .inr ⟨rfl, fun h => he (by rw [h]), by simp⟩⟩
   · have hlt' : ¬ (k : Int) < L.length := by omega
     unfold celCh at *
     simp -implicitDefEqProofs [B13_0, hvn, hwn, hvo, hwo, e0, hlt']
     refine hX _ _ ?_
     exact ⟨rfl, .inl ⟨rfl, ext_atV hlen (fun j hj => hall j (by omega)), by simp⟩⟩)
  L.length ⟨[(2, .l 2 0), (3, .l 3 0), (5, .v (.int .i64 (0 : Nat)))], [(2, celCh v ⟨L, op, i⟩), (3, celCh w ⟨M, op, j⟩)], H.top⟩ (by simp) ⟨0, by omega, by omega, by simp⟩
 rw [q0] at hH
 simp only [toSt_eq, List.map_cons, List.map_nil, av_v, av_l, Int.natCast_zero] at f1
 unfold celCh at *
 unfold celIt at *
 rcases q1 with ⟨rfl, hLM, hk⟩ | ⟨rfl, hLM, hk⟩
 · have hk := (hp [] []).trans (congrArg SK.norm hk)
   simp -implicitDefEqProofs [-n_agg, hvn, hvc, hwn, hwc, e0, e0', e2, eq_true h2, hlen', f1, hk, eq_true hLM, fin_pure]
 · have hk := hr _ _ hk
   simp -implicitDefEqProofs [-n_agg, hvn, hvc, hwn, hwc, e0, e0', e2, eq_true h2, hlen', f1, hk, hH, hLM, fin_pure]
end
attribute [local simp] callN_yield ofSt_eq ofAV_v
def tch (x : SAct) (k : List UInt8) : Bool := if x.kd = 1 then decide (k = x.key) else hasB x.f x.t k
theorem chLen {l : ML} {n : Nat} {k : List UInt8} (h : Sized l n) (hn : n < 1000000) : (chAt l k).L.length < 1000000000000 := by
 unfold chAt lookM
 cases hf : findM k l with
 | none => simp [zCh]
 | some q => have h1 : q.1.2.L.length ≤ n := h.ch _ (find_some_mem hf); show q.1.2.L.length < _; omega
section
variable {H : AHeap}
set_option maxHeartbeats 16000000 in
theorem each_loop1 {v : AV} {i : Int} {p q id0 id1 c c1 : Nat} {l l' g : ML} {x : SAct} {e : Int} {gv ov : AV} {n0 : Nat} (hok : H.ok) (hS : StoreAt H p id0 c l') (hT : StoreAt H q id1 c1 l) (hz' : Sized l' n0) (hz : Sized l n0) (hn0 : n0 < 1000000) (hkd : x.kd = 1 ∨ x.kd = 2) (hx : fitsB x = true) (hA : Acted l l' (tch x) e) (hg : g.length < 1000000) (hgk : ∀ y ∈ g, y.1.length ≤ 60) (hso : SortedM bytesLess g) (hgv : View H 1 gv (g.map fun y => [AV.str y.1])) (hov : ov.notL = true) (hv : v.notL = true) :
    ∃ y st s', den T (.loop L3_1) (SK.toSt ⟨[(0, .v v), (3, .v (.ptr p 0)), (4, .v (.int .i64 i)), (5, .l 5 0), (7, .v (.ptr q 0)), (8, .v (.int .i64 e)), (9, .v gv), (10, .v ov), (11, .v (.int .i64 0))], [(5, rowSA x)], H⟩) = some (y, st) ∧
     (y = .exit 2 ∧ prK [0, 3, 4, 5, 7, 8, 9, 10] [5] s' = ⟨[(0, .v v), (3, .v (.ptr p 0)), (4, .v (.int .i64 i)), (5, .l 5 0), (7, .v (.ptr q 0)), (8, .v (.int .i64 e)), (9, .v gv), (10, .v ov)], [(5, rowSA x)], s'.H⟩ ∧ Chg [] H s'.H) ∧ (∀ ks ls, prK ks ls (ofSt st) = (prK ks ls s').norm) ∧ (∀ rs vs, rvsK s' rs = some vs → rvsK (ofSt st) rs = some vs) ∧ (ofSt st).H = s'.H := by
 obtain ⟨h1, h2, h3, h4⟩ := fits_len hx
 have hgn := hgv.noL
 have hlen := hgv.lenS
 rw [List.length_map] at hlen
 have hcl : ∀ {m : ML}, Sized m n0 → ∀ e ∈ m, e.2.1.2.L.length < 1000000000 := fun h e he => by have := h.ch e he; omega
 refine loopK (T := T) (L := L3_1) rfl
  (fun n s => ∃ (j : Nat) (K : AHeap), j + n = g.length ∧ Chg [] H K ∧ s = ⟨[(0, .v v), (3, .v (.ptr p 0)), (4, .v (.int .i64 i)), (5, .l 5 0), (7, .v (.ptr q 0)), (8, .v (.int .i64 e)), (9, .v gv), (10, .v ov), (11, .v (.int .i64 j))], [(5, rowSA x)], K⟩)
  (fun y s' => y = .exit 2 ∧ prK [0, 3, 4, 5, 7, 8, 9, 10] [5] s' = ⟨[(0, .v v), (3, .v (.ptr p 0)), (4, .v (.int .i64 i)), (5, .l 5 0), (7, .v (.ptr q 0)), (8, .v (.int .i64 e)), (9, .v gv), (10, .v ov)], [(5, rowSA x)], s'.H⟩ ∧ Chg [] H s'.H)
  ?_ g.length _ (by simp [rowSA, hgn, hov, hv]) ⟨0, H, by omega, .refl _ H, by simp⟩
 rintro n _ ⟨j, K, hn, cK, rfl⟩ P hI hX hR
 have okK := cK.ok hok
 by_cases hlt : j < g.length
 · have hlt' : (j : Int) < g.length := by omega
   have hw := wrap_id (n := (j : Int) + 1) (by omega) (by omega)
   have hgK := hgv.new hok.1 cK
   have hSK := hS.frame hok cK
   have hTK := hT.frame hok cK
   have hel : g[j] ∈ g := List.getElem_mem hlt
   have ix : ∀ {L : AHeap} {m : Nat} (h : View L 1 gv (g.map fun y => [AV.str y.1])) (hm : m < g.length), idxS 1 gv (.int .i64 m) = some (.ptr (sid gv) (soff gv + m)) ∧ L.rdAt (sid gv) false 1 (soff gv + m) = some (.str g[m].1) := fun {L m} h hm => by
    have x1 := h.idx .i64 (n := m) (by omega) (by rw [List.length_map]; omega)
    have x2 := h.rd (i := m) (r := [AV.str g[m].1]) (by rw [List.getElem?_map, List.getElem?_eq_getElem hm]; rfl) false (k := 1) (f := 0) (by omega) (by omega) (by simp)
    simp only [Int.toNat_natCast, Nat.add_zero, Nat.mul_one] at x1 x2
    exact ⟨x1, x2⟩
   obtain ⟨x1, x2⟩ := ix hgK hlt
   obtain ⟨k, hk⟩ : ∃ k, k = g[j].1 := ⟨_, rfl⟩
   have hks : Small k := by rw [hk]; exact small60 (hgk _ hel)
   obtain ⟨v1, K1, r1, m1⟩ := kChain (k := k) okK hSK (hcl hz')
   have ok1 := m1.chg.ok okK
   have hT1 := hTK.frame okK m1.chg
   obtain ⟨v2, K2, r2, m2⟩ := kChain (k := k) ok1 hT1 (hcl hz)
   have r3 := rSame (a := chAt l' k) (b := chAt l k) (m1.sv.new ok1.1 m2.chg) m2.sv (chLen hz' hn0) (chLen hz hn0)
   have y2 := (ix (hgK.new okK.1 m1.chg) hlt).2
   have cK2 : Chg [] H K2 := (cK.trans hok m1.chg (by simp)).trans hok m2.chg (by simp)
   have x3 := rHas (H := K) (small60 h2) (small60 h3) hks
   have v1n := m1.sv.view.noL
   have v2n := m2.sv.view.noL
   have hprev : 0 < j → ∃ d, idxS 1 gv (.int .i64 ((j : Int) - 1)) = some (.ptr (sid gv) (soff gv + (j - 1))) ∧ K2.rdAt (sid gv) false 1 (soff gv + (j - 1)) = some (.str d) ∧ bytesLess k d = false ∧ k ≠ d ∧ K2.rdAt (sid gv) false 1 (soff gv + j) = some (.str k) := fun h0 => by
    have hl2 := hgK.new okK.1 (m1.chg.trans okK m2.chg (by simp))
    obtain ⟨z1, z2⟩ := ix (m := j - 1) hl2 (by omega)
    have e0 : ((j - 1 : Nat) : Int) = (j : Int) - 1 := by omega
    rw [e0] at z1
    have hlt2 : bytesLess g[j - 1].1 k = true := by
     have := List.pairwise_iff_getElem.1 hso (j - 1) j (by simp; omega) (by simpa using hlt) (by omega)
     simpa [hk] using this
    refine ⟨_, z1, z2, ?_, ?_, by rw [hk]; exact (ix hl2 hlt).2⟩
    · cases hb : bytesLess k g[j - 1].1 with
      | false => rfl
      | true => have := ordS.tr _ _ _ hlt2 hb; rw [ordS.irr] at this; cases this
    · intro h; rw [h, ordS.irr] at hlt2; cases hlt2
   rw [← hk] at x2 y2
   have fin : P (.normal, ⟨[(11, .v (.int .i64 ((j : Int) + 1))), (90, .v (.int .i64 ((j : Int) + 1))), (89, .v (.int .i64 j)), (0, .v v), (3, .v (.ptr p 0)), (4, .v (.int .i64 i)), (5, .l 5 0), (7, .v (.ptr q 0)), (8, .v (.int .i64 e)), (9, .v gv), (10, .v ov), (11, .v (.int .i64 j))], [(5, rowSA x)], K2⟩) := by
    refine hI _ _ _ (n - 1) (by omega) ?_
    exact ⟨j + 1, K2, by omega, cK2, by simp⟩
   have hsm : sameC (chAt l' k) (chAt l k) = true ∨ sameC (chAt l' k) (chAt l k) = false ∧ tch x k = true ∧ e = 0 := by
    cases h : sameC (chAt l' k) (chAt l k) with
    | true => exact .inl rfl
    | false =>
     rcases hA.same k with h5 | h5
     · exact .inr ⟨rfl, h5⟩
     · rw [(sameC_iff _ _).2 h5] at h; cases h
   unfold rowSA at fin ⊢
   unfold celCh celIt at r1 r2 r3
   generalize chAt l' k = C at *
   generalize chAt l k = D at *
   generalize sameC C D = sm at *
   have hw2 := wrap_id (n := (j : Int) - 1) (by omega) (by omega)
   have htc : (x.kd = 1 ∧ (k == x.key) = true) ∨ (x.kd = 1 ∧ (k == x.key) = false ∧ sm = true) ∨ (x.kd = 2 ∧ hasB x.f x.t k = true) ∨ (x.kd = 2 ∧ hasB x.f x.t k = false ∧ sm = true) := by
    unfold tch at hsm
    rcases hkd with h | h
    · rw [if_pos h] at hsm
      by_cases hkk : k = x.key
      · exact .inl ⟨h, by simpa using hkk⟩
      · refine .inr (.inl ⟨h, by simpa using hkk, ?_⟩)
        rcases hsm with h5 | ⟨_, h5, _⟩
        · exact h5
        · simp [hkk] at h5
    · rw [if_neg (by omega)] at hsm
      cases hb : hasB x.f x.t k with
      | true => exact .inr (.inr (.inl ⟨h, rfl⟩))
      | false =>
       refine .inr (.inr (.inr ⟨h, rfl, ?_⟩))
       rcases hsm with h5 | ⟨_, h5, _⟩
       · exact h5
       · rw [hb] at h5; cases h5
   have hj : j = 0 ∨ 0 < j := by omega
   rcases htc with ⟨hk1, hk2⟩ | ⟨hk1, hk2, hs⟩ | ⟨hk1, hk2⟩ | ⟨hk1, hk2, hs⟩
   · rcases hsm with rfl | ⟨rfl, _, he0⟩
     · rcases hj with h0 | h0
       · simp -implicitDefEqProofs [B3_1, hlen, hlt', hw, x1, x2, y2, r1, r2, r3, hgn, hov, hv, v1n, v2n, eq_true hk1, hk2, show ¬ x.kd = 2 by omega, show ¬ (0 : Int) < j by omega, show ¬ 0 < j by omega]
         exact fin
       · obtain ⟨d, z1, z2, z3, z4, z5⟩ := hprev h0
         simp -implicitDefEqProofs [B3_1, hlen, hlt', hw, x1, x2, y2, r1, r2, r3, hgn, hov, hv, v1n, v2n, eq_true hk1, hk2, show ¬ x.kd = 2 by omega, z1, z2, z3, z4, z5, hw2, show (0 : Int) < j by omega]
         exact fin
     · rcases hj with h0 | h0
       · simp -implicitDefEqProofs [B3_1, hlen, hlt', hw, x1, x2, y2, r1, r2, r3, hgn, hov, hv, v1n, v2n, eq_true hk1, hk2, show ¬ x.kd = 2 by omega, eq_true he0, show ¬ (0 : Int) < j by omega, show ¬ 0 < j by omega]
         exact fin
       · obtain ⟨d, z1, z2, z3, z4, z5⟩ := hprev h0
         simp -implicitDefEqProofs [B3_1, hlen, hlt', hw, x1, x2, y2, r1, r2, r3, hgn, hov, hv, v1n, v2n, eq_true hk1, hk2, show ¬ x.kd = 2 by omega, eq_true he0, z1, z2, z3, z4, z5, hw2, show (0 : Int) < j by omega]
         exact fin
   · subst hs
     rcases hj with h0 | h0
     · simp -implicitDefEqProofs [B3_1, hlen, hlt', hw, x1, x2, y2, r1, r2, r3, hgn, hov, hv, v1n, v2n, eq_true hk1, hk2, show ¬ x.kd = 2 by omega, show ¬ (0 : Int) < j by omega, show ¬ 0 < j by omega]
       exact fin
     · obtain ⟨d, z1, z2, z3, z4, z5⟩ := hprev h0
       simp -implicitDefEqProofs [B3_1, hlen, hlt', hw, x1, x2, y2, r1, r2, r3, hgn, hov, hv, v1n, v2n, eq_true hk1, hk2, show ¬ x.kd = 2 by omega, z1, z2, z3, z4, z5, hw2, show (0 : Int) < j by omega]
       exact fin
   · rw [hk2] at x3
     rcases hsm with rfl | ⟨rfl, _, he0⟩
     · rcases hj with h0 | h0
       · simp -implicitDefEqProofs [B3_1, hlen, hlt', hw, x1, x2, y2, r1, r2, r3, hgn, hov, hv, v1n, v2n, eq_true hk1, show ¬ x.kd = 1 by omega, x3, show ¬ (0 : Int) < j by omega, show ¬ 0 < j by omega]
         exact fin
       · obtain ⟨d, z1, z2, z3, z4, z5⟩ := hprev h0
         simp -implicitDefEqProofs [B3_1, hlen, hlt', hw, x1, x2, y2, r1, r2, r3, hgn, hov, hv, v1n, v2n, eq_true hk1, show ¬ x.kd = 1 by omega, x3, z1, z2, z3, z4, z5, hw2, show (0 : Int) < j by omega]
         exact fin
     · rcases hj with h0 | h0
       · simp -implicitDefEqProofs [B3_1, hlen, hlt', hw, x1, x2, y2, r1, r2, r3, hgn, hov, hv, v1n, v2n, eq_true hk1, show ¬ x.kd = 1 by omega, x3, eq_true he0, show ¬ (0 : Int) < j by omega, show ¬ 0 < j by omega]
         exact fin
       · obtain ⟨d, z1, z2, z3, z4, z5⟩ := hprev h0
         simp -implicitDefEqProofs [B3_1, hlen, hlt', hw, x1, x2, y2, r1, r2, r3, hgn, hov, hv, v1n, v2n, eq_true hk1, show ¬ x.kd = 1 by omega, x3, eq_true he0, z1, z2, z3, z4, z5, hw2, show (0 : Int) < j by omega]
         exact fin
   · subst hs
     rw [hk2] at x3
     rcases hj with h0 | h0
     · simp -implicitDefEqProofs [B3_1, hlen, hlt', hw, x1, x2, y2, r1, r2, r3, hgn, hov, hv, v1n, v2n, eq_true hk1, show ¬ x.kd = 1 by omega, x3, show ¬ (0 : Int) < j by omega, show ¬ 0 < j by omega]
       exact fin
     · obtain ⟨d, z1, z2, z3, z4, z5⟩ := hprev h0
       simp -implicitDefEqProofs [B3_1, hlen, hlt', hw, x1, x2, y2, r1, r2, r3, hgn, hov, hv, v1n, v2n, eq_true hk1, show ¬ x.kd = 1 by omega, x3, z1, z2, z3, z4, z5, hw2, show (0 : Int) < j by omega]
       exact fin
 · have hlt' : ¬ (j : Int) < g.length := by omega
   unfold rowSA
   simp -implicitDefEqProofs [B3_1, hlen, hlt', hgn, hov, hv]
   refine hX _ _ ?_
   exact ⟨rfl, by simp [rowSA], cK⟩
end
attribute [local simp] callN_yield ofSt_eq ofAV_v
section
variable {H : AHeap}
set_option maxHeartbeats 16000000 in
theorem each_loop2 {v : AV} {i : Int} {p q id0 id1 c c1 : Nat} {l l' g : ML} {x : SAct} {e : Int} {gv ov : AV} {n0 : Nat} (hok : H.ok) (hS : StoreAt H p id0 c l') (hT : StoreAt H q id1 c1 l) (hz' : Sized l' n0) (hz : Sized l n0) (hn0 : n0 < 1000000) (hkd : x.kd = 1 ∨ x.kd = 2) (hx : fitsB x = true) (hA : Acted l l' (tch x) e) (hg : g.length < 1000000) (hgk : ∀ y ∈ g, y.1.length ≤ 60) (hgv : View H 1 gv (g.map fun y => [AV.str y.1])) (hov : ov.notL = true) (hv : v.notL = true) :
    ∃ y st s', den T (.loop L3_2) (SK.toSt ⟨[(0, .v v), (3, .v (.ptr p 0)), (4, .v (.int .i64 i)), (5, .l 5 0), (7, .v (.ptr q 0)), (8, .v (.int .i64 e)), (9, .v ov), (10, .v gv), (14, .v (.int .i64 0))], [(5, rowSA x)], H⟩) = some (y, st) ∧
     (y = .exit 4 ∧ prK [0, 3, 4, 5, 8, 9, 10] [5] s' = ⟨[(0, .v v), (3, .v (.ptr p 0)), (4, .v (.int .i64 i)), (5, .l 5 0), (8, .v (.int .i64 e)), (9, .v ov), (10, .v gv)], [(5, rowSA x)], s'.H⟩ ∧ Chg [] H s'.H) ∧ (∀ ks ls, prK ks ls (ofSt st) = (prK ks ls s').norm) ∧ (∀ rs vs, rvsK s' rs = some vs → rvsK (ofSt st) rs = some vs) ∧ (ofSt st).H = s'.H := by
 obtain ⟨h1, h2, h3, h4⟩ := fits_len hx
 have hgn := hgv.noL
 have hlen := hgv.lenS
 rw [List.length_map] at hlen
 have hcl : ∀ {m : ML}, Sized m n0 → ∀ e ∈ m, e.2.1.2.L.length < 1000000000 := fun h e he => by have := h.ch e he; omega
 refine loopK (T := T) (L := L3_2) rfl
  (fun n s => ∃ (j : Nat) (K : AHeap), j + n = g.length ∧ Chg [] H K ∧ s = ⟨[(0, .v v), (3, .v (.ptr p 0)), (4, .v (.int .i64 i)), (5, .l 5 0), (7, .v (.ptr q 0)), (8, .v (.int .i64 e)), (9, .v ov), (10, .v gv), (14, .v (.int .i64 j))], [(5, rowSA x)], K⟩)
  (fun y s' => y = .exit 4 ∧ prK [0, 3, 4, 5, 8, 9, 10] [5] s' = ⟨[(0, .v v), (3, .v (.ptr p 0)), (4, .v (.int .i64 i)), (5, .l 5 0), (8, .v (.int .i64 e)), (9, .v ov), (10, .v gv)], [(5, rowSA x)], s'.H⟩ ∧ Chg [] H s'.H)
  ?_ g.length _ (by simp [rowSA, hgn, hov, hv]) ⟨0, H, by omega, .refl _ H, by simp⟩
 rintro n _ ⟨j, K, hn, cK, rfl⟩ P hI hX hR
 have okK := cK.ok hok
 by_cases hlt : j < g.length
 · have hlt' : (j : Int) < g.length := by omega
   have hw := wrap_id (n := (j : Int) + 1) (by omega) (by omega)
   have hgK := hgv.new hok.1 cK
   have hSK := hS.frame hok cK
   have hTK := hT.frame hok cK
   have hel : g[j] ∈ g := List.getElem_mem hlt
   have ix : ∀ {L : AHeap} {m : Nat} (h : View L 1 gv (g.map fun y => [AV.str y.1])) (hm : m < g.length), idxS 1 gv (.int .i64 m) = some (.ptr (sid gv) (soff gv + m)) ∧ L.rdAt (sid gv) false 1 (soff gv + m) = some (.str g[m].1) := fun {L m} h hm => by
    have x1 := h.idx .i64 (n := m) (by omega) (by rw [List.length_map]; omega)
    have x2 := h.rd (i := m) (r := [AV.str g[m].1]) (by rw [List.getElem?_map, List.getElem?_eq_getElem hm]; rfl) false (k := 1) (f := 0) (by omega) (by omega) (by simp)
    simp only [Int.toNat_natCast, Nat.add_zero, Nat.mul_one] at x1 x2
    exact ⟨x1, x2⟩
   obtain ⟨x1, x2⟩ := ix hgK hlt
   obtain ⟨k, hk⟩ : ∃ k, k = g[j].1 := ⟨_, rfl⟩
   have hks : Small k := by rw [hk]; exact small60 (hgk _ hel)
   obtain ⟨v1, K1, r1, m1⟩ := kChain (k := k) okK hSK (hcl hz')
   have ok1 := m1.chg.ok okK
   have hT1 := hTK.frame okK m1.chg
   obtain ⟨v2, K2, r2, m2⟩ := kChain (k := k) ok1 hT1 (hcl hz)
   have r3 := rSame (a := chAt l' k) (b := chAt l k) (m1.sv.new ok1.1 m2.chg) m2.sv (chLen hz' hn0) (chLen hz hn0)
   have y2 := (ix (hgK.new okK.1 m1.chg) hlt).2
   have cK2 : Chg [] H K2 := (cK.trans hok m1.chg (by simp)).trans hok m2.chg (by simp)
   have x3 := rHas (H := K) (small60 h2) (small60 h3) hks
   have v1n := m1.sv.view.noL
   have v2n := m2.sv.view.noL
   rw [← hk] at x2 y2
   have fin : P (.normal, ⟨[(14, .v (.int .i64 ((j : Int) + 1))), (161, .v (.int .i64 ((j : Int) + 1))), (160, .v (.int .i64 j)), (0, .v v), (3, .v (.ptr p 0)), (4, .v (.int .i64 i)), (5, .l 5 0), (7, .v (.ptr q 0)), (8, .v (.int .i64 e)), (9, .v ov), (10, .v gv), (14, .v (.int .i64 j))], [(5, rowSA x)], K2⟩) := by
    refine hI _ _ _ (n - 1) (by omega) ?_
    exact ⟨j + 1, K2, by omega, cK2, by simp⟩
   have hsm : sameC (chAt l' k) (chAt l k) = true ∨ sameC (chAt l' k) (chAt l k) = false ∧ tch x k = true ∧ e = 0 := by
    cases h : sameC (chAt l' k) (chAt l k) with
    | true => exact .inl rfl
    | false =>
     rcases hA.same k with h5 | h5
     · exact .inr ⟨rfl, h5⟩
     · rw [(sameC_iff _ _).2 h5] at h; cases h
   unfold rowSA at fin ⊢
   unfold celCh celIt at r1 r2 r3
   generalize chAt l' k = C at *
   generalize chAt l k = D at *
   generalize sameC C D = sm at *
   have hw2 := wrap_id (n := (j : Int) - 1) (by omega) (by omega)
   have htc : (x.kd = 1 ∧ (k == x.key) = true) ∨ (x.kd = 1 ∧ (k == x.key) = false ∧ sm = true) ∨ (x.kd = 2 ∧ hasB x.f x.t k = true) ∨ (x.kd = 2 ∧ hasB x.f x.t k = false ∧ sm = true) := by
    unfold tch at hsm
    rcases hkd with h | h
    · rw [if_pos h] at hsm
      by_cases hkk : k = x.key
      · exact .inl ⟨h, by simpa using hkk⟩
      · refine .inr (.inl ⟨h, by simpa using hkk, ?_⟩)
        rcases hsm with h5 | ⟨_, h5, _⟩
        · exact h5
        · simp [hkk] at h5
    · rw [if_neg (by omega)] at hsm
      cases hb : hasB x.f x.t k with
      | true => exact .inr (.inr (.inl ⟨h, rfl⟩))
      | false =>
       refine .inr (.inr (.inr ⟨h, rfl, ?_⟩))
       rcases hsm with h5 | ⟨_, h5, _⟩
       · exact h5
       · rw [hb] at h5; cases h5
   rcases htc with ⟨hk1, hk2⟩ | ⟨hk1, hk2, hs⟩ | ⟨hk1, hk2⟩ | ⟨hk1, hk2, hs⟩
   · rcases hsm with rfl | ⟨rfl, _, he0⟩
     · simp -implicitDefEqProofs [B3_2, hlen, hlt', hw, x1, x2, y2, r1, r2, r3, hgn, hov, hv, v1n, v2n, eq_true hk1, hk2, show ¬ x.kd = 2 by omega]
       exact fin
     · simp -implicitDefEqProofs [B3_2, hlen, hlt', hw, x1, x2, y2, r1, r2, r3, hgn, hov, hv, v1n, v2n, eq_true hk1, hk2, show ¬ x.kd = 2 by omega, eq_true he0]
       exact fin
   · subst hs
     simp -implicitDefEqProofs [B3_2, hlen, hlt', hw, x1, x2, y2, r1, r2, r3, hgn, hov, hv, v1n, v2n, eq_true hk1, hk2, show ¬ x.kd = 2 by omega]
     exact fin
   · rw [hk2] at x3
     rcases hsm with rfl | ⟨rfl, _, he0⟩
     · simp -implicitDefEqProofs [B3_2, hlen, hlt', hw, x1, x2, y2, r1, r2, r3, hgn, hov, hv, v1n, v2n, eq_true hk1, show ¬ x.kd = 1 by omega, x3]
       exact fin
     · simp -implicitDefEqProofs [B3_2, hlen, hlt', hw, x1, x2, y2, r1, r2, r3, hgn, hov, hv, v1n, v2n, eq_true hk1, show ¬ x.kd = 1 by omega, x3, eq_true he0]
       exact fin
   · subst hs
     rw [hk2] at x3
     simp -implicitDefEqProofs [B3_2, hlen, hlt', hw, x1, x2, y2, r1, r2, r3, hgn, hov, hv, v1n, v2n, eq_true hk1, show ¬ x.kd = 1 by omega, x3]
     exact fin
 · have hlt' : ¬ (j : Int) < g.length := by omega
   unfold rowSA
   simp -implicitDefEqProofs [B3_2, hlen, hlt', hgn, hov, hv]
   refine hX _ _ ?_
   exact ⟨rfl, by simp [rowSA], cK⟩
end
attribute [local simp] callN_yield ofSt_eq ofAV_v
theorem inE_kc (f t : List UInt8) (l : ML) : inE f t l = (l.map kc).filter fun x => hasB f t x.1 := by
 unfold inE; rw [List.filter_map]; rfl
def aIt : It := ⟨⟨3, 0, [107], 0, 0⟩, 0, (4, 0), [118], false⟩
def aC1 : Ch := ⟨[], true, aIt⟩
def aC2 : Ch := ⟨[⟨(4, 0), [118], false, 3⟩], false, zIt⟩
section
variable {H : AHeap}
set_option maxHeartbeats 16000000 in
theorem alive9 (hok : H.ok) : call T 15 [] H = some (.bool true, H) := by
 have hokT := AHeap.ok.top hok.1
 have s107 : Small [107] := by unfold Small; decide
 have s97 : Small [97] := by unfold Small; decide
 have s123 : Small [123] := by unfold Small; decide
 have s0 : Small [] := by unfold Small; decide
 have s118 : Small aIt.val := by unfold Small aIt; decide
 obtain ⟨G, en, hS0, c0⟩ := kNew (H := H.top) hokT
 simp only [top_n] at en hS0
 have ok0 := c0.ok hokT
 obtain ⟨s, m, e, K1, l1, c1, ep, hS1, ch1, hp⟩ := kPut (k := [107]) ok0 hS0 s107 (by unfold maxLen; decide) aIt s118 (by simp)
 have w : (writeC zCh aIt) = (aC1, (4, 0), zMt, 0) := by kernel_rfl
 have hl : l1.map kc = [([107], aC1)] ∧ s = (4, 0) ∧ m = zMt ∧ e = 0 ∧ Sized l1 1 := by
  rcases hp with ⟨h, _⟩ | ⟨_, h, _⟩ | ⟨_, _, h3, h4⟩
  · exact absurd h (by decide)
  · exact absurd h (by decide)
  · have h3 : (s, m, e) = (writeC zCh aIt).2 := h3
    rw [w] at h3
    cases h3
    rcases h4 with ⟨h, _⟩ | ⟨_, v', h, _⟩
    · exact absurd rfl h
    · have h : l1 = [([107], (v', (writeC zCh aIt).1), 0)] := h
      rw [w] at h
      subst h
      exact ⟨rfl, rfl, rfl, rfl, ⟨by simp, fun e he => by simp at he; subst he; simp [aC1], fun e he => by simp at he; subst he; simp⟩⟩
 obtain ⟨hl1, rfl, rfl, rfl, hz1⟩ := hl
 have ok1 := ch1.ok ok0
 have hsm : ∀ {l : ML} {n : Nat}, Sized l n → ∀ e ∈ l, Small e.1 := fun h e he => small60 (h.key e he)
 have r97 : rightB [97] [123] = true := by decide
 have r107 : rightB [107] [] = true := by decide
 obtain ⟨v2, K2, s2, m2, er, n2, hr2⟩ := kRead (H := K1) (f := [97]) (t := [123]) (9, 0) (9, 0) 0 0 ok1 hS1 s97 s123 (hsm hz1) (by have := hz1.len; omega) (fun e he => by have := hz1.ch e he; omega)
 obtain ⟨rfl, rfl⟩ := hr2 r97
 simp only [r97, if_true, inE_kc, hl1] at er n2
 have q1 : readL (9, 0) (9, 0) 0 0 (List.filter (fun x => hasB [97] [123] x.1) [([107], aC1)]) [] [] = ([], [], some ⟨3, 0, [107], 0, 0⟩) := by decide
 rw [q1] at er n2
 have hS2 := hS1.frame ok1 n2.chg
 have ok2 := n2.chg.ok ok1
 obtain ⟨n, e, K3, l3, es, hS3, ch3, hs⟩ := kResolve (H := K2) (f := [107]) (t := []) 3 0 true (4, 0) ok2 hS2 s107 s0 (hsm hz1) (by have := hz1.len; omega) (fun e he => by have := hz1.ch e he; omega)
 have q2 : resA 3 0 true (4, 0) (inE [107] [] l1) [] = some [([107], aC2)] := by rw [inE_kc, hl1]; kernel_rfl
 have hl3 : l3.map kc = [([107], aC2)] ∧ n = 1 ∧ e = 0 ∧ Sized l3 2 := by
  rcases hs with ⟨h, _⟩ | ⟨_, h, _⟩ | ⟨_, acc, h, h1, h2, h3⟩
  · rw [r107] at h; cases h
  · rw [q2] at h; cases h
  · have hz3 := hz1.res h h3
    rw [q2] at h
    cases h
    refine ⟨?_, h2, h1, hz3⟩
    rw [h3, hl1]; kernel_rfl
 obtain ⟨hl3, rfl, rfl, hz3⟩ := hl3
 have ok3 := ch3.ok ok2
 obtain ⟨v4, K4, s4, m4, et, n4, hr4⟩ := kRead (H := K3) (f := [97]) (t := [123]) (9, 0) (9, 0) 0 0 ok3 hS3 s97 s123 (hsm hz3) (by have := hz3.len; omega) (fun e he => by have := hz3.ch e he; omega)
 obtain ⟨rfl, rfl⟩ := hr4 r97
 simp only [r97, if_true, inE_kc, hl3] at et n4
 have q3 : readL (9, 0) (9, 0) 0 0 (List.filter (fun x => hasB [97] [123] x.1) [([107], aC2)]) [] [] = ([([107], [118])], [], none) := by decide
 rw [q3] at et n4
 have hV : View K4 2 v4 [rowP ([107], [118])] := n4.sv.view
 have hvn := hV.noL
 have hlen := hV.lenS
 have x1 := hV.idx .i64 (n := 0) (by omega) (by simp)
 have x2 := hV.rd (i := 0) (r := rowP ([107], [118])) rfl false (k := 1) (f := 1) (by omega) (by omega) (by simp)
 simp only [Int.toNat_zero, Nat.zero_mul, Nat.add_zero] at x1 x2
 have x2 : K4.rdAt (sid v4) false 1 (soff v4 + 1) = some (.str [118]) := x2.trans (by simp [rowP, rd])
 have hlen : lenS v4 = some (.int .i64 1) := hlen
 have v2n := n2.sv.view.noL
 have c3' : Chg [] H.top K3 := ((c0.trans hokT ch1 (by simp)).trans hokT n2.chg (by simp)).trans hokT ch3 (by simp)
 have c4' : Chg [] H.top K4 := c3'.trans hokT n4.chg (by simp)
 have hfin : Go.Wam.fin H (.bool true) K4 = H := fin_drop' (by rw [c4'.low_eq]; simp) (by simp)
 have p1 : errL ([], [], some (⟨3, 0, [107], 0, 0⟩ : Mt)) = 81 := by decide
 have p2 : errL ([([107], [118])], [], none) = 0 := by decide
 rw [p1] at er
 rw [p2] at et
 refine okR_eq (call_evK (show T 15 = some (.ir ⟨_, _, _, _, _⟩) from T15) (by decide) PL15 rfl rfl ?_)
 unfold aIt celIt zMt celMt at *
 simp only [Option.getD_some, Option.getD_none] at er et
 simp -implicitDefEqProofs [en, ep, er, es, et, hlen, x1, x2, hvn, v2n, hfin]
end
end Go.Proofs.Ytgokjbjbdnbcdaa
set_option linter.unusedVariables false
set_option linter.unusedSimpArgs false
namespace Go.Proofs.Ytgokjbjbdnbcdaa
open Go.Wam
def stSh : Sh := .pair (.int .i64) (.pair (.int .i64) .unit)
def mtSh : Sh := .pair (.int .i64) (.pair (.int .i64) (.pair .str (.pair stSh .unit)))
def itSh : Sh := .pair mtSh (.pair (.int .i64) (.pair stSh (.pair .str (.pair .bool .unit))))
theorem st_cells {H : AHeap} {l : List AV} (h : IsC H stSh l) : ∃ a : Stp, l = [.int .i64 a.1, .int .i64 a.2] := by
 obtain ⟨a, b, rfl, ⟨x, rfl, _⟩, c, d, rfl, ⟨y, rfl, _⟩, rfl⟩ := h
 exact ⟨(x, y), rfl⟩
theorem mt_cells {H : AHeap} {l : List AV} (h : IsC H mtSh l) : ∃ x : Mt, l = celMt x := by
 obtain ⟨a, b, rfl, ⟨n, rfl, _⟩, c, d, rfl, ⟨m, rfl, _⟩, e, f, rfl, ⟨g, rfl, _⟩, i, j, rfl, h1, rfl⟩ := h
 obtain ⟨x, rfl⟩ := st_cells h1
 exact ⟨⟨n, m, g, x.1, x.2⟩, rfl⟩
theorem it_cells {H : AHeap} {l : List AV} (h : IsC H itSh l) : ∃ x : It, l = celIt x := by
 obtain ⟨a, b, rfl, h1, c, d, rfl, ⟨m, rfl, _⟩, e, f, rfl, h2, i, j, rfl, ⟨s, rfl, _⟩, p, q, rfl, ⟨g, rfl⟩, rfl⟩ := h
 obtain ⟨x, rfl⟩ := mt_cells h1
 obtain ⟨y, rfl⟩ := st_cells h2
 exact ⟨⟨x, m, y, s, g⟩, rfl⟩
theorem rows_of {α : Type} {H : AHeap} {sh : Sh} {f : α → List AV} (hf : ∀ l, IsC H sh l → ∃ x : α, l = f x) : ∀ {rows : List (List AV)}, (∀ r ∈ rows, IsC H sh r) → ∃ xs : List α, rows = xs.map f
 | [], _ => ⟨[], rfl⟩
 | r :: rows, h => by
  obtain ⟨x, rfl⟩ := hf r (h r (by simp))
  obtain ⟨xs, rfl⟩ := rows_of hf (rows := rows) fun r hr => h r (by simp [hr])
  exact ⟨x :: xs, rfl⟩
end Go.Proofs.Ytgokjbjbdnbcdaa
set_option linter.unusedVariables false
set_option linter.unusedSimpArgs false
namespace Go.Proofs.Ytgokjbjbdnbcdaa
open Go.Wam
def saSh : Sh := .pair (.int .i64) (.pair (.int .i64) (.pair (.int .i64) (.pair .str (.pair (.pair .str (.pair .str .unit)) (.pair itSh (.pair .bool (.pair (.pair stSh (.pair stSh .unit)) .unit)))))))
theorem sa_cells {H : AHeap} {l : List AV} (h : IsC H saSh l) : ∃ x : SAct, l = rowSA x := by
 obtain ⟨_, _, rfl, ⟨kd, rfl, _⟩, _, _, rfl, ⟨id, rfl, _⟩, _, _, rfl, ⟨ep, rfl, _⟩, _, _, rfl, ⟨key, rfl, _⟩, _, _, rfl, ⟨_, _, rfl, ⟨f, rfl, _⟩, _, _, rfl, ⟨t, rfl, _⟩, rfl⟩, _, _, rfl, h1, _, _, rfl, ⟨cm, rfl⟩, _, _, rfl, ⟨_, _, rfl, h2, _, _, rfl, h3, rfl⟩, rfl⟩ := h
 obtain ⟨i, rfl⟩ := it_cells h1
 obtain ⟨a, rfl⟩ := st_cells h2
 obtain ⟨b, rfl⟩ := st_cells h3
 exact ⟨⟨kd, id, ep, key, f, t, i, cm, a, b⟩, rfl⟩
end Go.Proofs.Ytgokjbjbdnbcdaa
set_option linter.unusedVariables false
set_option linter.unusedSimpArgs false
namespace Go.Proofs.Ytgokjbjbdnbcdaa
open Go.Wam
attribute [local simp] seqK_normal seqK_exit seqK_ret blockK_normal blockK_exit blockK_ret condO_bool evK_skip evK_exit evK_ret evK_keep evK_cond evK_block evK_seq_seq evK_seq_cond evK_seq_block evK_seq_loop evK_seq_skip evK_seq_keep evK_seq_exit evK_seq_ret prK_eq toSt_eq av_l av_v valS_v valT_v valS_u av_u valO_tmp
 nl_eq nl_none nl_if nlR_eq boxC_eq stL_eq storeP_ptr loadP_ptr fldP_ptr idxP_ptr inN_int callN_func strV_str fillC_nil fillC_cons pickV_bool guardK_bool kB_eq chk_some ifaceV_eq funcV_eq natV_int notL_noL leaveK_ret leaveK_normal rvsK_nil rvsK_cons rvK_tmp rvC_l rvC_v rvK_cell enterK_eq ok_l ok_v ok_u norm_eq norm_l norm_v norm_u
 Go.Wam.look zipI prune packA rd undefA allNoL convI convS lenStr lenMap extA fldV idxStr idxAgg idxS_slice idxS_oslice unA beq_same beqL_same AV.beq AV.beqL sliceV nilC clearW
 strOp aeqF_nil aeqF_cons andA_some i_add i_sub i_mul i_lss i_leq i_gtr i_geq i_quo i_rem i_eql i_neq s_eql s_neq s_lss
 s_leq s_gtr s_geq s_add e_bool n_bool e_nilp n_nilp e_ptr n_ptr e_lptr n_lptr e_agg n_agg
 e_nils n_nils e_slice n_slice e_oslice n_oslice e_eslice n_eslice e_xslice n_xslice e_nilm n_nilm e_map n_map
 e_nilFunc n_nilFunc e_func n_func q_int q_bool q_str q_struct q_ptr0 q_ptrL0 q_ptrR0 q_ptrL1 q_ptrR1 q_slice0
 q_sliceL0 q_sliceR0 q_sliceL1 q_sliceR1 q_sliceL2 q_sliceR2 q_sliceL3 q_sliceR3 q_map0 q_mapL0 q_mapR0 q_func0 q_funcL0 q_funcR0
 okR_some get_alloc_eq rdAt_alloc_eq set_alloc_eq set_alloc_ne get_alloc_ne rdAt_alloc_ne
attribute [local congr] bind_cg guardK_cg kB_cg condO_cg evK_cg
attribute [local simp] callN_yield ofSt_eq ofAV_v
section
variable {H : AHeap}
set_option maxHeartbeats 16000000 in
theorem each_loop0 {v : AV} {A : List SAct} {p id0 : Nat} {G : AHeap} (hok : H.ok) (hV : View H 21 v (A.map rowSA)) (hAl : A.length < 1000000000000) (hS : StoreAt G p id0 0 []) (hG : Chg [] H G) (hi0 : H.n ≤ id0) :
    ∃ x st s', den T (.loop L3_0) (SK.toSt ⟨[(0, .v v), (3, .v (.ptr p 0)), (4, .v (.int .i64 0))], [], G⟩) = some (x, st) ∧
     (x = .exit 0 ∧ prK [] [] s' = ⟨[], [], s'.H⟩ ∧ Chg [] H s'.H) ∧ (∀ ks ls, prK ks ls (ofSt st) = (prK ks ls s').norm) ∧ (∀ rs vs, rvsK s' rs = some vs → rvsK (ofSt st) rs = some vs) ∧ (ofSt st).H = s'.H := by
 have hvn := hV.noL
 have hlen := hV.lenS
 rw [List.length_map] at hlen
 refine loopK (T := T) (L := L3_0) rfl
  (fun n s => ∃ (i c : Nat) (l : ML) (K : AHeap), i + n = A.length ∧ i ≤ 80 ∧ StoreAt K p id0 c l ∧ Sized l i ∧ Live l ∧ Chg [] H K ∧ s = ⟨[(0, .v v), (3, .v (.ptr p 0)), (4, .v (.int .i64 i))], [], K⟩)
  (fun x s' => x = .exit 0 ∧ prK [] [] s' = ⟨[], [], s'.H⟩ ∧ Chg [] H s'.H)
  ?_ A.length _ (by simp [hvn]) ⟨0, 0, [], G, by omega, by omega, hS, ⟨by simp, by simp, by simp⟩, (fun _ h => by cases h), hG, by simp⟩
 rintro n _ ⟨i, c, l, K, hn, hi80, hSK, hz, hLv, cK, rfl⟩ P hI hX hR
 have okK := cK.ok hok
 by_cases hlt : i < A.length
 · have hlt' : (i : Int) < A.length := by omega
   by_cases h80 : i < 80
   · have h80' : (i : Int) < 80 := by omega
     have hw := wrap_id (n := (i : Int) + 1) (by omega) (by omega)
     have hVK := hV.new hok.1 cK
     have x1 := ixSA hVK hlt
     have x2 := rdSA hVK hlt
     have x3 := kFits (H := K) A[i]
     obtain ⟨x, hx⟩ : ∃ x, x = A[i] := ⟨_, rfl⟩
     rw [← hx] at x2 x3
     have skip : P (.normal, ⟨[(4, .v (.int .i64 ((i : Int) + 1))), (29, .v (.int .i64 ((i : Int) + 1))), (28, .v (.int .i64 i)), (0, .v v), (3, .v (.ptr p 0)), (4, .v (.int .i64 i))], [], K⟩) := by
      refine hI _ _ _ (n - 1) (by omega) ?_
      exact ⟨i + 1, c, l, K, by omega, by omega, hSK, hz.mono (Nat.le_succ i), hLv, cK, by simp⟩
     by_cases hf : fitsB x = true
     · by_cases hk1 : x.kd = 1
       · skip
         obtain ⟨K1, ec, hT1, ch1⟩ := kCopyS okK hSK
         have ok1 := ch1.ok okK
         have hS1 := hSK.frame okK ch1
         obtain ⟨s, m, e, K2, l', c', e1, hS2, ch2, hz2, hA, hle⟩ := eachPut ok1 hS1 hz (by omega) hLv x hf
         have ok2 := ch2.ok ok1
         have hne : K.n ≠ id0 := fun h => by have := AHeap.get_lt hSK.map okK.1; omega
         have hT2 := hS1.apart ok1 hT1 hne ch2
         have hl2 := hz2.len
         have hl1 := hz.len
         obtain ⟨gv, K3, ek, hgv, ch3, _, _⟩ := kKeys ok2 hS2 (by omega)
         have ok3 := ch3.ok ok2
         obtain ⟨ov, K4, ek2, hov, ch4, _, _⟩ := kKeys ok3 (hT2.frame ok2 ch3) (by omega)
         have ok4 := ch4.ok ok3
         have ch34 : Chg [] K2 K4 := ch3.trans ok2 ch4 (by simp)
         have hA' : Acted l l' (tch x) e := by
          have h : tch x = fun k => decide (k = x.key) := by funext k; unfold tch; rw [if_pos hk1]
          rw [h]; exact hA
         have gn := hgv.noL
         have on := hov.noL
         have gl := hgv.lenS
         have ol := hov.lenS
         rw [List.length_map] at gl ol
         obtain ⟨y, st, s1, f1, ⟨rfl, hq1, ch5⟩, hp, hr, hH⟩ := each_loop1 (i := i) (ov := ov) ok4 (hS2.frame ok2 ch34) (hT2.frame ok2 ch34) hz2 (hz.mono (Nat.le_succ i)) (by omega) (.inl hk1) hf hA' (by omega) hz2.key hS2.sorted (hgv.new ok3.1 ch4) (notL_of on) (notL_of hvn)
         simp only [toSt_eq, List.map_cons, List.map_nil, av_v, av_l] at f1
         have hq1 := (hp [0, 3, 4, 5, 7, 8, 9, 10] [5]).trans (congrArg SK.norm hq1)
         obtain ⟨K5, hK5⟩ : ∃ K5, K5 = s1.H := ⟨_, rfl⟩
         rw [← hK5] at hq1 ch5
         have ok5 := ch5.ok ok4
         have ch35 : Chg [] K2 K5 := ch34.trans ok2 ch5 (by simp)
         obtain ⟨y, st2, s2, f2, ⟨rfl, hq2, ch6⟩, hp2, hr2, hH2⟩ := each_loop2 (i := i) (gv := ov) (ov := gv) (g := l) ok5 (hS2.frame ok2 ch35) (hT2.frame ok2 ch35) hz2 (hz.mono (Nat.le_succ i)) (by omega) (.inl hk1) hf hA' (by omega) hz.key (hov.new ok4.1 ch5) (notL_of gn) (notL_of hvn)
         simp only [toSt_eq, List.map_cons, List.map_nil, av_v, av_l] at f2
         have hq2 := (hp2 [0, 3, 4, 5, 8, 9, 10] [5]).trans (congrArg SK.norm hq2)
         obtain ⟨K6, hK6⟩ : ∃ K6, K6 = s2.H := ⟨_, rfl⟩
         rw [← hK6] at hq2 ch6
         have ch36 : Chg [] K2 K6 := ch35.trans ok2 ch6 (by simp)
         have cK6 : Chg [] H K6 := cK.trans hok (((ch1.mono (G := [id0]) (by simp)).trans okK ch2 (by simp)).trans okK ch36 (by simp)) (by simp; omega)
         have fin : P (.normal, ⟨[(4, .v (.int .i64 ((i : Int) + 1))), (29, .v (.int .i64 ((i : Int) + 1))), (28, .v (.int .i64 i)), (0, .v v), (3, .v (.ptr p 0)), (4, .v (.int .i64 i))], [], K6⟩) := by
          refine hI _ _ _ (n - 1) (by omega) ?_
          exact ⟨i + 1, c', l', K6, by omega, by omega, hS2.frame ok2 ch36, hz2, hA.live, cK6, by simp⟩
         rw [hf] at x3
         unfold rowSA at x2 x3 f1 hq1 f2 hq2
         unfold celIt celMt at e1
         have d0 : ¬ (l'.length : Int) < l.length := by omega
         have w3 := wrap_id (n := (l.length : Int) + 1) (by omega) (by omega)
         have d1 := hA.len
         have d2 : ¬ (l.length : Int) + 1 < l'.length := by omega
         by_cases he : e = 0
         · have he' : e = 0 := he
           subst he'
           simp -implicitDefEqProofs [B3_0, hlen, hlt', h80', hw, x1, x2, x3, hvn, eq_true hk1, show ¬ (2 : Int) < x.kd by omega, show ¬ x.kd < 1 by omega, d0, ec, e1, ek, ek2, f1, hq1, f2, hq2, gn, on, gl, ol, w3, d2]
           exact fin
         · have d3 : (l'.length : Int) = l.length := by have := hA.err he; omega
           simp -implicitDefEqProofs [B3_0, hlen, hlt', h80', hw, x1, x2, x3, hvn, eq_true hk1, show ¬ (2 : Int) < x.kd by omega, show ¬ x.kd < 1 by omega, d0, ec, e1, ek, ek2, f1, hq1, f2, hq2, gn, on, gl, ol, w3, d2, he, d3, show (l.length : Int) ≤ l.length + 1 by omega]
           exact fin
       · by_cases hk2 : x.kd = 2
         · skip
           obtain ⟨K1, ec, hT1, ch1⟩ := kCopyS okK hSK
           have ok1 := ch1.ok okK
           have hS1 := hSK.frame okK ch1
           obtain ⟨m, e, K2, l', e1, hS2, ch2, hz2, hA⟩ := eachRes ok1 hS1 hz (by omega) hLv x hf
           have ok2 := ch2.ok ok1
           have hne : K.n ≠ id0 := fun h => by have := AHeap.get_lt hSK.map okK.1; omega
           have hT2 := hS1.apart ok1 hT1 hne ch2
           have hl2 := hz2.len
           have hl1 := hz.len
           obtain ⟨gv, K3, ek, hgv, ch3, _, _⟩ := kKeys ok2 hS2 (by omega)
           have ok3 := ch3.ok ok2
           obtain ⟨ov, K4, ek2, hov, ch4, _, _⟩ := kKeys ok3 (hT2.frame ok2 ch3) (by omega)
           have ok4 := ch4.ok ok3
           have ch34 : Chg [] K2 K4 := ch3.trans ok2 ch4 (by simp)
           have hA' : Acted l l' (tch x) e := by
            have h : tch x = fun k => hasB x.f x.t k := by funext k; unfold tch; rw [if_neg hk1]
            rw [h]; exact hA
           have gn := hgv.noL
           have on := hov.noL
           have gl := hgv.lenS
           have ol := hov.lenS
           rw [List.length_map] at gl ol
           obtain ⟨y, st, s1, f1, ⟨rfl, hq1, ch5⟩, hp, hr, hH⟩ := each_loop1 (i := i) (ov := ov) ok4 (hS2.frame ok2 ch34) (hT2.frame ok2 ch34) hz2 (hz.mono (Nat.le_succ i)) (by omega) (.inr hk2) hf hA' (by omega) hz2.key hS2.sorted (hgv.new ok3.1 ch4) (notL_of on) (notL_of hvn)
           simp only [toSt_eq, List.map_cons, List.map_nil, av_v, av_l] at f1
           have hq1 := (hp [0, 3, 4, 5, 7, 8, 9, 10] [5]).trans (congrArg SK.norm hq1)
           obtain ⟨K5, hK5⟩ : ∃ K5, K5 = s1.H := ⟨_, rfl⟩
           rw [← hK5] at hq1 ch5
           have ok5 := ch5.ok ok4
           have ch35 : Chg [] K2 K5 := ch34.trans ok2 ch5 (by simp)
           obtain ⟨y, st2, s2, f2, ⟨rfl, hq2, ch6⟩, hp2, hr2, hH2⟩ := each_loop2 (i := i) (gv := ov) (ov := gv) (g := l) ok5 (hS2.frame ok2 ch35) (hT2.frame ok2 ch35) hz2 (hz.mono (Nat.le_succ i)) (by omega) (.inr hk2) hf hA' (by omega) hz.key (hov.new ok4.1 ch5) (notL_of gn) (notL_of hvn)
           simp only [toSt_eq, List.map_cons, List.map_nil, av_v, av_l] at f2
           have hq2 := (hp2 [0, 3, 4, 5, 8, 9, 10] [5]).trans (congrArg SK.norm hq2)
           obtain ⟨K6, hK6⟩ : ∃ K6, K6 = s2.H := ⟨_, rfl⟩
           rw [← hK6] at hq2 ch6
           have ch36 : Chg [] K2 K6 := ch35.trans ok2 ch6 (by simp)
           have cK6 : Chg [] H K6 := cK.trans hok (((ch1.mono (G := [id0]) (by simp)).trans okK ch2 (by simp)).trans okK ch36 (by simp)) (by simp; omega)
           have fin : P (.normal, ⟨[(4, .v (.int .i64 ((i : Int) + 1))), (29, .v (.int .i64 ((i : Int) + 1))), (28, .v (.int .i64 i)), (0, .v v), (3, .v (.ptr p 0)), (4, .v (.int .i64 i))], [], K6⟩) := by
            refine hI _ _ _ (n - 1) (by omega) ?_
            exact ⟨i + 1, c, l', K6, by omega, by omega, hS2.frame ok2 ch36, hz2, hA.live, cK6, by simp⟩
           rw [hf] at x3
           unfold rowSA at x2 x3 f1 hq1 f2 hq2
           have w3 := wrap_id (n := (l.length : Int) + 1) (by omega) (by omega)
           have d1 := hA.len
           have d2 : ¬ (l.length : Int) + 1 < l'.length := by omega
           by_cases he : e = 0
           · have he' : e = 0 := he
             subst he'
             simp -implicitDefEqProofs [B3_0, hlen, hlt', h80', hw, x1, x2, x3, hvn, hk1, eq_true hk2, show ¬ (2 : Int) < x.kd by omega, show ¬ x.kd < 1 by omega, ec, e1, ek, ek2, f1, hq1, f2, hq2, gn, on, gl, ol, w3, d2]
             exact fin
           · have d3 : (l'.length : Int) = l.length := by have := hA.err he; omega
             simp -implicitDefEqProofs [B3_0, hlen, hlt', h80', hw, x1, x2, x3, hvn, hk1, eq_true hk2, show ¬ (2 : Int) < x.kd by omega, show ¬ x.kd < 1 by omega, ec, e1, ek, ek2, f1, hq1, f2, hq2, gn, on, gl, ol, w3, d2, he, d3, show (l.length : Int) ≤ l.length + 1 by omega]
             exact fin
         · rw [hf] at x3
           unfold rowSA at x2 x3
           by_cases hgt : (2 : Int) < x.kd
           · simp -implicitDefEqProofs [B3_0, hlen, hlt', h80', hw, x1, x2, x3, hvn, hgt]
             exact skip
           · have hlt1 : x.kd < 1 := by omega
             simp -implicitDefEqProofs [B3_0, hlen, hlt', h80', hw, x1, x2, x3, hvn, hgt, hlt1]
             exact skip
     · have hf' : fitsB x = false := by simpa using hf
       rw [hf'] at x3
       unfold rowSA at x2 x3
       simp -implicitDefEqProofs [B3_0, hlen, hlt', h80', hw, x1, x2, x3, hvn]
       exact skip
   · have h80' : ¬ (i : Int) < 80 := by omega
     simp -implicitDefEqProofs [B3_0, hlen, hlt', h80', hvn]
     refine hX _ _ ?_
     exact ⟨rfl, by simp, cK⟩
 · have hlt' : ¬ (i : Int) < A.length := by omega
   simp -implicitDefEqProofs [B3_0, hlen, hlt', hvn]
   refine hX _ _ ?_
   exact ⟨rfl, by simp, cK⟩
theorem nEach {v : AV} {A : List SAct} (hok : H.ok) (hU : SV H 21 v (A.map rowSA)) (hAl : A.length < 1000000000000) :
    ∃ K, call T 3 [v] H = some (.bool true, K) := by
 have hokT := AHeap.ok.top hok.1
 have hvn := hU.view.noL
 obtain ⟨G, en, hS0, c0⟩ := kNew (H := H.top) hokT
 simp only [top_n] at en hS0
 obtain ⟨x, st, s', f1, ⟨rfl, hk, c1⟩, hp, hr, hH⟩ := each_loop0 hokT hU.view.top hAl hS0 c0 (Nat.le_refl _)
 simp only [toSt_eq, List.map_cons, List.map_nil, av_v, av_l] at f1
 have hk := (hp [] []).trans (congrArg SK.norm hk)
 have ea := alive9 (c1.ok hokT)
 exact ⟨_, okR_eq (call_evK (show T 3 = some (.ir ⟨_, _, _, _, _⟩) from T3) (by decide) PL3 rfl (by simp [hvn]) (by
  simp -implicitDefEqProofs [en, f1, hk, ea, hvn]
  rfl))⟩
theorem lawEach : Law T 3 [.slice 21 208 saSh] := by
 intro H ls hw hl ha
 obtain ⟨x, rfl, hx⟩ := args1 ha
 obtain ⟨v, rows, rfl, h1, h2, h3, h4⟩ := hx
 obtain ⟨A, rfl⟩ := rows_of (fun l => sa_cells) h4
 rw [List.length_map] at h2
 have hb : reachBytes = 140737488351232 := rfl
 exact nEach ⟨hw, by omega⟩ (h1.sv hw) (by omega)
end
end Go.Proofs.Ytgokjbjbdnbcdaa
set_option linter.unusedVariables false
set_option maxRecDepth 100000
namespace Go.Proofs.Ytgokjbjbdnbcdaa
open Go.Wam
def tab0 : List (List Nat) := [[], [], [1], [6, 7, 8, 9, 10, 11, 11, 12, 14, 14, 13, 12, 14, 14, 13, 15], [6, 7, 9, 10, 16, 17, 18, 15, 11, 12, 16, 17, 15, 15, 19], [7, 15, 16, 9, 10, 17, 15, 20, 11, 14, 21, 8], [], [22, 23], [24], [25, 26, 26, 27], [28, 29, 30, 31, 32, 33], [35, 34], [18, 22], [], [36], [6, 9, 16, 10, 16], [28, 29, 37, 38, 39], [28, 29, 40], [22, 22], [], [41], [42, 43, 29, 44, 42, 46, 44, 45, 42, 45, 47], [], [], [48], [49, 50], [], [52, 51, 53, 54, 53], [55], [56], [53, 58, 59, 60], [], [], [], [61, 62], [63], [], [60, 64, 64], [], [66, 66, 65], [60, 64, 64], [60], [], [], [42], [42], [42, 42], [42, 42, 44, 46, 42, 46, 44, 45], [], [67], [], [68], [], [36], [58, 69, 70, 70, 59], [26, 26, 26], [35, 34, 57], [55, 26], [], [71, 71], [72], [73], [75, 74], [], [76, 77], [], [78, 78], [79], [], [59], [72], [], [39], [], [80, 81, 82, 83, 84, 85, 86, 87, 88, 74, 74], [89, 90], [], [60], [], [], [86], [91, 91], [92, 93], [94, 94, 94, 95], [], [86, 86, 86], [96, 96], [86, 86], [86, 86, 86, 86], [], [], [86, 86], [75], [], [95], [97, 97, 97], [], [86], [], []]
def tab1 : List (List Nat) := [[], [], [], [], [], [], [], [], [], [], [], [], [], [], []]
def tab : List (List Nat) := tab0 ++ (tab1)
theorem funcsN : Try.prog.funcs.size = 115 := by kernel_rfl
theorem tabN : tab.length = 115 := by kernel_rfl
theorem lead0 : (List.range' (100 * 0) 100).all (fun g => leadsAt Try.prog g == tab.getD g []) = true := by kernel_rfl
theorem lead1 : (List.range' (100 * 1) 100).all (fun g => leadsAt Try.prog g == tab.getD g []) = true := by kernel_rfl
theorem leads (g : Nat) : leadsAt Try.prog g = tab.getD g [] := leads_parts (n := 115) (k := 100) (m := 2) funcsN tabN (by decide) (fun j hj => match j, hj with
 | 0, _ => lead0
 | 1, _ => lead1
 | j + 2, h => absurd h (by omega)) g
end Go.Proofs.Ytgokjbjbdnbcdaa
set_option linter.unusedVariables false
set_option maxRecDepth 100000
namespace Go.Proofs.Ytgokjbjbdnbcdaa.storeEach
open Go.Wam
theorem clos : Try.prog.closure 3 = [3, 6, 7, 22, 23, 8, 24, 48, 9, 25, 49, 67, 79, 50, 26, 27, 52, 51, 68, 53, 36, 54, 58, 69, 59, 71, 70, 72, 39, 66, 78, 65, 10, 28, 55, 29, 56, 35, 63, 34, 61, 73, 62, 75, 89, 90, 74, 80, 86, 96, 81, 91, 82, 92, 93, 83, 94, 95, 97, 84, 85, 87, 88, 57, 30, 60, 31, 32, 33, 11, 12, 18, 14, 13, 15, 16, 37, 64, 76, 77, 38] := (closure_eq funcsN tabN leads 3).trans (by kernel_rfl)
theorem c9 : (Rows.storeEachRow.inPlace == Try.prog.inPlace 3) = true := by unfold Program.inPlace; rw [clos]; kernel_rfl
theorem unf : Try.prog.unfollowed 3 = true := by unfold Program.unfollowed; rw [clos]; kernel_rfl
theorem c10 : (Rows.storeEachRow.unfollowed == Try.prog.unfollowed 3) = true := by rw [unf]; kernel_rfl
theorem c11 : (Rows.storeEachRow.recurses == Try.prog.recurses 3) = true := by unfold Program.recurses; rw [unf]; kernel_rfl
theorem c12 : (Rows.storeEachRow.named == Try.prog.varsNamed 3) = true := by unfold Program.varsNamed; rw [clos]; kernel_rfl
end Go.Proofs.Ytgokjbjbdnbcdaa.storeEach
set_option linter.unusedVariables false
set_option maxRecDepth 100000
namespace Go.Proofs.Ytgokjbjbdnbcdaa
theorem stopsAll : Try.prog.stopsHeard = true := by kernel_rfl
end Go.Proofs.Ytgokjbjbdnbcdaa
set_option linter.unusedVariables false
set_option maxRecDepth 100000
namespace Go.Proofs.Ytgokjbjbdnbcdaa
theorem mayAll : Try.prog.mayEnter = true := by kernel_rfl
end Go.Proofs.Ytgokjbjbdnbcdaa
set_option linter.unusedVariables false
set_option linter.unusedSimpArgs false
namespace Go.Proofs.Ytgokjbjbdnbcdaa
open Go.Wam
namespace storeEach
open Go.ChangeShapes Go.WideShapes Go.ChangeAt Go.RowKit
theorem andI {a b : Bool} (h1 : a = true) (h2 : b = true) : (a && b) = true := by rw [h1, h2]; rfl
theorem progC : Try.checked.prog = Try.prog := by kernel_rfl
theorem progP : Try.pinned.checked.prog = Try.prog := by kernel_rfl
theorem laidC : laidOutB Try.checked.prog = true := by rw [progC]; exact laidOut
theorem laidP : laidOutB Try.pinned.checked.prog = true := by rw [progP]; exact laidOut
theorem lawC {ss : List Sh} (h : LawP Try.prog 3 ss) : LawP Try.checked.prog 3 ss := by rw [progC]; exact h
set_option maxRecDepth 100000 in
set_option maxHeartbeats 4000000 in
theorem closed0 : joinedFacts Try.prog 3 Try.f3 Rows.storeEachSpec Rows.storeEachRow = true := by
 unfold joinedFacts
 repeat' (with_reducible apply andI)
 · as_aux_lemma => kernel_rfl
 · exact laidOut
 · exact mapsAll
 · as_aux_lemma => kernel_rfl
 · as_aux_lemma => kernel_rfl
 · as_aux_lemma => kernel_rfl
 · as_aux_lemma => kernel_rfl
 · as_aux_lemma => kernel_rfl
 · as_aux_lemma => kernel_rfl
 · exact c9
 · exact c10
 · exact c11
 · exact c12
 · as_aux_lemma => kernel_rfl
 · as_aux_lemma => kernel_rfl
 · as_aux_lemma => kernel_rfl
 · as_aux_lemma => kernel_rfl
 · as_aux_lemma => kernel_rfl
 · as_aux_lemma => kernel_rfl
 · as_aux_lemma => kernel_rfl
 · as_aux_lemma => kernel_rfl
 · as_aux_lemma => kernel_rfl
 · as_aux_lemma => kernel_rfl
 · as_aux_lemma => kernel_rfl
 · exact stopsAll
 · exact mayAll
 · as_aux_lemma => kernel_rfl
 · as_aux_lemma => kernel_rfl
 · as_aux_lemma => kernel_rfl
 · as_aux_lemma => kernel_rfl
 · as_aux_lemma => kernel_rfl
 · as_aux_lemma => kernel_rfl
theorem closed : joinedFacts Try.pinned.checked.prog 3 Try.f3 Rows.storeEachSpec Rows.storeEachRow = true := by rw [progP]; exact closed0
set_option maxRecDepth 100000 in
set_option maxHeartbeats 4000000 in
theorem lifted (os : Os) (started : os.Started) (H : Type) (enc : TypeId × Value → H) :
    ReturnsInHanded {} Try.checked os 3 .any (Rows.storeEachSpec.pre6 enc Try.prog Try.f3 Rows.storeEachRow.domain false) (Rows.storeEachSpec.post enc Try.prog Try.f3 false true false false) := by
 refine returnsInHanded_of_change_sized (C := Try.checked) own started (by as_aux_lemma => kernel_rfl) Try.func3
  (ChangeSpec.witness6 (enc := enc) (C := Try.checked) false ⟨#[], #[.slice none 0 0], []⟩ 8 (by as_aux_lemma => kernel_rfl) (by as_aux_lemma => kernel_rfl) (by as_aux_lemma => kernel_rfl) (by as_aux_lemma => kernel_rfl))
  (law_contractP (lawC (Law.trip mixed fits (by decide) T3 lawEach)) (k := 8) (by as_aux_lemma => kernel_rfl) laidC (by as_aux_lemma => kernel_rfl) (rt := Try.f3.resultTypes.getD 0 0) (by as_aux_lemma => kernel_rfl) (by as_aux_lemma => kernel_rfl) rfl rfl (fun ds hd => ?_))
 match ds, hd with
 | [d0], _ => rfl
set_option maxHeartbeats 4000000 in
theorem over : Rows.storeEachRow.holds Try.pinned (OpenSpec.ofChange Rows.storeEachSpec) :=
 OpenClaim.holds_of_wide 3 Try.f3 rfl rfl rfl rfl rfl rfl rfl ⟨rfl, rfl, rfl, rfl, rfl⟩ rfl rfl rfl rfl rfl (by as_aux_lemma => kernel_rfl) Try.func3 closed
  (of_decide_eq_true (by as_aux_lemma => kernel_rfl)) (by unfold Func.isWrapper; first | (rw [if_pos (by decide +kernel)]; kernel_rfl) | (rw [if_neg (by decide +kernel)]; exact ⟨rfl, rfl⟩))
  (fun os started H enc _ => lifted os started H enc)
end storeEach
theorem storeEach_holds : Rows.StoreEachSaid := storeEach.over
end Go.Proofs.Ytgokjbjbdnbcdaa
