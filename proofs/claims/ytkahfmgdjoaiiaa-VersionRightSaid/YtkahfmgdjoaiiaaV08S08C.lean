/- The place of the first version above a stamp: BinarySearchFunc. No condition. -/
import Derived.Test.YtkahfmgdjoaiiaaV08S08B
set_option linter.unusedVariables false
set_option linter.unusedSimpArgs false
namespace Go.Proofs.Ytkahfmgdjoaiiaa
open Go.Wam

attribute [local simp] seqK_normal seqK_exit seqK_ret blockK_normal blockK_exit blockK_ret condO_bool evK_skip evK_exit evK_ret evK_keep evK_cond evK_block evK_seq_seq evK_seq_cond evK_seq_block evK_seq_loop evK_seq_skip evK_seq_keep evK_seq_exit evK_seq_ret prK_eq toSt_eq av_l av_v valS_v valT_v valS_u av_u valO_tmp
  nl_eq nl_none nl_if nlR_eq boxC_eq stL_eq storeP_ptr loadP_ptr fldP_ptr idxP_ptr inN_int callN_func strV_str fillC_nil fillC_cons pickV_bool guardK_bool kB_eq chk_some ifaceV_eq funcV_eq natV_int notL_noL leaveK_ret leaveK_normal rvsK_nil rvsK_cons rvK_tmp rvC_l rvC_v rvK_cell enterK_eq ok_l ok_v ok_u norm_eq norm_l norm_v norm_u
  Go.Wam.look zipI prune packA rd undefA allNoL convI convS lenStr lenMap extA fldV idxStr idxAgg idxS_slice idxS_oslice unA beq_same beqL_same AV.beq AV.beqL sliceV nilC clearW
  strOp aeqF_nil aeqF_cons andA_some i_add i_sub i_mul i_lss i_leq i_gtr i_geq i_quo i_rem i_eql i_neq s_eql s_neq s_lss
  s_leq s_gtr s_geq s_add e_bool n_bool e_nilp n_nilp e_ptr n_ptr e_lptr n_lptr e_agg n_agg
  e_nils n_nils e_slice n_slice e_oslice n_oslice e_eslice n_eslice e_xslice n_xslice e_nilm n_nilm e_map n_map
  e_nilFunc n_nilFunc e_func n_func q_int q_bool q_str q_struct q_ptr0 q_ptrL0 q_ptrR0 q_ptrL1 q_ptrR1 q_slice0
  q_sliceL0 q_sliceR0 q_sliceL1 q_sliceR1 q_sliceL2 q_sliceR2 q_sliceL3 q_sliceR3 q_map0 q_mapL0 q_mapR0 q_func0 q_funcL0 q_funcR0
  okR_some get_alloc_eq rdAt_alloc_eq set_alloc_eq set_alloc_ne get_alloc_ne rdAt_alloc_ne
attribute [local congr] bind_cg guardK_cg kB_cg condO_cg evK_cg
/-- What a binary search comes to. -/
def bs (p : Nat → Bool) : Nat → Nat → Nat → Nat
  | 0, lo, _ => lo
  | f + 1, lo, hi => if lo < hi then (if p ((lo + hi) / 2) = true then bs p f ((lo + hi) / 2 + 1) hi else bs p f lo ((lo + hi) / 2)) else lo
theorem bs_le (p : Nat → Bool) : ∀ (f lo hi : Nat), lo ≤ hi → bs p f lo hi ≤ hi := by
  intro f
  induction f with
  | zero => intro lo hi h; exact h
  | succ f ih =>
    intro lo hi h
    rw [bs]
    split
    · split
      · exact ih _ _ (by omega)
      · have := ih lo ((lo + hi) / 2) (by omega); omega
    · exact h
theorem bs_done (p : Nat → Bool) (f lo : Nat) : bs p f lo lo = lo := by cases f <;> simp [bs]
theorem bs_mono (p : Nat → Bool) (hm : ∀ i j, i ≤ j → p j = true → p i = true) : ∀ (f lo hi : Nat), lo ≤ hi → hi - lo ≤ f → (∀ k, k < lo → p k = true) → (∀ k, hi ≤ k → p k = false) → ∀ k, p k = decide (k < bs p f lo hi) := by
  intro f
  induction f with
  | zero =>
    intro lo hi h1 h2 h3 h4 k
    have : lo = hi := by omega
    subst this
    rw [bs]
    by_cases h : k < lo
    · rw [h3 k h]; simp [h]
    · rw [h4 k (by omega)]; simp [h]
  | succ f ih =>
    intro lo hi h1 h2 h3 h4 k
    rw [bs]
    split
    · split
      · rename_i hlt hp
        exact ih _ _ (by omega) (by omega) (fun j hj => hm j _ (by omega) hp) h4 k
      · rename_i hlt hp
        refine ih _ _ (by omega) (by omega) h3 (fun j hj => ?_) k
        cases hpj : p j with
        | false => rfl
        | true => exact absurd (hm _ _ hj hpj) hp
    · have : lo = hi := by omega
      subst this
      by_cases h : k < lo
      · rw [h3 k h]; simp [h]
      · rw [h4 k (by omega)]; simp [h]
def upAt (L : List Ve) (s : Stp) (k : Nat) : Bool := match L[k]? with | some v => uptoB v.at_ s | none => false
def aboveN (L : List Ve) (s : Stp) : Nat := bs (upAt L s) L.length 0 L.length
theorem aboveN_le (L : List Ve) (s : Stp) : aboveN L s ≤ L.length := bs_le _ _ _ _ (Nat.zero_le _)
theorem eVe (x : Ve) : rd true 5 0 (rowVe x) = some (.agg (rowVe x)) := rfl
theorem vAbove1 (x : Ve) (s : Stp) (H : AHeap) : call T 52 [.agg (rowVe x), .agg [.int .i64 s.1, .int .i64 s.2]] H = some (.int .i64 (if uptoB x.at_ s = true then -1 else 1), H) := by
  refine okR_eq (call_evK (show T 52 = some (.ir ⟨_, _, _, _, _⟩) from T52) rfl rfl ?_)
  have e := vUpto x.at_ s H.top
  unfold rowVe
  cases h : uptoB x.at_ s <;> rw [h] at e <;> simp -implicitDefEqProofs [e, fin_pure]
theorem u64_id {n : Int} (h : 0 ≤ n) (h' : n ≤ 18446744073709551615) : IntKind.u64.wrap n = n := by
  simp only [IntKind.wrap, IntKind.bits, IntKind.signed]
  simp
  omega
theorem shr1 {n : Nat} : binA .shr .none (.int .u64 (n : Int)) (.int .u64 1) = some (.int .u64 ((n / 2 : Nat) : Int)) := by
  simp only [binA, shiftOp]
  simp [IntKind.bits]
  rw [Int.fdiv_eq_ediv_of_nonneg _ (by omega)]
section
variable {H : AHeap} {v : AV} {L : List Ve}
theorem bsf_loop (s : Stp) (hV : View H 5 v (L.map rowVe)) (hl : L.length < 1000000000000000) :
    ∃ x st s', den T (.loop L51_0) (SK.toSt ⟨[(0, .v v), (2, .v (.func (.func 52) [] [])), (4, .l 4 0), (8, .v (.int .i64 L.length)), (9, .v (.int .i64 0)), (10, .v (.int .i64 L.length))], [(4, [.int .i64 s.1, .int .i64 s.2])], H⟩) = some (x, st) ∧
      (x = .exit 0 ∧ prK [0, 2, 4, 8, 9] [4] s' = ⟨[(0, .v v), (2, .v (.func (.func 52) [] [])), (4, .l 4 0), (8, .v (.int .i64 L.length)), (9, .v (.int .i64 (aboveN L s)))], [(4, [.int .i64 s.1, .int .i64 s.2])], H⟩) ∧ (∀ ks ls, prK ks ls (ofSt st) = (prK ks ls s').norm) ∧ (∀ rs vs, rvsK s' rs = some vs → rvsK (ofSt st) rs = some vs) ∧ (ofSt st).H = s'.H := by
  have hvn := hV.noL
  refine loopK (T := T) (L := L51_0) rfl
    (fun m st => ∃ (i j f : Nat), i ≤ j ∧ j ≤ L.length ∧ j - i ≤ f ∧ m = j - i ∧ bs (upAt L s) f i j = aboveN L s ∧ st = ⟨[(0, .v v), (2, .v (.func (.func 52) [] [])), (4, .l 4 0), (8, .v (.int .i64 L.length)), (9, .v (.int .i64 i)), (10, .v (.int .i64 j))], [(4, [.int .i64 s.1, .int .i64 s.2])], H⟩)
    (fun x s' => x = .exit 0 ∧ prK [0, 2, 4, 8, 9] [4] s' = ⟨[(0, .v v), (2, .v (.func (.func 52) [] [])), (4, .l 4 0), (8, .v (.int .i64 L.length)), (9, .v (.int .i64 (aboveN L s)))], [(4, [.int .i64 s.1, .int .i64 s.2])], H⟩)
    ?_ L.length _ (by simp [hvn]) ⟨0, L.length, L.length, by omega, by omega, by omega, by omega, rfl, by simp⟩
  rintro m _ ⟨i, j, f, hij, hj, hf, hm, hR', rfl⟩ P hI hX hR
  by_cases hlt : i < j
  · obtain ⟨f, rfl⟩ : ∃ g, f = g + 1 := ⟨f - 1, by omega⟩
    rw [bs, if_pos hlt] at hR'
    obtain ⟨h, hh⟩ : ∃ h, h = (i + j) / 2 := ⟨_, rfl⟩
    rw [← hh] at hR'
    have hhl : h < L.length := by omega
    have w1 := wrap_id (n := (i : Int) + j) (by omega) (by omega)
    have w2 := u64_id (n := (i : Int) + j) (by omega) (by omega)
    have w3 := shr1 (n := i + j)
    rw [← hh] at w3
    have w4 := wrap_id (n := (h : Int)) (by omega) (by omega)
    have w5 := wrap_id (n := (h : Int) + 1) (by omega) (by omega)
    rw [Int.natCast_add] at w3
    have e1 := hV.idx .i64 (n := h) (by omega) (by rw [List.length_map]; omega)
    have e2 := hV.rd (i := h) (r := rowVe L[h]) (by rw [List.getElem?_map, List.getElem?_eq_getElem hhl]; rfl) true (k := 5) (f := 0) (by omega) (by omega) (by simp)
    rw [eVe] at e2
    simp only [Int.toNat_natCast, Nat.add_zero] at e1 e2
    have e3 := vAbove1 L[h] s H
    have hup : upAt L s h = uptoB L[h].at_ s := by unfold upAt; rw [List.getElem?_eq_getElem hhl]
    rw [hup] at hR'
    cases hu : uptoB L[h].at_ s with
    | true =>
      rw [hu] at e3 hR'
      simp only [if_true] at e3 hR'
      unfold rowVe at e2 e3
      simp -implicitDefEqProofs [B51_0, hlt, w1, w2, w3, w4, w5, e1, e2, e3, hvn]
      refine hI _ _ _ (j - (h + 1)) (by omega) ?_
      exact ⟨h + 1, j, f, by omega, hj, by omega, rfl, hR', by simp⟩
    | false =>
      rw [hu] at e3 hR'
      simp only [Bool.false_eq_true, if_false] at e3 hR'
      unfold rowVe at e2 e3
      simp -implicitDefEqProofs [B51_0, hlt, w1, w2, w3, w4, w5, e1, e2, e3, hvn]
      refine hI _ _ _ (h - i) (by omega) ?_
      exact ⟨i, h, f, by omega, by omega, by omega, rfl, hR', by simp⟩
  · have hij' : i = j := by omega
    subst hij'
    rw [bs_done] at hR'
    simp -implicitDefEqProofs [B51_0]
    refine hX _ _ ?_
    exact ⟨rfl, by simp [hR']⟩
theorem vBsf (s : Stp) (hV : View H 5 v (L.map rowVe)) (hl : L.length < 1000000000000000) :
    ∃ b, call T 51 [v, .agg [.int .i64 s.1, .int .i64 s.2], .func (.func 52) [] []] H = some (.tuple [.int .i64 (aboveN L s), .bool b], H) := by
  obtain ⟨x, st, s', f1, ⟨rfl, hk⟩, hp, _, _⟩ := bsf_loop (H := H.top) s hV.top hl
  have hk := (hp [0, 2, 4, 8, 9] [4]).trans (congrArg SK.norm hk)
  simp only [toSt_eq, List.map_cons, List.map_nil, av_v, av_l] at f1
  have e0 := hV.lenS
  rw [List.length_map] at e0
  have hvn := hV.noL
  have hle := aboveN_le L s
  have hfin : ∀ b, Go.Wam.fin H (.tuple [.int .i64 (aboveN L s), .bool b]) H.top = H := fun b => fin_drop' (by simp) (by simp)
  refine ⟨false, okR_eq (call_evK (show T 51 = some (.ir ⟨_, _, _, _, _⟩) from T51) rfl (by simp [hvn]) ?_)⟩
  by_cases hlt : aboveN L s < L.length
  · have e1 := hV.idx .i64 (n := aboveN L s) (by omega) (by rw [List.length_map]; omega)
    have e2 := hV.rd (i := aboveN L s) (r := rowVe L[aboveN L s]) (by rw [List.getElem?_map, List.getElem?_eq_getElem hlt]; rfl) true (k := 5) (f := 0) (by omega) (by omega) (by simp)
    rw [eVe] at e2
    simp only [Int.toNat_natCast, Nat.add_zero] at e1 e2
    have e3 := vAbove1 L[aboveN L s] s H.top
    unfold rowVe at e2 e3
    cases hu : uptoB L[aboveN L s].at_ s <;> rw [hu] at e3 <;> simp only [if_true, Bool.false_eq_true, if_false] at e3 <;> simp -implicitDefEqProofs [e0, f1, hk, hlt, e1, e2, e3, hvn, hfin]
  · simp -implicitDefEqProofs [e0, f1, hk, hlt, hvn, hfin]
theorem vAbove (s : Stp) (hV : View H 5 v (L.map rowVe)) (hl : L.length < 1000000000000000) (o : Bool) (i : It) :
    call T 43 [.agg (v :: .bool o :: celIt i), .agg [.int .i64 s.1, .int .i64 s.2]] H = some (.int .i64 (aboveN L s), H) := by
  refine okR_eq (call_evK (show T 43 = some (.ir ⟨_, _, _, _, _⟩) from T43) rfl rfl ?_)
  obtain ⟨b, e⟩ := vBsf (H := H.top) s hV.top hl
  have hvn := hV.noL
  have hvc := hV.cells
  unfold celIt
  simp -implicitDefEqProofs [e, hvn, hvc, fin_pure]
end
end Go.Proofs.Ytkahfmgdjoaiiaa
