/- What spans' functions tell. No condition. -/
import Derived.Test.YtdnnpgmekbnlbaaC10F
set_option linter.unusedVariables false
set_option linter.unusedSimpArgs false
namespace Go.Proofs.Ytdnnpgmekbnlbaa
open Go.Wam

attribute [local simp] den_seq den_region den_regionD0 den_regionD1 den_condB condB_bool den_block den_keep den_ret den_skip den_exit sops_cons sops_nil sopsR_cons sopsR_nil goR_eq readOk trace_cons trace_nil Opd.ev evs Go.Wam.look St.put enterA zipI leaveR_ret leaveR_normal rvs RV.ev
  st_guard guardB_bool st_move st_pick pickB_bool st_allocL st_alloc st_boxL st_box st_build st_buildSlice st_load st_store st_nilCheck nilC st_bin st_un st_convI convI st_convS convS st_convB convB st_mkIface st_mkFunc st_mkMap st_mkSlice mkSl st_slice st_fieldAddr fldA st_field fldV st_idx idxS_slice idxS_oslice st_idxArr idxArr st_idxStr idxStr st_idxAgg idxAgg st_extract extA st_call callA_func st_len st_lenStr lenStr st_lenArr st_lenMap st_append st_clear clearV st_maxs st_mins
  load_ptr load_lptr storeA rd wr goOn_normal goOn_exit goOn_ret outBlock_normal outBlock_exit outBlock_ret prune freeL_nil freeL_cons frV_lptr frV_tuple frV_noL fillA allNoL packA unA checkAt ev_load wantedA beq_same beqL_same AV.beq AV.beqL drawCond freshD readsOk isRead undefA optInt optIntO
  strOp aeqF_nil aeqF_cons andA_some i_add i_sub i_mul i_lss i_leq i_gtr i_geq i_quo i_rem i_eql i_neq s_eql s_neq s_lss
  s_leq s_gtr s_geq s_add e_bool n_bool e_nilp n_nilp e_ptr n_ptr e_lptr n_lptr e_agg n_agg
  e_nils n_nils e_slice n_slice e_oslice n_oslice e_eslice n_eslice e_xslice n_xslice e_nilm n_nilm e_map n_map
  e_nilFunc n_nilFunc e_func n_func q_int q_bool q_str q_struct q_ptr0 q_ptrL0 q_ptrR0 q_ptrL1 q_ptrR1 q_slice0
  q_sliceL0 q_sliceR0 q_sliceL1 q_sliceR1 q_sliceL2 q_sliceR2 q_sliceL3 q_sliceR3 q_map0 q_mapL0 q_mapR0 q_func0 q_funcL0 q_funcR0
  okR_some guardB_tuple get_alloc_eq rdAt_alloc_eq set_alloc_eq set_alloc_ne get_alloc_ne rdAt_alloc_ne
/-- May a byte stand in a key? -/
def lowB (c : UInt8) : Bool := !(decide ((c.toNat : Int) < 97) || decide (122 < (c.toNat : Int)))
def keyB (s : List UInt8) : Bool := s.all lowB && (!(s == []) && decide (s.length ≤ 8))
def Small (s : List UInt8) : Prop := s.length < 9223372036854775807

theorem key_loop {s : List UInt8} (hs : Small s) (H : AHeap) : ∃ x s', den T (.loop L31_0) ⟨[(0, .str s), (5, .int .i64 s.length), (6, .int .i64 0)], [], H⟩ = some (x, s') ∧
    ((s.all lowB = true ∧ x = .exit 0 ∧ Go.Wam.look 0 s'.env = some (.str s) ∧ s'.H = H ∧ s'.loc = []) ∨ (s.all lowB = false ∧ x = .ret ∧ Go.Wam.look 2 s'.env = some (.bool false) ∧ s'.H = H)) := by
  unfold Small at hs
  refine loop_inv (I := fun n st => ∃ i : Nat, i + n = s.length ∧ st = ⟨[(0, .str s), (5, .int .i64 s.length), (6, .int .i64 i)], [], H⟩ ∧ (s.take i).all lowB = true) _ ?_ s.length _ ⟨0, by omega, by simp [prS], by simp⟩
  rintro n _ ⟨i, hi, rfl, hall⟩ P hI hX hR
  by_cases hlt : i < s.length
  · have hw := wrap_id (n := (i : Int) + 1) (by omega) (by omega)
    have hg : s[i]? = some s[i] := List.getElem?_eq_getElem hlt
    have ht : s.take (i + 1) = s.take i ++ [s[i]] := by rw [List.take_succ_eq_append_getElem hlt]
    have hm : s[i] ∈ s := List.getElem_mem hlt
    have bad : lowB s[i] = false → s.all lowB = false := fun h => List.all_eq_false.2 ⟨s[i], hm, by simp [h]⟩
    by_cases h1 : (s[i].toNat : Int) < 97
    · simp -implicitDefEqProofs [hlt, h1]
      refine hR _ ?_; exact .inr ⟨bad (by simp [lowB, h1]), rfl, by simp, rfl⟩
    · by_cases h2 : 122 < (s[i].toNat : Int)
      · simp -implicitDefEqProofs [hlt, h1, h2]
        refine hR _ ?_; exact .inr ⟨bad (by simp [lowB, h2]), rfl, by simp, rfl⟩
      · simp -implicitDefEqProofs [hlt, h1, h2, hw]
        refine hI _ _ _ (n - 1) (by omega) ?_; exact ⟨i + 1, by omega, by simp, by rw [ht, List.all_append, hall]; simp [lowB, h1, h2]⟩
  · have : s.take i = s := List.take_of_length_le (by omega)
    rw [this] at hall
    simp -implicitDefEqProofs [hlt]
    refine hX _ _ ?_; exact .inl ⟨hall, rfl, by simp, rfl, rfl⟩

theorem sKey {s : List UInt8} (hs : Small s) (H : AHeap) : call T 31 [.str s] H = some (.bool (keyB s), H) := by
  rw [call_at (show T 31 = some (.ir ⟨_, _, _, _, _⟩) from T31)]
  obtain ⟨x, ⟨e, l, K⟩, h, ⟨ha, rfl, h1, h2, h3⟩ | ⟨ha, rfl, h1, h2⟩⟩ := key_loop hs H.top
  · simp only at h1 h2 h3
    subst h2 h3
    by_cases h5 : s = []
    · subst h5; rw [show ((([] : List UInt8).length : Nat) : Int) = 0 from rfl] at h; simp -implicitDefEqProofs [h, h1, fin_pure, keyB]
    · by_cases h6 : s.length ≤ 8
      · have h7 : (s.length : Int) ≤ 8 := by omega
        simp -implicitDefEqProofs [h, h1, fin_pure, keyB, ha, h5, h6, h7]
      · have h7 : ¬ (s.length : Int) ≤ 8 := by omega
        simp -implicitDefEqProofs [h, h1, fin_pure, keyB, ha, h5, h6, h7]
  · simp only at h1 h2
    subst h2
    simp -implicitDefEqProofs [h, h1, fin_pure, keyB, ha]

theorem key_loop' {s : List UInt8} (hs : Small s) (H : AHeap) : ∃ x s', den T (.loop L32_0) ⟨[(0, .str s), (3, .int .i64 0)], [], H⟩ = some (x, s') ∧
    ((s.all lowB = true ∧ x = .exit 0 ∧ Go.Wam.look 0 s'.env = some (.str s) ∧ s'.H = H ∧ s'.loc = []) ∨ (s.all lowB = false ∧ x = .ret ∧ Go.Wam.look 2 s'.env = some (.bool false) ∧ s'.H = H)) := by
  unfold Small at hs
  refine loop_inv (I := fun n st => ∃ i : Nat, i + n = s.length ∧ st = ⟨[(0, .str s), (3, .int .i64 i)], [], H⟩ ∧ (s.take i).all lowB = true) _ ?_ s.length _ ⟨0, by omega, by simp [prS], by simp⟩
  rintro n _ ⟨i, hi, rfl, hall⟩ P hI hX hR
  by_cases hlt : i < s.length
  · have hw := wrap_id (n := (i : Int) + 1) (by omega) (by omega)
    have hg : s[i]? = some s[i] := List.getElem?_eq_getElem hlt
    have ht : s.take (i + 1) = s.take i ++ [s[i]] := by rw [List.take_succ_eq_append_getElem hlt]
    have hm : s[i] ∈ s := List.getElem_mem hlt
    have bad : lowB s[i] = false → s.all lowB = false := fun h => List.all_eq_false.2 ⟨s[i], hm, by simp [h]⟩
    by_cases h1 : (s[i].toNat : Int) < 97
    · simp -implicitDefEqProofs [hlt, h1]
      refine hR _ ?_; exact .inr ⟨bad (by simp [lowB, h1]), rfl, by simp, rfl⟩
    · by_cases h2 : 122 < (s[i].toNat : Int)
      · simp -implicitDefEqProofs [hlt, h1, h2]
        refine hR _ ?_; exact .inr ⟨bad (by simp [lowB, h2]), rfl, by simp, rfl⟩
      · simp -implicitDefEqProofs [hlt, h1, h2, hw]
        refine hI _ _ _ (n - 1) (by omega) ?_; exact ⟨i + 1, by omega, by simp, by rw [ht, List.all_append, hall]; simp [lowB, h1, h2]⟩
  · have : s.take i = s := List.take_of_length_le (by omega)
    rw [this] at hall
    simp -implicitDefEqProofs [hlt]
    refine hX _ _ ?_; exact .inl ⟨hall, rfl, by simp, rfl, rfl⟩

theorem rKey {s : List UInt8} (hs : Small s) (H : AHeap) : call T 32 [.str s] H = some (.bool (keyB s), H) := by
  rw [call_at (show T 32 = some (.ir ⟨_, _, _, _, _⟩) from T32)]
  obtain ⟨x, ⟨e, l, K⟩, h, ⟨ha, rfl, h1, h2, h3⟩ | ⟨ha, rfl, h1, h2⟩⟩ := key_loop' hs H.top
  · simp only at h1 h2 h3
    subst h2 h3
    by_cases h5 : s = []
    · subst h5; simp -implicitDefEqProofs [h, h1, fin_pure, keyB]
    · have h8 : (1 : Int) ≤ s.length := by have := List.length_pos_iff.2 h5; omega
      by_cases h6 : s.length ≤ 8
      · have h7 : (s.length : Int) ≤ 8 := by omega
        simp -implicitDefEqProofs [h, h1, fin_pure, keyB, ha, h5, h6, h7, h8]
      · have h7 : ¬ (s.length : Int) ≤ 8 := by omega
        simp -implicitDefEqProofs [h, h1, fin_pure, keyB, ha, h5, h6, h7, h8]
  · simp only at h1 h2
    subst h2
    simp -implicitDefEqProofs [h, h1, fin_pure, keyB, ha]

theorem less_total : ∀ a b : List UInt8, (bytesLess a b || a == b) = !bytesLess b a
  | [], [] => rfl
  | [], _ :: _ => rfl
  | _ :: _, [] => rfl
  | a :: x, b :: y => by
    simp only [bytesLess]
    have ih := less_total x y
    by_cases h1 : a < b
    · have h2 : ¬ b < a := fun h => absurd (UInt8.lt_trans h1 h) (UInt8.lt_irrefl a)
      have h3 : ¬ a = b := fun h => by subst h; exact absurd h1 (UInt8.lt_irrefl a)
      have h4 : ¬ b = a := fun h => h3 h.symm
      simp [h1, h2, h3, h4]
    · by_cases h2 : b < a
      · have h3 : ¬ a = b := fun h => by subst h; exact absurd h2 (UInt8.lt_irrefl a)
        simp [h1, h2, h3]
      · have h3 : a = b := UInt8.le_antisymm (UInt8.not_lt.1 h2) (UInt8.not_lt.1 h1)
        subst h3
        simp [h1] at ih ⊢
        rw [← ih]

theorem gtr_less (a b : List UInt8) : (!bytesLess a b && !(a == b)) = bytesLess b a := by rw [← Bool.not_or, less_total]; simp

/-- A span's texts. -/
def rightB (f t : List UInt8) : Bool := keyB f && (t == [] || ((t == [123] || keyB t) && bytesLess f t))
theorem sRight {f t : List UInt8} (hf : Small f) (ht : Small t) (H : AHeap) : call T 33 [.agg [.str f, .str t]] H = some (.bool (rightB f t), H) := by
  rw [call_at (show T 33 = some (.ir ⟨_, _, _, _, _⟩) from T33)]
  by_cases h1 : keyB f = true
  · by_cases h2 : t = []
    · subst h2; simp -implicitDefEqProofs [sKey hf, fin_pure, rightB, h1]
    · by_cases h3 : t = [123]
      · subst h3; simp -implicitDefEqProofs [sKey hf, fin_pure, rightB, h1]
      · by_cases h4 : keyB t = true
        · simp -implicitDefEqProofs [sKey hf, sKey ht, fin_pure, rightB, h1, h2, h3, h4]
        · simp -implicitDefEqProofs [sKey hf, sKey ht, fin_pure, rightB, h1, h2, h3, h4]
  · simp -implicitDefEqProofs [sKey hf, fin_pure, rightB, h1]
theorem rRight {f t : List UInt8} (hf : Small f) (ht : Small t) (H : AHeap) : call T 15 [.agg [.str f, .str t]] H = some (.bool (rightB f t), H) := by
  rw [call_at (show T 15 = some (.ir ⟨_, _, _, _, _⟩) from T15)]
  by_cases h1 : keyB f = true
  · by_cases h2 : t = []
    · subst h2; simp -implicitDefEqProofs [rKey hf, rKey ht, fin_pure, rightB, h1]
    · by_cases h4 : keyB t = true
      · have h5 : t.isEmpty = false := by simpa using h2
        simp -implicitDefEqProofs [rKey hf, rKey ht, fin_pure, rightB, h1, h2, h4, h5, gtr_less]
      · by_cases h3 : t = [123]
        · subst h3; simp -implicitDefEqProofs [rKey hf, rKey ht, fin_pure, rightB, h1, h4, gtr_less]
        · simp -implicitDefEqProofs [rKey hf, rKey ht, fin_pure, rightB, h1, h2, h3, h4]
  · simp -implicitDefEqProofs [rKey hf, rKey ht, fin_pure, rightB, h1]

/-- Has a span a key? -/
def hasB (f t k : List UInt8) : Bool := rightB f t && (keyB k && if t = [] then k == f else (!bytesLess k f && bytesLess k t))
theorem sHas {f t k : List UInt8} (hf : Small f) (ht : Small t) (hk : Small k) (H : AHeap) : call T 34 [.agg [.str f, .str t], .str k] H = some (.bool (hasB f t k), H) := by
  rw [call_at (show T 34 = some (.ir ⟨_, _, _, _, _⟩) from T34)]
  by_cases h1 : rightB f t = true
  · by_cases h2 : keyB k = true
    · by_cases h3 : t = []
      · subst h3; simp -implicitDefEqProofs [sRight hf ht, sKey hk, fin_pure, hasB, h1, h2]
      · have h4 := less_total f k
        by_cases h5 : bytesLess k f = true
        · simp -implicitDefEqProofs [sRight hf ht, sKey hk, fin_pure, hasB, h1, h2, h3, h4, h5]
        · simp -implicitDefEqProofs [sRight hf ht, sKey hk, fin_pure, hasB, h1, h2, h3, h4, h5]
    · simp -implicitDefEqProofs [sRight hf ht, sKey hk, fin_pure, hasB, h1, h2]
  · simp -implicitDefEqProofs [sRight hf ht, sKey hk, fin_pure, hasB, h1]
theorem rHas {f t k : List UInt8} (hf : Small f) (ht : Small t) (hk : Small k) (H : AHeap) : call T 35 [.agg [.str f, .str t], .str k] H = some (.bool (hasB f t k), H) := by
  rw [call_at (show T 35 = some (.ir ⟨_, _, _, _, _⟩) from T35)]
  by_cases h1 : rightB f t = true
  · by_cases h2 : keyB k = true
    · by_cases h3 : t = []
      · subst h3; simp -implicitDefEqProofs [rRight hf ht, rKey hk, fin_pure, hasB, h1, h2]
      · by_cases h5 : bytesLess k f = true
        · simp -implicitDefEqProofs [rRight hf ht, rKey hk, fin_pure, hasB, h1, h2, h3, h5]
        · simp -implicitDefEqProofs [rRight hf ht, rKey hk, fin_pure, hasB, h1, h2, h3, h5]
    · by_cases h3 : t = []
      · subst h3; simp -implicitDefEqProofs [rRight hf ht, rKey hk, fin_pure, hasB, h1, h2]
      · simp -implicitDefEqProofs [rRight hf ht, rKey hk, fin_pure, hasB, h1, h2, h3]
  · by_cases h3 : t = []
    · subst h3; simp -implicitDefEqProofs [rRight hf ht, rKey hk, fin_pure, hasB, h1]
    · simp -implicitDefEqProofs [rRight hf ht, rKey hk, fin_pure, hasB, h1, h3]

/-- Have two a key in common? -/
def meetB (f t f' t' : List UInt8) : Bool := rightB f t && (rightB f' t' && (hasB f t f' || hasB f' t' f))
theorem sMeet {f t f' t' : List UInt8} (hf : Small f) (ht : Small t) (hf' : Small f') (ht' : Small t') (H : AHeap) : call T 36 [.agg [.str f, .str t], .agg [.str f', .str t']] H = some (.bool (meetB f t f' t'), H) := by
  rw [call_at (show T 36 = some (.ir ⟨_, _, _, _, _⟩) from T36)]
  by_cases h1 : rightB f t = true
  · by_cases h2 : rightB f' t' = true
    · by_cases h3 : hasB f t f' = true
      · simp -implicitDefEqProofs [sRight hf ht, sRight hf' ht', sHas hf ht hf', sHas hf' ht' hf, fin_pure, meetB, h1, h2, h3]
      · simp -implicitDefEqProofs [sRight hf ht, sRight hf' ht', sHas hf ht hf', sHas hf' ht' hf, fin_pure, meetB, h1, h2, h3]
    · simp -implicitDefEqProofs [sRight hf ht, sRight hf' ht', sHas hf ht hf', sHas hf' ht' hf, fin_pure, meetB, h1, h2]
  · simp -implicitDefEqProofs [sRight hf ht, sRight hf' ht', sHas hf ht hf', sHas hf' ht' hf, fin_pure, meetB, h1]
theorem rMeet {f t f' t' : List UInt8} (hf : Small f) (ht : Small t) (hf' : Small f') (ht' : Small t') (H : AHeap) : call T 17 [.agg [.str f, .str t], .agg [.str f', .str t']] H = some (.bool (meetB f t f' t'), H) := by
  rw [call_at (show T 17 = some (.ir ⟨_, _, _, _, _⟩) from T17)]
  by_cases h1 : rightB f t = true
  · by_cases h2 : rightB f' t' = true
    · by_cases h3 : hasB f t f' = true
      · simp -implicitDefEqProofs [rRight hf ht, rRight hf' ht', rHas hf ht hf', rHas hf' ht' hf, fin_pure, meetB, h1, h2, h3]
      · simp -implicitDefEqProofs [rRight hf ht, rRight hf' ht', rHas hf ht hf', rHas hf' ht' hf, fin_pure, meetB, h1, h2, h3]
    · simp -implicitDefEqProofs [rRight hf ht, rRight hf' ht', rHas hf ht hf', rHas hf' ht' hf, fin_pure, meetB, h1, h2]
  · simp -implicitDefEqProofs [rRight hf ht, rRight hf' ht', rHas hf ht hf', rHas hf' ht' hf, fin_pure, meetB, h1]
end Go.Proofs.Ytdnnpgmekbnlbaa
