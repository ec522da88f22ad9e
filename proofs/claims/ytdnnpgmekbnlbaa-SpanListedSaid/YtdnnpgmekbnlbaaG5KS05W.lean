/- The document's Keys. No condition. -/
import Derived.Test.YtdnnpgmekbnlbaaG5KS05V
set_option linter.unusedVariables false
set_option linter.unusedSimpArgs false
namespace Go.Proofs.Ytdnnpgmekbnlbaa
open Go.Wam

attribute [local simp] den_seq den_region den_regionD0 den_regionD1 den_condB condB_bool den_block den_keep den_ret den_skip den_exit sops_cons sops_nil sopsR_cons sopsR_nil goR_eq readOk trace_cons trace_nil Opd.ev evs Go.Wam.look St.put enterA zipI leaveR_ret leaveR_normal rvs RV.ev
  st_guard guardB_bool st_move st_pick pickB_bool st_allocL st_alloc st_boxL st_box st_build st_buildSlice st_load st_store st_nilCheck nilC st_bin st_un st_convI convI st_convS convS st_convB convB st_mkIface st_mkFunc st_mkMap st_mkSlice mkSl st_slice st_fieldAddr fldA st_field fldV st_idx idxS_slice idxS_oslice st_idxArr idxArr st_idxStr idxStr st_idxAgg idxAgg st_extract extA st_call callA_func st_len st_lenStr lenStr st_lenArr st_lenMap st_append st_clear clearV st_maxs st_mins
  load_ptr load_lptr storeA rd wr goOn_normal goOn_exit goOn_ret outBlock_normal outBlock_exit outBlock_ret prune freeL_nil freeL_cons frV_lptr frV_tuple frV_noL fillA allNoL packA unA checkAt ev_load wantedA beq_same beqL_same AV.beq AV.beqL drawCond freshD readsOk isRead undefA optInt optIntO
  strOp aeqF_nil aeqF_cons andA_some i_add i_sub i_mul i_lss i_leq i_gtr i_geq i_quo i_rem i_eql i_neq s_eql s_neq s_lss
  s_leq s_gtr s_geq s_add e_bool n_bool e_nilp n_nilp e_ptr n_ptr e_lptr n_lptr e_agg n_agg
  e_nils n_nils e_slice n_slice e_oslice n_oslice e_eslice n_eslice e_xslice n_xslice e_nilm n_nilm e_map n_map
  e_nilFunc n_nilFunc e_func n_func q_int q_bool q_str q_struct q_ptr0 q_ptrL0 q_ptrR0 q_ptrL1 q_ptrR1 q_slice0
  q_sliceL0 q_sliceR0 q_sliceL1 q_sliceR1 q_sliceL2 q_sliceR2 q_sliceL3 q_sliceR3 q_map0 q_mapL0 q_mapR0 q_func0 q_funcL0 q_funcR0
  okR_some guardB_tuple get_alloc_eq rdAt_alloc_eq set_alloc_eq set_alloc_ne get_alloc_ne rdAt_alloc_ne
theorem own_cutv {H : AHeap} {v : AV} {rows : List (List AV)} {sz i : Nat} (h : Own H sz v rows) (hi : i ≤ rows.length) :
    ∃ u, sliceA (.slice sz) v i none none = some u ∧ View H sz u (rows.drop i) := by
  obtain ⟨he, ⟨rfl | ⟨id, rfl⟩, rfl⟩ | ⟨id, kc, rest, rfl, hk, hkr, hg⟩⟩ := h
  · have : i = 0 := by simpa using hi
    subst this
    exact ⟨.nils, by simp [sliceA, inB], rfl, rfl, he, fun h => by simp at h⟩
  · have : i = 0 := by simpa using hi
    subst this
    exact ⟨.slice id 0 0 0, by simp [sliceA, inB], by simp [AV.sl], rfl, he, fun h => by simp at h⟩
  have hin : inB rows.length kc i none none = true := by simp [inB]; omega
  have hfl : rows.flatten.length = rows.length * sz := flatten_len he
  have hsp : (rows.take i).flatten.length = i * sz := by
    rw [flatten_len (sz := sz) (fun r hr => he r (List.mem_of_mem_take hr)), List.length_take, Nat.min_eq_left (by omega)]
  have hsd : (rows.drop i).flatten.length = (rows.length - i) * sz := by
    rw [flatten_len (sz := sz) (fun r hr => he r (List.mem_of_mem_drop hr)), List.length_drop]
  have hcut : rows.flatten = (rows.take i).flatten ++ (rows.drop i).flatten := by rw [← List.flatten_append, List.take_append_drop]
  by_cases hlt : i < kc
  · refine ⟨.oslice id (0 + i * sz) (rows.length - i) (kc - i) sz, by simp [sliceA, hin, hlt], ⟨?_, by simp, fun r hr => he r (List.mem_of_mem_drop hr), fun _ => ⟨false, sz, _, hg, ?_, ?_⟩⟩⟩
    · simp [AV.sl]; omega
    · rw [soff_oslice, List.length_drop, List.length_append, hfl]
      have : i * sz + (rows.length - i) * sz = rows.length * sz := by rw [← Nat.add_mul]; congr 1; omega
      omega
    · rw [soff_oslice, Nat.zero_add, hcut, List.append_assoc, ← hsp, List.drop_left, List.length_drop, ← hsd, List.take_left]
  · have hn : rows.drop i = [] := List.drop_of_length_le (by omega)
    refine ⟨.eslice id 0 i sz, by simp [sliceA, hin, hlt], ?_⟩
    rw [hn]
    exact ⟨rfl, rfl, fun r hr => (by cases hr), fun h => (by simp at h)⟩
theorem own_headv {H : AHeap} {v : AV} {rows : List (List AV)} {sz i : Nat} (h : Own H sz v rows) (hi : i ≤ rows.length) :
    ∃ u, sliceA (.slice sz) v 0 (some i) none = some u ∧ View H sz u (rows.take i) := by
  by_cases hlt : i < rows.length
  · exact own_takev h hlt
  · have hil : i = rows.length := by omega
    obtain ⟨he, ⟨rfl | ⟨id, rfl⟩, rfl⟩ | ⟨id, kc, rest, rfl, hk, hkr, hg⟩⟩ := id h
    · subst hil
      exact ⟨.nils, by simp [sliceA, inB], rfl, rfl, he, fun h => by simp at h⟩
    · subst hil
      exact ⟨.slice id 0 0 0, by simp [sliceA, inB], by simp [AV.sl], rfl, he, fun h => by simp at h⟩
    · rw [hil, List.take_length]
      by_cases h0 : 0 < kc
      · exact ⟨.oslice id 0 rows.length kc sz, by simp [sliceA, inB, h0]; omega, h.view⟩
      · have : rows = [] := List.length_eq_zero_iff.1 (by omega)
        subst this
        exact ⟨.eslice id 0 0 sz, by simp [sliceA, inB, h0], rfl, rfl, he, fun h => by simp at h⟩

section
variable {H : AHeap} {lv ov : AV} {l o : List (List UInt8)} {f t : List UInt8} {i : Nat} {b : Bool}
theorem rk_in (hV : View H 1 lv (l.map sR)) (hO : View H 1 ov (o.map sR)) (hi : i < l.length) (ho : o.length ≤ 1000000) (hl : l.length ≤ 1000000) :
    ∃ z s', den T (.loop L39_0) ⟨[(1, lv), (2, .lptr 2 0), (5, ov), (6, .int .i64 i), (7, .bool b), (8, .int .i64 0)], [(2, [.str f, .str t])], H⟩ = some (z, s') ∧
      z = .exit 2 ∧ ∃ k, k ≤ o.length ∧ (∀ a ∈ o.take k, bytesLess a l[i] = true) ∧ (∀ h : k < o.length, bytesLess o[k] l[i] = false) ∧ s'.H = H ∧ Go.Wam.look 1 s'.env = some lv ∧ Go.Wam.look 2 s'.env = some (.lptr 2 0) ∧ Go.Wam.look 5 s'.env = some ov ∧ Go.Wam.look 6 s'.env = some (.int .i64 i) ∧
        Go.Wam.look 7 s'.env = some (.bool b) ∧ Go.Wam.look 8 s'.env = some (.int .i64 k) ∧ Go.Wam.look 2 s'.loc = some [.str f, .str t] := by
  refine loop_inv (I := fun m st => ∃ k : Nat, k + m = o.length ∧ st = ⟨[(1, lv), (2, .lptr 2 0), (5, ov), (6, .int .i64 i), (7, .bool b), (8, .int .i64 k)], [(2, [.str f, .str t])], H⟩ ∧ (∀ a ∈ o.take k, bytesLess a l[i] = true)) _ ?_ o.length _ ⟨0, by omega, by simp [prS], by simp⟩
  rintro m _ ⟨k, hk, rfl, hall⟩ P hI hX hR
  have e0 := hO.lenS
  rw [List.length_map] at e0
  have hon := hO.noL
  have hvn := hV.noL
  have r4 : ∀ s, rd false 1 0 (sR s) = some (.str s) := fun _ => rfl
  have e3 := hV.idx .i64 (n := i) (by omega) (by rw [List.length_map]; omega)
  have e4 := hV.rd (i := i) (r := sR l[i]) (by rw [List.getElem?_map, List.getElem?_eq_getElem hi]; rfl) false (k := 1) (f := 0) (by omega) (by omega) (by simp)
  rw [r4] at e4
  simp only [Int.toNat_natCast, Nat.add_zero, Nat.mul_one] at e3 e4
  by_cases hlt : k < o.length
  · have hw := wrap_id (n := (k : Int) + 1) (by omega) (by omega)
    have e1 := hO.idx .i64 (n := k) (by omega) (by rw [List.length_map]; omega)
    have e2 := hO.rd (i := k) (r := sR o[k]) (by rw [List.getElem?_map, List.getElem?_eq_getElem hlt]; rfl) false (k := 1) (f := 0) (by omega) (by omega) (by simp)
    rw [r4] at e2
    simp only [Int.toNat_natCast, Nat.add_zero, Nat.mul_one] at e1 e2
    cases hb : bytesLess o[k] l[i] with
    | true =>
      have ht : ∀ a ∈ o.take (k + 1), bytesLess a l[i] = true := fun a ha => by
        rw [List.take_succ_eq_append_getElem hlt, List.mem_append, List.mem_singleton] at ha
        rcases ha with ha | ha
        · exact hall a ha
        · rw [ha]; exact hb
      generalize hx : l[i] = x at *
      generalize hy : o[k] = y at *
      simp -implicitDefEqProofs [e0, hlt, hon, hvn, e1, e2, e3, e4, hb, hw]
      refine hI _ _ _ (m - 1) (by omega) ?_
      exact ⟨k + 1, by omega, by simp, ht⟩
    | false =>
      have hend : ∀ h : k < o.length, bytesLess o[k] l[i] = false := fun _ => hb
      generalize hx : l[i] = x at *
      have hb' := hb
      generalize hy : o[k] = y at e2 hb'
      simp -implicitDefEqProofs [e0, hlt, hon, hvn, e1, e2, e3, e4, hb']
      refine hX _ _ ?_
      exact ⟨rfl, k, by omega, hall, hend, rfl, by simp, by simp, by simp, by simp, by simp, by simp, by simp⟩
  · simp -implicitDefEqProofs [e0, hlt, hon, hvn]
    refine hX _ _ ?_
    exact ⟨rfl, k, by omega, hall, fun h => absurd h hlt, rfl, by simp, by simp, by simp, by simp, by simp, by simp, by simp⟩
end
/-- One more. -/
theorem keys_ins {f t : List UInt8} {l o : List (List UInt8)} {i k : Nat} (hi : i < l.length) (h : KeysOf f t (l.take i) o) (hk : k ≤ o.length) (h1 : ∀ a ∈ o.take k, bytesLess a l[i] = true) (h2 : ∀ g : k < o.length, bytesLess o[k] l[i] = false) :
    KeysOf f t (l.take (i + 1)) (if hasB f t l[i] = true ∧ ∀ g : k < o.length, o[k] ≠ l[i] then o.take k ++ ([l[i]] ++ o.drop k) else o) := by
  have ht : l.take (i + 1) = l.take i ++ [l[i]] := List.take_succ_eq_append_getElem hi
  have hs : o = o.take k ++ o.drop k := (List.take_append_drop k o).symm
  rw [ht]
  split
  · rename_i hc
    obtain ⟨hh, hne⟩ := hc
    refine ⟨?_, fun s => ?_⟩
    · have ha := h.asc
      unfold Asc at ha ⊢
      rw [hs, List.pairwise_append] at ha
      rw [List.pairwise_append]
      have hd : ∀ c ∈ o.drop k, bytesLess l[i] c = true := fun c hc => by
        by_cases g : k < o.length
        · have h3 := h2 g
          have h4 : bytesLess l[i] o[k] = true := by
            cases h5 : bytesLess l[i] o[k] with
            | true => rfl
            | false => exact absurd (less_eq h3 h5) (hne g)
          rw [← List.getElem_cons_drop g] at hc
          rcases List.mem_cons.1 hc with e | e
          · rw [e]; exact h4
          · have hp := ha.2.1
            rw [← List.getElem_cons_drop g, List.pairwise_cons] at hp
            exact less_trans h4 (hp.1 c e)
        · rw [List.drop_of_length_le (by omega)] at hc; cases hc
      refine ⟨ha.1, ?_, ?_⟩
      · rw [List.singleton_append, List.pairwise_cons]; exact ⟨hd, ha.2.1⟩
      · intro a haM c hc
        rw [List.singleton_append, List.mem_cons] at hc
        rcases hc with e | e
        · rw [e]; exact h1 a haM
        · exact less_trans (h1 a haM) (hd c e)
    · have hm := h.mem s
      rw [List.mem_append, List.mem_append, List.mem_singleton, List.mem_append, List.mem_singleton]
      have hm2 : s ∈ o ↔ s ∈ o.take k ∨ s ∈ o.drop k := by conv => lhs; rw [hs, List.mem_append]
      rw [hm2] at hm
      constructor
      · rintro (e | e | e)
        · have := hm.1 (.inl e); exact ⟨.inl this.1, this.2⟩
        · exact ⟨.inr e, by rw [e]; exact hh⟩
        · have := hm.1 (.inr e); exact ⟨.inl this.1, this.2⟩
      · rintro ⟨e | e, g⟩
        · rcases hm.2 ⟨e, g⟩ with e | e
          · exact .inl e
          · exact .inr (.inr e)
        · exact .inr (.inl e)
  · rename_i hc
    refine ⟨h.asc, fun s => ?_⟩
    rw [h.mem s, List.mem_append, List.mem_singleton]
    refine ⟨fun ⟨a, b⟩ => ⟨.inl a, b⟩, fun ⟨a, b⟩ => ⟨?_, b⟩⟩
    rcases a with e | e
    · exact e
    · have hx : ¬ ∀ g : k < o.length, o[k] ≠ l[i] := fun hh => hc ⟨by rw [← e]; exact b, hh⟩
      have ⟨g, hg⟩ : ∃ g : k < o.length, o[k] = l[i] := by
        refine Classical.byContradiction fun hn => hx fun g hh => hn ⟨g, hh⟩
      have := (h.mem o[k]).1 (List.getElem_mem g)
      rw [e, ← hg]
      exact this.1
end Go.Proofs.Ytdnnpgmekbnlbaa
