/- Latches, as they stand in the heap; what find, Free and Claims tell. No condition. -/
import Derived.Test.YtglfchdpcididaaC11S11
set_option linter.unusedVariables false
set_option linter.unusedSimpArgs false
namespace Go.Proofs.Ytglfchdpcididaa
open Go.Wam

attribute [local simp] den_seq den_region den_regionD0 den_regionD1 den_condB condB_bool den_block den_keep den_ret den_skip den_exit sops_cons sops_nil sopsR_cons sopsR_nil goR_eq readOk trace_cons trace_nil Opd.ev evs Go.Wam.look St.put enterA zipI leaveR_ret leaveR_normal rvs RV.ev
  st_guard guardB_bool st_move st_pick pickB_bool st_allocL st_alloc st_boxL st_box st_build st_buildSlice st_load st_store st_nilCheck nilC st_bin st_un st_convI convI st_convS convS st_convB convB st_mkIface st_mkFunc st_mkMap st_mkSlice mkSl st_slice st_fieldAddr fldA st_field fldV st_idx idxS_slice idxS_oslice st_idxArr idxArr st_idxStr idxStr st_idxAgg idxAgg st_extract extA st_call callA_func st_len st_lenStr lenStr st_lenArr st_lenMap st_append st_clear clearV st_maxs st_mins
  load_ptr load_lptr storeA rd wr goOn_normal goOn_exit goOn_ret outBlock_normal outBlock_exit outBlock_ret prune freeL_nil freeL_cons frV_lptr frV_tuple frV_noL fillA allNoL packA unA checkAt ev_load wantedA beq_same beqL_same AV.beq AV.beqL drawCond freshD readsOk isRead undefA optInt optIntO
  strOp aeqF_nil aeqF_cons andA_some i_add i_sub i_mul i_lss i_leq i_gtr i_geq i_quo i_rem i_eql i_neq s_eql s_neq s_lss
  s_leq s_gtr s_geq s_add e_bool n_bool e_nilp n_nilp e_ptr n_ptr e_lptr n_lptr e_agg n_agg
  e_nils n_nils e_slice n_slice e_oslice n_oslice e_eslice n_eslice e_xslice n_xslice e_nilm n_nilm e_map n_map
  e_nilFunc n_nilFunc e_func n_func q_int q_bool q_str q_struct q_ptr0 q_ptrL0 q_ptrR0 q_ptrL1 q_ptrR1 q_slice0
  q_sliceL0 q_sliceR0 q_sliceL1 q_sliceR1 q_sliceL2 q_sliceR2 q_sliceL3 q_sliceR3 q_map0 q_mapL0 q_mapR0 q_func0 q_funcL0 q_funcR0
  okR_some guardB_tuple get_alloc_eq rdAt_alloc_eq set_alloc_eq set_alloc_ne get_alloc_ne rdAt_alloc_ne
structure Cl where
  n : Int
  x : List Sp
  w : Bool
def collC (a b : Cl) : Bool := collB a.x a.w b.x b.w
/-- How many came ahead that collide with the claim at a place. -/
def aheadC (L : List Cl) (i : Nat) : Nat :=
  match L[i]? with
  | some a => (L.take i).countP (collC a)
  | none => 0
def findI (L : List Cl) (n : Int) : Int :=
  match L.findIdx? (fun a => decide (a.n = n)) with
  | some i => i
  | none => -1

/-- Latches, with the list that holds them, and where the claims lie. -/
structure LatX (H : AHeap) (l : Nat) (L : List Cl) (F : List Nat) (v : AV) (ids : List Nat) : Prop where
  obj : H.get l = some (.row false 1 [v])
  own : Own H 1 v (ids.map fun c => [.ptr c 0])
  il : ids.length = L.length
  each : ∀ i a, L[i]? = some a → ∃ c xv, ids[i]? = some c ∧ H.get c = some (clObj a.n xv a.w (aheadC L i)) ∧ Sps H xv a.x ∧ (0 < a.x.length → sid xv ∉ l :: (sown v ++ ids) ∧ sid xv ∈ F)
  nd : (l :: (sown v ++ ids)).Nodup
  sub : ∀ i ∈ l :: (sown v ++ ids), i ∈ F
  lt : ∀ i ∈ F, i < H.n
  many : L.length < 4611686018427387904
def LatRep (H : AHeap) (l : Nat) (L : List Cl) (F : List Nat) : Prop := ∃ v ids, LatX H l L F v ids

section
variable {H K : AHeap} {l : Nat} {L : List Cl} {F G ids : List Nat} {v : AV}
theorem LatX.chg (hw : H.wf) (h : LatX H l L F v ids) (c : Chg G H K) (hf : ∀ i ∈ F, i ∉ G) : LatX K l L F v ids where
  obj := by rw [c.get l (h.lt _ (h.sub _ (by simp))) (hf _ (h.sub _ (by simp)))]; exact h.obj
  own := h.own.chg hw c fun i hi => hf _ (h.sub _ (by simp [hi]))
  il := h.il
  each := fun i a ha => by
    obtain ⟨c', xv, h1, h2, h3, h4⟩ := h.each i a ha
    refine ⟨c', xv, h1, ?_, h3.chg hw c fun hr => hf _ (h4 hr).2, h4⟩
    have hm : c' ∈ F := h.sub _ (by simp [List.mem_of_getElem? h1])
    rw [c.get c' (h.lt _ hm) (hf _ hm)]; exact h2
  nd := h.nd
  sub := h.sub
  lt := fun i hi => Nat.lt_of_lt_of_le (h.lt i hi) c.le
  many := h.many
theorem LatRep.chg (hw : H.wf) (h : LatRep H l L F) (c : Chg G H K) (hf : ∀ i ∈ F, i ∉ G) : LatRep K l L F := by
  obtain ⟨v, ids, h⟩ := h; exact ⟨v, ids, h.chg hw c hf⟩
theorem LatX.top (h : LatX H l L F v ids) : LatX H.top l L F v ids := ⟨h.obj, h.own.frame fun _ _ => rfl, h.il, fun i a ha => by
  obtain ⟨c, xv, h1, h2, h3, h4⟩ := h.each i a ha; exact ⟨c, xv, h1, h2, h3.top, h4⟩, h.nd, h.sub, h.lt, h.many⟩
theorem LatRep.top (h : LatRep H l L F) : LatRep H.top l L F := by obtain ⟨v, ids, h⟩ := h; exact ⟨v, ids, h.top⟩

theorem sNew : ∃ K, call T 29 [] H = some (.ptr H.n 0, K) ∧ K = H.alloc (.row false 1 [.nils]) ∨ ¬ H.low ≤ H.n := by
  by_cases hl : H.low ≤ H.n
  · refine ⟨_, .inl ⟨?_, rfl⟩⟩
    rw [call_at (show T 29 = some (.ir ⟨_, _, _, _, _⟩) from T29)]
    simp -implicitDefEqProofs [fin_alloc hl]
  · exact ⟨H, .inr hl⟩

theorem LatRep.empty (hok : H.ok) : LatRep (H.alloc (.row false 1 [.nils])) H.n [] [H.n] :=
  ⟨.nils, [], ⟨get_alloc_same _ _, .nil _ _, rfl, fun i a h => by simp at h, by simp, by simp, by simp, by simp⟩⟩

theorem s67 {b c : Nat} {m n ah : Int} {xv : AV} {w : Bool} (hb : H.get b = some (.row false 1 [.int .i64 n])) (hc : H.get c = some (clObj m xv w ah)) :
    call T 67 [.ptr c 0, .ptr b 0] H = some (.bool (decide (m = n)), H) := by
  rw [call_at (show T 67 = some (.ir ⟨_, _, _, _, _⟩) from T67)]
  simp -implicitDefEqProofs [rdAt_row hb, rdAt_row hc, fin_pure]

theorem findIdx_congr {α β : Type} {p : α → Bool} {q : β → Bool} : ∀ (xs : List α) (ys : List β), xs.length = ys.length → (∀ (i : Nat) (x : α) (y : β), xs[i]? = some x → ys[i]? = some y → p x = q y) → xs.findIdx? p = ys.findIdx? q
  | [], [], _, _ => rfl
  | [], _ :: _, h, _ => by simp at h
  | _ :: _, [], h, _ => by simp at h
  | x :: xs, y :: ys, h, hp => by
    have ih := findIdx_congr (p := p) (q := q) xs ys (by simpa using h) (fun i a b ha hb => hp (i + 1) a b (by simpa using ha) (by simpa using hb))
    have h0 := hp 0 x y rfl rfl
    rw [List.findIdx?_cons, List.findIdx?_cons, h0, ih]

def numAt (H : AHeap) (r : List AV) : Option Int :=
  match r with
  | [.ptr c _] => (match H.rdAt c false 1 0 with
    | some (.int _ n) => some n
    | _ => none)
  | _ => none

theorem LatX.find (hok : H.ok) (h : LatX H l L F v ids) (n : Int) : call T 53 [.ptr l 0, .int .i64 n] H = some (.int .i64 (findI L n), H) := by
  rw [call_at (show T 53 = some (.ir ⟨_, _, _, _, _⟩) from T53)]
  have hw : H.top.wf := hok.1
  have hX := h.top.chg hw (Chg.alloc H.top (.row false 1 [.int .i64 n])) (fun _ _ => by simp)
  have e := indexFunc (T := T) (agg := false) (g := 67) (fs := []) (cap := [.ptr H.n 0]) (p := fun r => decide (numAt H r = some n)) T66 (by omega) (by simp) hX.own.view (by rw [List.length_map, h.il]; have := h.many; omega)
    (fun r hr => by
      obtain ⟨c, hc, rfl⟩ := List.mem_map.1 hr
      obtain ⟨i, hi, rfl⟩ := List.mem_iff_getElem.1 hc
      have hiL : i < L.length := by rw [← h.il]; exact hi
      obtain ⟨c', xv, h1, h2, _⟩ := h.each i L[i] (List.getElem?_eq_getElem hiL)
      rw [List.getElem?_eq_getElem hi] at h1
      cases h1
      have h3 : numAt H [.ptr ids[i] 0] = some L[i].n := by simp [numAt, rdAt_row h2, rd]
      rw [h3]
      have := s67 (H := ((H.top.alloc (.row false 1 [.int .i64 n])).top)) (b := H.n) (get_alloc_same H.top _) (get_alloc_of (H := H.top) hw h2)
      simp only [el, Bool.false_eq_true, if_false, List.headD_cons, List.nil_append]
      rw [this]
      simp) (fun r hr => by obtain ⟨c, hc, rfl⟩ := List.mem_map.1 hr; rfl)
  have hl := rdAt_alloc_of (H := H.top) (x := .row false 1 [.int .i64 n]) hw h.obj
  have hn := h.own.view.noL
  have e2 : idxB (fun r => decide (numAt H r = some n)) (ids.map fun c => [.ptr c 0]) = findI L n := by
    unfold idxB findI
    rw [List.findIdx?_map]
    have e3 := findIdx_congr (p := (fun r => decide (numAt H r = some n)) ∘ fun c => [.ptr c 0]) (q := fun a : Cl => decide (a.n = n)) ids L h.il (fun i c a h1 h2 => by
      obtain ⟨c', xv, h3, h4, _⟩ := h.each i a h2
      rw [h1] at h3
      cases h3
      simp [numAt, rdAt_row h4, rd])
    rw [e3]
    rfl
  rw [e2] at e
  simp -implicitDefEqProofs [hl, hn, e, fin_drop]

def freeP (L : List Cl) (n : Int) : Bool :=
  match L.findIdx? (fun a => decide (a.n = n)) with
  | some i => decide (aheadC L i = 0)
  | none => false

theorem LatX.free (hok : H.ok) (h : LatX H l L F v ids) (n : Int) : call T 35 [.ptr l 0, .int .i64 n] H = some (.bool (freeP L n), H) := by
  rw [call_at (show T 35 = some (.ir ⟨_, _, _, _, _⟩) from T35)]
  have e := h.top.find (AHeap.ok.top hok.1) n
  unfold findI at e
  unfold freeP
  cases hf : L.findIdx? (fun a => decide (a.n = n)) with
  | none => rw [hf] at e; simp -implicitDefEqProofs [e, fin_pure]
  | some i =>
    rw [hf] at e
    simp only at e
    have hi := (List.findIdx?_eq_some_iff_getElem.1 hf).1
    have hi2 : i < ids.length := by rw [h.il]; exact hi
    obtain ⟨c, xv, h1, h2, _⟩ := h.each i L[i] (List.getElem?_eq_getElem hi)
    have hv := h.own.view
    have e1 := hv.idx .i64 (n := i) (by omega) (by rw [List.length_map]; omega)
    have e2 := hv.rd (i := i) (r := [.ptr c 0]) (by rw [List.getElem?_map, h1]; rfl) false (k := 1) (f := 0) (by omega) (by omega) (by simp)
    simp only [Int.toNat_natCast, Nat.add_zero, Nat.mul_one] at e1 e2
    by_cases h0 : aheadC L i = 0
    · rw [h0] at h2
      simp -implicitDefEqProofs [e, e1, e2, rdAt_row h.obj, rdAt_row h2, h0, fin_pure]
    · simp -implicitDefEqProofs [e, e1, e2, rdAt_row h.obj, rdAt_row h2, h0, fin_pure]
end
end Go.Proofs.Ytglfchdpcididaa
