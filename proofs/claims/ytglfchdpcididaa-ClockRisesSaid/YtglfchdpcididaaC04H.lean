/- Any script of one clock; the statements ClockHears and ClockCopies, in our machine. No condition. -/
import Derived.Test.YtglfchdpcididaaC04W
import Derived.Test.YtglfchdpcididaaAmV
set_option linter.unusedVariables false
set_option linter.unusedSimpArgs false
namespace Go.Proofs.Ytglfchdpcididaa
open Go.Wam

attribute [local simp] den_seq den_region den_regionD0 den_regionD1 den_condB condB_bool den_block den_keep den_ret den_skip den_exit sops_cons sops_nil sopsR_cons sopsR_nil goR_eq readOk trace_cons trace_nil Opd.ev evs Go.Wam.look St.put enterA zipI leaveR_ret leaveR_normal rvs RV.ev
  st_guard guardB_bool st_move st_pick pickB_bool st_allocL st_alloc st_boxL st_box st_build st_buildSlice st_load st_store st_nilCheck nilC st_bin st_un st_convI convI st_convS convS st_convB convB st_mkIface st_mkFunc st_mkMap st_mkSlice mkSl st_slice st_fieldAddr fldA st_field fldV st_idx idxS_slice idxS_oslice st_idxArr idxArr st_idxStr idxStr st_idxAgg idxAgg st_extract extA st_call callA_func st_len st_lenStr lenStr st_lenArr st_lenMap st_append st_clear clearV st_maxs st_mins
  load_ptr load_lptr storeA rd wr goOn_normal goOn_exit goOn_ret outBlock_normal outBlock_exit outBlock_ret prune freeL_nil freeL_cons frV_lptr frV_tuple frV_noL fillA allNoL packA unA checkAt ev_load wantedA beq_same beqL_same AV.beq AV.beqL drawCond freshD readsOk isRead undefA optInt optIntO
  strOp aeqF_nil aeqF_cons andA_some i_add i_sub i_mul i_lss i_leq i_gtr i_geq i_quo i_rem i_eql i_neq s_eql s_neq s_lss
  s_leq s_gtr s_geq s_add e_bool n_bool e_nilp n_nilp e_ptr n_ptr e_lptr n_lptr e_agg n_agg
  e_nils n_nils e_slice n_slice e_oslice n_oslice e_eslice n_eslice e_xslice n_xslice e_nilm n_nilm e_map n_map
  e_nilFunc n_nilFunc e_func n_func q_int q_bool q_str q_struct q_ptr0 q_ptrL0 q_ptrR0 q_ptrL1 q_ptrR1 q_slice0
  q_sliceL0 q_sliceR0 q_sliceL1 q_sliceR1 q_sliceL2 q_sliceR2 q_sliceL3 q_sliceR3 q_map0 q_mapL0 q_mapR0 q_func0 q_funcL0 q_funcR0
  okR_some guardB_tuple get_alloc_eq rdAt_alloc_eq set_alloc_eq set_alloc_ne get_alloc_ne rdAt_alloc_ne
structure CA where
  k : Int
  q : Int
  a : Int
  b : Int
def rowA (x : CA) : List AV := [.int .i64 x.k, .int .i64 x.q, .int .i64 x.a, .int .i64 x.b]
structure CS where
  p : Int
  w : Int
  l : Int
def topW : Int := 1099511627776
def actC (o : Int) (s : CS) (x : CA) : CS :=
  if x.k = 1 then (if s.p ≤ x.q ∧ x.q ≤ 1099511627776 then ⟨x.q, s.w, s.l⟩ else s) else
  if x.k = 2 then (match nowC s.p s.w s.l with | some r => ⟨s.p, r.1, r.2⟩ | none => s) else
  if x.k = 3 then (if rightS x.a x.b = true ∧ ¬ o < x.a - s.p ∧ ltS s.w s.l x.a x.b = true then ⟨s.p, x.a, x.b⟩ else s) else s
def CS.ok (s : CS) : Prop := 0 ≤ s.p ∧ s.p ≤ 1099511627776
theorem actC_ok {o : Int} {s : CS} (h : s.ok) (x : CA) : (actC o s x).ok := by
  unfold CS.ok actC at *
  (repeat' split) <;> simp_all <;> omega
def clkS (o : Int) (s : CS) : AObj := clk s.p o s.w s.l

theorem s28 {H : AHeap} (hok : H.ok) {c : Nat} {o : Int} {s : CS} (hs : s.ok) (hc : H.get c = some (clkS o s)) (x : CA) :
    ∃ K, call T 28 [.agg (rowA x), .ptr c 0] H = some (.tuple [], K) ∧ K.get c = some (clkS o (actC o s x)) ∧ Chg [c] H K := by
  have hn : c < H.n := AHeap.get_lt hc hok.1
  have hsome : (H.get c).isSome = true := by rw [hc]; rfl
  have hset : ∀ y, (H.set c y).get c = some y := fun y => get_set_same H y hsome
  have hc' : H.top.get c = some (clk s.p o s.w s.l) := hc
  have hn' : c < H.top.n := hn
  obtain ⟨k, q, a, b⟩ := x
  obtain ⟨p, w, l⟩ := s
  simp only [clkS] at *
  have e17 := s17 hc' hn' q
  have e19 := s19 hc' hn'
  have e21 := s21 hc' hn' hs a b
  simp only [encS] at e19 e21
  by_cases k1 : k = 1
  · subst k1
    by_cases h : p ≤ q ∧ q ≤ 1099511627776
    · rw [if_pos h] at e17
      refine ⟨H.set c (clk q o w l), ?_, by simp [actC, h, hset], .set _ _ _⟩
      rw [call_at (show T 28 = some (.ir ⟨_, _, _, _, _⟩) from T28)]
      simp -implicitDefEqProofs [rowA, e17, fin_set hn]
    · rw [if_neg h] at e17
      refine ⟨H, ?_, by simp [actC, h, hc], .refl _ _⟩
      rw [call_at (show T 28 = some (.ir ⟨_, _, _, _, _⟩) from T28)]
      simp -implicitDefEqProofs [rowA, e17, fin_pure]
  · by_cases k2 : k = 2
    · subst k2
      cases hnow : nowC p w l with
      | some r =>
        rw [hnow] at e19
        refine ⟨H.set c (clk p o r.1 r.2), ?_, by simp [actC, hnow, hset], .set _ _ _⟩
        rw [call_at (show T 28 = some (.ir ⟨_, _, _, _, _⟩) from T28)]
        simp -implicitDefEqProofs [rowA, e19, fin_set hn]
      | none =>
        rw [hnow] at e19
        refine ⟨H, ?_, by simp [actC, hnow, hc], .refl _ _⟩
        rw [call_at (show T 28 = some (.ir ⟨_, _, _, _, _⟩) from T28)]
        simp -implicitDefEqProofs [rowA, e19, fin_pure]
    · by_cases k3 : k = 3
      · subst k3
        by_cases h1 : rightS a b = true
        · by_cases h2 : o < a - p
          · rw [if_pos h1, if_pos h2] at e21
            refine ⟨H, ?_, by simp [actC, h2, hc], .refl _ _⟩
            rw [call_at (show T 28 = some (.ir ⟨_, _, _, _, _⟩) from T28)]
            simp -implicitDefEqProofs [rowA, e21, fin_pure]
          · rw [if_pos h1, if_neg h2] at e21
            by_cases h3 : ltS w l a b = true
            · rw [if_pos h3] at e21
              refine ⟨H.set c (clk p o a b), ?_, by simp [actC, h1, h2, h3, hset], .set _ _ _⟩
              rw [call_at (show T 28 = some (.ir ⟨_, _, _, _, _⟩) from T28)]
              simp -implicitDefEqProofs [rowA, e21, fin_set hn]
            · rw [if_neg h3] at e21
              refine ⟨H.set c (clk p o w l), ?_, by simp [actC, h3, hset], .set _ _ _⟩
              rw [call_at (show T 28 = some (.ir ⟨_, _, _, _, _⟩) from T28)]
              simp -implicitDefEqProofs [rowA, e21, fin_set hn]
        · rw [if_neg h1] at e21
          refine ⟨H, ?_, by simp [actC, h1, hc], .refl _ _⟩
          rw [call_at (show T 28 = some (.ir ⟨_, _, _, _, _⟩) from T28)]
          simp -implicitDefEqProofs [rowA, e21, fin_pure]
      · refine ⟨H, ?_, by simp [actC, k1, k2, k3, hc], .refl _ _⟩
        rw [call_at (show T 28 = some (.ir ⟨_, _, _, _, _⟩) from T28)]
        simp -implicitDefEqProofs [rowA, k1, k2, k3, fin_pure]

def runC (o : Int) (s : CS) (l : List CA) : CS := l.foldl (actC o) s
theorem runC_ok {o : Int} (l : List CA) : ∀ {s : CS}, s.ok → (runC o s l).ok := by
  induction l with
  | nil => exact fun h => h
  | cons x l ih => exact fun h => ih (actC_ok h x)
theorem runC_snoc (o : Int) (s : CS) (l : List CA) (x : CA) : runC o s (l ++ [x]) = actC o (runC o s l) x := by simp [runC]

def decA : List AV → CA
  | [.int _ k, .int _ q, .int _ a, .int _ b] => ⟨k, q, a, b⟩
  | _ => ⟨0, 0, 0, 0⟩
theorem acts_of {H : AHeap} {rows : List (List AV)} (h : ∀ r ∈ rows, IsC H actSh r) : ∃ xs : List CA, rows = xs.map rowA := by
  refine ⟨rows.map decA, ?_⟩
  rw [List.map_map]
  conv => lhs; rw [← List.map_id rows]
  refine List.map_congr_left fun r hr => ?_
  obtain ⟨k, p, w, g, rfl⟩ := act_cells (h r hr)
  rfl

/-- A clock that stands, and what else stood stays. -/
structure ClkAt (H K : AHeap) (F : List Nat) (c : Nat) (o : Int) (s : CS) : Prop where
  ok : K.ok
  get : K.get c = some (clkS o s)
  good : s.ok
  chg : Chg F H K
theorem ClkAt.step {H K : AHeap} (hok : H.ok) {F : List Nat} {c : Nat} {o : Int} {s : CS} (h : ClkAt H K F c o s) (hF : c ∈ F) (x : CA) :
    ∃ K', call T 28 [.agg (rowA x), .ptr c 0] K = some (.tuple [], K') ∧ ClkAt H K' F c o (actC o s x) := by
  obtain ⟨K', h1, h2, h3⟩ := s28 h.ok h.good h.get x
  exact ⟨K', h1, h3.ok h.ok, h2, actC_ok h.good x, h.chg.trans hok h3 (by simp [hF])⟩

section
variable {H K : AHeap} {v : AV} {xs : List CA} {c : Nat} {o : Int} {s : CS} {F : List Nat}
theorem loop5 (hok : H.ok) (hv : View H 4 v (xs.map rowA)) (hf : 0 < xs.length → sid v ∉ F) (hF : c ∈ F) (h : ClkAt H K F c o s) (f t : AV) :
    ∃ x s', den T (.loop L5_0) ⟨[(0, .int .i64 o), (1, v), (5, .lptr 5 0), (7, .ptr c 0), (9, .int .i64 0)], [(5, [f, t])], K⟩ = some (x, s') ∧
      x = .exit 0 ∧ Go.Wam.look 0 s'.env = some (.int .i64 o) ∧ Go.Wam.look 5 s'.env = some (.lptr 5 0) ∧ Go.Wam.look 7 s'.env = some (.ptr c 0) ∧ Go.Wam.look 5 s'.loc = some [f, t] ∧ ClkAt H s'.H F c o (runC o s (xs.take 100)) := by
  refine loop_inv (I := fun n st => ∃ (i : Nat) (K : AHeap), i + n = min 100 xs.length ∧ st = ⟨[(0, .int .i64 o), (1, v), (5, .lptr 5 0), (7, .ptr c 0), (9, .int .i64 i)], [(5, [f, t])], K⟩ ∧ ClkAt H K F c o (runC o s (xs.take i))) _ ?_ (min 100 xs.length) _ ⟨0, K, by omega, by simp [prS], by simpa [runC] using h⟩
  rintro n _ ⟨i, K, hi, rfl, hk⟩ P hI hX hR
  have hvK : View K 4 v (xs.map rowA) := hv.chg hok.1 hk.chg (by simpa using hf)
  by_cases hlt : i < min 100 xs.length
  · have hlt1 : i < xs.length := by omega
    have hlt2 : (i : Int) < 100 := by omega
    have hlt3 : (i : Int) < (xs.map rowA).length := by simpa using hlt1
    have hlt4 : (i : Int) < (xs.length : Int) := by omega
    have hw := wrap_id (n := (i : Int) + 1) (by omega) (by omega)
    have e0 := hvK.lenS
    have e1 := hvK.idx .i64 (n := i) (by omega) hlt3
    have e2 := hvK.rd (i := i) (r := rowA xs[i]) (by rw [List.getElem?_map, List.getElem?_eq_getElem hlt1]; rfl) true (k := 4) (f := 0) (by omega) (by omega) (by simp)
    obtain ⟨K', e3, hk'⟩ := hk.step hok hF xs[i]
    simp only [Int.toNat_natCast, Nat.add_zero, rowA, List.length_map] at e0 e1 e2 e3
    simp -implicitDefEqProofs [e0, e1, e2, e3, hlt1, hlt2, hw]
    refine hI _ _ _ (n - 1) (by omega) ?_
    refine ⟨i + 1, K', by omega, by simp, ?_⟩
    rw [List.take_succ_eq_append_getElem hlt1, runC_snoc]
    exact hk'
  · have hi' : i = min 100 xs.length := by omega
    have ht : xs.take i = xs.take 100 := by
      rw [hi']
      by_cases h1 : 100 ≤ xs.length
      · rw [Nat.min_eq_left h1]
      · rw [Nat.min_eq_right (by omega), List.take_length, List.take_of_length_le (by omega)]
    have e0 := hvK.lenS
    simp only [List.length_map] at e0
    rw [ht] at hk
    by_cases h1 : (i : Int) < xs.length
    · have h2 : ¬ (i : Int) < 100 := by omega
      have h3 : i < xs.length := by omega
      simp -implicitDefEqProofs [e0, h2, h3]
      refine hX _ _ ?_
      exact ⟨rfl, by simp, by simp, by simp, by simp, hk⟩
    · have h3 : ¬ i < xs.length := by omega
      simp -implicitDefEqProofs [e0, h3]
      refine hX _ _ ?_
      exact ⟨rfl, by simp, by simp, by simp, by simp, hk⟩
end

theorem ltS_trans {a b c d e f : Int} (h : ltS a b c d = true) (k : ltS c d e f = true) : ltS a b e f = true := by
  simp only [ltS, Bool.or_eq_true, Bool.and_eq_true, decide_eq_true_eq] at *; omega
theorem ltS_le_trans {a b c d e f : Int} (h : ltS c d a b = false) (k : ltS c d e f = true) : ltS a b e f = true := by
  simp only [ltS, Bool.or_eq_true, Bool.and_eq_true, decide_eq_true_eq, Bool.or_eq_false_iff, Bool.and_eq_false_iff, decide_eq_false_iff_not] at *; omega
theorem now_gt {p w l w' l' : Int} (h : nowC p w l = some (w', l')) : ltS w l w' l' = true ∧ p ≤ w' := by
  unfold nowC at h
  split at h
  · rename_i h1
    unfold nextC at h
    split at h
    · rename_i h2
      have h3 := h2.1
      simp only [rightS, Bool.and_eq_true, decide_eq_true_eq] at h3
      simp only [ltS, Bool.or_eq_true, Bool.and_eq_true, decide_eq_true_eq] at h1 ⊢
      split at h <;> (cases h; omega)
    · cases h
  · rename_i h1
    cases h
    simp only [ltS, Bool.or_eq_true, Bool.and_eq_true, decide_eq_true_eq] at h1 ⊢
    omega

theorem law_of {f : FuncId} {args : List AV} {H : AHeap} (h : OkR (call T f args H) fun r => r.1 = .bool true) : ∃ K, call T f args H = some (.bool true, K) := by
  obtain ⟨⟨v, K⟩, e, h⟩ := h
  simp only at h
  subst h
  exact ⟨K, e⟩

set_option maxRecDepth 8000 in
set_option maxHeartbeats 2000000 in
theorem n5 {H : AHeap} (hok : H.ok) {v : AV} {xs : List CA} (hv : View H 4 v (xs.map rowA)) (o a b : Int) : OkR (call T 5 [.int .i64 o, v, encS a b] H) fun r => r.1 = .bool true := by
  rw [call_at (show T 5 = some (.ir ⟨_, _, _, _, _⟩) from T5)]
  have a14 := s14 o H.top (Nat.le_refl _)
  have hnl := hv.noL
  by_cases ho : 0 ≤ o ∧ o ≤ 1099511627776
  · rw [if_pos ho] at a14
    have hok1 : H.top.ok := AHeap.ok.top hok.1
    have hch := Chg.alloc H.top (clk 0 o 0 0)
    obtain ⟨x, ⟨e, l, K⟩, h, rfl, h0, h5, h7, hl, hk⟩ := loop5 (H := H.top) (F := [H.n]) (c := H.n) (o := o) (s := ⟨0, 0, 0⟩) hok1 hv.top (fun hr => by have := hv.lt hok.1 (by simpa using hr); simp; omega) (by simp)
      ⟨hch.ok hok1, by simp [clkS], ⟨by simp, by simp⟩, hch.mono (by simp)⟩ (.int .i64 a) (.int .i64 b)
    simp only at h0 h5 h7 hl hk
    generalize runC o ⟨0, 0, 0⟩ (xs.take 100) = st at hk
    obtain ⟨p, w, m⟩ := st
    have hn : H.n < K.n := AHeap.get_lt hk.get hk.ok.1
    have hg : K.get H.n = some (clk p o w m) := hk.get
    have hsome : (K.get H.n).isSome = true := by rw [hg]; rfl
    have e24 := s24 hg
    have e23 := s23 hg
    have e21 := s21 hg hn hk.good a b
    have e26 : ∀ K, call T 26 [.agg [.int .i64 a, .int .i64 b]] K = some (.bool (rightS a b), K) := s26 a b
    have e25 : ∀ w l w' l' H, call T 25 [.agg [.int .i64 w, .int .i64 l], .agg [.int .i64 w', .int .i64 l']] H = _ := s25
    simp only [encS] at e24 e21
    have hp := hk.good
    simp only [CS.ok] at hp
    have hwo := wrap_id (n := p + o) (by omega) (by omega)
    by_cases h1 : rightS a b = true
    · rw [if_pos h1] at e21
      by_cases h2 : o < a - p
      · rw [if_pos h2] at e21
        have h3 : p + o < a := by omega
        simp -implicitDefEqProofs [encS, hnl, a14, h, h0, h5, h7, hl, e24, e23, e21, e26, h1, h3, hwo, s16]
      · rw [if_neg h2] at e21
        have h3 : ¬ p + o < a := by omega
        have fin5 : ∀ w' m', call T 21 [.ptr H.n 0, .agg [.int .i64 a, .int .i64 b]] K = some (AV.int .i64 0, K.set H.n (clk p o w' m')) → (∀ w2 m2, ltS w' m' w2 m2 = true → ltS a b w2 m2 = true ∧ ltS w m w2 m2 = true) → OkR (call T 5 [.int .i64 o, v, encS a b] H) fun r => r.1 = .bool true := by
          intro w' m' f21 hlt
          have hg2 : (K.set H.n (clk p o w' m')).get H.n = some (clk p o w' m') := get_set_same _ _ hsome
          have f19 := s19 hg2 hn
          have f23a := s23 hg2
          simp only [encS] at f19
          rw [call_at (show T 5 = some (.ir ⟨_, _, _, _, _⟩) from T5)]
          cases hnow : nowC p w' m' with
          | none =>
            rw [hnow] at f19
            simp -implicitDefEqProofs [encS, hnl, a14, h, h0, h5, h7, hl, e24, e23, f21, e26, e25, f19, f23a, h1, h3, hwo, s16]
          | some r =>
            obtain ⟨w2, m2⟩ := r
            rw [hnow] at f19
            obtain ⟨g1, g2⟩ := now_gt hnow
            obtain ⟨g3, g4⟩ := hlt _ _ g1
            simp only [set_set] at f19
            have hg3 : (K.set H.n (clk p o w2 m2)).get H.n = some (clk p o w2 m2) := get_set_same _ _ hsome
            have f23 := s23 hg3
            simp -implicitDefEqProofs [encS, hnl, a14, h, h0, h5, h7, hl, e24, e23, f21, e26, e25, f19, f23, f23a, h1, h3, hwo, s16, g2, g3, g4]
        rw [← call_at (show T 5 = some (.ir ⟨_, _, _, _, _⟩) from T5)]
        by_cases h4 : ltS w m a b = true
        · rw [if_pos h4] at e21
          exact fin5 a b e21 fun w2 m2 g => ⟨g, ltS_trans h4 g⟩
        · rw [if_neg h4] at e21
          exact fin5 w m e21 fun w2 m2 g => ⟨ltS_le_trans (by simpa using h4) g, g⟩
    · rw [if_neg h1] at e21
      simp -implicitDefEqProofs [encS, hnl, a14, h, h0, h5, h7, hl, e24, e23, e21, e26, h1, s16]
  · rw [if_neg ho] at a14
    by_cases h1 : o < 0
    · simp -implicitDefEqProofs [encS, hnl, a14, s16, fin_pure, h1]
    · have h2 : 1099511627776 < o := by omega
      simp -implicitDefEqProofs [encS, hnl, a14, s16, fin_pure, h1, h2]

theorem law5 : Law T 5 [.int .i64, .slice 4 32 actSh, .pair (.int .i64) (.pair (.int .i64) .unit)] := by
  intro H ls hw hl ha
  obtain ⟨x, y, z, rfl, ⟨o, rfl, _⟩, ⟨v, rows, rfl, hv, _, _, hc⟩, ⟨c1, d1, rfl, ⟨a, rfl, _⟩, c2, d2, rfl, ⟨b, rfl, _⟩, rfl⟩⟩ := args3 ha
  obtain ⟨xs, rfl⟩ := acts_of hc
  exact law_of (n5 ⟨hw, by omega⟩ hv.view o a b)
end Go.Proofs.Ytglfchdpcididaa
