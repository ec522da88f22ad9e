/- The statement ClockPlays, in our machine: the whole. No condition. -/
import Derived.Test.YtglfchdpcididaaC04Za
import Derived.Test.YtglfchdpcididaaC04Zb
import Derived.Test.YtglfchdpcididaaC04Zc
import Derived.Test.YtglfchdpcididaaC04W
set_option linter.unusedVariables false
set_option linter.unusedSimpArgs false
namespace Go.Proofs.Ytglfchdpcididaa
open Go.Wam

attribute [local simp] den_seq den_region den_regionD0 den_regionD1 den_cond den_block den_keep den_ret den_skip den_exit sops_cons sops_nil sopsR_cons sopsR_nil goR_eq readOk trace_cons trace_nil stepOp evOp wantedA Opd.ev evs Go.Wam.look St.put enterA zipI leaveR_ret leaveR_normal rvs RV.ev
  loadA storeA rd wr AV.cells AV.noL AV.one goOn_normal goOn_exit goOn_ret outBlock_normal outBlock_exit outBlock_ret prune freeL fillA allNoL packA unA checkAt AV.beq AV.beqL drawCond freshD readsOk isRead undefA
  strOp aeqF_nil aeqF_cons andA_some i_add i_sub i_mul i_lss i_leq i_gtr i_geq i_quo i_rem i_eql i_neq s_eql s_neq s_lss
  s_leq s_gtr s_geq s_add e_bool n_bool e_nilp n_nilp e_ptr n_ptr e_lptr n_lptr e_agg n_agg
  e_nils n_nils e_slice n_slice e_oslice n_oslice e_eslice n_eslice e_xslice n_xslice e_nilm n_nilm e_map n_map
  e_nilFunc n_nilFunc e_func n_func q_int q_bool q_str q_struct q_ptr0 q_ptrL0 q_ptrR0 q_ptrL1 q_ptrR1 q_slice0
  q_sliceL0 q_sliceR0 q_sliceL1 q_sliceR1 q_sliceL2 q_sliceR2 q_sliceL3 q_sliceR3 q_map0 q_mapL0 q_mapR0 q_func0 q_funcL0 q_funcR0


theorem pc {l1 l2 : St} {ks ls : List Nat} {c : IC} (h1 : prune ks l1.env = prune ks l2.env) (h2 : prune ls l1.loc = prune ls l2.loc) (h3 : l1.H = l2.H) : den T (.loop (.keep ks ls c)) l1 = den T (.loop (.keep ks ls c)) l2 := by
  rw [den_loop, den_loop, den_keep, den_keep, h1, h2, h3]

theorem loop3_next {s : St} {H : AHeap} {id len cap : Nat} {j p' o w' l' : Int} (h : ∃ r, den T L3_0 s = some r ∧ r.1 = .normal ∧ prune [1, 5, 7, 9] r.2.env = (st3 H id len cap j p' o w' l').env ∧ r.2.H = two H (clk p' o w' l') (clk p' o w' l')) :
    den T (.loop L3_0) s = den T (.loop L3_0) (st3 H id len cap j p' o w' l') := by
  obtain ⟨⟨x, s'⟩, h1, h2, h3, h4⟩ := h
  simp only at h2 h3 h4
  subst h2
  rw [den_loop, h1, Option.bind_some, goOn_normal]
  refine pc ?_ rfl h4
  rw [h3]
  rfl

/-- The rows of a script. -/
theorem at4 {H : AHeap} (hw : H.wf) {id : Nat} {rows : List (List AV)} (hg : H.get id = some (.row true 4 rows.flatten)) (hr : ∀ r ∈ rows, r.length = 4) {i : Nat} (hi : i < rows.length) {k q a b : Int} (h : rows[i]? = some [.int .i64 k, .int .i64 q, .int .i64 a, .int .i64 b]) :
    At4 H id i k q a b rows.flatten := by
  have hlen := flatten_len hr
  have e : ∀ j, j < 4 → rows.flatten[i * 4 + j]? = ([.int .i64 k, .int .i64 q, .int .i64 a, .int .i64 b] : List AV)[j]? := by
    intro j hj
    rw [flatten_get (by omega) hr, show (i * 4 + j) / 4 = i by omega, show (i * 4 + j) % 4 = j by omega, h]; rfl
  have hle : i * 4 + 4 ≤ rows.flatten.length := by rw [hlen]; omega
  refine ⟨fun x y => by rw [two_get H x y (AHeap.get_lt hg hw)]; exact hg, e 0 (by omega), e 1 (by omega), ?_, hle⟩
  apply List.ext_getElem?
  intro j
  rw [List.getElem?_take, List.getElem?_drop]
  by_cases hj : j < 2
  · rw [if_pos hj, show i * 4 + 2 + j = i * 4 + (2 + j) by omega, e (2 + j) (by omega)]
    match j, hj with
    | 0, _ => rfl
    | 1, _ => rfl
  · rw [if_neg hj]
    match j with
    | 0 => omega
    | 1 => omega
    | j + 2 => rfl

theorem loop3_out {H : AHeap} {id len cap i : Nat} {p o w l : Int} (h : ¬ (i < len ∧ i < 100)) : ∃ env, den T (.loop L3_0) (st3 H id len cap i p o w l) = some (.exit 0, { env := env, loc := [], H := two H (clk p o w l) (clk p o w l) }) := by
  have e : ∃ r, den T L3_0 (st3 H id len cap i p o w l) = some r ∧ r.1 = .exit 0 ∧ r.2.loc = [] ∧ r.2.H = two H (clk p o w l) (clk p o w l) := by
    by_cases h1 : (i : Int) < (len : Int)
    · have h2 : ¬ (i : Int) < 100 := by omega
      have h3 : i < len := by omega
      have h4 : ¬ i < 100 := by omega
      simp -implicitDefEqProofs [L3_0, st3, h1, h2, h3, h4]
    · have h3 : ¬ i < len := by omega
      simp -implicitDefEqProofs [L3_0, st3, h1, h3]
  obtain ⟨⟨x, s'⟩, e1, e2, e3, e4⟩ := e
  simp only at e2 e3 e4
  subst e2
  refine ⟨s'.env, ?_⟩
  rw [den_loop, e1, Option.bind_some, goOn_exit, ← e3, ← e4]

theorem loop3 {H : AHeap} (hw : H.wf) {id cap : Nat} {rows : List (List AV)} (hg : H.get id = some (.row true 4 rows.flatten)) (hr : ∀ r ∈ rows, r.length = 4) (hc : ∀ r ∈ rows, IsC H actSh r) {o : Int} (ho : 0 ≤ o ∧ o ≤ 1099511627776) :
    ∀ (n i : Nat), i + n = 100 → ∀ (p w l : Int), (0 ≤ p ∧ p ≤ 1099511627776) → ∃ p' w' l' env, den T (.loop L3_0) (st3 H id rows.length cap i p o w l) = some (.exit 0, { env := env, loc := [], H := two H (clk p' o w' l') (clk p' o w' l') }) := by
  intro n
  induction n with
  | zero =>
    intro i hi p w l hp
    obtain ⟨env, h⟩ := loop3_out (H := H) (id := id) (len := rows.length) (cap := cap) (p := p) (o := o) (w := w) (l := l) (show ¬ (i < rows.length ∧ i < 100) by omega)
    exact ⟨p, w, l, env, h⟩
  | succ n ih =>
    intro i hi p w l hp
    by_cases hlt : i < rows.length
    · have hrow : rows[i]? = some rows[i] := List.getElem?_eq_getElem hlt
      obtain ⟨k, q, a, b, hk⟩ := act_cells (hc _ (List.getElem_mem hlt))
      rw [hk] at hrow
      have A := at4 hw hg hr hlt hrow
      have key : ∃ p' w' l', (0 ≤ p' ∧ p' ≤ 1099511627776) ∧ den T (.loop L3_0) (st3 H id rows.length cap i p o w l) = den T (.loop L3_0) (st3 H id rows.length cap ((i + 1 : Nat) : Int) p' o w' l') := by
        by_cases k1 : k = 1
        · obtain ⟨p', hp', h⟩ := body3_1 (w := w) (l := l) A hlt (by omega) hp ho k1
          exact ⟨p', w, l, hp', loop3_next h⟩
        · by_cases k2 : k = 2
          · obtain ⟨w', l', h⟩ := body3_2 (w := w) (l := l) A hlt (by omega) hp ho k2
            exact ⟨p, w', l', hp, loop3_next h⟩
          · by_cases k3 : k = 3
            · obtain ⟨w', l', h⟩ := body3_3 (w := w) (l := l) A hlt (by omega) hp ho k3
              exact ⟨p, w', l', hp, loop3_next h⟩
            · obtain ⟨w', l', h⟩ := body3_0 (w := w) (l := l) A hlt (by omega) hp ho ⟨k1, k2, k3⟩
              exact ⟨p, w', l', hp, loop3_next h⟩
      obtain ⟨p', w', l', hp', h⟩ := key
      rw [h]
      exact ih (i + 1) (by omega) p' w' l' hp'
    · obtain ⟨env, h⟩ := loop3_out (H := H) (id := id) (len := rows.length) (cap := cap) (p := p) (o := o) (w := w) (l := l) (show ¬ (i < rows.length ∧ i < 100) by omega)
      exact ⟨p, w, l, env, h⟩


theorem loop3_nil {H : AHeap} {v : AV} {p o w l : Int} (hv : v = .nils ∨ ∃ b f s, v = .xslice b f s) : ∃ env, den T (.loop L3_0) { env := [(1, v), (5, .ptr H.n 0), (7, .ptr (H.n + 1) 0), (9, .int .i64 0)], loc := [], H := two H (clk p o w l) (clk p o w l) } =
    some (.exit 0, { env := env, loc := [], H := two H (clk p o w l) (clk p o w l) }) := by
  have e : ∃ r, den T L3_0 { env := [(1, v), (5, .ptr H.n 0), (7, .ptr (H.n + 1) 0), (9, .int .i64 0)], loc := [], H := two H (clk p o w l) (clk p o w l) } = some r ∧ r.1 = .exit 0 ∧ r.2.loc = [] ∧ r.2.H = two H (clk p o w l) (clk p o w l) := by
    rcases hv with rfl | ⟨b, f, s, rfl⟩
    · simp -implicitDefEqProofs [L3_0]
    · simp -implicitDefEqProofs [L3_0]
  obtain ⟨⟨x, s'⟩, e1, e2, e3, e4⟩ := e
  simp only at e2 e3 e4
  subst e2
  refine ⟨s'.env, ?_⟩
  rw [den_loop, e1, Option.bind_some, goOn_exit, ← e3, ← e4]

/-- The loop, of any script. -/
theorem loop3_any {H : AHeap} (hw : H.wf) {v : AV} {rows : List (List AV)} (hv : IsSl H 4 v rows) (hc : ∀ r ∈ rows, IsC H actSh r) {o : Int} (ho : 0 ≤ o ∧ o ≤ 1099511627776) :
    ∃ p' w' l' env, den T (.loop L3_0) { env := [(1, v), (5, .ptr H.n 0), (7, .ptr (H.n + 1) 0), (9, .int .i64 0)], loc := [], H := two H (clk 0 o 0 0) (clk 0 o 0 0) } = some (.exit 0, { env := env, loc := [], H := two H (clk p' o w' l') (clk p' o w' l') }) := by
  rcases hv with ⟨h, _⟩ | ⟨b, f, s, h, _⟩ | ⟨id, cap, rfl, hcap, hg, hr⟩
  · obtain ⟨env, e⟩ := loop3_nil (H := H) (p := 0) (o := o) (w := 0) (l := 0) (.inl h); exact ⟨_, _, _, env, e⟩
  · obtain ⟨env, e⟩ := loop3_nil (H := H) (p := 0) (o := o) (w := 0) (l := 0) (.inr ⟨b, f, s, h⟩); exact ⟨_, _, _, env, e⟩
  · exact loop3 hw hg hr hc ho 100 0 rfl 0 0 0 (by omega)


set_option maxRecDepth 8000 in
set_option maxHeartbeats 2000000 in
theorem n3 {H : AHeap} (hw : H.wf) {v : AV} {rows : List (List AV)} (hv : IsSl H 4 v rows) (hc : ∀ r ∈ rows, IsC H actSh r) (o : Int) : ∃ H', call T 3 [.int .i64 o, v] H = some (.bool true, H') := by
  rw [call_at (show T 3 = some (.ir ⟨_, _, _, _, _⟩) from T3)]
  have a14 := s14 o H.top (Nat.le_refl _)
  have a15 := s15 o (H.top.alloc (clk 0 o 0 0)) (Nat.le_succ _)
  have b15 := s15 o H.top (Nat.le_refl _)
  simp only [top_n, AHeap.alloc_n] at a14 a15 b15
  by_cases ho : 0 ≤ o ∧ o ≤ 1099511627776
  · obtain ⟨p', w', l', env, hl⟩ := loop3_any hw hv hc ho
    simp only [two] at hl
    rw [if_pos ho] at a14 a15
    refine ⟨H, ?_⟩
    simp -implicitDefEqProofs [a14, a15, hl, s16, fin_drop2]
  · rw [if_neg ho] at a14 b15
    refine ⟨H, ?_⟩
    simp -implicitDefEqProofs [a14, b15, s16, fin_pure]

theorem law3 : Law T 3 [.int .i64, .slice 4 32 actSh] := by
  intro H ls hw hl ha
  obtain ⟨x, y, rfl, ⟨o, rfl, _⟩, v, rows, rfl, hv, _, _, hc⟩ := args2 ha
  exact n3 hw hv hc o

namespace clockPlays
open Go.ChangeShapes Go.WideShapes Go.ChangeAt Go.RowKit

set_option maxRecDepth 100000 in
theorem lifted (os : Os) (started : os.Started) (H : Type) (enc : TypeId × Value → H) :
    ReturnsInHanded {} Try.checked os 3 .any (Rows.clockPlaysSpec.pre6 enc Try.prog Try.f3 Rows.clockPlaysRow.domain false) (Rows.clockPlaysSpec.post enc Try.prog Try.f3 false true false false) := by
  refine returnsInHanded_of_change_sized (C := Try.checked) own started (by kernel_rfl) Try.func3
    (ChangeSpec.witness6 (enc := enc) (C := Try.checked) false ⟨#[], #[.int .i64 0, .slice none 0 0], []⟩ 8 (by kernel_rfl) (by kernel_rfl) (by kernel_rfl) (by kernel_rfl))
    (law_contract mixed fits law3 (k := 8) (by kernel_rfl) laidOut (by kernel_rfl) (rt := Try.f3.resultTypes.getD 0 0) (by kernel_rfl) (by kernel_rfl) rfl rfl (fun ds hd => ?_))
  match ds, hd with
  | [d0, d1], _ => rfl
theorem over : Rows.clockPlaysRow.holds Try.pinned (OpenSpec.ofChange Rows.clockPlaysSpec) :=
  OpenClaim.holds_of_wide 3 Try.f3 rfl rfl rfl rfl rfl rfl rfl ⟨rfl, rfl, rfl, rfl, rfl⟩ rfl rfl rfl rfl rfl (by kernel_rfl) Try.func3 (by kernel_rfl)
    (of_decide_eq_true (by kernel_rfl)) (by unfold Func.isWrapper; first | (rw [if_pos (by decide +kernel)]; kernel_rfl) | (rw [if_neg (by decide +kernel)]; exact ⟨rfl, rfl⟩))
    (fun os started H enc _ => lifted os started H enc)
end clockPlays
theorem clockPlays_holds : Rows.ClockPlaysSaid := clockPlays.over

end Go.Proofs.Ytglfchdpcididaa
